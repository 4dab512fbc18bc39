/- What the functions on types tell. -/
import Derived.Test.YthagcgamlhnppaaGreatDoorLxS
set_option linter.unusedVariables false
set_option linter.unusedSimpArgs false
namespace Go.W
open Go Go.Cx
def T_letterR (args : List AV) (objs : List AObj) : Ans := match args, objs with
  | [.pv (.int .i32 c)], [] => .val true (.pv (.bool (letterS c))) []
  | _, _ => .opt none
/-- A name, byte by byte. -/
def nameF (s : ByteArray) : Nat → Nat → Bool
  | 0, _ => true
  | n + 1, m => cond (Nat.blt m s.size) (cond (letterS (byteAt s (m : Int)) || (!(Nat.beq m 0) && digitS (byteAt s (m : Int)))) (nameF s n (m + 1)) false) true
def nameT (s : ByteArray) : Bool := nameF s s.size 0 && !(Nat.beq s.size 0)
def T_NameT (args : List AV) (objs : List AObj) : Ans := match args, objs with
  | [.pv (.str s)], [] => .val (okS s) (.pv (.bool (nameT s))) []
  | _, _ => .opt none
/-- Wraps, byte by byte: what was last, how many lists. -/
def wrF (s : ByteArray) : Nat → Nat → Int → Nat → Bool
  | 0, _, _, k => Nat.ble k 4
  | n + 1, m, last, k => cond (Nat.blt m s.size) (cond (byteAt s (m : Int) == 91) (wrF s n (m + 1) 91 (k + 1)) (cond ((byteAt s (m : Int) != 33) || (last == 33)) false (wrF s n (m + 1) 33 k))) (Nat.ble k 4)
def rightT (n w : ByteArray) : Bool := wrF w w.size 0 0 0 && nameT n
def T_RightType (args : List AV) (objs : List AObj) : Ans := match args, objs with
  | [.pv (.agg [.str n, .str w])], [] => .val (okS n && okS w) (.pv (.bool (rightT n w))) []
  | _, _ => .opt none
def showF (w : ByteArray) : Nat → Nat → ByteArray → ByteArray
  | 0, _, s => s
  | k + 1, m, s => cond (Nat.blt m w.size) (showF w k (m + 1) (cond (byteAt w (m : Int) == 91) ((ba [91] ++ s) ++ ba [93]) (s ++ ba [33]))) s
def showT (n w : ByteArray) : ByteArray := showF w w.size 0 n
def smallT (n w : ByteArray) : Bool := Nat.ble n.size 100 && Nat.ble w.size 100
def T_ShowType (args : List AV) (objs : List AObj) : Ans := match args, objs with
  | [.pv (.agg [.str n, .str w])], [] => .val (smallT n w) (.pv (.tup [.str (cond (rightT n w) (showT n w) (ba [])), .int .i64 (cond (rightT n w) 0 1)])) []
  | _, _ => .opt none
def T_refShow (args : List AV) (objs : List AObj) : Ans := match args, objs with
  | [.pv (.agg [.str n, .str w])], [] => .val (smallT n w && rightT n w) (.pv (.str (showT n w))) []
  | _, _ => .opt none
def T_NewReader (args : List AV) (objs : List AObj) : Ans := match args, objs with
  | [.pv (.str s)], [] => .val (plainP s) (.ptr 1 0) [.cells [.pv (.int .i64 0), .pv (.int .i64 0)], rdO ⟨lexP s, (s.size : Int), 0, 0⟩]
  | _, _ => .opt none
def typeE (r : Rd) : Bool := (typS 4 r).1.e != 0
def T_Type (args : List AV) (objs : List AObj) : Ans := match args, objs with
  | [.ptr 0 0], [.cells [.pv (.sl 3 l), .pv (.int .i64 en), .pv (.int .i64 e), .pv (.int .i64 a)]] =>
    .val (rowsOK l) (.pv (.agg [.str (cond (typeE ⟨l, en, e, a⟩) (ba []) (typS 4 ⟨l, en, e, a⟩).2.1), .str (cond (typeE ⟨l, en, e, a⟩) (ba []) (typS 4 ⟨l, en, e, a⟩).2.2)])) [rdO (typS 4 ⟨l, en, e, a⟩).1]
  | _, _ => .opt none
def Rd.whole (r : Rd) : Rd := cond r.ends r r.form
def T_whole (args : List AV) (objs : List AObj) : Ans := match args, objs with
  | [.ptr 0 0], [.cells [.pv (.sl 3 l), .pv (.int .i64 en), .pv (.int .i64 e), .pv (.int .i64 a)]] =>
    .val (rowsOK l) (.pv (.agg [.int .i64 (Rd.mk l en e a).whole.e, .int .i64 (Rd.mk l en e a).whole.a])) [rdO (Rd.mk l en e a).whole]
  | _, _ => .opt none
def ptR (s : ByteArray) : Rd := ⟨lexP s, (s.size : Int), 0, 0⟩
def ptQ (s : ByteArray) : Rd := (typS 4 (ptR s)).1.whole
def ptE (s : ByteArray) : Bool := (ptQ s).e != 0
def T_ParseType (args : List AV) (objs : List AObj) : Ans := match args, objs with
  | [.pv (.str s)], [] => .val (plainP s && rowsOK (lexP s)) (.pv (.tup [.agg [.str (cond (ptE s) (ba []) (cond (typeE (ptR s)) (ba []) (typS 4 (ptR s)).2.1)), .str (cond (ptE s) (ba []) (cond (typeE (ptR s)) (ba []) (typS 4 (ptR s)).2.2))],
      .agg [.int .i64 (cond (ptE s) (ptQ s).e 0), .int .i64 (cond (ptE s) (ptQ s).a 0)]])) []
  | _, _ => .opt none
def T_true (args : List AV) (objs : List AObj) : Ans := match args, objs with
  | [], [] => .val true (.pv (.bool true)) []
  | _, _ => .opt none
end Go.W
