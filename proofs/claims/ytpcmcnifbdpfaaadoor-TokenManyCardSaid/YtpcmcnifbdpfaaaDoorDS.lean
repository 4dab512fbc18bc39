import Derived.Test.YtpcmcnifbdpfaaaDoorCxRun
import Derived.Lib.Bytealg
import Derived.Test.YtpcmcnifbdpfaaaDoorCxLaw
set_option linter.unusedVariables false
set_option linter.unusedSimpArgs false
/- What the functions tell. -/
namespace Go.W
open Go Go.Cx
def letterS (c : Int) : Bool := (decide (97 ≤ c) && decide (c ≤ 122)) || ((decide (65 ≤ c) && decide (c ≤ 90)) || (c == 95))
def digitS (c : Int) : Bool := decide (48 ≤ c) && decide (c ≤ 57)
def T_letter (args : List AV) (objs : List AObj) : Ans := match args, objs with
  | [.pv (.int .u8 c)], [] => .val true (.pv (.bool (letterS c))) []
  | _, _ => .opt none
def T_digit (args : List AV) (objs : List AObj) : Ans := match args, objs with
  | [.pv (.int .u8 c)], [] => .val true (.pv (.bool (digitS c))) []
  | _, _ => .opt none
def T_next_1 (args : List AV) (objs : List AObj) : Ans := match args, objs with
  | [.pv (.int .u8 c)], [] => .val true (.pv (.bool (letterS c || digitS c))) []
  | _, _ => .opt none
def T_skip_1 (args : List AV) (objs : List AObj) : Ans := match args, objs with
  | [.pv (.int .u8 c)], [] => .val true (.pv (.bool ((c != 10) && (c != 13)))) []
  | _, _ => .opt none
def T_IndexByte (args : List AV) (objs : List AObj) : Ans := match args, objs with
  | [.pv (.str s), .pv (.int .u8 c)], [] => .val true (.pv (.int .i64 (Lib.indexByte s.data.toList c.toNat.toUInt8))) []
  | _, _ => .opt none
def T_DecodeRune (args : List AV) (objs : List AObj) : Ans := match args, objs with
  | [.pv (.str s)], [] => .val true (.pv (.tup [.int .i32 (Utf8.decode s 0).1, .int .i64 (Utf8.decode s 0).2])) []
  | _, _ => .opt none
end Go.W
namespace Go.W
open Go Go.Cx
/-- No text is longer. -/
def okS (s : ByteArray) : Bool := decide (s.size < 1152921504606846976)
def okP (s : ByteArray) (at' : Int) : Bool := decide (0 ≤ at') && decide (at' ≤ (s.size : Int)) && okS s
def nmS (c : Int) : Bool := letterS c || digitS c
def rowS (c : Int) : Bool := (c != 10) && (c != 13)
/-- A lexer's cells. -/
def lexO (s : ByteArray) (a : Int) (l : List (List PV)) (e fa : Int) : AObj := .cells [.pv (.str s), .pv (.int .i64 a), .own 3 l, .pv (.int .i64 e), .pv (.int .i64 fa)]
def whileP (f : FuncId) : Option (Int → Bool) := cond (Nat.beq f 19) (some nmS) (cond (Nat.beq f 14) (some rowS) (cond (Nat.beq f 20) (some digitS) none))
def T_while (args : List AV) (objs : List AObj) : Ans := match args, objs with
  | [.ptr 0 0, .pv (.int .i64 i), .fn f [] []], [.cells [.pv (.str s), .pv (.int .i64 a), .own 3 l, .pv (.int .i64 e), .pv (.int .i64 fa)]] => match whileP f with
    | some p => .val (okP s i) (.pv (.int .i64 (whileS p s i))) [lexO s a l e fa]
    | none => .opt none
  | _, _ => .opt none
def T_fail (args : List AV) (objs : List AObj) : Ans := match args, objs with
  | [.ptr 0 0, .pv (.int .i64 i), .pv (.int .i64 er)], [.cells [.pv (.str s), .pv (.int .i64 a), .own 3 l, .pv (.int .i64 e), .pv (.int .i64 fa)]] =>
    .val true (.pv (.tup [])) [lexO s a l (cond (e == 0) er e) (cond (e == 0) i fa)]
  | _, _ => .opt none
def blankS (c : Int) : Bool := decide (Lib.indexByte [32, 9, 10, 13, 44] c.toNat.toUInt8 ≥ 0)
def skipF (s : ByteArray) : Nat → Int → Int
  | 0, i => i
  | n + 1, i => cond (decide (i < (s.size : Int))) (cond (blankS (byteAt s i)) (skipF s n (i + 1)) (cond (byteAt s i == 35) (skipF s n (whileS rowS s i)) i)) i
def skipS (s : ByteArray) (i : Int) : Int := skipF s (s.size + 1) i
def T_skip (args : List AV) (objs : List AObj) : Ans := match args, objs with
  | [.ptr 0 0], [.cells [.pv (.str s), .pv (.int .i64 a), .own 3 l, .pv (.int .i64 e), .pv (.int .i64 fa)]] => .val (okP s a) (.pv (.tup [])) [lexO s (skipS s a) l e fa]
  | _, _ => .opt none
end Go.W
namespace Go.W
open Go Go.Cx
def hasPre (s p : ByteArray) : Bool := decide (p.size ≤ s.size) && ((s.extract 0 p.size).toList == p.toList)
def T_HasPrefix (args : List AV) (objs : List AObj) : Ans := match args, objs with
  | [.pv (.str s), .pv (.str p)], [] => .val true (.pv (.bool (hasPre s p))) []
  | _, _ => .opt none
def T_take (args : List AV) (objs : List AObj) : Ans := match args, objs with
  | [.ptr 0 0, .pv (.int .i64 k), .pv (.str t), .pv (.int .i64 en)], [.cells [.pv (.str s), .pv (.int .i64 a), .own 3 l, .pv (.int .i64 e), .pv (.int .i64 fa)]] =>
    .val (decide (l.length < 100000)) (.pv (.tup [])) [lexO s en (l ++ [[.int .i64 k, .str t, .int .i64 a]]) e fa]
  | _, _ => .opt none
end Go.W
namespace Go.W
open Go Go.Cx
def asciiS (s : ByteArray) : Bool := s.data.toList.all fun b => decide (b.toNat < 128)
def T_BadA (args : List AV) (objs : List AObj) : Ans := match args, objs with
  | [.pv (.str s)], [] => .val (asciiS s && okS s) (.pv (.int .i64 (-1))) []
  | _, _ => .opt none
def signS (c : Int) : Bool := decide (Lib.indexByte [33, 36, 38, 40, 41, 58, 61, 64, 91, 93, 123, 124, 125] c.toNat.toUInt8 ≥ 0)
def tokRow (k : Int) (t : ByteArray) (a : Int) : List PV := [.int .i64 k, .str t, .int .i64 a]
def sub (s : ByteArray) (a b : Int) : ByteArray := s.extract a.toNat b.toNat
def T_nextA (args : List AV) (objs : List AObj) : Ans := match args, objs with
  | [.ptr 0 0], [.cells [.pv (.str s), .pv (.int .i64 a), .own 3 l, .pv (.int .i64 e), .pv (.int .i64 fa)]] =>
    .val (okP s a && decide (a < (s.size : Int)) && decide (l.length < 100000) && (signS (byteAt s a) || letterS (byteAt s a))) (.pv (.tup []))
      [lexO s (cond (decide (l.length = 900)) a (cond (signS (byteAt s a)) (a + 1) (whileS nmS s a)))
        (cond (decide (l.length = 900)) l (cond (signS (byteAt s a)) (l ++ [tokRow 1 (sub s a (a + 1)) a]) (l ++ [tokRow 2 (sub s a (whileS nmS s a)) a])))
        (cond (decide (l.length = 900) && (e == 0)) 6 e) (cond (decide (l.length = 900) && (e == 0)) a fa)]
  | _, _ => .opt none
end Go.W
namespace Go.W
open Go Go.Cx
def repL (k : Nat) : List UInt8 := (List.replicate k [(97 : UInt8), 32]).flatten
def repS (k : Nat) : ByteArray := ⟨⟨repL k⟩⟩
def comL (m : Nat) : List UInt8 := 35 :: List.replicate m (120 : UInt8)
def comS (m : Nat) : ByteArray := ⟨⟨comL m⟩⟩
def lexKnown (s : ByteArray) : Bool := (decide (s.data.toList = repL (s.size / 2)) && decide (s.size / 2 ≤ 1000)) || ((decide (s.data.toList = comL (s.size - 1)) && decide (s.size ≤ 5000)) || decide (s.data.toList = [123, 97, 125]))
def aRows (k : Nat) : List (List PV) := (List.range k).map fun (i : Nat) => tokRow 2 (ba [97]) (2 * (i : Int))
def braceRows : List (List PV) := [tokRow 1 (ba [123]) 0, tokRow 2 (ba [97]) 1, tokRow 1 (ba [125]) 2]
def lexL (s : ByteArray) : List (List PV) := cond (decide (byteAt s 0 = 123)) braceRows (cond (decide (byteAt s 0 = 97) && decide (s.size / 2 ≤ 900)) (aRows (s.size / 2)) [])
def lexE (s : ByteArray) : Int := cond (decide (byteAt s 0 = 123)) 0 (cond (decide (byteAt s 0 = 97)) (cond (decide (s.size / 2 ≤ 900)) 0 6) (cond (decide (s.size ≤ 4000)) 0 6))
def lexA (s : ByteArray) : Int := cond (decide (byteAt s 0 = 97) && decide (900 < s.size / 2)) 1800 0
def T_LexA (args : List AV) (objs : List AObj) : Ans := match args, objs with
  | [.pv (.str s)], [] => .val (lexKnown s) (.pv (.tup [.sl 3 (lexL s), .agg [.int .i64 (lexE s), .int .i64 (lexA s)]])) []
  | _, _ => .opt none
def T_zeros (args : List AV) (objs : List AObj) : Ans := match args, objs with
  | [.pv (.int .i64 n)], [] => .val (decide (0 ≤ n) && decide (n ≤ 5000)) (.pv (.sl 1 (List.replicate n.toNat [.int .u8 120]))) []
  | _, _ => .opt none
def T_true (args : List AV) (objs : List AObj) : Ans := match args, objs with
  | [], [] => .val true (.pv (.bool true)) []
  | _, _ => .opt none
end Go.W
