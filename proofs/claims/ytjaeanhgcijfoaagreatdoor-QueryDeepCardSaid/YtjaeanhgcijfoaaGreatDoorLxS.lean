import Derived.Test.YtjaeanhgcijfoaaGreatDoorXA
import Derived.Lib.Bytealg
import Derived.Test.YtjaeanhgcijfoaaGreatDoorCxLaw
set_option linter.unusedVariables false
set_option linter.unusedSimpArgs false
/- What the functions tell. -/
namespace Go.W
open Go Go.Cx
def letterS (c : Int) : Bool := (decide (97 ≤ c) && decide (c ≤ 122)) || ((decide (65 ≤ c) && decide (c ≤ 90)) || (c == 95))
def digitS (c : Int) : Bool := decide (48 ≤ c) && decide (c ≤ 57)
def T_letter (args : List AV) (objs : List AObj) : Ans := match args, objs with
  | [.pv (.int .u8 c)], [] => .val true (.pv (.bool (letterS c))) []
  | _, _ => .opt none
def T_digit (args : List AV) (objs : List AObj) : Ans := match args, objs with
  | [.pv (.int .u8 c)], [] => .val true (.pv (.bool (digitS c))) []
  | _, _ => .opt none
def T_next_1 (args : List AV) (objs : List AObj) : Ans := match args, objs with
  | [.pv (.int .u8 c)], [] => .val true (.pv (.bool (letterS c || digitS c))) []
  | _, _ => .opt none
def T_skip_1 (args : List AV) (objs : List AObj) : Ans := match args, objs with
  | [.pv (.int .u8 c)], [] => .val true (.pv (.bool ((c != 10) && (c != 13)))) []
  | _, _ => .opt none
def T_IndexByte (args : List AV) (objs : List AObj) : Ans := match args, objs with
  | [.pv (.str s), .pv (.int .u8 c)], [] => .val true (.pv (.int .i64 (Lib.indexByte s.data.toList c.toNat.toUInt8))) []
  | _, _ => .opt none
def T_DecodeRune (args : List AV) (objs : List AObj) : Ans := match args, objs with
  | [.pv (.str s)], [] => .val true (.pv (.tup [.int .i32 (Utf8.decode s 0).1, .int .i64 (Utf8.decode s 0).2])) []
  | _, _ => .opt none
/-- No text is longer. -/
def okS (s : ByteArray) : Bool := decide (s.size < 1152921504606846976)
def okP (s : ByteArray) (at' : Int) : Bool := decide (0 ≤ at') && decide (at' ≤ (s.size : Int)) && okS s
def nmS (c : Int) : Bool := letterS c || digitS c
def rowS (c : Int) : Bool := (c != 10) && (c != 13)
/-- A lexer's cells. -/
def lexO (s : ByteArray) (a : Int) (l : List (List PV)) (e fa : Int) : AObj := .cells [.pv (.str s), .pv (.int .i64 a), .own 3 l, .pv (.int .i64 e), .pv (.int .i64 fa)]
def whileP (f : FuncId) : Option (Int → Bool) := cond (Nat.beq f f_token_lexer_next_1) (some nmS) (cond (Nat.beq f f_token_lexer_skip_1) (some rowS) (cond (Nat.beq f f_token_digit) (some digitS) none))
def T_while (args : List AV) (objs : List AObj) : Ans := match args, objs with
  | [.ptr 0 0, .pv (.int .i64 i), .fn f [] []], [.cells [.pv (.str s), .pv (.int .i64 a), .own 3 l, .pv (.int .i64 e), .pv (.int .i64 fa)]] => match whileP f with
    | some p => .val (okP s i) (.pv (.int .i64 (whileS p s i))) [lexO s a l e fa]
    | none => .opt none
  | _, _ => .opt none
def T_fail (args : List AV) (objs : List AObj) : Ans := match args, objs with
  | [.ptr 0 0, .pv (.int .i64 i), .pv (.int .i64 er)], [.cells [.pv (.str s), .pv (.int .i64 a), .own 3 l, .pv (.int .i64 e), .pv (.int .i64 fa)]] =>
    .val true (.pv (.tup [])) [lexO s a l (cond (e == 0) er e) (cond (e == 0) i fa)]
  | _, _ => .opt none
def blankS (c : Int) : Bool := decide (Lib.indexByte [32, 9, 10, 13, 44] c.toNat.toUInt8 ≥ 0)
def skipF (s : ByteArray) : Nat → Int → Int
  | 0, i => i
  | n + 1, i => cond (decide (i < (s.size : Int))) (cond (blankS (byteAt s i)) (skipF s n (i + 1)) (cond (byteAt s i == 35) (skipF s n (whileS rowS s i)) i)) i
def skipS (s : ByteArray) (i : Int) : Int := skipF s (s.size + 1) i
def T_skip (args : List AV) (objs : List AObj) : Ans := match args, objs with
  | [.ptr 0 0], [.cells [.pv (.str s), .pv (.int .i64 a), .own 3 l, .pv (.int .i64 e), .pv (.int .i64 fa)]] => .val (okP s a) (.pv (.tup [])) [lexO s (skipS s a) l e fa]
  | _, _ => .opt none
def hasPre (s p : ByteArray) : Bool := decide (p.size ≤ s.size) && ((s.extract 0 p.size).toList == p.toList)
def T_HasPrefix (args : List AV) (objs : List AObj) : Ans := match args, objs with
  | [.pv (.str s), .pv (.str p)], [] => .val true (.pv (.bool (hasPre s p))) []
  | _, _ => .opt none
def T_take (args : List AV) (objs : List AObj) : Ans := match args, objs with
  | [.ptr 0 0, .pv (.int .i64 k), .pv (.str t), .pv (.int .i64 en)], [.cells [.pv (.str s), .pv (.int .i64 a), .own 3 l, .pv (.int .i64 e), .pv (.int .i64 fa)]] =>
    .val (decide (l.length < 100000)) (.pv (.tup [])) [lexO s en (l ++ [[.int .i64 k, .str t, .int .i64 a]]) e fa]
  | _, _ => .opt none
def asciiS (s : ByteArray) : Bool := s.data.toList.all fun b => decide (b.toNat < 128)
def T_BadA (args : List AV) (objs : List AObj) : Ans := match args, objs with
  | [.pv (.str s)], [] => .val (asciiS s && okS s) (.pv (.int .i64 (-1))) []
  | _, _ => .opt none
def signS (c : Int) : Bool := decide (Lib.indexByte [33, 36, 38, 40, 41, 58, 61, 64, 91, 93, 123, 124, 125] c.toNat.toUInt8 ≥ 0)
def tokRow (k : Int) (t : ByteArray) (a : Int) : List PV := [.int .i64 k, .str t, .int .i64 a]
def sub (s : ByteArray) (a b : Int) : ByteArray := s.extract a.toNat b.toNat
def T_nextA (args : List AV) (objs : List AObj) : Ans := match args, objs with
  | [.ptr 0 0], [.cells [.pv (.str s), .pv (.int .i64 a), .own 3 l, .pv (.int .i64 e), .pv (.int .i64 fa)]] =>
    .val (okP s a && decide (a < (s.size : Int)) && decide (l.length < 100000) && (signS (byteAt s a) || letterS (byteAt s a))) (.pv (.tup []))
      [lexO s (cond (decide (l.length = 900)) a (cond (signS (byteAt s a)) (a + 1) (whileS nmS s a)))
        (cond (decide (l.length = 900)) l (cond (signS (byteAt s a)) (l ++ [tokRow 1 (sub s a (a + 1)) a]) (l ++ [tokRow 2 (sub s a (whileS nmS s a)) a])))
        (cond (decide (l.length = 900) && (e == 0)) 6 e) (cond (decide (l.length = 900) && (e == 0)) a fa)]
  | _, _ => .opt none
end Go.W
namespace Go.W
open Go Go.Cx
/-- Plain texts: signs and names, and what stands between. -/
def lexF (s : ByteArray) : Nat → Int → List (List PV) → List (List PV)
  | 0, _, l => l
  | n + 1, i, l => cond (decide (i < (s.size : Int))) (cond (signS (byteAt s i)) (lexF s n (skipS s (i + 1)) (l ++ [tokRow 1 (sub s i (i + 1)) i])) (lexF s n (skipS s (whileS nmS s i)) (l ++ [tokRow 2 (sub s i (whileS nmS s i)) i]))) l
def lexG (s : ByteArray) : Nat → Int → Nat → Bool
  | 0, _, _ => false
  | n + 1, i, k => cond (decide (i < (s.size : Int))) (decide (k < 900) && cond (signS (byteAt s i)) (lexG s n (skipS s (i + 1)) (k + 1)) (letterS (byteAt s i) && lexG s n (skipS s (whileS nmS s i)) (k + 1))) true
def lexP (s : ByteArray) : List (List PV) := lexF s (s.size + 1) (skipS s 0) []
def plainP (s : ByteArray) : Bool := decide (s.size ≤ 4000) && (asciiS s && lexG s (s.size + 1) (skipS s 0) 0)
def T_LexP (args : List AV) (objs : List AObj) : Ans := match args, objs with
  | [.pv (.str s)], [] => .val (plainP s) (.pv (.tup [.sl 3 (lexP s), .agg [.int .i64 0, .int .i64 0]])) []
  | _, _ => .opt none
/-! ### Readers of tokens -/
structure Rd where
  l : List (List PV)
  en : Int
  e : Int
  a : Int
def rdO (r : Rd) : AObj := .cells [.pv (.sl 3 r.l), .pv (.int .i64 r.en), .pv (.int .i64 r.e), .pv (.int .i64 r.a)]
def isTok (r : List PV) : Bool := match r with | [.int .i64 _, .str _, .int .i64 _] => true | _ => false
def rowsOK (l : List (List PV)) : Bool := l.all isTok
def hK (l : List (List PV)) : Int := ((l.getD 0 []).getD 0 .bad).toInt
def hS (l : List (List PV)) : ByteArray := ((l.getD 0 []).getD 1 .bad).toStr
def hA (l : List (List PV)) : Int := ((l.getD 0 []).getD 2 .bad).toInt
def Rd.ends (r : Rd) : Bool := (r.e != 0) || (((r.l.length : Nat) : Int) == 0)
def Rd.at' (r : Rd) : Int := cond (r.e != 0) r.a (cond (((r.l.length : Nat) : Int) == 0) r.en (hA r.l))
def Rd.fail (r : Rd) (i er : Int) : Rd := ⟨r.l, r.en, cond ((r.e == 0) && (er != 0)) er r.e, cond ((r.e == 0) && (er != 0)) i r.a⟩
def Rd.form (r : Rd) : Rd := r.fail r.at' 4
def Rd.kind (r : Rd) : Int := cond r.ends 0 (hK r.l)
def Rd.is (r : Rd) (t : ByteArray) : Bool := ((r.kind == 1) || (r.kind == 2)) && ((hS r.l).toList == t.toList)
def Rd.drop (r : Rd) : Rd := ⟨r.l.drop 1, r.en, r.e, r.a⟩
def Rd.next (r : Rd) : Rd := cond r.ends r.form r.drop
def Rd.take (r : Rd) (t : ByteArray) : Rd := cond (r.is t) r.drop r
def Rd.must (r : Rd) (t : ByteArray) : Rd := cond (r.is t) r.drop r.form
def Rd.nm (r : Rd) : Rd := cond (r.kind != 2) r.form r.drop
def Rd.nmS (r : Rd) : ByteArray := cond (r.kind != 2) (ba []) (hS r.l)
/-- A type read: at most so many lists in one another. -/
def typS : Nat → Rd → Rd × ByteArray × ByteArray
  | 0, r => cond (r.is (ba [91])) (r.fail r.at' 5, ba [], ba []) (cond ((r.nm).is (ba [33])) ((r.nm).drop, r.nmS, ba [] ++ ba [33]) (r.nm, r.nmS, ba []))
  | n + 1, r => cond (r.is (ba [91]))
      (let x := typS n r.drop
       let q := x.1.must (ba [93])
       cond (q.is (ba [33])) (q.drop, x.2.1, (x.2.2 ++ ba [91]) ++ ba [33]) (q, x.2.1, x.2.2 ++ ba [91]))
      (cond ((r.nm).is (ba [33])) ((r.nm).drop, r.nmS, ba [] ++ ba [33]) (r.nm, r.nmS, ba []))
end Go.W
namespace Go.W
open Go Go.Cx
def T_End (args : List AV) (objs : List AObj) : Ans := match args, objs with
  | [.ptr 0 0], [.cells [.pv (.sl 3 l), .pv (.int .i64 en), .pv (.int .i64 e), .pv (.int .i64 a)]] => .val true (.pv (.bool (Rd.mk l en e a).ends)) [rdO ⟨l, en, e, a⟩]
  | _, _ => .opt none
def T_At (args : List AV) (objs : List AObj) : Ans := match args, objs with
  | [.ptr 0 0], [.cells [.pv (.sl 3 l), .pv (.int .i64 en), .pv (.int .i64 e), .pv (.int .i64 a)]] => .val (rowsOK l) (.pv (.int .i64 (Rd.mk l en e a).at')) [rdO ⟨l, en, e, a⟩]
  | _, _ => .opt none
def T_Fail (args : List AV) (objs : List AObj) : Ans := match args, objs with
  | [.ptr 0 0, .pv (.int .i64 i), .pv (.int .i64 er)], [.cells [.pv (.sl 3 l), .pv (.int .i64 en), .pv (.int .i64 e), .pv (.int .i64 a)]] => .val true (.pv (.tup [])) [rdO ((Rd.mk l en e a).fail i er)]
  | _, _ => .opt none
def T_form (args : List AV) (objs : List AObj) : Ans := match args, objs with
  | [.ptr 0 0], [.cells [.pv (.sl 3 l), .pv (.int .i64 en), .pv (.int .i64 e), .pv (.int .i64 a)]] => .val (rowsOK l) (.pv (.tup [])) [rdO (Rd.mk l en e a).form]
  | _, _ => .opt none
def T_kind (args : List AV) (objs : List AObj) : Ans := match args, objs with
  | [.ptr 0 0], [.cells [.pv (.sl 3 l), .pv (.int .i64 en), .pv (.int .i64 e), .pv (.int .i64 a)]] => .val (rowsOK l) (.pv (.int .i64 (Rd.mk l en e a).kind)) [rdO ⟨l, en, e, a⟩]
  | _, _ => .opt none
def T_nextR (args : List AV) (objs : List AObj) : Ans := match args, objs with
  | [.ptr 0 0], [.cells [.pv (.sl 3 l), .pv (.int .i64 en), .pv (.int .i64 e), .pv (.int .i64 a)]] =>
    .val (rowsOK l) (.pv (.agg [.int .i64 (cond (Rd.mk l en e a).ends 0 (hK l)), .str (cond (Rd.mk l en e a).ends (ba []) (hS l)), .int .i64 (cond (Rd.mk l en e a).ends 0 (hA l))])) [rdO (Rd.mk l en e a).next]
  | _, _ => .opt none
def T_Is (args : List AV) (objs : List AObj) : Ans := match args, objs with
  | [.ptr 0 0, .pv (.str t)], [.cells [.pv (.sl 3 l), .pv (.int .i64 en), .pv (.int .i64 e), .pv (.int .i64 a)]] => .val (rowsOK l) (.pv (.bool ((Rd.mk l en e a).is t))) [rdO ⟨l, en, e, a⟩]
  | _, _ => .opt none
def T_Take (args : List AV) (objs : List AObj) : Ans := match args, objs with
  | [.ptr 0 0, .pv (.str t)], [.cells [.pv (.sl 3 l), .pv (.int .i64 en), .pv (.int .i64 e), .pv (.int .i64 a)]] => .val (rowsOK l) (.pv (.bool ((Rd.mk l en e a).is t))) [rdO ((Rd.mk l en e a).take t)]
  | _, _ => .opt none
def T_Must (args : List AV) (objs : List AObj) : Ans := match args, objs with
  | [.ptr 0 0, .pv (.str t)], [.cells [.pv (.sl 3 l), .pv (.int .i64 en), .pv (.int .i64 e), .pv (.int .i64 a)]] => .val (rowsOK l) (.pv (.tup [])) [rdO ((Rd.mk l en e a).must t)]
  | _, _ => .opt none
def T_NameR (args : List AV) (objs : List AObj) : Ans := match args, objs with
  | [.ptr 0 0], [.cells [.pv (.sl 3 l), .pv (.int .i64 en), .pv (.int .i64 e), .pv (.int .i64 a)]] => .val (rowsOK l) (.pv (.str (Rd.mk l en e a).nmS)) [rdO (Rd.mk l en e a).nm]
  | _, _ => .opt none
/-- Types of at most so many lists. -/
def T_typ (m : Nat) (args : List AV) (objs : List AObj) : Ans := match args, objs with
  | [.ptr 0 0, .pv (.int .i64 n)], [.cells [.pv (.sl 3 l), .pv (.int .i64 en), .pv (.int .i64 e), .pv (.int .i64 a)]] =>
    .val (rowsOK l && (decide (0 ≤ n) && decide (n < (m : Int)))) (.pv (.agg [.str (typS n.toNat ⟨l, en, e, a⟩).2.1, .str (typS n.toNat ⟨l, en, e, a⟩).2.2])) [rdO (typS n.toNat ⟨l, en, e, a⟩).1]
  | _, _ => .opt none
end Go.W
