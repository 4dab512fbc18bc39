/- What is cut of three kinds of texts. -/
import Derived.Test.YtpcmcnifbdpfaaaDoorDM
set_option linter.unusedSimpArgs false
set_option linter.unusedVariables false
set_option maxRecDepth 100000
namespace Go.W
open Go Go.Cx Go.RowKit

theorem repL_succ (k : Nat) : repL (k + 1) = 97 :: 32 :: repL k := rfl
theorem repL_length : ∀ k, (repL k).length = 2 * k
  | 0 => rfl
  | k + 1 => by rw [repL_succ]; simp only [List.length_cons, repL_length k]; omega
theorem repL_even : ∀ (k i : Nat), i < k → (repL k)[2 * i]? = some 97
  | k + 1, 0, _ => rfl
  | k + 1, i + 1, h => by rw [repL_succ, show 2 * (i + 1) = 2 * i + 1 + 1 from by omega, List.getElem?_cons_succ, List.getElem?_cons_succ]; exact repL_even k i (by omega)
theorem repL_odd : ∀ (k i : Nat), i < k → (repL k)[2 * i + 1]? = some 32
  | k + 1, 0, _ => rfl
  | k + 1, i + 1, h => by rw [repL_succ, show 2 * (i + 1) + 1 = (2 * i + 1) + 1 + 1 from by omega, List.getElem?_cons_succ, List.getElem?_cons_succ]; exact repL_odd k i (by omega)
theorem repL_ascii : ∀ (k : Nat), (repL k).all (fun b => decide (b.toNat < 128)) = true
  | 0 => rfl
  | k + 1 => by rw [repL_succ]; simp only [List.all_cons, repL_ascii k]; decide
theorem repS_size (k : Nat) : (repS k).size = 2 * k := by rw [size_eq]; exact repL_length k
theorem byte_of {s : ByteArray} {i : Nat} {b : UInt8} (h : s.data.toList[i]? = some b) : byteAt s (i : Int) = (b.toNat : Int) := by
  unfold byteAt
  rw [Int.toNat_natCast, List.getD_eq_getElem?_getD, h]
  rfl
theorem rep_even {k i : Nat} (h : i < k) : byteAt (repS k) (2 * (i : Int)) = 97 := by
  have := byte_of (s := repS k) (repL_even k i h)
  rw [show (((2 * i : Nat)) : Int) = 2 * (i : Int) from by omega] at this
  exact this
theorem rep_odd {k i : Nat} (h : i < k) : byteAt (repS k) (2 * (i : Int) + 1) = 32 := by
  have := byte_of (s := repS k) (repL_odd k i h)
  rw [show (((2 * i + 1 : Nat)) : Int) = 2 * (i : Int) + 1 from by omega] at this
  exact this
theorem rep_stop {k i : Nat} (h : i ≤ k) (m : Nat) : skipF (repS k) m (2 * (i : Int)) = 2 * (i : Int) := by
  cases m with
  | zero => rfl
  | succ m =>
    simp only [skipF]
    by_cases hlt : i < k
    · rw [ct (dt (by rw [repS_size]; omega)), rep_even hlt]
      rfl
    · rw [cf (df (by rw [repS_size]; omega))]
theorem rep_skip {k i : Nat} (h : i < k) : skipS (repS k) (2 * (i : Int) + 1) = 2 * ((i + 1 : Nat) : Int) := by
  unfold skipS
  simp only [skipF]
  rw [ct (dt (by rw [repS_size]; omega)), rep_odd h, ct (show blankS 32 = true from by decide)]
  have := rep_stop (k := k) (i := i + 1) (by omega) (repS k).size
  rw [← this]
  congr 1
theorem rep_skip0 {k i : Nat} (h : i ≤ k) : skipS (repS k) (2 * (i : Int)) = 2 * (i : Int) := rep_stop h _
theorem rep_while {k i : Nat} (h : i < k) : whileS nmS (repS k) (2 * (i : Int)) = 2 * (i : Int) + 1 := by
  unfold whileS
  rw [repS_size, show 2 * k = (2 * k - 2) + 1 + 1 from by omega]
  simp only [whileF]
  rw [rep_even h, ct (by rw [dt (by rw [repS_size]; omega)]; rfl), rep_odd h, cf (by rw [Bool.and_eq_false_iff]; exact .inr rfl)]
theorem rep_sub {k i : Nat} (h : i < k) : sub (repS k) (2 * (i : Int)) (2 * (i : Int) + 1) = ba [97] := by
  apply ext_bytes
  unfold sub
  rw [extract_bytes, show (2 * (i : Int)).toNat = 2 * i from by omega, show (2 * (i : Int) + 1).toNat - 2 * i = 1 from by omega]
  have h1 : 2 * i < (repL k).length := by rw [repL_length]; omega
  have h2 : (repL k)[2 * i] = 97 := by
    have := repL_even k i h
    rw [List.getElem?_eq_getElem h1] at this
    exact Option.some.inj this
  show ((repL k).drop (2 * i)).take 1 = [97]
  rw [List.drop_eq_getElem_cons h1, h2]
  rfl
theorem aRows_length (k : Nat) : (aRows k).length = k := by simp [aRows]
theorem aRows_succ (k : Nat) : aRows (k + 1) = aRows k ++ [tokRow 2 (ba [97]) (2 * (k : Int))] := by
  simp [aRows, List.range_succ]

def lexOut (l : List (List PV)) (e a : Int) : Option (AV × List AObj) := some (.pv (.tup [.sl 3 l, .agg [.int .i64 e, .int .i64 a]]), [])

theorem rep_loop {k N : Nat} (hk : k ≤ 1000) : ∀ (d n i : Nat), k - i ≤ d → d + 2 ≤ n → i ≤ k → i ≤ 900 →
    L0_Lex N n (repS k) (2 * (i : Int)) (aRows i) 0 0 = cond (decide (k ≤ 900)) (lexOut (aRows k) 0 0) (lexOut [] 6 1800)
  | d, 0, i, _, h, _, _ => by omega
  | 0, n + 1, i, h1, h2, h3, h4 => by
    obtain rfl : i = k := by omega
    rw [L0_Lex_eq, cf (df (by rw [repS_size]; omega)), ct (dt h4)]
    rfl
  | d + 1, n + 1, i, h1, h2, h3, h4 => by
    rw [L0_Lex_eq]
    by_cases hlt : i < k
    · have hsz : (repS k).size < 1152921504606846976 := by rw [repS_size]; omega
      have hP : okP (repS k) (2 * (i : Int)) = true := okP_mk (by omega) (by rw [repS_size]; omega) hsz
      rw [ct (dt (by rw [repS_size]; omega)), ct (show ((0 : Int) == 0) = true from rfl), ct (by rw [hP, dt (by rw [repS_size]; omega), aRows_length, dt (by omega), rep_even hlt]; rfl), aRows_length, rep_even hlt, show signS 97 = false from by decide]
      by_cases h9 : i = 900
      · rw [ct (b := decide (i = 900)) (dt h9), ct (b := decide (i = 900)) (dt h9), dt h9]
        rw [ct hP, rep_skip0 h3]
        obtain ⟨n, rfl⟩ : ∃ m, n = m + 1 := ⟨n - 1, by omega⟩
        simp only [Bool.true_and]
        rw [L0_Lex_eq, ct (dt (by rw [repS_size]; omega)), cf (show ((cond ((0 : Int) == 0) (6 : Int) 0) == 0) = false from rfl), cf (b := decide (k ≤ 900)) (df (by omega))]
        subst h9
        rfl
      · rw [df h9]
        simp only [Bool.false_and, cond_false]
        rw [rep_while hlt, ct (okP_mk (by omega) (by rw [repS_size]; omega) hsz), rep_skip hlt, rep_sub hlt, ← aRows_succ]
        exact rep_loop hk d n (i + 1) (by omega) (by omega) (by omega) (by omega)
    · obtain rfl : i = k := by omega
      rw [cf (df (by rw [repS_size]; omega)), ct (dt h4)]
      rfl
theorem whileF_all {p : Int → Bool} {s : ByteArray} : ∀ (m : Nat) (i : Int), i ≤ (s.size : Int) → (∀ j, i ≤ j → j < (s.size : Int) → p (byteAt s j) = true) → (s.size : Int) - i ≤ m → whileF p s m i = s.size
  | 0, i, h, _, h2 => by simp only [whileF]; omega
  | m + 1, i, h, hp, h2 => by
    simp only [whileF]
    by_cases hlt : i < (s.size : Int)
    · rw [ct (by rw [dt hlt, hp i (Int.le_refl _) hlt]; rfl)]
      exact whileF_all m (i + 1) (by omega) (fun j h3 h4 => hp j (by omega) h4) (by omega)
    · rw [cf (by rw [df hlt]; rfl)]; omega
theorem comS_size (m : Nat) : (comS m).size = m + 1 := by rw [size_eq]; simp [comS, comL]
theorem com_first (m : Nat) : byteAt (comS m) 0 = 35 := byte_of (s := comS m) (i := 0) (b := 35) rfl
theorem com_rest {m j : Nat} (h : j < m) : byteAt (comS m) ((j + 1 : Nat) : Int) = 120 := byte_of (s := comS m) (i := j + 1) (b := 120) (by simp [comS, comL, h])
theorem com_row {m : Nat} (j : Int) (h0 : 0 ≤ j) (h1 : j < ((comS m).size : Int)) : rowS (byteAt (comS m) j) = true := by
  rw [comS_size] at h1
  by_cases hj : j = 0
  · subst hj; rw [com_first]; rfl
  · obtain ⟨i, rfl⟩ : ∃ i : Nat, j = ((i + 1 : Nat) : Int) := ⟨(j - 1).toNat, by omega⟩
    rw [com_rest (by omega)]; rfl
theorem com_skip (m : Nat) : skipS (comS m) 0 = (comS m).size := by
  unfold skipS
  have hw : whileS rowS (comS m) 0 = (comS m).size := whileF_all _ 0 (by omega) (fun j h0 h1 => com_row j h0 h1) (by omega)
  simp only [skipF]
  rw [ct (dt (by rw [comS_size]; omega)), com_first, cf (show blankS 35 = false from by decide), ct (show ((35 : Int) == 35) = true from rfl), hw, comS_size]
  simp only [skipF]
  rw [cf (df (by rw [comS_size]; omega))]
theorem rep_ascii (k : Nat) : asciiS (repS k) = true := repL_ascii k
theorem com_ascii (m : Nat) : asciiS (comS m) = true := by
  show (comL m).all _ = true
  simp [comL]
theorem okS_mk {s : ByteArray} (h : s.size < 1152921504606846976) : okS s = true := decide_eq_true h
theorem brace_run : runF C_Lex 10 A_token_Lex [.pv (.str (ba [123, 97, 125]))] [] = some (.pv (.tup [.sl 3 (lexL (ba [123, 97, 125])), .agg [.int .i64 (lexE (ba [123, 97, 125])), .int .i64 (lexA (ba [123, 97, 125]))]]), []) := by kernel_rfl
theorem tok_Lex : TabOK PP GL 0 K_Lex := ((TabOK.zero.told ok_BadA).told ok_skip).told ok_nextA

theorem rep_lexL (k : Nat) : lexL (repS k) = cond (decide (k ≤ 900)) (aRows k) [] := by
  unfold lexL
  rw [repS_size, show 2 * k / 2 = k from by omega]
  by_cases h : k = 0
  · subst h; rfl
  · have := rep_even (k := k) (i := 0) (by omega)
    simp only [Int.natCast_zero, Int.mul_zero] at this
    rw [this, cf (df (by omega)), dt rfl, Bool.true_and]
theorem rep_lexE (k : Nat) : lexE (repS k) = cond (decide (k ≤ 900)) 0 6 := by
  unfold lexE
  rw [repS_size, show 2 * k / 2 = k from by omega]
  by_cases h : k = 0
  · subst h; rfl
  · have := rep_even (k := k) (i := 0) (by omega)
    simp only [Int.natCast_zero, Int.mul_zero] at this
    rw [this, cf (df (by omega)), ct (dt rfl)]
theorem rep_lexA (k : Nat) : lexA (repS k) = cond (decide (k ≤ 900)) 0 1800 := by
  unfold lexA
  rw [repS_size, show 2 * k / 2 = k from by omega]
  by_cases h : k = 0
  · subst h; rfl
  · have := rep_even (k := k) (i := 0) (by omega)
    simp only [Int.natCast_zero, Int.mul_zero] at this
    rw [this, dt rfl, Bool.true_and]
    by_cases h9 : k ≤ 900
    · rw [df (by omega), dt h9]; rfl
    · rw [dt (by omega), df h9]; rfl
theorem com_lex (m : Nat) : lexL (comS m) = [] ∧ lexE (comS m) = cond (decide (m + 1 ≤ 4000)) 0 6 ∧ lexA (comS m) = 0 := by
  unfold lexL lexE lexA
  rw [com_first, comS_size]
  exact ⟨rfl, rfl, rfl⟩

theorem ok_LexA : TOK f_token_Lex T_LexA := by
  intro args objs r objs' h
  unfold T_LexA at h
  split at h
  · rename_i s
    obtain ⟨hk, rfl, rfl⟩ := val_get h
    simp only [lexKnown, Bool.or_eq_true, Bool.and_eq_true, decide_eq_true_eq] at hk
    rcases hk with ⟨h1, h2⟩ | ⟨h1, h2⟩ | h1
    · obtain ⟨k, hk, rfl⟩ : ∃ k, k ≤ 1000 ∧ s = repS k := ⟨_, h2, ext_bytes h1⟩
      have hsz : (repS k).size < 1152921504606846976 := by rw [repS_size]; omega
      have hl := rep_loop (N := k + 3) hk k (k + 3) 0 (by omega) (by omega) (by omega) (by omega)
      refine FnM_of_run hst0 tok_Lex (k := 3) (N := k + 3) tr_token_Lex ((run_Lex _ (repS k)).trans ?_)
      rw [cf (df (by rw [repS_size]; omega)), ct (by rw [rep_ascii, okS_mk hsz]; rfl), ct (okP_mk (Int.le_refl _) (by omega) hsz)]
      have e : skipS (repS k) 0 = 2 * ((0 : Nat) : Int) := rep_skip0 (k := k) (i := 0) (by omega)
      rw [e, rep_lexL, rep_lexE, rep_lexA]
      refine hl.trans ?_
      cases decide (k ≤ 900) <;> rfl
    · obtain ⟨m, hm, rfl⟩ : ∃ m, m ≤ 5000 ∧ s = comS m := ⟨_, by omega, ext_bytes h1⟩
      have hsz : (comS m).size < 1152921504606846976 := by rw [comS_size]; omega
      obtain ⟨e1, e2, e3⟩ := com_lex m
      refine FnM_of_run hst0 tok_Lex (k := 3) (N := 1) tr_token_Lex ((run_Lex _ (comS m)).trans ?_)
      rw [e1, e2, e3]
      by_cases h4 : m + 1 ≤ 4000
      · rw [cf (df (by rw [comS_size]; omega)), ct (by rw [com_ascii, okS_mk hsz]; rfl), ct (okP_mk (Int.le_refl _) (by omega) hsz), com_skip, L0_Lex_eq, cf (df (by omega)), dt h4]
        rfl
      · rw [ct (dt (by rw [comS_size]; omega)), df h4]
        rfl
    · obtain rfl : s = ba [123, 97, 125] := ext_bytes h1
      exact FnM_of_run hst0 tok_Lex (k := 3) (N := 10) tr_token_Lex brace_run
  · cases h
theorem ok_awake : TOK f_cascadelaw08_awake T_true := by
  intro args objs r objs' h
  unfold T_true at h
  split at h
  · obtain ⟨_, rfl, rfl⟩ := val_get h
    exact FnM_of_run hst0 (TabOK.zero.told ok_LexA) (k := 3) (N := 0) tr_cascadelaw08_awake (run_awake 0)
  · cases h
theorem tok_Many : TabOK PP GL 0 K_Many := ((TabOK.zero.told ok_LexA).told ok_zeros).told ok_awake
end Go.W
