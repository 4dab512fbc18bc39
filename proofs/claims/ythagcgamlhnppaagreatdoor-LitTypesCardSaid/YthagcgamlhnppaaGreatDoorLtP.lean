/- Types written, cut and read again: plain lists. -/
import Derived.Test.YthagcgamlhnppaaGreatDoorRdC
set_option linter.unusedSimpArgs false
set_option linter.unusedVariables false
set_option maxRecDepth 100000
namespace Go.W
open Go Go.Cx

/-! ### Types as texts: whether each level, from inside out, is not null -/
def bang (o : Bool) : List UInt8 := cond o [33] []
def wrapsOf : List Bool → List UInt8
  | [] => []
  | o :: os => bang o ++ os.flatMap fun o => 91 :: bang o
def textOf (N : List UInt8) : List Bool → List UInt8
  | [] => N
  | o :: os => List.replicate os.length 91 ++ N ++ bang o ++ os.flatMap fun o => 93 :: bang o
theorem wrapsOf_snoc (o : Bool) (os : List Bool) (p : Bool) : wrapsOf (o :: (os ++ [p])) = wrapsOf (o :: os) ++ (91 :: bang p) := by
  simp [wrapsOf, List.append_assoc]
theorem replicate_snoc' {α : Type} (n : Nat) (x : α) : List.replicate (n + 1) x = x :: List.replicate n x := rfl
theorem textOf_snoc (N : List UInt8) (o : Bool) (os : List Bool) (p : Bool) : textOf N (o :: (os ++ [p])) = 91 :: (textOf N (o :: os) ++ (93 :: bang p)) := by
  simp [textOf, List.append_assoc, replicate_snoc']

theorem snoc_ind {α : Type} {P : List α → Prop} (h0 : P []) (h : ∀ l x, P l → P (l ++ [x])) (l : List α) : P l := by
  rw [← List.reverse_reverse l]
  induction l.reverse with
  | nil => exact h0
  | cons x r ih => rw [List.reverse_cons]; exact h _ _ ih
/-- What is written of wraps. -/
def shL (N : List UInt8) (W : List UInt8) : List UInt8 := W.foldl (fun s c => cond (c == 91) (91 :: (s ++ [93])) (s ++ [33])) N
theorem shL_append (N a b : List UInt8) : shL N (a ++ b) = shL (shL N a) b := by unfold shL; rw [List.foldl_append]
theorem shL_bang (s : List UInt8) (o : Bool) : shL s (bang o) = s ++ bang o := by cases o <;> simp [bang, shL]
theorem shL_open (s : List UInt8) (o : Bool) : shL s (91 :: bang o) = 91 :: (s ++ (93 :: bang o)) := by
  cases o <;> simp [bang, shL]
theorem sh_text (N : List UInt8) (o : Bool) (os : List Bool) : shL N (wrapsOf (o :: os)) = textOf N (o :: os) := by
  refine snoc_ind (P := fun os => shL N (wrapsOf (o :: os)) = textOf N (o :: os)) ?_ (fun os p ih => ?_) os
  · cases o <;> simp [wrapsOf, textOf, shL, bang]
  · rw [wrapsOf_snoc, shL_append, ih, shL_open, textOf_snoc]

/-! ### Cutting it -/
/-- A token's kind and text. -/
def key (r : List PV) : Int × List UInt8 := (hK [r], (hS [r]).data.toList)
theorem drop_get {s : ByteArray} {i : Nat} {c : UInt8} {r : List UInt8} (h : s.data.toList.drop i = c :: r) : i < s.size ∧ byteAt s (i : Int) = (c.toNat : Int) ∧ s.data.toList.drop (i + 1) = r := by
  have hlt : i < s.data.toList.length := by
    rcases Nat.lt_or_ge i s.data.toList.length with h' | h'
    · exact h'
    · rw [List.drop_eq_nil_of_le h'] at h; cases h
  rw [List.drop_eq_getElem_cons hlt] at h
  injection h with h1 h2
  refine ⟨by rw [size_eq]; exact hlt, ?_, h2⟩
  unfold byteAt
  rw [Int.toNat_natCast, List.getD_eq_getElem?_getD, List.getElem?_eq_getElem hlt, Option.getD_some, h1]
theorem drop_end {s : ByteArray} {i : Nat} (h : s.data.toList.drop i = []) (hi : i ≤ s.size) : i = s.size := by
  have := List.drop_eq_nil_iff.1 h
  rw [size_eq] at *
  omega
/-- Neither a blank nor a remark's first sign. -/
def hard (c : UInt8) : Bool := !(blankS (c.toNat : Int)) && !((c.toNat : Int) == 35)
theorem skip_hard {s : ByteArray} {i : Nat} (hi : i ≤ s.size) (h : ∀ c r, s.data.toList.drop i = c :: r → hard c = true) : skipS s (i : Int) = i := by
  unfold skipS
  simp only [skipF]
  cases hd : s.data.toList.drop i with
  | nil => rw [cf (df (by have := drop_end hd hi; omega))]
  | cons c r =>
    obtain ⟨h1, h2, _⟩ := drop_get hd
    have hh := h c r hd
    unfold hard at hh
    simp only [Bool.and_eq_true, Bool.not_eq_true'] at hh
    rw [ct (dt (by omega)), h2, cf hh.1, cf hh.2]
theorem sign_hard : ∀ c : UInt8, signS (c.toNat : Int) = true → hard c = true := by
  intro c h
  have hall : ∀ n : Nat, n < 256 → signS (n : Int) = true → (!(blankS (n : Int)) && !((n : Int) == 35)) = true := by decide +kernel
  exact hall c.toNat c.toNat_lt h
theorem nm_hard : ∀ c : UInt8, nmS (c.toNat : Int) = true → hard c = true := by
  intro c h
  have hall : ∀ n : Nat, n < 256 → nmS (n : Int) = true → (!(blankS (n : Int)) && !((n : Int) == 35)) = true := by decide +kernel
  exact hall c.toNat c.toNat_lt h
theorem sign_not_nm : ∀ c : UInt8, signS (c.toNat : Int) = true → nmS (c.toNat : Int) = false := by
  intro c h
  have hall : ∀ n : Nat, n < 256 → signS (n : Int) = true → nmS (n : Int) = false := by decide +kernel
  exact hall c.toNat c.toNat_lt h
theorem nm_not_sign : ∀ c : UInt8, nmS (c.toNat : Int) = true → signS (c.toNat : Int) = false := by
  intro c h
  cases hs : signS (c.toNat : Int) with
  | false => rfl
  | true => rw [sign_not_nm c hs] at h; cases h
/-- All of a text is signs and names' bytes. -/
def allHard (l : List UInt8) : Prop := ∀ c ∈ l, hard c = true
theorem sub_list {s : ByteArray} {i n : Nat} {a r : List UInt8} (h : s.data.toList.drop i = a ++ r) (hn : a.length = n) : (sub s (i : Int) ((i + n : Nat) : Int)).data.toList = a := by
  unfold sub
  rw [extract_bytes, Int.toNat_natCast, Int.toNat_natCast, h, show i + n - i = n from by omega, ← hn, List.take_left']
  rfl
theorem drop_hard {s : ByteArray} (ha : allHard s.data.toList) {i : Nat} {c : UInt8} {r : List UInt8} (h : s.data.toList.drop i = c :: r) : hard c = true :=
  ha c (List.mem_of_mem_drop (by rw [h]; exact List.mem_cons_self ..))
theorem key_tok (k : Int) (t : ByteArray) (a : Int) : key (tokRow k t a) = (k, t.data.toList) := rfl
/-- A row of signs. -/
theorem lexF_signs {s : ByteArray} (ha : allHard s.data.toList) : ∀ (sg r : List UInt8) (n i : Nat) (l : List (List PV)), (∀ c ∈ sg, signS (c.toNat : Int) = true) → s.data.toList.drop i = sg ++ r → i ≤ s.size →
    ∃ rows, lexF s (n + sg.length) (i : Int) l = lexF s n ((i + sg.length : Nat) : Int) (l ++ rows) ∧ rows.map key = sg.map (fun c => (1, [c])) ∧ rowsOK rows = true ∧
      (∀ k, lexG s (n + sg.length) (i : Int) k = (cond (decide (k + sg.length ≤ 900)) (lexG s n ((i + sg.length : Nat) : Int) (k + sg.length)) false) ∨ 900 < k + sg.length)
  | [], r, n, i, l, _, _, _ => ⟨[], by simp, rfl, rfl, fun k => by
      by_cases h : k ≤ 900
      · left; simp [h]
      · right; simp; omega⟩
  | c :: sg, r, n, i, l, hs, hd, hi => by
    obtain ⟨h1, h2, h3⟩ := drop_get (by rw [hd]; rfl : s.data.toList.drop i = c :: (sg ++ r))
    have hc := hs c (List.mem_cons_self ..)
    obtain ⟨rows, e1, e2, e3, e4⟩ := lexF_signs ha sg r n (i + 1) (l ++ [tokRow 1 (sub s (i : Int) ((i : Int) + 1)) (i : Int)]) (fun c hc => hs c (List.mem_cons_of_mem _ hc)) h3 (by omega)
    have hsk : skipS s ((i : Int) + 1) = ((i + 1 : Nat) : Int) := skip_hard (i := i + 1) (by omega) (fun c r h => drop_hard ha h)
    refine ⟨tokRow 1 (sub s (i : Int) ((i : Int) + 1)) (i : Int) :: rows, ?_, ?_, ?_, fun k => ?_⟩
    · rw [List.length_cons, ← Nat.add_assoc]
      simp only [lexF]
      rw [ct (dt (by omega)), h2, ct hc, hsk, e1]
      congr 1
      · omega
      · simp
    · rw [List.map_cons, List.map_cons, e2, key_tok]
      have := sub_list (s := s) (i := i) (n := 1) (a := [c]) (r := sg ++ r) hd rfl
      rw [show (((i + 1 : Nat)) : Int) = (i : Int) + 1 from by omega] at this
      rw [this]
    · unfold rowsOK at e3 ⊢
      rw [List.all_cons, e3]
      rfl
    · by_cases h9 : 900 < k + (c :: sg).length
      · exact .inr h9
      · left
        simp only [List.length_cons] at h9 ⊢
        rw [← Nat.add_assoc]
        simp only [lexG]
        rw [ct (dt (by omega)), h2, hc, dt (show k < 900 by omega), hsk, ct (b := decide (k + (sg.length + 1) ≤ 900)) (dt (by omega))]
        simp only [Bool.true_and, cond_true]
        rcases e4 (k + 1) with e5 | e5
        · rw [e5, ct (dt (by omega)), show k + 1 + sg.length = k + (sg.length + 1) from by omega, show i + 1 + sg.length = i + (sg.length + 1) from by omega]
        · omega
theorem whileF_run {p : Int → Bool} {s : ByteArray} : ∀ (a r : List UInt8) (m i : Nat), s.data.toList.drop i = a ++ r → i ≤ s.size → (∀ c ∈ a, p (c.toNat : Int) = true) → (∀ c r', r = c :: r' → p (c.toNat : Int) = false) → a.length ≤ m →
    whileF p s m (i : Int) = ((i + a.length : Nat) : Int)
  | [], r, m, i, hd, hi, ha, hr, hm => by
    cases m with
    | zero => rfl
    | succ m =>
      simp only [whileF]
      cases r with
      | nil =>
        have := drop_end hd hi
        rw [cf (by rw [df (by omega)]; rfl)]
        rfl
      | cons c r' =>
        obtain ⟨h1, h2, _⟩ := drop_get hd
        rw [h2, hr c r' rfl, Bool.and_false]
        rfl
  | c :: a, r, 0, i, _, _, _, _, hm => by simp at hm
  | c :: a, r, m + 1, i, hd, hi, ha, hr, hm => by
    obtain ⟨h1, h2, h3⟩ := drop_get (by rw [hd]; rfl : s.data.toList.drop i = c :: (a ++ r))
    simp only [whileF]
    rw [ct (by rw [dt (show (i : Int) < (s.size : Int) by omega), h2, ha c (List.mem_cons_self ..)]; rfl)]
    have := whileF_run a r m (i + 1) h3 (by omega) (fun c hc => ha c (List.mem_cons_of_mem _ hc)) hr (by simpa using hm)
    rw [show ((i : Int) + 1) = ((i + 1 : Nat) : Int) from by omega, this, List.length_cons]
    congr 1
    omega
/-- A name's bytes. -/
def isName (N : List UInt8) : Prop := ∃ c N', N = c :: N' ∧ letterS (c.toNat : Int) = true ∧ ∀ c ∈ N, nmS (c.toNat : Int) = true
theorem lexF_name {s : ByteArray} (ha : allHard s.data.toList) {N r : List UInt8} {i : Nat} (hN : isName N) (hd : s.data.toList.drop i = N ++ r) (hr : ∀ c r', r = c :: r' → nmS (c.toNat : Int) = false) (hi : i ≤ s.size) (n : Nat) (l : List (List PV)) :
    ∃ row, lexF s (n + 1) (i : Int) l = lexF s n ((i + N.length : Nat) : Int) (l ++ [row]) ∧ key row = (2, N) ∧ rowsOK [row] = true ∧ (∀ k, lexG s (n + 1) (i : Int) k = (decide (k < 900) && lexG s n ((i + N.length : Nat) : Int) (k + 1))) ∧ i + N.length ≤ s.size := by
  obtain ⟨c, N', rfl, hc, hall⟩ := hN
  obtain ⟨h1, h2, h3⟩ := drop_get (by rw [hd]; rfl : s.data.toList.drop i = c :: (N' ++ r))
  have hlen : i + (c :: N').length ≤ s.size := by
    have : (s.data.toList.drop i).length = (c :: N').length + r.length := by rw [hd, List.length_append]
    rw [List.length_drop, ← size_eq] at this
    omega
  have hw : whileS nmS s (i : Int) = ((i + (c :: N').length : Nat) : Int) := whileF_run (c :: N') r s.size i hd hi hall hr (by omega)
  have hsk : skipS s ((i + (c :: N').length : Nat) : Int) = ((i + (c :: N').length : Nat) : Int) := skip_hard hlen (fun c r h => drop_hard ha h)
  have hs : signS (byteAt s (i : Int)) = false := by rw [h2]; exact nm_not_sign c (hall c (List.mem_cons_self ..))
  refine ⟨tokRow 2 (sub s (i : Int) ((i + (c :: N').length : Nat) : Int)) (i : Int), ?_, ?_, rfl, fun k => ?_, hlen⟩
  · simp only [lexF]
    rw [ct (dt (by omega)), cf hs, hw, hsk]
  · rw [key_tok, sub_list hd rfl]
  · simp only [lexG]
    rw [ct (dt (by omega)), hs, hw, hsk, h2, hc]
    simp only [cond_false, Bool.true_and]
theorem rowsOK_append {a b : List (List PV)} (ha : rowsOK a = true) (hb : rowsOK b = true) : rowsOK (a ++ b) = true := by
  unfold rowsOK at *
  rw [List.all_append, ha, hb]; rfl
/-- Signs, a name, signs: what is cut. -/
theorem lexP_three {s : ByteArray} {a N b : List UInt8} (hs : s.data.toList = a ++ (N ++ b)) (ha : ∀ c ∈ a, signS (c.toNat : Int) = true) (hb : ∀ c ∈ b, signS (c.toNat : Int) = true) (hN : isName N) (hsz : s.size ≤ 800) :
    (lexP s).map key = a.map (fun c => (1, [c])) ++ ((2, N) :: b.map (fun c => (1, [c]))) ∧ rowsOK (lexP s) = true ∧ plainP s = true := by
  have hNl : 0 < N.length := by obtain ⟨c, N', rfl, _, _⟩ := hN; simp
  have hhard : allHard s.data.toList := by
    intro c hc
    rw [hs] at hc
    simp only [List.mem_append] at hc
    rcases hc with h | h | h
    · exact sign_hard c (ha c h)
    · obtain ⟨_, _, _, _, hall⟩ := hN
      exact nm_hard c (hall c h)
    · exact sign_hard c (hb c h)
  have hlen : s.size = a.length + (N.length + b.length) := by rw [size_eq, hs]; simp
  have h0 : skipS s 0 = ((0 : Nat) : Int) := skip_hard (i := 0) (by omega) (fun c r h => drop_hard hhard h)
  obtain ⟨r1, e1, e2, e3, e4⟩ := lexF_signs hhard a (N ++ b) (N.length + b.length + 1) 0 [] ha (by rw [List.drop_zero, hs]) (Nat.zero_le _)
  have hd1 : s.data.toList.drop (0 + a.length) = N ++ b := by rw [hs, Nat.zero_add, List.drop_left' rfl]
  obtain ⟨row, f1, f2, f3, f4, f5⟩ := lexF_name hhard hN hd1 (fun c r' h => sign_not_nm c (hb c (by rw [h]; exact List.mem_cons_self ..))) (by omega) (N.length + b.length) ([] ++ r1)
  have hd2 : s.data.toList.drop (0 + a.length + N.length) = b ++ [] := by rw [hs, ← List.append_assoc, List.drop_left' (by simp), List.append_nil]
  obtain ⟨r2, g1, g2, g3, g4⟩ := lexF_signs hhard b [] N.length (0 + a.length + N.length) (([] ++ r1) ++ [row]) hb hd2 (by omega)
  have hend : ∀ l, lexF s N.length ((0 + a.length + N.length + b.length : Nat) : Int) l = l := by
    intro l
    obtain ⟨m, hm⟩ : ∃ m, N.length = m + 1 := ⟨N.length - 1, by omega⟩
    rw [hm]
    simp only [lexF]
    rw [cf (df (by omega))]
  have hall : lexP s = r1 ++ [row] ++ r2 := by
    unfold lexP
    rw [h0, show s.size + 1 = N.length + b.length + 1 + a.length from by omega, e1, f1, g1, hend]
    simp
  refine ⟨?_, ?_, ?_⟩
  · rw [hall, List.map_append, List.map_append, e2, g2, List.map_cons, f2]
    simp
  · rw [hall]; exact rowsOK_append (rowsOK_append e3 f3) g3
  · unfold plainP
    rw [dt (show s.size ≤ 4000 by omega), Bool.true_and]
    have hasc : asciiS s = true := by
      unfold asciiS
      rw [List.all_eq_true]
      intro c hc
      have := hhard c hc
      have hor : signS (c.toNat : Int) = true ∨ nmS (c.toNat : Int) = true := by
        rw [hs] at hc
        simp only [List.mem_append] at hc
        rcases hc with h | h | h
        · exact .inl (ha c h)
        · obtain ⟨_, _, _, _, hall⟩ := hN
          exact .inr (hall c h)
        · exact .inl (hb c h)
      have hall : ∀ n : Nat, n < 256 → (signS (n : Int) = true ∨ nmS (n : Int) = true) → n < 128 := by decide +kernel
      exact dt (hall c.toNat c.toNat_lt hor)
    rw [hasc, Bool.true_and, h0, show s.size + 1 = N.length + b.length + 1 + a.length from by omega]
    rcases e4 0 with h | h
    · rw [h, ct (dt (by omega)), f4, dt (show 0 + a.length < 900 by omega), Bool.true_and]
      rcases g4 (0 + a.length + 1) with h' | h'
      · rw [h', ct (dt (by omega))]
        obtain ⟨m, hm⟩ : ∃ m, N.length = m + 1 := ⟨N.length - 1, by omega⟩
        rw [hm]
        simp only [lexG]
        rw [cf (df (by omega))]
      · omega
    · omega
/-! ### Reading it -/
def bangK (o : Bool) : List (Int × List UInt8) := cond o [(1, [33])] []
def keysOf (N : List UInt8) : List Bool → List (Int × List UInt8)
  | [] => []
  | o :: os => List.replicate os.length (1, [91]) ++ ((2, N) :: bangK o) ++ os.flatMap fun o => (1, [93]) :: bangK o
theorem keysOf_snoc (N : List UInt8) (o : Bool) (os : List Bool) (p : Bool) : keysOf N (o :: (os ++ [p])) = (1, [91]) :: (keysOf N (o :: os) ++ ((1, [93]) :: bangK p)) := by
  simp [keysOf, List.append_assoc, replicate_snoc']
structure Rd.At (r : Rd) (ks : List (Int × List UInt8)) : Prop where
  e : r.e = 0
  ok : rowsOK r.l = true
  k : r.l.map key = ks
theorem Rd.At.nil {r : Rd} (h : r.At []) : r.l = [] := by simpa using h.k
theorem Rd.At.drop {r : Rd} {x : Int × List UInt8} {ks : List (Int × List UInt8)} (h : r.At (x :: ks)) : r.drop.At ks := by
  refine ⟨h.e, rowsOK_drop h.ok 1, ?_⟩
  have := h.k
  cases hl : r.l with
  | nil => rw [hl] at this; cases this
  | cons y l =>
    rw [hl, List.map_cons] at this
    injection this with _ h2
    show (r.l.drop 1).map key = ks
    rw [hl]
    exact h2
theorem Rd.At.head {r : Rd} {k : Int} {t : List UInt8} {ks : List (Int × List UInt8)} (h : r.At ((k, t) :: ks)) : r.ends = false ∧ r.kind = k ∧ (hS r.l).data.toList = t := by
  have h2 := h.k
  cases hl : r.l with
  | nil => rw [hl] at h2; cases h2
  | cons y l =>
    rw [hl, List.map_cons] at h2
    injection h2 with h3 _
    injection h3 with h4 h5
    have he : r.ends = false := by
      unfold Rd.ends
      rw [h.e, hl]
      simp
      omega
    refine ⟨he, ?_, h5⟩
    unfold Rd.kind
    rw [he, hl]
    exact h4
theorem Rd.At.is {r : Rd} {k : Int} {t : List UInt8} {ks : List (Int × List UInt8)} (h : r.At ((k, t) :: ks)) (u : ByteArray) : r.is u = (((k == 1) || (k == 2)) && (t == u.data.toList)) := by
  obtain ⟨_, h2, h3⟩ := h.head
  unfold Rd.is
  rw [h2, Lib.toList_data, Lib.toList_data, h3]
theorem Rd.At.not_is {r : Rd} {ks : List (Int × List UInt8)} (h : r.At ks) (u : ByteArray) (hk : ∀ k t ks', ks = (k, t) :: ks' → t ≠ u.data.toList) : r.is u = false := by
  cases ks with
  | nil =>
    unfold Rd.is Rd.kind Rd.ends
    rw [h.nil]
    simp
  | cons x ks' =>
    obtain ⟨k, t⟩ := x
    rw [h.is]
    have := hk k t ks' rfl
    simp [this]
theorem isName_ne {N : List UInt8} (h : isName N) {c : UInt8} (hc : signS (c.toNat : Int) = true) : N ≠ [c] := by
  rintro rfl
  obtain ⟨d, N', h1, _, hall⟩ := h
  have := hall c (List.mem_cons_self ..)
  rw [sign_not_nm c hc] at this
  cases this
theorem typS_keys {N : List UInt8} (hN : isName N) (o : Bool) (os : List Bool) : ∀ (n : Nat) (r : Rd) (rest : List (Int × List UInt8)), r.At (keysOf N (o :: os) ++ rest) → (∀ k t ks, rest = (k, t) :: ks → t ≠ [33]) → os.length ≤ n →
    (typS n r).1.At rest ∧ (typS n r).1.en = r.en ∧ (typS n r).2.1.data.toList = N ∧ (typS n r).2.2.data.toList = wrapsOf (o :: os) := by
  refine snoc_ind (P := fun os => ∀ (n : Nat) (r : Rd) (rest : List (Int × List UInt8)), r.At (keysOf N (o :: os) ++ rest) → (∀ k t ks, rest = (k, t) :: ks → t ≠ [33]) → os.length ≤ n →
    (typS n r).1.At rest ∧ (typS n r).1.en = r.en ∧ (typS n r).2.1.data.toList = N ∧ (typS n r).2.2.data.toList = wrapsOf (o :: os)) ?_ ?_ os
  · intro n r rest h hr _
    have h1 : r.At ((2, N) :: (bangK o ++ rest)) := by simpa [keysOf] using h
    obtain ⟨he, hk, hs⟩ := h1.head
    have hi : r.is (ba [91]) = false := by
      rw [h1.is]
      have : N ≠ [91] := isName_ne hN (c := 91) (by decide)
      show (((2 : Int) == 1 || (2 : Int) == 2) && (N == [91])) = false
      simp [this]
    have hnm : r.nm = r.drop ∧ (r.nmS).data.toList = N := by
      unfold Rd.nm Rd.nmS
      rw [hk]
      exact ⟨rfl, hs⟩
    have key : ∀ x : Rd × ByteArray × ByteArray, x = cond ((r.nm).is (ba [33])) ((r.nm).drop, r.nmS, ba [] ++ ba [33]) (r.nm, r.nmS, ba []) → x.1.At rest ∧ x.1.en = r.en ∧ x.2.1.data.toList = N ∧ x.2.2.data.toList = wrapsOf [o] := by
      rintro x rfl
      rw [hnm.1]
      have hd := h1.drop
      cases o with
      | true =>
        have hd' : r.drop.At ((1, [33]) :: rest) := hd
        rw [hd'.is, ct (show (((1 : Int) == 1 || (1 : Int) == 2) && ([33] == (ba [33]).data.toList)) = true from rfl)]
        exact ⟨hd'.drop, rfl, hnm.2, rfl⟩
      | false =>
        have hd' : r.drop.At rest := hd
        rw [hd'.not_is (ba [33]) (fun k t ks h => hr k t ks h)]
        exact ⟨hd', rfl, hnm.2, rfl⟩
    cases n with
    | zero => exact key _ (by simp only [typS, hi, cond_false])
    | succ n => exact key _ (by simp only [typS, hi, cond_false])
  · intro os p ih n r rest h hr hn
    obtain ⟨n, rfl⟩ : ∃ m, n = m + 1 := ⟨n - 1, by simp at hn; omega⟩
    rw [keysOf_snoc] at h
    have h1 : r.At ((1, [91]) :: (keysOf N (o :: os) ++ ((1, [93]) :: (bangK p ++ rest)))) := by simpa [List.append_assoc] using h
    have hi : r.is (ba [91]) = true := by rw [h1.is]; rfl
    obtain ⟨i1, i2, i3, i4⟩ := ih n r.drop _ h1.drop (fun k t ks h => by injection h with h _; injection h with _ h; rw [← h]; decide) (by simp at hn; omega)
    have hm : (typS n r.drop).1.must (ba [93]) = (typS n r.drop).1.drop := by
      unfold Rd.must
      rw [i1.is]
      rfl
    have hd := i1.drop
    simp only [typS, hi, cond_true, hm]
    rw [wrapsOf_snoc]
    have e4 : ((typS n r.drop).2.2 ++ ba [91]).data.toList = wrapsOf (o :: os) ++ [91] := by
      rw [ByteArray.data_append, Array.toList_append, i4]; rfl
    cases p with
    | true =>
      have hd' : (typS n r.drop).1.drop.At ((1, [33]) :: rest) := hd
      rw [hd'.is, ct (show (((1 : Int) == 1 || (1 : Int) == 2) && ([33] == (ba [33]).data.toList)) = true from rfl)]
      refine ⟨hd'.drop, i2, i3, ?_⟩
      show ((((typS n r.drop).2.2 ++ ba [91]) ++ ba [33]).data.toList) = _
      rw [ByteArray.data_append, Array.toList_append, e4]
      simp [bang]
      rfl
    | false =>
      have hd' : (typS n r.drop).1.drop.At rest := hd
      rw [hd'.not_is (ba [33]) (fun k t ks h => hr k t ks h)]
      exact ⟨hd', i2, i3, by rw [show bang false = [] from rfl]; exact e4⟩
end Go.W
