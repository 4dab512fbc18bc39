/- Types written, cut and read again. -/
import Derived.Test.YthagcgamlhnppaaGreatDoorLtC
set_option linter.unusedSimpArgs false
set_option linter.unusedVariables false
set_option maxRecDepth 100000
namespace Go.W
open Go Go.Cx Go.RowKit

theorem drop_at {s : ByteArray} {m : Nat} (h : m < s.size) : ∃ c r, s.data.toList.drop m = c :: r ∧ byteAt s (m : Int) = (c.toNat : Int) ∧ s.data.toList.drop (m + 1) = r := by
  have hlt : m < s.data.toList.length := by rw [← size_eq]; exact h
  have e := List.drop_eq_getElem_cons hlt
  obtain ⟨_, h2, h3⟩ := drop_get e
  exact ⟨_, _, e, h2, h3⟩
theorem drop_all {s : ByteArray} {m : Nat} (h : ¬ m < s.size) : s.data.toList.drop m = [] := List.drop_eq_nil_of_le (by rw [size_eq] at h; omega)
theorem byte_is (c : UInt8) (k : UInt8) : (((c.toNat : Nat) : Int) == ((k.toNat : Nat) : Int)) = (c == k) := by
  by_cases h : c = k
  · subst h; simp
  · rw [beq_eq_false_iff_ne.2 h, beq_eq_false_iff_ne.2]
    intro h'
    exact h (UInt8.toNat_inj.1 (by omega))
theorem wr_list {w : ByteArray} : ∀ (d m : Nat) (last : Int) (k : Nat), wrF w d m last k = true → w.size - m ≤ d →
    ∃ o os, w.data.toList.drop m = wrapsOf (o :: os) ∧ (last = 33 → o = false) ∧ k + os.length ≤ 4
  | 0, m, last, k, h, hd => ⟨false, [], by rw [drop_all (by omega)]; rfl, fun _ => rfl, Nat.le_of_ble_eq_true h⟩
  | d + 1, m, last, k, h, hd => by
    by_cases hlt : m < w.size
    · obtain ⟨c, r, h1, h2, h3⟩ := drop_at hlt
      simp only [wrF] at h
      rw [ct (blt_t hlt)] at h
      by_cases h91 : byteAt w m = 91
      · rw [h91] at h
        obtain ⟨o, os, e1, e2, e3⟩ := wr_list d (m + 1) 91 (k + 1) h (by omega)
        have hc : c = 91 := UInt8.toNat_inj.1 (by rw [h91] at h2; show c.toNat = 91; omega)
        refine ⟨false, o :: os, ?_, fun _ => rfl, by simp only [List.length_cons]; omega⟩
        rw [h1, ← h3, e1, hc]
        simp [wrapsOf, bang]
      · by_cases h33 : byteAt w m = 33
        · rw [h33] at h
          cases hl : last == 33 with
          | true => rw [hl] at h; cases h
          | false =>
            rw [hl] at h
            obtain ⟨o, os, e1, e2, e3⟩ := wr_list d (m + 1) 33 k h (by omega)
            have hc : c = 33 := UInt8.toNat_inj.1 (by rw [h33] at h2; show c.toNat = 33; omega)
            refine ⟨true, os, ?_, fun h' => absurd h' (beq_eq_false_iff_ne.1 hl), e3⟩
            rw [h1, ← h3, e1, hc, e2 rfl]
            simp [wrapsOf, bang]
        · rw [beq_eq_false_iff_ne.2 h91, bne_iff_ne.2 h33] at h; cases h
    · simp only [wrF] at h
      rw [cf (blt_f hlt)] at h
      exact ⟨false, [], by rw [drop_all hlt]; rfl, fun _ => rfl, Nat.le_of_ble_eq_true h⟩
theorem showF_list {w : ByteArray} : ∀ (d m : Nat) (s : ByteArray), w.size - m ≤ d → (showF w d m s).data.toList = shL s.data.toList (w.data.toList.drop m)
  | 0, m, s, hd => by rw [drop_all (by omega)]; rfl
  | d + 1, m, s, hd => by
    simp only [showF]
    by_cases hlt : m < w.size
    · obtain ⟨c, r, h1, h2, h3⟩ := drop_at hlt
      rw [ct (blt_t hlt), showF_list d (m + 1) _ (by omega), h3, h1, h2]
      have hb : (((c.toNat : Nat) : Int) == 91) = (c == 91) := byte_is c 91
      rw [hb]
      unfold shL
      rw [List.foldl_cons]
      cases c == 91 with
      | true => congr 1
      | false => congr 1
    · rw [cf (blt_f hlt), drop_all hlt]; rfl
theorem nameF_all {s : ByteArray} : ∀ (d m : Nat), nameF s d m = true → s.size - m ≤ d → ∀ c ∈ s.data.toList.drop m, nmS (c.toNat : Int) = true
  | 0, m, h, hd, c, hc => by rw [drop_all (by omega)] at hc; cases hc
  | d + 1, m, h, hd, c, hc => by
    by_cases hlt : m < s.size
    · obtain ⟨c0, r, h1, h2, h3⟩ := drop_at hlt
      simp only [nameF] at h
      rw [ct (blt_t hlt), h2] at h
      rw [h1] at hc
      have hor : letterS (c0.toNat : Int) = true ∨ digitS (c0.toNat : Int) = true := by
        cases hl : letterS (c0.toNat : Int) with
        | true => exact .inl rfl
        | false =>
          cases hg : digitS (c0.toNat : Int) with
          | true => exact .inr rfl
          | false => rw [hl, hg] at h; simp at h
      have hn : nameF s d (m + 1) = true := by
        revert h
        cases (letterS (c0.toNat : Int) || (!(Nat.beq m 0) && digitS (c0.toNat : Int))) with
        | true => exact id
        | false => exact fun h => by cases h
      rcases List.mem_cons.1 hc with rfl | hc
      · unfold nmS; rcases hor with h | h <;> rw [h] <;> simp
      · exact nameF_all d (m + 1) hn (by omega) c (by rw [h3]; exact hc)
    · rw [drop_all hlt] at hc; cases hc
theorem nameT_is {s : ByteArray} (h : nameT s = true) : isName s.data.toList := by
  obtain ⟨h1, h2⟩ := Bool.and_eq_true_iff.1 h
  have hs : 0 < s.size := by
    rcases Nat.eq_zero_or_pos s.size with h | h
    · rw [h] at h2; cases h2
    · exact h
  obtain ⟨c, r, e1, e2, e3⟩ := drop_at hs
  rw [List.drop_zero] at e1
  have hall := nameF_all s.size 0 h1 (by omega)
  rw [List.drop_zero] at hall
  refine ⟨c, r, e1, ?_, hall⟩
  obtain ⟨k, hk⟩ : ∃ k, s.size = k + 1 := ⟨s.size - 1, by omega⟩
  rw [hk] at h1
  simp only [nameF] at h1
  rw [ct (blt_t hs), e2] at h1
  cases hl : letterS (c.toNat : Int) with
  | true => rfl
  | false => rw [hl] at h1; cases h1
theorem flat_len (os : List Bool) : (os.flatMap fun o => (93 : UInt8) :: bang o).length ≤ 2 * os.length := by
  induction os with
  | nil => simp
  | cons o os ih =>
    rw [List.flatMap_cons, List.length_append, List.length_cons, List.length_cons]
    have hb : (bang o).length ≤ 1 := by cases o <;> simp [bang]
    omega
theorem signs_of {o : Bool} {os : List Bool} : ∀ c ∈ bang o ++ os.flatMap (fun o => (93 : UInt8) :: bang o), signS (c.toNat : Int) = true := by
  intro c hc
  have hb : ∀ o : Bool, ∀ c ∈ bang o, signS (c.toNat : Int) = true := by
    intro o c hc
    cases o with
    | false => cases hc
    | true => rcases List.mem_cons.1 hc with rfl | hc
              · decide +kernel
              · cases hc
  rcases List.mem_append.1 hc with h | h
  · exact hb o c h
  · obtain ⟨p, _, h⟩ := List.mem_flatMap.1 h
    rcases List.mem_cons.1 h with rfl | h
    · decide +kernel
    · exact hb p c h
/-- What is written, cut and read again. -/
theorem types_back {n w : ByteArray} (hr : rightT n w = true) (hn : n.size ≤ 100) (hw : w.size ≤ 100) :
    plainP (showT n w) = true ∧ rowsOK (lexP (showT n w)) = true ∧ ptE (showT n w) = false ∧ typeE (ptR (showT n w)) = false ∧ (typS 4 (ptR (showT n w))).2.1 = n ∧ (typS 4 (ptR (showT n w))).2.2 = w := by
  obtain ⟨h1, h2⟩ := Bool.and_eq_true_iff.1 hr
  have hN := nameT_is h2
  obtain ⟨o, os, e1, _, e3⟩ := wr_list w.size 0 0 0 h1 (by omega)
  rw [List.drop_zero] at e1
  have hs : (showT n w).data.toList = textOf n.data.toList (o :: os) := by
    unfold showT
    rw [showF_list w.size 0 n (by omega), List.drop_zero, e1, sh_text]
  have hs' : (showT n w).data.toList = List.replicate os.length 91 ++ (n.data.toList ++ (bang o ++ os.flatMap fun o => 93 :: bang o)) := by
    rw [hs]; simp [textOf, List.append_assoc]
  have hsz : (showT n w).size ≤ 800 := by
    rw [size_eq, hs']
    have hf := flat_len os
    have hb : (bang o).length ≤ 1 := by cases o <;> simp [bang]
    have hnl : n.data.toList.length ≤ 100 := by rw [← size_eq]; exact hn
    simp only [List.length_append, List.length_replicate]
    omega
  obtain ⟨k1, k2, k3⟩ := lexP_three hs' (fun c hc => by rw [List.eq_of_mem_replicate hc]; decide +kernel) signs_of hN hsz
  have hat : (ptR (showT n w)).At (keysOf n.data.toList (o :: os) ++ []) := by
    refine ⟨rfl, k2, ?_⟩
    show (lexP (showT n w)).map key = _
    rw [k1, List.append_nil]
    have hbk : ∀ o : Bool, (bang o).map (fun c => ((1 : Int), [c])) = bangK o := by intro o; cases o <;> rfl
    simp only [keysOf, List.map_append, List.map_replicate, hbk, List.map_flatMap, List.map_cons, List.append_assoc, List.cons_append]
  obtain ⟨q1, _, q3, q4⟩ := typS_keys hN o os 4 _ [] hat (fun _ _ _ h => by cases h) (by omega)
  have hq : (typS 4 (ptR (showT n w))).1.whole = (typS 4 (ptR (showT n w))).1 := by
    unfold Rd.whole
    rw [show (typS 4 (ptR (showT n w))).1.ends = true from by unfold Rd.ends; rw [q1.nil]; simp]
    rfl
  refine ⟨k3, k2, ?_, ?_, ext_bytes q3, ext_bytes (q4.trans e1.symm)⟩
  · unfold ptE ptQ; rw [hq, q1.e]; rfl
  · unfold typeE; rw [q1.e]; rfl
theorem bytes_beq (a : ByteArray) : (a == a) = true := by
  cases a with
  | mk d => exact beq_self_eq_true d
theorem types_run (n w : ByteArray) : runF C_LitTypes 0 A_cascadelaw09_LitTypes [.pv (.agg [.str n, .str w])] [] = some (.pv (.bool true), []) := by
  rw [run_LitTypes]
  by_cases hn : n.size ≤ 100
  · by_cases hw : w.size ≤ 100
    · rw [df (show ¬ ((n.size : Nat) : Int) > 100 by omega), df (show ¬ ((w.size : Nat) : Int) > 100 by omega), okS_small hn, okS_small hw, show smallT n w = true from Bool.and_eq_true_iff.2 ⟨ble_t hn, ble_t hw⟩]
      cases hr : rightT n w with
      | false => simp only [cond_true, cond_false, beq_self_eq_true, Bool.and_self, Bool.not_false, Bool.not_true]
      | true =>
        obtain ⟨h1, h2, h3, h4, h5, h6⟩ := types_back hr hn hw
        simp only [cond_true, cond_false, h1, h2, h3, h4, h5, h6, bytes_beq, beq_self_eq_true]
        rfl
    · rw [df (show ¬ ((n.size : Nat) : Int) > 100 by omega), dt (show ((w.size : Nat) : Int) > 100 by omega)]; rfl
  · rw [dt (show ((n.size : Nat) : Int) > 100 by omega)]; rfl
theorem ok_true : TOK f_cascadelaw09_awake T_true := by
  intro args objs r objs' h
  unfold T_true at h
  split at h
  · obtain ⟨_, rfl, rfl⟩ := val_get h
    exact FnM_of_run hst0 (TabOK.zero.told ok_ParseType) (k := 1) (N := 0) tr_cascadelaw09_awake (run_awakeT 0)
  · cases h
theorem types_fn (n w : ByteArray) : FnM PP GL 0 f_cascadelaw09_LitTypes [.pv (.agg [.str n, .str w])] [] (.pv (.bool true)) [] :=
  FnM_of_run hst0 ((((((TabOK.zero.told ok_true).told ok_refRight).told ok_ShowType).told ok_RightType).told ok_ParseType).told ok_refShow) (k := 1) tr_cascadelaw09_LitTypes (types_run n w)
end Go.W
