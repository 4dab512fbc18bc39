/- Contracts of the functions on types. -/
import Derived.Test.YthagcgamlhnppaaGreatDoorLtP
import Derived.Test.YthagcgamlhnppaaGreatDoorLtEq
import Derived.Laws.RangeAny
set_option linter.unusedSimpArgs false
set_option linter.unusedVariables false
set_option maxRecDepth 100000
namespace Go.W
open Go Go.Cx Go.RowKit

theorem decode_hi {s : ByteArray} {i : Nat} (h : i < s.size) (hb : ¬ byteAt s (i : Int) < 128) : 128 ≤ (Utf8.decode s i).1 := by
  refine (decode_high s i h ?_).1
  have e := getD_byte h
  have e2 : s.get! i = s[i]'h := get_at s i h
  unfold byteAt at hb
  simp only [Int.toNat_natCast] at hb
  rw [← e2, e]
  omega
theorem byte_nat (s : ByteArray) (i : Nat) : byteAt s (i : Int) = ((s.data.toList.getD i 0).toNat : Int) := by unfold byteAt; simp only [Int.toNat_natCast]
theorem letterS_hi {c : Int} (h : 128 ≤ c) : letterS c = false := by
  unfold letterS
  rw [df (show ¬ c ≤ 122 by omega), df (show ¬ c ≤ 90 by omega), beq_eq_false_iff_ne.2 (show c ≠ 95 by omega)]
  simp
theorem digitS_hi {c : Int} (h : 128 ≤ c) : digitS c = false := by
  unfold digitS
  rw [df (show ¬ c ≤ 57 by omega)]
  simp

theorem ok_letterR : TOK f_text_letter T_letterR := by
  intro args objs r objs' h
  unfold T_letterR at h
  split at h
  · rename_i c
    obtain ⟨_, rfl, rfl⟩ := val_get h
    refine FnM_of_run hst0 TabOK.zero (k := 1) (N := 0) tr_text_letter ((run_letterR 0 c).trans ?_)
    unfold letterS; simp only [ge_iff_le]
    cases decide (97 ≤ c) <;> cases decide (c ≤ 122) <;> cases decide (65 ≤ c) <;> cases decide (c ≤ 90) <;> cases (c == 95) <;> rfl
  · cases h
theorem ok_refLetter : TOK f_cascaderef01_Letter T_letter := by
  intro args objs r objs' h
  unfold T_letter at h
  split at h
  · rename_i c
    obtain ⟨_, rfl, rfl⟩ := val_get h
    refine FnM_of_run hst0 TabOK.zero (k := 1) (N := 0) tr_cascaderef01_Letter ((run_refLetter 0 c).trans ?_)
    unfold letterS; simp only [ge_iff_le]
    cases decide (97 ≤ c) <;> cases decide (c ≤ 122) <;> cases decide (65 ≤ c) <;> cases decide (c ≤ 90) <;> cases (c == 95) <;> rfl
  · cases h
theorem ok_refDigit : TOK f_cascaderef01_Digit T_digit := by
  intro args objs r objs' h
  unfold T_digit at h
  split at h
  · rename_i c
    obtain ⟨_, rfl, rfl⟩ := val_get h
    refine FnM_of_run hst0 TabOK.zero (k := 1) (N := 0) tr_cascaderef01_Digit ((run_refDigit 0 c).trans ?_)
    unfold digitS; simp only [ge_iff_le]
    cases decide (48 ≤ c) <;> cases decide (c ≤ 57) <;> rfl
  · cases h
theorem empty_beq (s : ByteArray) : (s.toList == (ba []).toList) = Nat.beq s.size 0 := by
  rw [Lib.toList_data, size_eq, show (ba []).toList = [] from (Lib.toList_data _).trans rfl]
  cases s.data.toList <;> rfl
theorem okS_iff {s : ByteArray} (h : okS s = true) : s.size < 1152921504606846976 := of_decide_eq_true h
theorem beq_cast0 (m : Nat) : (((m : Nat) : Int) == 0) = Nat.beq m 0 := by
  cases m with
  | zero => rfl
  | succ m => rw [beq_eq_false_iff_ne.2 (by omega)]; rfl
theorem name_loop {s : ByteArray} {N : Nat} : ∀ (d u m : Nat), s.size - m ≤ d → d < u → L0_NameT N u s m = some (.pv (.bool (nameF s d m && !(Nat.beq s.size 0))), [])
  | d, 0, m, _, h => by omega
  | 0, u + 1, m, h1, h2 => by
    rw [L0_NameT_eq, cf (blt_f (by omega)), empty_beq]
    rfl
  | d + 1, u + 1, m, h1, h2 => by
    rw [L0_NameT_eq]
    simp only [nameF]
    by_cases hlt : m < s.size
    · have ih := name_loop (s := s) (N := N) d u (m + 1) (by omega) (by omega)
      rw [ct (blt_t hlt), ct (blt_t hlt)]
      by_cases hb : byteAt s (m : Int) < 128
      · rw [decode_ascii hlt hb, ← byte_nat, beq_cast0]
        show cond (!letterS (byteAt s m)) (cond (Nat.beq m 0) _ (cond (decide (byteAt s m < 48)) _ (cond (decide (byteAt s m > 57)) _ (L0_NameT N u s (m + 1))))) (L0_NameT N u s (m + 1)) = _
        rw [ih]
        cases letterS (byteAt s m) with
        | true => rfl
        | false =>
          cases Nat.beq m 0 with
          | true => rfl
          | false =>
            unfold digitS
            by_cases h48 : byteAt s m < 48
            · rw [dt h48, df (show ¬ (48 : Int) ≤ byteAt s m by omega)]; rfl
            · by_cases h57 : byteAt s m > 57
              · rw [df h48, dt h57, dt (show (48 : Int) ≤ byteAt s m by omega), df (show ¬ byteAt s m ≤ 57 by omega)]; rfl
              · rw [df h48, df h57, dt (show (48 : Int) ≤ byteAt s m by omega), dt (show byteAt s m ≤ 57 by omega)]; rfl
      · have hh := decode_hi hlt hb
        rw [letterS_hi (show (128 : Int) ≤ (((Utf8.decode s m).1 : Nat) : Int) by omega), letterS_hi (show (128 : Int) ≤ byteAt s m by omega), digitS_hi (show (128 : Int) ≤ byteAt s m by omega), df (show ¬ (((Utf8.decode s m).1 : Nat) : Int) < 48 by omega), dt (show (((Utf8.decode s m).1 : Nat) : Int) > 57 by omega)]
        cases (((m : Nat) : Int) == 0) <;> simp
    · rw [cf (blt_f hlt), cf (blt_f hlt), empty_beq]
      rfl
theorem ok_NameT : TOK f_text_Name T_NameT := by
  intro args objs r objs' h
  unfold T_NameT at h
  split at h
  · rename_i s
    obtain ⟨_, rfl, rfl⟩ := val_get h
    exact FnM_of_run hst0 (TabOK.zero.told ok_letterR) (k := 1) (N := s.size + 1) tr_text_Name ((run_NameT _ s).trans (name_loop s.size _ 0 (by omega) (by omega)))
  · cases h
theorem refName_loop {s : ByteArray} {N : Nat} (hs : s.size < 1152921504606846976) : ∀ (d u m : Nat), s.size - m ≤ d → d < u → m ≤ s.size → L0_refName N u s (m : Int) = some (.pv (.bool (nameF s d m && !(Nat.beq s.size 0))), [])
  | d, 0, m, _, h, _ => by omega
  | 0, u + 1, m, h1, h2, h3 => by
    rw [L0_refName_eq, cf (df (by omega))]
    simp only [nameF, Bool.true_and]
    cases hz : s.size with
    | zero => rfl
    | succ k => rw [dt (by omega)]; rfl
  | d + 1, u + 1, m, h1, h2, h3 => by
    rw [L0_refName_eq]
    simp only [nameF]
    by_cases hlt : m < s.size
    · have ih := refName_loop (s := s) (N := N) hs d u (m + 1) (by omega) (by omega) (by omega)
      rw [ct (dt (show (m : Int) < (s.size : Int) by omega)), dt (show (0 : Int) ≤ (m : Int) by omega), dt (show (m : Int) < (s.size : Int) by omega), wr (by omega) (by omega), show (m : Int) + 1 = ((m + 1 : Nat) : Int) from by omega, ih, ct (blt_t hlt), beq_cast0]
      cases letterS (byteAt s m) <;> cases Nat.beq m 0 <;> cases digitS (byteAt s m) <;> rfl
    · rw [cf (df (by omega)), cf (blt_f hlt)]
      rw [Bool.true_and]
      cases hz : s.size with
      | zero => rfl
      | succ k => rw [dt (by omega)]; rfl
theorem ok_refName : TOK f_cascaderef01_Name T_NameT := by
  intro args objs r objs' h
  unfold T_NameT at h
  split at h
  · rename_i s
    obtain ⟨hk, rfl, rfl⟩ := val_get h
    exact FnM_of_run hst0 ((TabOK.zero.told ok_refLetter).told ok_refDigit) (k := 1) (N := s.size + 1) tr_cascaderef01_Name ((run_refName _ s).trans (refName_loop (okS_iff hk) s.size _ 0 (by omega) (by omega) (by omega)))
  · cases h
theorem right_loop {n w : ByteArray} {N : Nat} (hn : okS n = true) : ∀ (d u m : Nat) (last : Int) (k : Nat), w.size - m ≤ d → d < u → k ≤ m → w.size < 1152921504606846976 →
    L0_RightType N u n w (k : Int) last m = some (.pv (.bool (wrF w d m last k && nameT n)), [])
  | d, 0, m, _, _, _, h, _, _ => by omega
  | 0, u + 1, m, last, k, h1, h2, h3, h4 => by
    rw [L0_RightType_eq, cf (blt_f (by omega)), ct hn]
    simp only [wrF]
    by_cases hk : k ≤ 4
    · rw [ct (dt (by omega)), Nat.ble_eq_true_of_le hk]; rfl
    · rw [cf (df (by omega)), show Nat.ble k 4 = false from Bool.eq_false_iff.2 fun h => hk (Nat.le_of_ble_eq_true h)]; rfl
  | d + 1, u + 1, m, last, k, h1, h2, h3, h4 => by
    rw [L0_RightType_eq]
    simp only [wrF]
    by_cases hlt : m < w.size
    · rw [ct (blt_t hlt), ct (blt_t hlt)]
      by_cases hb : byteAt w (m : Int) < 128
      · rw [decode_ascii hlt hb, ← byte_nat, wr (by omega) (by omega), show (k : Int) + 1 = ((k + 1 : Nat) : Int) from by omega]
        show cond (byteAt w m == 91) (L0_RightType N u n w ((k + 1 : Nat) : Int) (byteAt w m) (m + 1)) (cond (byteAt w m != 33) _ (cond (last == 33) _ (L0_RightType N u n w k (byteAt w m) (m + 1)))) = _
        rw [right_loop hn d u (m + 1) (byteAt w m) (k + 1) (by omega) (by omega) (by omega) h4, right_loop hn d u (m + 1) (byteAt w m) k (by omega) (by omega) (by omega) h4]
        by_cases h91 : byteAt w m = 91
        · rw [h91]; rfl
        · rw [beq_eq_false_iff_ne.2 h91]
          by_cases h33 : byteAt w m = 33
          · rw [h33]; cases last == 33 <;> rfl
          · rw [bne_iff_ne.2 h33]; rfl
      · have hh := decode_hi hlt hb
        rw [beq_eq_false_iff_ne.2 (show (((Utf8.decode w m).1 : Nat) : Int) ≠ 91 by omega), bne_iff_ne.2 (show (((Utf8.decode w m).1 : Nat) : Int) ≠ 33 by omega), beq_eq_false_iff_ne.2 (show byteAt w m ≠ 91 by omega), bne_iff_ne.2 (show byteAt w m ≠ 33 by omega)]
        rfl
    · rw [cf (blt_f hlt), cf (blt_f hlt), ct hn]
      by_cases hk : k ≤ 4
      · rw [ct (dt (by omega)), Nat.ble_eq_true_of_le hk]; rfl
      · rw [cf (df (by omega)), show Nat.ble k 4 = false from Bool.eq_false_iff.2 fun h => hk (Nat.le_of_ble_eq_true h)]; rfl
theorem ok_RightType : TOK f_lit_RightType T_RightType := by
  intro args objs r objs' h
  unfold T_RightType at h
  split at h
  · rename_i n w
    obtain ⟨hk, rfl, rfl⟩ := val_get h
    obtain ⟨h1, h2⟩ := Bool.and_eq_true_iff.1 hk
    exact FnM_of_run hst0 (TabOK.zero.told ok_NameT) (k := 1) (N := w.size + 1) tr_lit_RightType ((run_RightType _ n w).trans (right_loop h1 w.size _ 0 0 0 (by omega) (by omega) (by omega) (okS_iff h2)))
  · cases h
theorem refRight_loop {n w : ByteArray} {N : Nat} (hn : okS n = true) (h4 : w.size < 1152921504606846976) : ∀ (d u m : Nat) (last : Int) (k : Nat), w.size - m ≤ d → d < u → k ≤ m → m ≤ w.size →
    (m = 0 ∧ last = 0 ∨ 0 < m ∧ last = byteAt w ((m : Int) - 1)) →
    L0_refRight N u n w (k : Int) (m : Int) = some (.pv (.bool (wrF w d m last k && nameT n)), [])
  | d, 0, m, _, _, _, h, _, _, _ => by omega
  | 0, u + 1, m, last, k, h1, h2, h3, h5, h6 => by
    rw [L0_refRight_eq, cf (df (by omega)), ct hn]
    simp only [wrF]
    by_cases hk : k ≤ 4
    · rw [ct (dt (by omega)), Nat.ble_eq_true_of_le hk]; rfl
    · rw [cf (df (by omega)), show Nat.ble k 4 = false from Bool.eq_false_iff.2 fun h => hk (Nat.le_of_ble_eq_true h)]; rfl
  | d + 1, u + 1, m, last, k, h1, h2, h3, h5, h6 => by
    rw [L0_refRight_eq]
    simp only [wrF]
    by_cases hlt : m < w.size
    · have ih := fun last k => refRight_loop (N := N) hn h4 d u (m + 1) last k (by omega) (by omega)
      have hlast : ∀ x, byteAt w m = x → (m + 1 = 0 ∧ x = 0 ∨ 0 < m + 1 ∧ x = byteAt w (((m + 1 : Nat) : Int) - 1)) := fun x hx => .inr ⟨by omega, by rw [← hx]; congr 1; omega⟩
      rw [ct (dt (show (m : Int) < (w.size : Int) by omega)), dt (show (0 : Int) ≤ (m : Int) by omega), dt (show (m : Int) < (w.size : Int) by omega), ct (blt_t hlt), wr (x := (m : Int) + 1) (by omega) (by omega), wr (x := (k : Int) + 1) (by omega) (by omega), show (m : Int) + 1 = ((m + 1 : Nat) : Int) from by omega, show (k : Int) + 1 = ((k + 1 : Nat) : Int) from by omega]
      by_cases h91 : byteAt w m = 91
      · rw [ih 91 (k + 1) (by omega) (by omega) (hlast 91 h91), h91]; rfl
      · by_cases h33 : byteAt w m = 33
        · rw [ih 33 k (by omega) (by omega) (hlast 33 h33), h33]
          rcases h6 with ⟨rfl, rfl⟩ | ⟨h6, rfl⟩
          · rw [df (show ¬ ((0 : Nat) : Int) > 0 by omega)]; rfl
          · rw [dt (show (m : Int) > 0 by omega), wr (by omega) (by omega), dt (show (0 : Int) ≤ (m : Int) - 1 by omega), dt (show (m : Int) - 1 < (w.size : Int) by omega)]
            cases byteAt w ((m : Int) - 1) == 33 <;> rfl
        · rw [beq_eq_false_iff_ne.2 h91, bne_iff_ne.2 h91, bne_iff_ne.2 h33]; rfl
    · rw [cf (df (by omega)), cf (blt_f hlt), ct hn]
      by_cases hk : k ≤ 4
      · rw [ct (dt (by omega)), Nat.ble_eq_true_of_le hk]; rfl
      · rw [cf (df (by omega)), show Nat.ble k 4 = false from Bool.eq_false_iff.2 fun h => hk (Nat.le_of_ble_eq_true h)]; rfl
theorem ok_refRight : TOK f_cascaderef09_RightType T_RightType := by
  intro args objs r objs' h
  unfold T_RightType at h
  split at h
  · rename_i n w
    obtain ⟨hk, rfl, rfl⟩ := val_get h
    obtain ⟨h1, h2⟩ := Bool.and_eq_true_iff.1 hk
    exact FnM_of_run hst0 (TabOK.zero.told ok_refName) (k := 1) (N := w.size + 1) tr_cascaderef09_RightType ((run_refRight _ n w).trans (refRight_loop h1 (okS_iff h2) w.size _ 0 0 0 (by omega) (by omega) (by omega) (by omega) (.inl ⟨rfl, rfl⟩)))
  · cases h
theorem wrF_bytes {w : ByteArray} : ∀ (d m : Nat) (last : Int) (k : Nat), wrF w d m last k = true → w.size - m ≤ d → ∀ i, m ≤ i → i < w.size → byteAt w (i : Int) = 91 ∨ byteAt w (i : Int) = 33
  | 0, m, _, _, _, hd, i, h1, h2 => by omega
  | d + 1, m, last, k, h, hd, i, h1, h2 => by
    simp only [wrF] at h
    rw [ct (blt_t (show m < w.size by omega))] at h
    by_cases h91 : byteAt w m = 91
    · by_cases hi : i = m
      · rw [hi]; exact .inl h91
      · rw [h91] at h
        exact wrF_bytes d (m + 1) 91 (k + 1) h (by omega) i (by omega) h2
    · by_cases h33 : byteAt w m = 33
      · by_cases hi : i = m
        · rw [hi]; exact .inr h33
        · rw [h33] at h
          cases hl : last == 33 with
          | true => rw [hl] at h; cases h
          | false => rw [hl] at h; exact wrF_bytes d (m + 1) 33 k h (by omega) i (by omega) h2
      · rw [beq_eq_false_iff_ne.2 h91, bne_iff_ne.2 h33] at h; cases h
theorem ble_t {a b : Nat} (h : a ≤ b) : Nat.ble a b = true := Nat.ble_eq_true_of_le h
theorem show_loop {n w : ByteArray} {N : Nat} (hb : ∀ i, i < w.size → byteAt w (i : Int) = 91 ∨ byteAt w (i : Int) = 33) (hw : w.size ≤ 100) : ∀ (d u m : Nat) (s : ByteArray), w.size - m ≤ d → d < u → s.size ≤ 100 + 2 * m →
    L0_ShowType N u n w s m = some (.pv (.tup [.str (showF w d m s), .int .i64 0]), [])
  | d, 0, m, _, _, h, _ => by omega
  | 0, u + 1, m, s, h1, h2, h3 => by
    rw [L0_ShowType_eq, cf (blt_f (by omega))]; rfl
  | d + 1, u + 1, m, s, h1, h2, h3 => by
    rw [L0_ShowType_eq]
    simp only [showF]
    by_cases hlt : m < w.size
    · rw [ct (blt_t hlt), ct (blt_t hlt)]
      have h128 : byteAt w (m : Int) < 128 := by rcases hb m hlt with h | h <;> omega
      rw [decode_ascii hlt h128, ← byte_nat]
      have z1 : ((ba [91]) ++ s).size = s.size + 1 := by rw [ByteArray.size_append, ba_size1]; omega
      have z2 : (((ba [91]) ++ s) ++ ba [93]).size = s.size + 2 := by rw [ByteArray.size_append, z1, ba_size1]
      have z3 : (s ++ ba [33]).size = s.size + 1 := by rw [ByteArray.size_append, ba_size1]
      rw [ble_t (show 1 + s.size ≤ 9223372036854775807 by omega), ble_t (show ((ba [91]) ++ s).size + 1 ≤ 9223372036854775807 by omega), ble_t (show s.size + 1 ≤ 9223372036854775807 by omega)]
      show cond (byteAt w m == 91) (L0_ShowType N u n w (((ba [91]) ++ s) ++ ba [93]) (m + 1)) (L0_ShowType N u n w (s ++ ba [33]) (m + 1)) = _
      rw [show_loop hb hw d u (m + 1) _ (by omega) (by omega) (by omega), show_loop hb hw d u (m + 1) _ (by omega) (by omega) (by omega)]
      cases byteAt w m == 91 <;> rfl
    · rw [cf (blt_f hlt), cf (blt_f hlt)]
theorem right_bytes {n w : ByteArray} (h : rightT n w = true) : ∀ i, i < w.size → byteAt w (i : Int) = 91 ∨ byteAt w (i : Int) = 33 := fun i hi =>
  wrF_bytes _ 0 0 0 (Bool.and_eq_true_iff.1 h).1 (by omega) i (by omega) hi
theorem small_iff {n w : ByteArray} (h : smallT n w = true) : n.size ≤ 100 ∧ w.size ≤ 100 := by
  obtain ⟨h1, h2⟩ := Bool.and_eq_true_iff.1 h
  exact ⟨Nat.le_of_ble_eq_true h1, Nat.le_of_ble_eq_true h2⟩
theorem okS_small {s : ByteArray} (h : s.size ≤ 100) : okS s = true := dt (by omega)
theorem ok_ShowType : TOK f_lit_ShowType T_ShowType := by
  intro args objs r objs' h
  unfold T_ShowType at h
  split at h
  · rename_i n w
    obtain ⟨hk, rfl, rfl⟩ := val_get h
    obtain ⟨h1, h2⟩ := small_iff hk
    refine FnM_of_run hst0 (TabOK.zero.told ok_RightType) (k := 1) (N := w.size + 1) tr_lit_ShowType ((run_ShowType _ n w).trans ?_)
    rw [okS_small h1, okS_small h2]
    cases hr : rightT n w with
    | false => rfl
    | true => exact show_loop (right_bytes hr) h2 w.size _ 0 n (by omega) (by omega) (by omega)
  · cases h
theorem refShow_loop {n w : ByteArray} {N : Nat} (hb : ∀ i, i < w.size → byteAt w (i : Int) = 91 ∨ byteAt w (i : Int) = 33) (hw : w.size ≤ 100) : ∀ (d u m : Nat) (s : ByteArray), w.size - m ≤ d → d < u → m ≤ w.size → s.size ≤ 100 + 2 * m →
    L0_refShow N u n w s (m : Int) = some (.pv (.str (showF w d m s)), [])
  | d, 0, m, _, _, h, _, _ => by omega
  | 0, u + 1, m, s, h1, h2, h3, h4 => by
    rw [L0_refShow_eq, cf (df (by omega))]; rfl
  | d + 1, u + 1, m, s, h1, h2, h3, h4 => by
    rw [L0_refShow_eq]
    simp only [showF]
    by_cases hlt : m < w.size
    · have z1 : ((ba [91]) ++ s).size = s.size + 1 := by rw [ByteArray.size_append, ba_size1]; omega
      have z2 : (((ba [91]) ++ s) ++ ba [93]).size = s.size + 2 := by rw [ByteArray.size_append, z1, ba_size1]
      have z3 : (s ++ ba [33]).size = s.size + 1 := by rw [ByteArray.size_append, ba_size1]
      rw [ct (dt (show (m : Int) < (w.size : Int) by omega)), dt (show (0 : Int) ≤ (m : Int) by omega), dt (show (m : Int) < (w.size : Int) by omega), ct (blt_t hlt), wr (by omega) (by omega), show (m : Int) + 1 = ((m + 1 : Nat) : Int) from by omega]
      rw [ble_t (show 1 + s.size ≤ 9223372036854775807 by omega), ble_t (show ((ba [91]) ++ s).size + 1 ≤ 9223372036854775807 by omega), ble_t (show s.size + 1 ≤ 9223372036854775807 by omega)]
      rw [refShow_loop hb hw d u (m + 1) _ (by omega) (by omega) (by omega) (by omega), refShow_loop hb hw d u (m + 1) _ (by omega) (by omega) (by omega) (by omega)]
      rcases hb m hlt with h | h <;> rw [h] <;> rfl
    · rw [cf (df (by omega)), cf (blt_f hlt)]
theorem ok_refShow : TOK f_cascaderef09_ShowType T_refShow := by
  intro args objs r objs' h
  unfold T_refShow at h
  split at h
  · rename_i n w
    obtain ⟨hk, rfl, rfl⟩ := val_get h
    obtain ⟨hk, hr⟩ := Bool.and_eq_true_iff.1 hk
    obtain ⟨h1, h2⟩ := small_iff hk
    exact FnM_of_run hst0 TabOK.zero (k := 1) (N := w.size + 1) tr_cascaderef09_ShowType ((run_refShow _ n w).trans (refShow_loop (right_bytes hr) h2 w.size _ 0 n (by omega) (by omega) (by omega) (by omega)))
  · cases h
theorem ok_NewReader : TOK f_lit_NewReader T_NewReader := by
  intro args objs r objs' h
  unfold T_NewReader at h
  split at h
  · rename_i s
    obtain ⟨hk, rfl, rfl⟩ := val_get h
    refine FnM_of_run hst0 (TabOK.zero.told ok_LexP) (k := 1) (N := 0) tr_lit_NewReader ((run_NewReader 0 s).trans ?_)
    rw [hk]; rfl
  · cases h
theorem ok_TypeR : TOK f_lit_Reader_Type T_Type := by
  intro args objs r objs' h
  unfold T_Type at h
  split at h
  · rename_i l en e a
    obtain ⟨hk, rfl, rfl⟩ := val_get h
    refine FnM_of_run hst0 (TabOK.zero.told (ok_typ 5 (by omega))) (k := 1) (N := 0) tr_lit_Reader_Type ((run_Type 0 ⟨l, en, e, a⟩).trans ?_)
    have : rowsOK (Rd.mk l en e a).l = true := hk
    rw [this]
    unfold typeE
    cases (typS 4 ⟨l, en, e, a⟩).1.e != 0 <;> rfl
  · cases h
theorem ok_whole : TOK f_lit_Reader_whole T_whole := by
  intro args objs r objs' h
  unfold T_whole at h
  split at h
  · rename_i l en e a
    obtain ⟨hk, rfl, rfl⟩ := val_get h
    refine FnM_of_run hst0 ((TabOK.zero.told ok_End).told ok_form) (k := 1) (N := 0) tr_lit_Reader_whole ((run_whole 0 ⟨l, en, e, a⟩).trans ?_)
    have : rowsOK (Rd.mk l en e a).l = true := hk
    rw [this]
    unfold Rd.whole
    cases (Rd.mk l en e a).ends <;> rfl
  · cases h
theorem ok_ParseType : TOK f_lit_ParseType T_ParseType := by
  intro args objs r objs' h
  unfold T_ParseType at h
  split at h
  · rename_i s
    obtain ⟨hk, rfl, rfl⟩ := val_get h
    obtain ⟨h1, h2⟩ := Bool.and_eq_true_iff.1 hk
    refine FnM_of_run hst0 (((TabOK.zero.told ok_NewReader).told ok_TypeR).told ok_whole) (k := 1) (N := 0) tr_lit_ParseType ((run_ParseType 0 s).trans ?_)
    have h3 : rowsOK (typS 4 (Rd.mk (lexP s) ((s.size : Nat) : Int) 0 0)).1.l = true := typS_ok 4 _ h2
    rw [h1, h2, h3]
    unfold ptE ptQ ptR
    cases (Rd.whole (typS 4 (Rd.mk (lexP s) ((s.size : Nat) : Int) 0 0)).1).e != 0 <;> rfl
  · cases h
end Go.W
