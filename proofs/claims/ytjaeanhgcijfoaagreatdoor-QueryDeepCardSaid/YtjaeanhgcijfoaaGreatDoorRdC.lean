/- Contracts of a reader's methods. -/
import Derived.Test.YtjaeanhgcijfoaaGreatDoorLxC
import Derived.Test.YtjaeanhgcijfoaaGreatDoorRdEq
set_option linter.unusedSimpArgs false
set_option linter.unusedVariables false
set_option maxRecDepth 100000
namespace Go.W
open Go Go.Cx Go.RowKit

theorem row0 {l : List (List PV)} (h : rowsOK l = true) (hne : l.length ≠ 0) : ∃ k s a l', l = tokRow k s a :: l' ∧ rowsOK l' = true := by
  cases l with
  | nil => exact absurd rfl hne
  | cons r l' =>
    simp only [rowsOK, List.all_cons, Bool.and_eq_true] at h
    obtain ⟨h1, h2⟩ := h
    unfold isTok at h1
    split at h1
    · exact ⟨_, _, _, l', rfl, h2⟩
    · cases h1
theorem len_pos {α : Type} (x : α) (l : List α) : (0 : Int) < (((x :: l).length : Nat) : Int) := by rw [List.length_cons]; omega
theorem len_one {α : Type} (x : α) (l : List α) : (1 : Int) ≤ (((x :: l).length : Nat) : Int) := by rw [List.length_cons]; omega
theorem rowsOK_drop {l : List (List PV)} (h : rowsOK l = true) (n : Nat) : rowsOK (l.drop n) = true := by
  unfold rowsOK at h ⊢
  rw [List.all_eq_true] at h ⊢
  exact fun r hr => h r (List.mem_of_mem_drop hr)
theorem Rd.ends_f {r : Rd} (h : r.ends = false) : r.e = 0 ∧ r.l.length ≠ 0 := by
  unfold Rd.ends at h
  simp only [Bool.or_eq_false_iff, bne_eq_false_iff_eq, beq_eq_false_iff_ne] at h
  exact ⟨h.1, fun h0 => h.2 (by rw [h0]; rfl)⟩
theorem Rd.is_ends {r : Rd} {t : ByteArray} (h : r.is t = true) : r.ends = false := by
  unfold Rd.is Rd.kind at h
  cases he : r.ends with
  | false => rfl
  | true => rw [he] at h; simp at h
theorem Rd.kind_ends {r : Rd} (h : r.kind = 2) : r.ends = false := by
  unfold Rd.kind at h
  cases he : r.ends with
  | false => rfl
  | true => rw [he] at h; simp at h

theorem ok_End : TOK f_lit_Reader_End T_End := by
  intro args objs r objs' h
  unfold T_End at h
  split at h
  · rename_i l en e a
    obtain ⟨_, rfl, rfl⟩ := val_get h
    refine FnM_of_run hst0 TabOK.zero (k := 1) (N := 0) tr_lit_Reader_End ((run_End 0 ⟨l, en, e, a⟩).trans ?_)
    unfold Rd.ends
    cases (e != 0) <;> rfl
  · cases h
theorem ok_At : TOK f_lit_Reader_At T_At := by
  intro args objs r objs' h
  unfold T_At at h
  split at h
  · rename_i l en e a
    obtain ⟨hk, rfl, rfl⟩ := val_get h
    refine FnM_of_run hst0 TabOK.zero (k := 1) (N := 0) tr_lit_Reader_At ((run_At 0 ⟨l, en, e, a⟩).trans ?_)
    unfold Rd.at'
    by_cases h0 : l.length = 0
    · obtain rfl := List.length_eq_zero_iff.1 h0
      cases (e != 0) <;> rfl
    · obtain ⟨k, s, b, l', rfl, _⟩ := row0 hk h0
      have h1 : ((((tokRow k s b :: l').length : Nat) : Int) == 0) = false := by rw [beq_eq_false_iff_ne]; simp; omega
      cases he : (e != 0)
      · simp only [cond_false, h1, dt (len_pos (tokRow k s b) l'), cond_true]
        rfl
      · rfl
  · cases h
theorem ok_Fail : TOK f_lit_Reader_Fail T_Fail := by
  intro args objs r objs' h
  unfold T_Fail at h
  split at h
  · rename_i i er l en e a
    obtain ⟨_, rfl, rfl⟩ := val_get h
    refine FnM_of_run hst0 TabOK.zero (k := 1) (N := 0) tr_lit_Reader_Fail ((run_Fail 0 i er ⟨l, en, e, a⟩).trans ?_)
    unfold Rd.fail rdO
    cases (e == 0) <;> cases (er != 0) <;> rfl
  · cases h
theorem ok_form : TOK f_lit_Reader_form T_form := by
  intro args objs r objs' h
  unfold T_form at h
  split at h
  · rename_i l en e a
    obtain ⟨hk, rfl, rfl⟩ := val_get h
    refine FnM_of_run hst0 ((TabOK.zero.told ok_At).told ok_Fail) (k := 1) (N := 0) tr_lit_Reader_form ((run_form 0 ⟨l, en, e, a⟩).trans ?_)
    rw [ct hk]
    rfl
  · cases h
theorem ok_kind : TOK f_lit_Reader_kind T_kind := by
  intro args objs r objs' h
  unfold T_kind at h
  split at h
  · rename_i l en e a
    obtain ⟨hk, rfl, rfl⟩ := val_get h
    refine FnM_of_run hst0 (TabOK.zero.told ok_End) (k := 1) (N := 0) tr_lit_Reader_kind ((run_kind 0 ⟨l, en, e, a⟩).trans ?_)
    unfold Rd.kind
    cases he : (Rd.mk l en e a).ends with
    | true => rfl
    | false =>
      obtain ⟨k, s, b, l', rfl, _⟩ := row0 hk (Rd.ends_f he).2
      simp only [cond_false, dt (len_pos (tokRow k s b) l'), cond_true]
      rfl
  · cases h
theorem ok_nextR : TOK f_lit_Reader_next T_nextR := by
  intro args objs r objs' h
  unfold T_nextR at h
  split at h
  · rename_i l en e a
    obtain ⟨hk, rfl, rfl⟩ := val_get h
    refine FnM_of_run hst0 ((TabOK.zero.told ok_End).told ok_form) (k := 1) (N := 0) tr_lit_Reader_next ((run_nextR 0 ⟨l, en, e, a⟩).trans ?_)
    unfold Rd.next
    cases he : (Rd.mk l en e a).ends with
    | true => rw [ct rfl, ct hk]; rfl
    | false =>
      obtain ⟨k, s, b, l', rfl, _⟩ := row0 hk (Rd.ends_f he).2
      simp only [cond_false, dt (len_pos (tokRow k s b) l'), dt (len_one (tokRow k s b) l'), dt (Int.le_refl (((tokRow k s b :: l').length : Nat) : Int)), Bool.and_self, cond_true, Int.toNat_natCast, List.take_length]
      rfl
  · cases h
theorem ok_Is : TOK f_lit_Reader_Is T_Is := by
  intro args objs r objs' h
  unfold T_Is at h
  split at h
  · rename_i t l en e a
    obtain ⟨hk, rfl, rfl⟩ := val_get h
    refine FnM_of_run hst0 (TabOK.zero.told ok_kind) (k := 1) (N := 0) tr_lit_Reader_Is ((run_Is 0 t ⟨l, en, e, a⟩).trans ?_)
    rw [ct hk, ct (b := rowsOK (Rd.mk l en e a).l) hk]
    unfold Rd.is
    by_cases h0 : (Rd.mk l en e a).ends = true
    · have : (Rd.mk l en e a).kind = 0 := by unfold Rd.kind; rw [h0]; rfl
      rw [this]; rfl
    · have hf : (Rd.mk l en e a).ends = false := by simpa using h0
      obtain ⟨k, s, b, l', rfl, _⟩ := row0 hk (Rd.ends_f hf).2
      simp only [dt (len_pos (tokRow k s b) l'), cond_true]
      cases ((Rd.mk (tokRow k s b :: l') en e a).kind == 1) <;> cases ((Rd.mk (tokRow k s b :: l') en e a).kind == 2) <;> rfl
  · cases h
theorem ok_Take : TOK f_lit_Reader_Take T_Take := by
  intro args objs r objs' h
  unfold T_Take at h
  split at h
  · rename_i t l en e a
    obtain ⟨hk, rfl, rfl⟩ := val_get h
    refine FnM_of_run hst0 ((TabOK.zero.told ok_Is).told ok_nextR) (k := 1) (N := 0) tr_lit_Reader_Take ((run_Take 0 t ⟨l, en, e, a⟩).trans ?_)
    rw [ct hk, ct (b := rowsOK (Rd.mk l en e a).l) hk]
    unfold Rd.take
    cases hi : (Rd.mk l en e a).is t with
    | false => rfl
    | true =>
      have he := Rd.is_ends hi
      unfold Rd.next
      rw [he]
      rfl
  · cases h
theorem take_ok {r : Rd} {t : ByteArray} (h : rowsOK r.l = true) : rowsOK (r.take t).l = true := by
  unfold Rd.take
  cases r.is t with
  | false => exact h
  | true => exact rowsOK_drop h 1
theorem ok_Must : TOK f_lit_Reader_Must T_Must := by
  intro args objs r objs' h
  unfold T_Must at h
  split at h
  · rename_i t l en e a
    obtain ⟨hk, rfl, rfl⟩ := val_get h
    refine FnM_of_run hst0 ((TabOK.zero.told ok_Take).told ok_form) (k := 1) (N := 0) tr_lit_Reader_Must ((run_Must 0 t ⟨l, en, e, a⟩).trans ?_)
    rw [ct hk, ct (b := rowsOK ((Rd.mk l en e a).take t).l) (take_ok hk)]
    unfold Rd.must Rd.take
    cases hi : (Rd.mk l en e a).is t <;> rfl
  · cases h
theorem ok_NameR : TOK f_lit_Reader_Name T_NameR := by
  intro args objs r objs' h
  unfold T_NameR at h
  split at h
  · rename_i l en e a
    obtain ⟨hk, rfl, rfl⟩ := val_get h
    refine FnM_of_run hst0 (((TabOK.zero.told ok_kind).told ok_form).told ok_nextR) (k := 1) (N := 0) tr_lit_Reader_Name ((run_NameR 0 ⟨l, en, e, a⟩).trans ?_)
    rw [ct hk, ct (b := rowsOK (Rd.mk l en e a).l) hk, ct (b := rowsOK (Rd.mk l en e a).l) hk]
    unfold Rd.nm Rd.nmS
    cases hn : ((Rd.mk l en e a).kind != 2) with
    | true => rfl
    | false =>
      have he := Rd.kind_ends (r := Rd.mk l en e a) (by simpa using hn)
      unfold Rd.next
      rw [he]
      rfl
  · cases h
theorem fail_l (r : Rd) (i er : Int) : (r.fail i er).l = r.l := rfl
theorem form_l (r : Rd) : r.form.l = r.l := rfl
theorem must_ok {r : Rd} {t : ByteArray} (h : rowsOK r.l = true) : rowsOK (r.must t).l = true := by
  unfold Rd.must
  cases r.is t with
  | false => exact h
  | true => exact rowsOK_drop h 1
theorem nm_ok {r : Rd} (h : rowsOK r.l = true) : rowsOK r.nm.l = true := by
  unfold Rd.nm
  cases (r.kind != 2) with
  | false => exact rowsOK_drop h 1
  | true => exact h
theorem typS_ok : ∀ (n : Nat) (r : Rd), rowsOK r.l = true → rowsOK (typS n r).1.l = true
  | 0, r, h => by
    simp only [typS]
    cases r.is (ba [91]) with
    | true => exact h
    | false =>
      cases (r.nm).is (ba [33]) with
      | true => exact rowsOK_drop (nm_ok h) 1
      | false => exact nm_ok h
  | n + 1, r, h => by
    simp only [typS]
    cases r.is (ba [91]) with
    | true =>
      have h2 := must_ok (t := ba [93]) (typS_ok n r.drop (rowsOK_drop h 1))
      simp only [cond_true]
      cases ((typS n r.drop).1.must (ba [93])).is (ba [33]) with
      | true => exact rowsOK_drop h2 1
      | false => exact h2
    | false =>
      simp only [cond_false]
      cases (r.nm).is (ba [33]) with
      | true => exact rowsOK_drop (nm_ok h) 1
      | false => exact nm_ok h
theorem ba_size1 (x : Nat) : (ba [x]).size = 1 := rfl
theorem ba_size0 : (ba []).size = 0 := rfl
theorem typS_size : ∀ (n : Nat) (r : Rd), (typS n r).2.2.size ≤ 2 * n + 2
  | 0, r => by
    simp only [typS]
    cases r.is (ba [91]) with
    | true => exact Nat.zero_le _
    | false =>
      cases (r.nm).is (ba [33]) with
      | true => simp only [cond_false, cond_true, ByteArray.size_append, ba_size1, ba_size0]; omega
      | false => exact Nat.zero_le _
  | n + 1, r => by
    simp only [typS]
    have := typS_size n r.drop
    cases r.is (ba [91]) with
    | true =>
      simp only [cond_true]
      cases ((typS n r.drop).1.must (ba [93])).is (ba [33]) with
      | true => simp only [cond_true, ByteArray.size_append, ba_size1]; omega
      | false => simp only [cond_false, ByteArray.size_append, ba_size1]; omega
    | false =>
      simp only [cond_false]
      cases (r.nm).is (ba [33]) with
      | true => simp only [cond_true, ByteArray.size_append, ba_size1, ba_size0]; omega
      | false => exact Nat.zero_le _
theorem take_is {r : Rd} {t : ByteArray} (h : r.is t = true) : r.take t = r.drop := by unfold Rd.take; rw [h]; rfl
theorem take_not {r : Rd} {t : ByteArray} (h : r.is t = false) : r.take t = r := by unfold Rd.take; rw [h]; rfl
/-- What is behind a type's name, or its list. -/
theorem typ_end (m N : Nat) (q : Rd) (s w : ByteArray) (hq : rowsOK q.l = true) (hw : w.size ≤ 1000) :
    L0_typ m N q.l q.en q.e q.a s w = cond (q.is (ba [33])) (some (.pv (.agg [.str s, .str (w ++ ba [33])]), [rdO q.drop])) (some (.pv (.agg [.str s, .str w]), [rdO q])) := by
  rw [L0_typ_eq, ct hq]
  show cond (q.is (ba [33])) _ _ = _
  cases hi : q.is (ba [33]) with
  | true =>
    rw [ct rfl, ct rfl, ct (Nat.ble_eq_true_of_le (by omega))]
    show some (_, [rdO (q.take (ba [33]))]) = _
    rw [take_is hi]
  | false =>
    rw [cf rfl, cf rfl]
    show some (_, [rdO (q.take (ba [33]))]) = _
    rw [take_not hi]
theorem ok_typ : ∀ m : Nat, m ≤ 100 → TOK f_lit_Reader_typ (T_typ m)
  | 0, _ => by
    intro args objs r objs' h
    unfold T_typ at h
    split at h
    · obtain ⟨hk, _, _⟩ := val_get h
      simp only [Bool.and_eq_true, decide_eq_true_eq] at hk
      omega
    · cases h
  | m + 1, hm => by
    have ih := ok_typ m (by omega)
    have tok : TabOK PP GL 0 (K_typ m) := ((((((TabOK.zero.told ok_Is).told ok_Take).told ok_Must).told ok_NameR).told ok_At).told ok_Fail).told ih
    intro args objs r objs' h
    unfold T_typ at h
    split at h
    · rename_i n l en e a
      obtain ⟨hk, rfl, rfl⟩ := val_get h
      simp only [Bool.and_eq_true, decide_eq_true_eq] at hk
      obtain ⟨hl, h0, h1⟩ := hk
      have hq : rowsOK (Rd.mk l en e a).l = true := hl
      refine FnM_of_run hst0 tok (k := 1) (N := 0) tr_lit_Reader_typ ((run_typ m 0 n ⟨l, en, e, a⟩).trans ?_)
      clear hl
      generalize Rd.mk l en e a = q at *
      rw [ct hq]
      have nmcase : q.is (ba [91]) = false → L0_typ m 0 (Rd.l (Rd.nm q)) (Rd.en (Rd.nm q)) (Rd.e (Rd.nm q)) (Rd.a (Rd.nm q)) (Rd.nmS q) (ba []) = some (.pv (.agg [.str (typS n.toNat q).2.1, .str (typS n.toNat q).2.2]), [rdO (typS n.toNat q).1]) := by
        intro hi
        rw [typ_end m 0 (Rd.nm q) _ _ (nm_ok hq) (by rw [ba_size0]; omega)]
        cases n.toNat with
        | zero =>
          simp only [typS, hi, cond_false]
          cases (Rd.nm q).is (ba [33]) <;> rfl
        | succ k =>
          simp only [typS, hi, cond_false]
          cases (Rd.nm q).is (ba [33]) <;> rfl
      cases hi : q.is (ba [91]) with
      | false =>
        rw [cf rfl, ct hq, cf rfl, take_not hi, ct hq]
        exact nmcase hi
      | true =>
        rw [ct rfl]
        by_cases hn : n < 1
        · obtain rfl : n = 0 := by omega
          rw [ct (dt (by omega)), ct hq]
          simp only [Int.toNat_zero, typS, hi, cond_true]
          rfl
        · obtain ⟨k, rfl⟩ : ∃ k : Nat, n = ((k + 1 : Nat) : Int) := ⟨n.toNat - 1, by omega⟩
          have hw : IntKind.wrap .i64 (((k + 1 : Nat) : Int) - 1) = (k : Int) := by rw [wr (by omega) (by omega)]; omega
          have hd : rowsOK q.drop.l = true := rowsOK_drop hq 1
          have hok := typS_ok k q.drop hd
          have hsz := typS_size k q.drop
          rw [cf (df hn), ct hq, ct rfl, take_is hi, hw, Int.toNat_natCast, Int.toNat_natCast, ct (by rw [hd, dt (show (0 : Int) ≤ (k : Int) by omega), dt (show (k : Int) < (m : Int) by omega)]; rfl), ct hok, ct (Nat.ble_eq_true_of_le (by omega))]
          rw [typ_end m 0 ((typS k q.drop).1.must (ba [93])) _ _ (must_ok hok) (by rw [ByteArray.size_append, ba_size1]; omega)]
          simp only [typS, hi, cond_true]
          cases ((typS k q.drop).1.must (ba [93])).is (ba [33]) <;> rfl
    · cases h
end Go.W
