/- Queries of names in one another: the law. -/
import Derived.Test.YtjaeanhgcijfoaaGreatDoorQdL
set_option linter.unusedSimpArgs false
set_option linter.unusedVariables false
set_option maxRecDepth 100000
namespace Go.W
open Go Go.Cx Go.RowKit
theorem chk_all (m : Nat) (h : m < 16) : chk (m + 1) = true := by
  rcases (show m = 0 ∨ m = 1 ∨ m = 2 ∨ m = 3 ∨ m = 4 ∨ m = 5 ∨ m = 6 ∨ m = 7 ∨ m = 8 ∨ m = 9 ∨ m = 10 ∨ m = 11 ∨ m = 12 ∨ m = 13 ∨ m = 14 ∨ m = 15 by omega) with rfl | rfl | rfl | rfl | rfl | rfl | rfl | rfl | rfl | rfl | rfl | rfl | rfl | rfl | rfl | rfl
  · exact chk1
  · exact chk2
  · exact chk3
  · exact chk4
  · exact chk5
  · exact chk6
  · exact chk7
  · exact chk8
  · exact chk9
  · exact chk10
  · exact chk11
  · exact chk12
  · exact chk13
  · exact chk14
  · exact chk15
  · exact chk16
theorem ba_size2 (x y : Nat) : (ba [x, y]).size = 2 := rfl
theorem opn_size : ∀ j, (opn j).size = 2 * j
  | 0 => rfl
  | j + 1 => by simp only [opn]; rw [ByteArray.size_append, opn_size j, ba_size2]; omega
theorem cls_size : ∀ j, (cls j).size = j
  | 0 => rfl
  | j + 1 => by simp only [cls]; rw [ByteArray.size_append, cls_size j, ba_size1]
theorem beq_len (l : List (List PV)) (k : Nat) : (((l.length : Nat) : Int) == (k : Int)) = Nat.beq l.length k := by
  cases h : Nat.beq l.length k with
  | true => rw [Nat.eq_of_beq_eq_true h]; simp
  | false =>
    have := Nat.ne_of_beq_eq_false h
    rw [beq_eq_false_iff_ne]
    omega
theorem ble_yes {a b : Nat} (h : a ≤ b) : Nat.ble a b = true := Nat.ble_eq_true_of_le h
theorem deep_loop {n : Int} {N m : Nat} (hm : m < 16) (hn : Int.tmod n 16 = (m : Int)) : ∀ (d u j : Nat), m + 1 - j ≤ d → d < u → j ≤ m + 1 → L0_QueryDeep N u n (opn j) (cls j) (j : Int) = some (.pv (.bool true), []) := by
  have hk : IntKind.wrap .i64 (1 + (IntKind.wrap .i64 (Int.tmod n 16))) = ((m + 1 : Nat) : Int) := by
    rw [hn, wr (x := (m : Int)) (by omega) (by omega), wr (x := 1 + (m : Int)) (by omega) (by omega)]; omega
  intro d
  induction d with
  | zero =>
    intro u j h1 h2 h3
    obtain ⟨u, rfl⟩ : ∃ v, u = v + 1 := ⟨u - 1, by omega⟩
    obtain rfl : j = m + 1 := by omega
    rw [L0_QueryDeep_eq, hk, cf (df (by omega)), opn_size, cls_size, ct (ble_yes (by omega))]
    have hc := chk_all m hm
    unfold chk at hc
    obtain ⟨h4, h5⟩ := Bool.and_eq_true_iff.1 hc
    rw [ct h4]
    by_cases h12 : 12 < m + 1
    · rw [ct (blt_t h12)] at h5
      obtain ⟨e1, e2⟩ := Bool.and_eq_true_iff.1 h5
      obtain ⟨e2, e3⟩ := Bool.and_eq_true_iff.1 e2
      rw [ct (dt (by omega)), e1, e2]
      have := beq_len (qpOps (opn (m + 1) ++ cls (m + 1))) 0
      rw [e3] at this
      show some (AV.pv (.bool ((((qpOps (opn (m + 1) ++ cls (m + 1))).length : Nat) : Int) == ((0 : Nat) : Int))), ([] : List AObj)) = _
      rw [this]
    · rw [cf (blt_f h12)] at h5
      obtain ⟨e1, e2⟩ := Bool.and_eq_true_iff.1 h5
      obtain ⟨e2, e3⟩ := Bool.and_eq_true_iff.1 e2
      rw [cf (df (by omega)), e1, e2]
      have := beq_len (qpOps (opn (m + 1) ++ cls (m + 1))) 1
      rw [e3] at this
      show some (AV.pv (.bool ((((qpOps (opn (m + 1) ++ cls (m + 1))).length : Nat) : Int) == ((1 : Nat) : Int))), ([] : List AObj)) = _
      rw [this]
  | succ d ih =>
    intro u j h1 h2 h3
    by_cases hj : j = m + 1
    · exact (by
        have hd : m + 1 - j ≤ d := by omega
        exact ih u j hd (by omega) h3)
    · obtain ⟨u, rfl⟩ : ∃ v, u = v + 1 := ⟨u - 1, by omega⟩
      rw [L0_QueryDeep_eq, hk, ct (dt (by omega)), opn_size, cls_size, ct (ble_yes (by omega)), ct (ble_yes (by omega)), wr (by omega) (by omega), show (j : Int) + 1 = ((j + 1 : Nat) : Int) from by omega]
      exact ih u (j + 1) (by omega) (by omega) (by omega)
theorem deep_fn (n : Int) (hn : 0 ≤ n) : FnM PP GL 0 f_cascadelaw10_QueryDeep [.pv (.int .u8 n)] [] (.pv (.bool true)) [] := by
  have h1 : Int.tmod n 16 = ((n.toNat % 16 : Nat) : Int) := by
    rw [Int.tmod_eq_emod_of_nonneg hn]; omega
  exact FnM_of_run hst0 ((TabOK.zero.told ok_trueQ).told ok_QP) (k := 1) (N := 20) tr_cascadelaw10_QueryDeep ((run_QueryDeep 20 n).trans (deep_loop (Nat.mod_lt _ (by omega)) h1 16 20 0 (by have := Nat.mod_lt n.toNat (show 0 < 16 by omega); omega) (by omega) (by omega)))
end Go.W
