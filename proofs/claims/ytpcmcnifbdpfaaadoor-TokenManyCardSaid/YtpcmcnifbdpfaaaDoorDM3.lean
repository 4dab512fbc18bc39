/- The law's evaluation: just 900 tokens, and 4000 bytes. -/
import Derived.Test.YtpcmcnifbdpfaaaDoorDM2
set_option linter.unusedSimpArgs false
set_option linter.unusedVariables false
set_option maxRecDepth 100000
namespace Go.W
open Go Go.Cx Go.RowKit

theorem rep_snoc (k : Nat) : repS k ++ ba [97, 32] = repS (k + 1) := by
  apply ext_bytes
  have h : ∀ k, repL k ++ [97, 32] = repL (k + 1) := by
    intro k
    induction k with
    | zero => rfl
    | succ k ih => rw [repL_succ, List.cons_append, List.cons_append, ih]; rfl
  rw [ByteArray.data_append, Array.toList_append]
  exact h k
theorem push_data (l : List Int) : ∀ s : ByteArray, (l.foldl (fun r n => r.push (UInt8.ofNat n.toNat)) s).data.toList = s.data.toList ++ l.map fun n => UInt8.ofNat n.toNat := by
  induction l with
  | nil => intro s; simp
  | cons n l ih => intro s; rw [List.foldl_cons, ih]; simp [ByteArray.push]
theorem bytesOf_data (xs : List (List PV)) : (bytesOf xs).data.toList = xs.map fun r => UInt8.ofNat (rowInt r).toNat := by
  unfold bytesOf
  rw [push_data]
  simp [Function.comp_def]
theorem com_bytes (M : Nat) : ba [35] ++ bytesOf (List.replicate M [PV.int .u8 120]) = comS M := by
  apply ext_bytes
  rw [ByteArray.data_append, Array.toList_append, bytesOf_data, List.map_replicate]
  rfl
theorem x_size (M : Nat) : (bytesOf (List.replicate M [PV.int .u8 120])).size = M := by
  rw [size_eq, bytesOf_data]; simp
theorem x_u8 (M : Nat) : allU8 (List.replicate M [PV.int .u8 120]) = true := by
  unfold allU8
  rw [List.all_eq_true]
  intro r hr
  rw [(List.mem_replicate.1 hr).2]
  rfl
theorem rep_known {k : Nat} (h : k ≤ 1000) : lexKnown (repS k) = true := by
  unfold lexKnown
  rw [repS_size, show 2 * k / 2 = k from by omega, dt (show (repS k).data.toList = repL k from rfl), dt h]
  rfl
theorem com_known {m : Nat} (h : m + 1 ≤ 5000) : lexKnown (comS m) = true := by
  unfold lexKnown
  rw [comS_size, show m + 1 - 1 = m from by omega, dt (show (comS m).data.toList = comL m from rfl), dt h]
  simp
theorem many_run (n m : Int) (hn : 0 ≤ n) (hm : 0 ≤ m) : ∃ N, runF C_TokenMany N A_cascadelaw08_TokenMany [.pv (.int .u16 n), .pv (.int .u8 m)] [] = some (.pv (.bool true), []) := by
  obtain ⟨K, hK, hK1, hK2⟩ : ∃ K : Nat, IntKind.wrap .i64 (880 + IntKind.wrap .i64 (Int.tmod n 40)) = (K : Int) ∧ 880 ≤ K ∧ K ≤ 919 := by
    have h1 : Int.tmod n 40 = n % 40 := Int.tmod_eq_emod_of_nonneg hn
    refine ⟨(880 + n % 40).toNat, ?_, by omega, by omega⟩
    rw [h1, wr (x := n % 40) (by omega) (by omega), wr (by omega) (by omega)]
    omega
  obtain ⟨M, hM, hM1, hM2⟩ : ∃ M : Nat, IntKind.wrap .i64 (3990 + IntKind.wrap .i64 (Int.tmod m 20)) = (M : Int) ∧ 3990 ≤ M ∧ M ≤ 4009 := by
    have h1 : Int.tmod m 20 = m % 20 := Int.tmod_eq_emod_of_nonneg hm
    refine ⟨(3990 + m % 20).toNat, ?_, by omega, by omega⟩
    rw [h1, wr (x := m % 20) (by omega) (by omega), wr (by omega) (by omega)]
    omega
  refine ⟨K + 1, (run_TokenMany _ n m).trans ?_⟩
  have key : ∀ (d u i : Nat), K - i ≤ d → d < u → i ≤ K → L0_TokenMany (K + 1) u n m (repS i) (i : Int) = some (.pv (.bool true), []) := by
    intro d
    induction d with
    | zero =>
      intro u i h1 h2 h3
      obtain ⟨u, rfl⟩ : ∃ v, u = v + 1 := ⟨u - 1, by omega⟩
      obtain rfl : i = K := by omega
      rw [L0_TokenMany_eq]
      simp only [hK, hM]
      obtain ⟨e1, e2, e3⟩ := com_lex M
      rw [cf (df (Int.lt_irrefl _)), ct (rep_known (by omega))]
      simp only [Int.toNat_natCast, com_bytes, x_size, x_u8, rep_lexE, rep_lexA, rep_lexL, e2, comS_size, com_known (show M + 1 ≤ 5000 by omega), Nat.ble_eq_true_of_le (show 1 + M ≤ 9223372036854775807 by omega), cond_true, dt (show (0 : Int) ≤ (M : Int) by omega), dt (show (M : Int) ≤ 5000 by omega), Bool.and_true, gt_iff_lt]
      have tail : (cond ((cond (decide (M + 1 ≤ 4000)) (0 : Int) 6 == 6) == decide (4000 < ((M + 1 : Nat) : Int))) (some (AV.pv (.bool ((cond (decide (M + 1 ≤ 4000)) (0 : Int) 6 == 0) == decide (((M + 1 : Nat) : Int) ≤ 4000))), ([] : List AObj))) (some (.pv (.bool false), []))) = some (.pv (.bool true), []) := by
        by_cases h4 : M + 1 ≤ 4000
        · rw [dt h4, df (show ¬ (4000 : Int) < ((M + 1 : Nat) : Int) by omega), dt (show ((M + 1 : Nat) : Int) ≤ 4000 by omega)]; rfl
        · rw [df h4, dt (show (4000 : Int) < ((M + 1 : Nat) : Int) by omega), df (show ¬ ((M + 1 : Nat) : Int) ≤ 4000 by omega)]; rfl
      rw [tail]
      by_cases h9 : i ≤ 900
      · simp only [dt h9, dt (show (i : Int) ≤ 900 by omega), df (show ¬ (900 : Int) < (i : Int) by omega), cond_true, cond_false, aRows_length]
        simp
      · simp only [df h9, df (show ¬ (i : Int) ≤ 900 by omega), dt (show (900 : Int) < (i : Int) by omega), cond_true, cond_false]
        simp
    | succ d ih =>
      intro u i h1 h2 h3
      obtain ⟨u, rfl⟩ : ∃ v, u = v + 1 := ⟨u - 1, by omega⟩
      by_cases hlt : i < K
      · rw [L0_TokenMany_eq, hK, ct (dt (by omega)), ct (Nat.ble_eq_true_of_le (by rw [repS_size]; omega)), rep_snoc, wr (by omega) (by omega)]
        exact ih u (i + 1) (by omega) (by omega) (by omega)
      · exact ih (u + 1) i (by omega) (by omega) h3
  exact key K (K + 1) 0 (by omega) (by omega) (by omega)
end Go.W
