import Derived.Test.YtpcmcnifbdpfaaaDoorChecked
import Derived.WalkKit
import Derived.ProofKit
import Derived.Deep.OwnRows
import Derived.Lib.Walk
import Derived.Lib.Strings
import Derived.Lib.Slices
import Derived.Lib.Bytealg
import Derived.Below
import Derived.Lib.Hide
set_option linter.unusedVariables false
set_option linter.unusedSimpArgs false
namespace Go.W
open Go.RowKit
set_option maxHeartbeats 1000000
set_option maxRecDepth 100000
theorem stringslite_IndexByte (s : ByteArray) (c : Int) (w : World) :
    Calls Go.Proofs.Tryd.prog 25 #[.string s, .int .u8 c] w fun e w' => e = .returned (.int .i64 (Lib.indexByte s.data.toList c.toNat.toUInt8)) ∧ w' = w := by
  go_enter Go.Proofs.Tryd.func25, Go.Proofs.Tryd.ntmps25
  go_wp2
  rw [run_callFunc_extern Go.Proofs.Tryd.func33 (by kernel_rfl) (by kernel_rfl) (by kernel_rfl) (e := Extern.BytealgIndexByte.indexByte) (by kernel_rfl), Lib.run_indexByteString]
  simp only [Result.andThen]
  rw [Oper.upon_value]
  go_wp2
  go_ret
  exact ⟨rfl, rfl⟩
theorem strings_IndexByte (s : ByteArray) (c : Int) (w : World) :
    Calls Go.Proofs.Tryd.prog 12 #[.string s, .int .u8 c] w fun e w' => e = .returned (.int .i64 (Lib.indexByte s.data.toList c.toNat.toUInt8)) ∧ w' = w := by
  go_enter Go.Proofs.Tryd.func12, Go.Proofs.Tryd.ntmps12
  go_wp2_with (go_at_call 25; refine (stringslite_IndexByte _ _ _).mono ?_; rintro e w' ⟨rfl, rfl⟩)
  go_ret
  exact ⟨rfl, rfl⟩
theorem info5' : (Go.Proofs.Tryd.prog.info? 5).map (fun i => (i.zero, i.size, i.bytes)) = some (some (.int .u8 0), 1, 1) := by kernel_rfl
theorem und30 : Go.Proofs.Tryd.prog.underlying 30 = some (.slice 5) := by kernel_rfl
theorem zeros_walk (n : Nat) (hn : n ≤ 5000) (w : World) :
    Calls Go.Proofs.Tryd.prog 7 #[.int .i64 (n : Int)] w fun e w' => e = .returned (.slice (some ⟨w.heap.size, 0, none⟩) n n) ∧ Below w.heap.size w w' ∧ w'.heap.size = w.heap.size + 1 ∧
      ∀ j, j < n → w'.cell? ⟨w.heap.size, j, none⟩ = some (.int .u8 120) := by
  have hmk := run_make_row' (P := Go.Proofs.Tryd.prog) 30 5 (.int .u8 0) 1 und30 info5' rfl .i64 .i64 n (by omega) (by omega)
  go_enter Go.Proofs.Tryd.func7, Go.Proofs.Tryd.ntmps7
  go_wp2
  go_loopw [4] (fun i wr => ∃ (k : Nat) (cs : Array Value), k ≤ n ∧ i = .int .i64 k ∧ Below w.heap.size w wr ∧ wr.heap.size = w.heap.size + 1 ∧ wr.heap[w.heap.size]? = some (.cells cs 5 (0, 0)) ∧ cs.size = n ∧
      ∀ j, j < k → cs[j]? = some (.int .u8 120)) (fun i _ => n - (Lib.intOf i).toNat)
  case atStart =>
    refine ⟨0, madeCells #[Value.int IntKind.u8 0] n, Nat.zero_le _, rfl, (Below.refl _ _).alloc (Nat.le_refl _) _, ?_, ?_, size_madeCells _ _, fun j hj => absurd hj (Nat.not_lt_zero _)⟩
    · simp only [World.alloc, Array.size_push]
    · simp only [World.alloc, Array.getElem?_push_size]
  case round =>
    obtain ⟨k, cs, hk, rfl, hb, hz, hh, hcs, hj⟩ := hrel
    by_cases hlt : k < n
    · obtain ⟨u, hu⟩ : ∃ u, cs[k]? = some u := ⟨cs[k], by simp [hcs, hlt]⟩
      have hc : wr.cell? ⟨w.heap.size, k, none⟩ = some u := by simp [World.cell?, hh, hu]
      have hf : wr.frozen? ⟨w.heap.size, k, none⟩ = false := by simp [World.frozen?, hh]
      have hset : (wr.setCell ⟨w.heap.size, k, none⟩ (.int .u8 120)).heap[w.heap.size]? = some (.cells (cs.set! k (.int .u8 120)) 5 (0, 0)) := by
        simp [World.setCell, Array.getElem?_modify, hh]
      have H := Lib.hid (And.intro hb (And.intro hz (And.intro hh (And.intro hcs (And.intro hj hset)))))
      clear hb hz hh hcs hj hset hu
      go_wp2
      go_roundw
      case rel =>
        obtain ⟨hb, hz, hh, hcs, hj, hset⟩ := H.out
        refine ⟨k + 1, cs.set! k (.int .u8 120), by omega, by go_num, hb.setCell (by simp) _, ?_, hset, by simp [hcs], fun j hjk => ?_⟩
        · simp [World.setCell, hz]
        · by_cases e : j = k
          · subst e; simp [hcs, hlt]
          · have := hj j (by omega)
            simp [Array.set!_eq_setIfInBounds, Array.getElem?_setIfInBounds, e, Ne.symm e, this]
      case measure => simp [Lib.intOf]; omega
    · have H := Lib.hid (And.intro hb (And.intro hz (And.intro hh (And.intro hcs hj))))
      clear hb hz hh hcs hj hmk
      go_wp2
      go_ret
      obtain ⟨hb, hz, hh, hcs, hj⟩ := H.out
      refine ⟨rfl, hb, hz, fun j hjn => ?_⟩
      simp [World.cell?, hh, hj j (by omega)]
end Go.W
