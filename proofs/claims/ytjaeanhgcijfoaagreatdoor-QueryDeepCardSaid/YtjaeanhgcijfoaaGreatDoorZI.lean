import Derived.Test.YtjaeanhgcijfoaaGreatDoorChecked
import Derived.WalkKit
import Derived.ProofKit
import Derived.Deep.OwnRows
import Derived.Lib.Walk
import Derived.Lib.Strings
import Derived.Lib.Slices
import Derived.Lib.Bytealg
import Derived.Below
import Derived.Lib.Hide
set_option linter.unusedVariables false
set_option linter.unusedSimpArgs false
namespace Go.W
open Go.RowKit
set_option maxHeartbeats 1000000
set_option maxRecDepth 100000
theorem stringslite_IndexByte (s : ByteArray) (c : Int) (w : World) :
    Calls Go.Proofs.Tryz.prog 99 #[.string s, .int .u8 c] w fun e w' => e = .returned (.int .i64 (Lib.indexByte s.data.toList c.toNat.toUInt8)) ∧ w' = w := by
  go_enter Go.Proofs.Tryz.func99, Go.Proofs.Tryz.ntmps99
  go_wp2
  rw [run_callFunc_extern Go.Proofs.Tryz.func110 (by kernel_rfl) (by kernel_rfl) (by kernel_rfl) (e := Extern.BytealgIndexByte.indexByte) (by kernel_rfl), Lib.run_indexByteString]
  simp only [Result.andThen]
  rw [Oper.upon_value]
  go_wp2
  go_ret
  exact ⟨rfl, rfl⟩
theorem strings_IndexByte (s : ByteArray) (c : Int) (w : World) :
    Calls Go.Proofs.Tryz.prog 79 #[.string s, .int .u8 c] w fun e w' => e = .returned (.int .i64 (Lib.indexByte s.data.toList c.toNat.toUInt8)) ∧ w' = w := by
  go_enter Go.Proofs.Tryz.func79, Go.Proofs.Tryz.ntmps79
  go_wp2_with (go_at_call 99; refine (stringslite_IndexByte _ _ _).mono ?_; rintro e w' ⟨rfl, rfl⟩)
  go_ret
  exact ⟨rfl, rfl⟩
end Go.W
