/- Equations of the evaluations, by program. -/
import Derived.Test.YtjaeanhgcijfoaaGreatDoorQdT
import Derived.KernelRfl
set_option linter.unusedSimpArgs false
set_option maxRecDepth 100000
set_option linter.unusedVariables false
namespace Go.W
open Go Go.Cx
noncomputable def C_QueryDeep : Caller := ev K_QD 1
noncomputable def L0_QueryDeep (N u : Nat) (n : Int) (s1 : ByteArray) (s2 : ByteArray) (i3 : Int) : Option (AV × List AObj) := loopL C_QueryDeep N A_cascadelaw10_QueryDeep 0 (some [3, 4, 5, 6]) 0 A_cascadelaw10_QueryDeep.body.r.r.r.r.l.r.l.l [.block 0, .seq A_cascadelaw10_QueryDeep.body.r.r.r.r.r] u [.any, .any, .any, .pv (.int .i64 (IntKind.wrap .i64 (1 + (IntKind.wrap .i64 (Int.tmod n 16))))), .pv (.str s1), .pv (.str s2), .pv (.int .i64 i3), .any, .any, .any, .any, .any, .any, .any, .any, .any, .any, .any, .any, .any, .any, .any, .any, .any, .any, .any, .any, .any, .any, .any, .any, .any, .any, .any, .any, .any, .any, .any, .any, .any, .any, .any, .any, .any, .any, .any, .any, .any, .any, .any, .any] []
theorem L0_QueryDeep_eq (N u : Nat) (n : Int) (s1 : ByteArray) (s2 : ByteArray) (i3 : Int) : L0_QueryDeep N (u + 1)  n s1 s2 i3 =
 cond (decide (i3 < (IntKind.wrap .i64 (1 + (IntKind.wrap .i64 (Int.tmod n 16))))))
 (cond (Nat.ble ((ByteArray.size s1) + 2) 9223372036854775807)
 (cond (Nat.ble ((ByteArray.size s2) + 1) 9223372036854775807)
 (L0_QueryDeep N u n (s1 ++ (ba [123, 97])) (s2 ++ (ba [125])) (IntKind.wrap .i64 (i3 + 1)))
 (none))
 (none))
 (cond (Nat.ble ((ByteArray.size s1) + (ByteArray.size s2)) 9223372036854775807)
 (cond (qpOK (s1 ++ s2))
 (cond (decide ((IntKind.wrap .i64 (1 + (IntKind.wrap .i64 (Int.tmod n 16)))) > 12))
 (cond (((qpE (s1 ++ s2)) == 5) && (((qpA (s1 ++ s2)) == 24) && true))
 (some (.pv (.bool (((List.length (qpOps (s1 ++ s2)) : Nat) : Int) == 0)), []))
 (some (.pv (.bool false), [])))
 (cond (((qpE (s1 ++ s2)) == 0) && (((qpA (s1 ++ s2)) == 0) && true))
 (some (.pv (.bool (((List.length (qpOps (s1 ++ s2)) : Nat) : Int) == 1)), []))
 (some (.pv (.bool false), []))))
 (none))
 (none)) := by kernel_rfl
theorem run_QueryDeep (N : Nat) (n : Int) : runF C_QueryDeep N A_cascadelaw10_QueryDeep [.pv (.int .u8 n)] [] =
 L0_QueryDeep N N n (ba []) (ba []) 0 := by kernel_rfl


end Go.W
