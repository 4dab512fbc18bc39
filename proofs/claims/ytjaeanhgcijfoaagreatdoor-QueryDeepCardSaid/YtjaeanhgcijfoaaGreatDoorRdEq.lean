/- Equations of the evaluations, by program. -/
import Derived.Test.YtjaeanhgcijfoaaGreatDoorLxT
import Derived.KernelRfl
set_option linter.unusedSimpArgs false
set_option maxRecDepth 100000
set_option linter.unusedVariables false
namespace Go.W
open Go Go.Cx
noncomputable def C_End : Caller := ev tab0 1
theorem run_End (N : Nat) (r : Rd) : runF C_End N A_lit_Reader_End [.ptr 0 0] [.cells [.pv (.sl 3 (Rd.l r)), .pv (.int .i64 (Rd.en r)), .pv (.int .i64 (Rd.e r)), .pv (.int .i64 (Rd.a r))]] =
 cond ((Rd.e r) != 0)
 (some (.pv (.bool true), [.cells [.pv (.sl 3 (Rd.l r)), .pv (.int .i64 (Rd.en r)), .pv (.int .i64 (Rd.e r)), .pv (.int .i64 (Rd.a r))]]))
 (some (.pv (.bool (((List.length (Rd.l r) : Nat) : Int) == 0)), [.cells [.pv (.sl 3 (Rd.l r)), .pv (.int .i64 (Rd.en r)), .pv (.int .i64 (Rd.e r)), .pv (.int .i64 (Rd.a r))]])) := by kernel_rfl


noncomputable def C_At : Caller := ev K_At 1
theorem run_At (N : Nat) (r : Rd) : runF C_At N A_lit_Reader_At [.ptr 0 0] [.cells [.pv (.sl 3 (Rd.l r)), .pv (.int .i64 (Rd.en r)), .pv (.int .i64 (Rd.e r)), .pv (.int .i64 (Rd.a r))]] =
 cond ((Rd.e r) != 0)
 (some (.pv (.int .i64 (Rd.a r)), [.cells [.pv (.sl 3 (Rd.l r)), .pv (.int .i64 (Rd.en r)), .pv (.int .i64 (Rd.e r)), .pv (.int .i64 (Rd.a r))]]))
 (cond (((List.length (Rd.l r) : Nat) : Int) == 0)
 (some (.pv (.int .i64 (Rd.en r)), [.cells [.pv (.sl 3 (Rd.l r)), .pv (.int .i64 (Rd.en r)), .pv (.int .i64 (Rd.e r)), .pv (.int .i64 (Rd.a r))]]))
 (cond (decide (0 < ((List.length (Rd.l r) : Nat) : Int)))
 (cond (PV.isInt .i64 (List.getD (List.drop 2 (List.getD (Rd.l r) 0 [])) 0 .bad))
 (some (.pv (.int .i64 (PV.toInt (List.getD (List.drop 2 (List.getD (Rd.l r) 0 [])) 0 .bad))), [.cells [.pv (.sl 3 (Rd.l r)), .pv (.int .i64 (Rd.en r)), .pv (.int .i64 (Rd.e r)), .pv (.int .i64 (Rd.a r))]]))
 (none))
 (none))) := by kernel_rfl


noncomputable def C_Fail : Caller := ev tab0 1
theorem run_Fail (N : Nat) (i : Int) (er : Int) (r : Rd) : runF C_Fail N A_lit_Reader_Fail [.ptr 0 0, .pv (.int .i64 i), .pv (.int .i64 er)] [.cells [.pv (.sl 3 (Rd.l r)), .pv (.int .i64 (Rd.en r)), .pv (.int .i64 (Rd.e r)), .pv (.int .i64 (Rd.a r))]] =
 cond ((Rd.e r) == 0)
 (cond (er != 0)
 (some (.pv (.tup []), [.cells [.pv (.sl 3 (Rd.l r)), .pv (.int .i64 (Rd.en r)), .pv (.int .i64 er), .pv (.int .i64 i)]]))
 (some (.pv (.tup []), [.cells [.pv (.sl 3 (Rd.l r)), .pv (.int .i64 (Rd.en r)), .pv (.int .i64 (Rd.e r)), .pv (.int .i64 (Rd.a r))]])))
 (some (.pv (.tup []), [.cells [.pv (.sl 3 (Rd.l r)), .pv (.int .i64 (Rd.en r)), .pv (.int .i64 (Rd.e r)), .pv (.int .i64 (Rd.a r))]])) := by kernel_rfl


noncomputable def C_form : Caller := ev K_form 1
theorem run_form (N : Nat) (r : Rd) : runF C_form N A_lit_Reader_form [.ptr 0 0] [.cells [.pv (.sl 3 (Rd.l r)), .pv (.int .i64 (Rd.en r)), .pv (.int .i64 (Rd.e r)), .pv (.int .i64 (Rd.a r))]] =
 cond (rowsOK (Rd.l r))
 (some (.pv (.tup []), [.cells [.pv (.sl 3 (Rd.l (Rd.fail r (Rd.at' r) 4))), .pv (.int .i64 (Rd.en (Rd.fail r (Rd.at' r) 4))), .pv (.int .i64 (Rd.e (Rd.fail r (Rd.at' r) 4))), .pv (.int .i64 (Rd.a (Rd.fail r (Rd.at' r) 4)))]]))
 (none) := by kernel_rfl


noncomputable def C_kind : Caller := ev K_kind 1
theorem run_kind (N : Nat) (r : Rd) : runF C_kind N A_lit_Reader_kind [.ptr 0 0] [.cells [.pv (.sl 3 (Rd.l r)), .pv (.int .i64 (Rd.en r)), .pv (.int .i64 (Rd.e r)), .pv (.int .i64 (Rd.a r))]] =
 cond (Rd.ends r)
 (some (.pv (.int .i64 0), [.cells [.pv (.sl 3 (Rd.l r)), .pv (.int .i64 (Rd.en r)), .pv (.int .i64 (Rd.e r)), .pv (.int .i64 (Rd.a r))]]))
 (cond (decide (0 < ((List.length (Rd.l r) : Nat) : Int)))
 (cond (PV.isInt .i64 (List.getD (List.drop 0 (List.getD (Rd.l r) 0 [])) 0 .bad))
 (some (.pv (.int .i64 (PV.toInt (List.getD (List.drop 0 (List.getD (Rd.l r) 0 [])) 0 .bad))), [.cells [.pv (.sl 3 (Rd.l r)), .pv (.int .i64 (Rd.en r)), .pv (.int .i64 (Rd.e r)), .pv (.int .i64 (Rd.a r))]]))
 (none))
 (none)) := by kernel_rfl


noncomputable def C_nextR : Caller := ev K_nextR 1
theorem run_nextR (N : Nat) (r : Rd) : runF C_nextR N A_lit_Reader_next [.ptr 0 0] [.cells [.pv (.sl 3 (Rd.l r)), .pv (.int .i64 (Rd.en r)), .pv (.int .i64 (Rd.e r)), .pv (.int .i64 (Rd.a r))]] =
 cond (Rd.ends r)
 (cond (rowsOK (Rd.l r))
 (some (.pv (.agg [.int .i64 0, .str (ba []), .int .i64 0]), [.cells [.pv (.sl 3 (Rd.l (Rd.form r))), .pv (.int .i64 (Rd.en (Rd.form r))), .pv (.int .i64 (Rd.e (Rd.form r))), .pv (.int .i64 (Rd.a (Rd.form r)))]]))
 (none))
 (cond (decide (0 < ((List.length (Rd.l r) : Nat) : Int)))
 (cond (PV.isInt .i64 (List.getD (List.getD (Rd.l r) 0 []) 0 .bad))
 (cond (PV.isStr (List.getD (List.getD (Rd.l r) 0 []) 1 .bad))
 (cond (PV.isInt .i64 (List.getD (List.getD (Rd.l r) 0 []) 2 .bad))
 (cond ((decide (1 ≤ ((List.length (Rd.l r) : Nat) : Int))) && (decide (((List.length (Rd.l r) : Nat) : Int) ≤ ((List.length (Rd.l r) : Nat) : Int))))
 (some (.pv (.agg [.int .i64 (PV.toInt (List.getD (List.getD (Rd.l r) 0 []) 0 .bad)), .str (PV.toStr (List.getD (List.getD (Rd.l r) 0 []) 1 .bad)), .int .i64 (PV.toInt (List.getD (List.getD (Rd.l r) 0 []) 2 .bad))]), [.cells [.pv (.sl 3 (List.drop 1 (List.take (Int.toNat ((List.length (Rd.l r) : Nat) : Int)) (Rd.l r)))), .pv (.int .i64 (Rd.en r)), .pv (.int .i64 (Rd.e r)), .pv (.int .i64 (Rd.a r))]]))
 (none))
 (none))
 (none))
 (none))
 (none)) := by kernel_rfl


noncomputable def C_Is : Caller := ev K_Is 1
theorem run_Is (N : Nat) (t : ByteArray) (r : Rd) : runF C_Is N A_lit_Reader_Is [.ptr 0 0, .pv (.str t)] [.cells [.pv (.sl 3 (Rd.l r)), .pv (.int .i64 (Rd.en r)), .pv (.int .i64 (Rd.e r)), .pv (.int .i64 (Rd.a r))]] =
 cond (rowsOK (Rd.l r))
 (cond ((Rd.kind r) == 1)
 (cond (decide (0 < ((List.length (Rd.l r) : Nat) : Int)))
 (cond (PV.isStr (List.getD (List.drop 1 (List.getD (Rd.l r) 0 [])) 0 .bad))
 (some (.pv (.bool ((ByteArray.toList (PV.toStr (List.getD (List.drop 1 (List.getD (Rd.l r) 0 [])) 0 .bad))) == (ByteArray.toList t))), [.cells [.pv (.sl 3 (Rd.l r)), .pv (.int .i64 (Rd.en r)), .pv (.int .i64 (Rd.e r)), .pv (.int .i64 (Rd.a r))]]))
 (none))
 (none))
 (cond (rowsOK (Rd.l r))
 (cond ((Rd.kind r) == 2)
 (cond (decide (0 < ((List.length (Rd.l r) : Nat) : Int)))
 (cond (PV.isStr (List.getD (List.drop 1 (List.getD (Rd.l r) 0 [])) 0 .bad))
 (some (.pv (.bool ((ByteArray.toList (PV.toStr (List.getD (List.drop 1 (List.getD (Rd.l r) 0 [])) 0 .bad))) == (ByteArray.toList t))), [.cells [.pv (.sl 3 (Rd.l r)), .pv (.int .i64 (Rd.en r)), .pv (.int .i64 (Rd.e r)), .pv (.int .i64 (Rd.a r))]]))
 (none))
 (none))
 (some (.pv (.bool false), [.cells [.pv (.sl 3 (Rd.l r)), .pv (.int .i64 (Rd.en r)), .pv (.int .i64 (Rd.e r)), .pv (.int .i64 (Rd.a r))]])))
 (none)))
 (none) := by kernel_rfl


noncomputable def C_Take : Caller := ev K_Take 1
theorem run_Take (N : Nat) (t : ByteArray) (r : Rd) : runF C_Take N A_lit_Reader_Take [.ptr 0 0, .pv (.str t)] [.cells [.pv (.sl 3 (Rd.l r)), .pv (.int .i64 (Rd.en r)), .pv (.int .i64 (Rd.e r)), .pv (.int .i64 (Rd.a r))]] =
 cond (rowsOK (Rd.l r))
 (cond (Rd.is r t)
 (cond (rowsOK (Rd.l r))
 (some (.pv (.bool (Rd.is r t)), [.cells [.pv (.sl 3 (Rd.l (Rd.next r))), .pv (.int .i64 (Rd.en (Rd.next r))), .pv (.int .i64 (Rd.e (Rd.next r))), .pv (.int .i64 (Rd.a (Rd.next r)))]]))
 (none))
 (some (.pv (.bool (Rd.is r t)), [.cells [.pv (.sl 3 (Rd.l r)), .pv (.int .i64 (Rd.en r)), .pv (.int .i64 (Rd.e r)), .pv (.int .i64 (Rd.a r))]])))
 (none) := by kernel_rfl


noncomputable def C_Must : Caller := ev K_Must 1
theorem run_Must (N : Nat) (t : ByteArray) (r : Rd) : runF C_Must N A_lit_Reader_Must [.ptr 0 0, .pv (.str t)] [.cells [.pv (.sl 3 (Rd.l r)), .pv (.int .i64 (Rd.en r)), .pv (.int .i64 (Rd.e r)), .pv (.int .i64 (Rd.a r))]] =
 cond (rowsOK (Rd.l r))
 (cond (!(Rd.is r t))
 (cond (rowsOK (Rd.l (Rd.take r t)))
 (some (.pv (.tup []), [.cells [.pv (.sl 3 (Rd.l (Rd.form (Rd.take r t)))), .pv (.int .i64 (Rd.en (Rd.form (Rd.take r t)))), .pv (.int .i64 (Rd.e (Rd.form (Rd.take r t)))), .pv (.int .i64 (Rd.a (Rd.form (Rd.take r t))))]]))
 (none))
 (some (.pv (.tup []), [.cells [.pv (.sl 3 (Rd.l (Rd.take r t))), .pv (.int .i64 (Rd.en (Rd.take r t))), .pv (.int .i64 (Rd.e (Rd.take r t))), .pv (.int .i64 (Rd.a (Rd.take r t)))]])))
 (none) := by kernel_rfl


noncomputable def C_NameR : Caller := ev K_NameR 1
theorem run_NameR (N : Nat) (r : Rd) : runF C_NameR N A_lit_Reader_Name [.ptr 0 0] [.cells [.pv (.sl 3 (Rd.l r)), .pv (.int .i64 (Rd.en r)), .pv (.int .i64 (Rd.e r)), .pv (.int .i64 (Rd.a r))]] =
 cond (rowsOK (Rd.l r))
 (cond ((Rd.kind r) != 2)
 (cond (rowsOK (Rd.l r))
 (some (.pv (.str (ba [])), [.cells [.pv (.sl 3 (Rd.l (Rd.form r))), .pv (.int .i64 (Rd.en (Rd.form r))), .pv (.int .i64 (Rd.e (Rd.form r))), .pv (.int .i64 (Rd.a (Rd.form r)))]]))
 (none))
 (cond (rowsOK (Rd.l r))
 (some (.pv (.str (cond (Rd.ends r) (ba []) (hS (Rd.l r)))), [.cells [.pv (.sl 3 (Rd.l (Rd.next r))), .pv (.int .i64 (Rd.en (Rd.next r))), .pv (.int .i64 (Rd.e (Rd.next r))), .pv (.int .i64 (Rd.a (Rd.next r)))]]))
 (none)))
 (none) := by kernel_rfl


noncomputable def C_typ (m : Nat) : Caller := ev (K_typ m) 1
noncomputable def L0_typ (m : Nat) (N : Nat) (x2 : List (List PV)) (i3 : Int) (i4 : Int) (i5 : Int) (s6 : ByteArray) (s7 : ByteArray) : Option (AV × List AObj) := codeL (C_typ m) N A_lit_Reader_typ 1 A_lit_Reader_typ.body.r.r.r.r.l [] [.ptr 0 0, .any, .any, .any, .ptr 1 0, .ptr 2 0, .any, .any, .any, .any, .any, .any, .any, .any, .any, .any, .any, .any, .any, .any, .any, .any, .any, .any, .any, .any, .any, .any, .any, .any, .any, .any, .any, .any, .any, .any, .any, .any, .any] [.cells [.pv (.sl 3 x2), .pv (.int .i64 i3), .pv (.int .i64 i4), .pv (.int .i64 i5)], .cells [.pv (.str (ba [])), .pv (.str (ba []))], .cells [.pv (.str s6), .pv (.str s7)]]
theorem L0_typ_eq (m : Nat) (N : Nat) (x2 : List (List PV)) (i3 : Int) (i4 : Int) (i5 : Int) (s6 : ByteArray) (s7 : ByteArray) : L0_typ m N  x2 i3 i4 i5 s6 s7 =
 cond (rowsOK x2)
 (cond (Rd.is (Rd.mk x2 i3 i4 i5) (ba [33]))
 (cond (Nat.ble ((ByteArray.size s7) + 1) 9223372036854775807)
 (some (.pv (.agg [.str s6, .str (s7 ++ (ba [33]))]), [.cells [.pv (.sl 3 (Rd.l (Rd.take (Rd.mk x2 i3 i4 i5) (ba [33])))), .pv (.int .i64 (Rd.en (Rd.take (Rd.mk x2 i3 i4 i5) (ba [33])))), .pv (.int .i64 (Rd.e (Rd.take (Rd.mk x2 i3 i4 i5) (ba [33])))), .pv (.int .i64 (Rd.a (Rd.take (Rd.mk x2 i3 i4 i5) (ba [33]))))]]))
 (none))
 (some (.pv (.agg [.str s6, .str s7]), [.cells [.pv (.sl 3 (Rd.l (Rd.take (Rd.mk x2 i3 i4 i5) (ba [33])))), .pv (.int .i64 (Rd.en (Rd.take (Rd.mk x2 i3 i4 i5) (ba [33])))), .pv (.int .i64 (Rd.e (Rd.take (Rd.mk x2 i3 i4 i5) (ba [33])))), .pv (.int .i64 (Rd.a (Rd.take (Rd.mk x2 i3 i4 i5) (ba [33]))))]])))
 (none) := by kernel_rfl
theorem run_typ (m : Nat) (N : Nat) (n : Int) (r : Rd) : runF (C_typ m) N A_lit_Reader_typ [.ptr 0 0, .pv (.int .i64 n)] [.cells [.pv (.sl 3 (Rd.l r)), .pv (.int .i64 (Rd.en r)), .pv (.int .i64 (Rd.e r)), .pv (.int .i64 (Rd.a r))]] =
 cond (rowsOK (Rd.l r))
 (cond (Rd.is r (ba [91]))
 (cond (decide (n < 1))
 (cond (rowsOK (Rd.l r))
 (some (.pv (.agg [.str (ba []), .str (ba [])]), [.cells [.pv (.sl 3 (Rd.l (Rd.fail r (Rd.at' r) 5))), .pv (.int .i64 (Rd.en (Rd.fail r (Rd.at' r) 5))), .pv (.int .i64 (Rd.e (Rd.fail r (Rd.at' r) 5))), .pv (.int .i64 (Rd.a (Rd.fail r (Rd.at' r) 5)))]]))
 (none))
 (cond (rowsOK (Rd.l r))
 (cond (Rd.is r (ba [91]))
 (cond ((rowsOK (Rd.l (Rd.take r (ba [91])))) && ((decide (0 ≤ (IntKind.wrap .i64 (n - 1)))) && (decide ((IntKind.wrap .i64 (n - 1)) < ((m : Nat) : Int)))))
 (cond (rowsOK (Rd.l (Prod.fst (typS (Int.toNat (IntKind.wrap .i64 (n - 1))) (Rd.take r (ba [91]))))))
 (cond (Nat.ble ((ByteArray.size (Prod.snd (Prod.snd (typS (Int.toNat (IntKind.wrap .i64 (n - 1))) (Rd.take r (ba [91])))))) + 1) 9223372036854775807)
 (L0_typ m N (Rd.l (Rd.must (Prod.fst (typS (Int.toNat (IntKind.wrap .i64 (n - 1))) (Rd.take r (ba [91])))) (ba [93]))) (Rd.en (Rd.must (Prod.fst (typS (Int.toNat (IntKind.wrap .i64 (n - 1))) (Rd.take r (ba [91])))) (ba [93]))) (Rd.e (Rd.must (Prod.fst (typS (Int.toNat (IntKind.wrap .i64 (n - 1))) (Rd.take r (ba [91])))) (ba [93]))) (Rd.a (Rd.must (Prod.fst (typS (Int.toNat (IntKind.wrap .i64 (n - 1))) (Rd.take r (ba [91])))) (ba [93]))) (Prod.fst (Prod.snd (typS (Int.toNat (IntKind.wrap .i64 (n - 1))) (Rd.take r (ba [91]))))) ((Prod.snd (Prod.snd (typS (Int.toNat (IntKind.wrap .i64 (n - 1))) (Rd.take r (ba [91]))))) ++ (ba [91])))
 (none))
 (none))
 (none))
 (cond (rowsOK (Rd.l (Rd.take r (ba [91]))))
 (L0_typ m N (Rd.l (Rd.nm (Rd.take r (ba [91])))) (Rd.en (Rd.nm (Rd.take r (ba [91])))) (Rd.e (Rd.nm (Rd.take r (ba [91])))) (Rd.a (Rd.nm (Rd.take r (ba [91])))) (Rd.nmS (Rd.take r (ba [91]))) (ba []))
 (none)))
 (none)))
 (cond (rowsOK (Rd.l r))
 (cond (Rd.is r (ba [91]))
 (cond ((rowsOK (Rd.l (Rd.take r (ba [91])))) && ((decide (0 ≤ (IntKind.wrap .i64 (n - 1)))) && (decide ((IntKind.wrap .i64 (n - 1)) < ((m : Nat) : Int)))))
 (cond (rowsOK (Rd.l (Prod.fst (typS (Int.toNat (IntKind.wrap .i64 (n - 1))) (Rd.take r (ba [91]))))))
 (cond (Nat.ble ((ByteArray.size (Prod.snd (Prod.snd (typS (Int.toNat (IntKind.wrap .i64 (n - 1))) (Rd.take r (ba [91])))))) + 1) 9223372036854775807)
 (L0_typ m N (Rd.l (Rd.must (Prod.fst (typS (Int.toNat (IntKind.wrap .i64 (n - 1))) (Rd.take r (ba [91])))) (ba [93]))) (Rd.en (Rd.must (Prod.fst (typS (Int.toNat (IntKind.wrap .i64 (n - 1))) (Rd.take r (ba [91])))) (ba [93]))) (Rd.e (Rd.must (Prod.fst (typS (Int.toNat (IntKind.wrap .i64 (n - 1))) (Rd.take r (ba [91])))) (ba [93]))) (Rd.a (Rd.must (Prod.fst (typS (Int.toNat (IntKind.wrap .i64 (n - 1))) (Rd.take r (ba [91])))) (ba [93]))) (Prod.fst (Prod.snd (typS (Int.toNat (IntKind.wrap .i64 (n - 1))) (Rd.take r (ba [91]))))) ((Prod.snd (Prod.snd (typS (Int.toNat (IntKind.wrap .i64 (n - 1))) (Rd.take r (ba [91]))))) ++ (ba [91])))
 (none))
 (none))
 (none))
 (cond (rowsOK (Rd.l (Rd.take r (ba [91]))))
 (L0_typ m N (Rd.l (Rd.nm (Rd.take r (ba [91])))) (Rd.en (Rd.nm (Rd.take r (ba [91])))) (Rd.e (Rd.nm (Rd.take r (ba [91])))) (Rd.a (Rd.nm (Rd.take r (ba [91])))) (Rd.nmS (Rd.take r (ba [91]))) (ba []))
 (none)))
 (none)))
 (none) := by kernel_rfl


end Go.W
