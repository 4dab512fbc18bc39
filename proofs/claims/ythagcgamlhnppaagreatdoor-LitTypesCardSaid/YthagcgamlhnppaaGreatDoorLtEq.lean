/- Equations of the evaluations, by program. -/
import Derived.Test.YthagcgamlhnppaaGreatDoorLtT
import Derived.KernelRfl
set_option linter.unusedSimpArgs false
set_option maxRecDepth 100000
set_option linter.unusedVariables false
namespace Go.W
open Go Go.Cx
noncomputable def C_NameT : Caller := ev K_NameT 1
noncomputable def L0_NameT (N u : Nat) (s : ByteArray) (m1 : Nat) : Option (AV × List AObj) := loopL C_NameT N A_text_Name 0 (some [0, 6]) 1 A_text_Name.body.r.l.r.l.l [.block 0, .seq A_text_Name.body.r.r] u [.pv (.str s), .any, .any, .any, .any, .any, .ptr 0 0, .any, .any, .any, .any, .any, .any, .any, .any, .any, .any, .any, .any, .any, .any, .any, .any, .any, .any, .any, .any, .any] [.iter s m1]
theorem L0_NameT_eq (N u : Nat) (s : ByteArray) (m1 : Nat) : L0_NameT N (u + 1)  s m1 =
 cond (Nat.blt m1 (ByteArray.size s))
 (cond (!(letterS ((Prod.fst (Utf8.decode s m1) : Nat) : Int)))
 (cond (((m1 : Nat) : Int) == 0)
 (some (.pv (.bool false), []))
 (cond (decide (((Prod.fst (Utf8.decode s m1) : Nat) : Int) < 48))
 (some (.pv (.bool false), []))
 (cond (decide (((Prod.fst (Utf8.decode s m1) : Nat) : Int) > 57))
 (some (.pv (.bool false), []))
 (L0_NameT N u s (m1 + (Prod.snd (Utf8.decode s m1)))))))
 (L0_NameT N u s (m1 + (Prod.snd (Utf8.decode s m1)))))
 (some (.pv (.bool (!((ByteArray.toList s) == (ByteArray.toList (ba []))))), [])) := by kernel_rfl
theorem run_NameT (N : Nat) (s : ByteArray) : runF C_NameT N A_text_Name [.pv (.str s)] [] =
 L0_NameT N N s 0 := by kernel_rfl


noncomputable def C_letterR : Caller := ev tab0 1
theorem run_letterR (N : Nat) (c : Int) : runF C_letterR N A_text_letter [.pv (.int .i32 c)] [] =
 cond (decide (c ≥ 97))
 (cond (decide (c ≤ 122))
 (some (.pv (.bool true), []))
 (cond (decide (c ≥ 65))
 (cond (decide (c ≤ 90))
 (some (.pv (.bool true), []))
 (some (.pv (.bool (c == 95)), [])))
 (some (.pv (.bool (c == 95)), []))))
 (cond (decide (c ≥ 65))
 (cond (decide (c ≤ 90))
 (some (.pv (.bool true), []))
 (some (.pv (.bool (c == 95)), [])))
 (some (.pv (.bool (c == 95)), []))) := by kernel_rfl


noncomputable def C_RightType : Caller := ev K_RightType 1
noncomputable def L0_RightType (N u : Nat) (n : ByteArray) (w : ByteArray) (i2 : Int) (i3 : Int) (m4 : Nat) : Option (AV × List AObj) := loopL C_RightType N A_lit_RightType 0 (some [1, 3, 4, 9]) 2 A_lit_RightType.body.r.r.l.r.l.l [.block 0, .seq A_lit_RightType.body.r.r.r] u [.any, .ptr 0 0, .any, .pv (.int .i64 i2), .pv (.int .i32 i3), .any, .any, .any, .any, .ptr 1 0, .any, .any, .any, .any, .any, .any, .any, .any, .any, .any, .any, .any, .any, .any, .any, .any, .any, .any, .any, .any, .any, .any, .any] [.cells [.pv (.str n), .pv (.str w)], .iter w m4]
theorem L0_RightType_eq (N u : Nat) (n : ByteArray) (w : ByteArray) (i2 : Int) (i3 : Int) (m4 : Nat) : L0_RightType N (u + 1)  n w i2 i3 m4 =
 cond (Nat.blt m4 (ByteArray.size w))
 (cond (((Prod.fst (Utf8.decode w m4) : Nat) : Int) == 91)
 (L0_RightType N u n w (IntKind.wrap .i64 (i2 + 1)) ((Prod.fst (Utf8.decode w m4) : Nat) : Int) (m4 + (Prod.snd (Utf8.decode w m4))))
 (cond (((Prod.fst (Utf8.decode w m4) : Nat) : Int) != 33)
 (some (.pv (.bool false), []))
 (cond (i3 == 33)
 (some (.pv (.bool false), []))
 (L0_RightType N u n w i2 ((Prod.fst (Utf8.decode w m4) : Nat) : Int) (m4 + (Prod.snd (Utf8.decode w m4)))))))
 (cond (decide (i2 ≤ 4))
 (cond (okS n)
 (some (.pv (.bool (nameT n)), []))
 (none))
 (some (.pv (.bool false), []))) := by kernel_rfl
theorem run_RightType (N : Nat) (n : ByteArray) (w : ByteArray) : runF C_RightType N A_lit_RightType [.pv (.agg [.str n, .str w])] [] =
 L0_RightType N N n w 0 0 0 := by kernel_rfl


noncomputable def C_ShowType : Caller := ev K_ShowType 1
noncomputable def L0_ShowType (N u : Nat) (n : ByteArray) (w : ByteArray) (s2 : ByteArray) (m3 : Nat) : Option (AV × List AObj) := loopL C_ShowType N A_lit_ShowType 0 (some [4, 14]) 2 A_lit_ShowType.body.r.r.r.l.r.l.l [.block 0, .seq A_lit_ShowType.body.r.r.r.r] u [.any, .any, .any, .any, .pv (.str s2), .any, .any, .any, .any, .any, .any, .any, .any, .any, .ptr 1 0, .any, .any, .any, .any, .any, .any, .any, .any, .any, .any, .any] [.cells [.pv (.str n), .pv (.str w)], .iter w m3]
theorem L0_ShowType_eq (N u : Nat) (n : ByteArray) (w : ByteArray) (s2 : ByteArray) (m3 : Nat) : L0_ShowType N (u + 1)  n w s2 m3 =
 cond (Nat.blt m3 (ByteArray.size w))
 (cond (((Prod.fst (Utf8.decode w m3) : Nat) : Int) == 91)
 (cond (Nat.ble (1 + (ByteArray.size s2)) 9223372036854775807)
 (cond (Nat.ble ((ByteArray.size ((ba [91]) ++ s2)) + 1) 9223372036854775807)
 (L0_ShowType N u n w (((ba [91]) ++ s2) ++ (ba [93])) (m3 + (Prod.snd (Utf8.decode w m3))))
 (none))
 (none))
 (cond (Nat.ble ((ByteArray.size s2) + 1) 9223372036854775807)
 (L0_ShowType N u n w (s2 ++ (ba [33])) (m3 + (Prod.snd (Utf8.decode w m3))))
 (none)))
 (some (.pv (.tup [.str s2, .int .i64 0]), [])) := by kernel_rfl
theorem run_ShowType (N : Nat) (n : ByteArray) (w : ByteArray) : runF C_ShowType N A_lit_ShowType [.pv (.agg [.str n, .str w])] [] =
 cond ((okS n) && (okS w))
 (cond (!(rightT n w))
 (some (.pv (.tup [.str (ba []), .int .i64 1]), []))
 (L0_ShowType N N n w n 0))
 (none) := by kernel_rfl


noncomputable def C_NewReader : Caller := ev K_NewReader 1
theorem run_NewReader (N : Nat) (s : ByteArray) : runF C_NewReader N A_lit_NewReader [.pv (.str s)] [] =
 cond (plainP s)
 (some (.ptr 1 0, [.cells [.pv (.int .i64 0), .pv (.int .i64 0)], .cells [.pv (.sl 3 (lexP s)), .pv (.int .i64 ((ByteArray.size s : Nat) : Int)), .pv (.int .i64 0), .pv (.int .i64 0)]]))
 (none) := by kernel_rfl


noncomputable def C_Type : Caller := ev K_Type 1
theorem run_Type (N : Nat) (r : Rd) : runF C_Type N A_lit_Reader_Type [.ptr 0 0] [.cells [.pv (.sl 3 (Rd.l r)), .pv (.int .i64 (Rd.en r)), .pv (.int .i64 (Rd.e r)), .pv (.int .i64 (Rd.a r))]] =
 cond ((rowsOK (Rd.l r)) && true)
 (cond ((Rd.e (Prod.fst (typS 4 r))) != 0)
 (some (.pv (.agg [.str (ba []), .str (ba [])]), [.cells [.pv (.sl 3 (Rd.l (Prod.fst (typS 4 r)))), .pv (.int .i64 (Rd.en (Prod.fst (typS 4 r)))), .pv (.int .i64 (Rd.e (Prod.fst (typS 4 r)))), .pv (.int .i64 (Rd.a (Prod.fst (typS 4 r))))]]))
 (some (.pv (.agg [.str (Prod.fst (Prod.snd (typS 4 r))), .str (Prod.snd (Prod.snd (typS 4 r)))]), [.cells [.pv (.sl 3 (Rd.l (Prod.fst (typS 4 r)))), .pv (.int .i64 (Rd.en (Prod.fst (typS 4 r)))), .pv (.int .i64 (Rd.e (Prod.fst (typS 4 r)))), .pv (.int .i64 (Rd.a (Prod.fst (typS 4 r))))]])))
 (none) := by kernel_rfl


noncomputable def C_whole : Caller := ev K_whole 1
theorem run_whole (N : Nat) (r : Rd) : runF C_whole N A_lit_Reader_whole [.ptr 0 0] [.cells [.pv (.sl 3 (Rd.l r)), .pv (.int .i64 (Rd.en r)), .pv (.int .i64 (Rd.e r)), .pv (.int .i64 (Rd.a r))]] =
 cond (!(Rd.ends r))
 (cond (rowsOK (Rd.l r))
 (some (.pv (.agg [.int .i64 (Rd.e (Rd.form r)), .int .i64 (Rd.a (Rd.form r))]), [.cells [.pv (.sl 3 (Rd.l (Rd.form r))), .pv (.int .i64 (Rd.en (Rd.form r))), .pv (.int .i64 (Rd.e (Rd.form r))), .pv (.int .i64 (Rd.a (Rd.form r)))]]))
 (none))
 (some (.pv (.agg [.int .i64 (Rd.e r), .int .i64 (Rd.a r)]), [.cells [.pv (.sl 3 (Rd.l r)), .pv (.int .i64 (Rd.en r)), .pv (.int .i64 (Rd.e r)), .pv (.int .i64 (Rd.a r))]])) := by kernel_rfl


noncomputable def C_ParseType : Caller := ev K_ParseType 1
theorem run_ParseType (N : Nat) (s : ByteArray) : runF C_ParseType N A_lit_ParseType [.pv (.str s)] [] =
 cond (plainP s)
 (cond (rowsOK (lexP s))
 (cond (rowsOK (Rd.l (Prod.fst (typS 4 (Rd.mk (lexP s) ((ByteArray.size s : Nat) : Int) 0 0)))))
 (cond ((Rd.e (Rd.whole (Prod.fst (typS 4 (Rd.mk (lexP s) ((ByteArray.size s : Nat) : Int) 0 0))))) != 0)
 (some (.pv (.tup [.agg [.str (ba []), .str (ba [])], .agg [.int .i64 (Rd.e (Rd.whole (Prod.fst (typS 4 (Rd.mk (lexP s) ((ByteArray.size s : Nat) : Int) 0 0))))), .int .i64 (Rd.a (Rd.whole (Prod.fst (typS 4 (Rd.mk (lexP s) ((ByteArray.size s : Nat) : Int) 0 0)))))]]), []))
 (some (.pv (.tup [.agg [.str (cond (typeE (Rd.mk (lexP s) ((ByteArray.size s : Nat) : Int) 0 0)) (ba []) (Prod.fst (Prod.snd (typS 4 (Rd.mk (lexP s) ((ByteArray.size s : Nat) : Int) 0 0))))), .str (cond (typeE (Rd.mk (lexP s) ((ByteArray.size s : Nat) : Int) 0 0)) (ba []) (Prod.snd (Prod.snd (typS 4 (Rd.mk (lexP s) ((ByteArray.size s : Nat) : Int) 0 0)))))], .agg [.int .i64 0, .int .i64 0]]), [])))
 (none))
 (none))
 (none) := by kernel_rfl


noncomputable def C_refLetter : Caller := ev tab0 1
theorem run_refLetter (N : Nat) (c : Int) : runF C_refLetter N A_cascaderef01_Letter [.pv (.int .u8 c)] [] =
 cond (decide (c ≥ 97))
 (cond (decide (c ≤ 122))
 (some (.pv (.bool true), []))
 (cond (decide (c ≥ 65))
 (cond (decide (c ≤ 90))
 (some (.pv (.bool true), []))
 (some (.pv (.bool (c == 95)), [])))
 (some (.pv (.bool (c == 95)), []))))
 (cond (decide (c ≥ 65))
 (cond (decide (c ≤ 90))
 (some (.pv (.bool true), []))
 (some (.pv (.bool (c == 95)), [])))
 (some (.pv (.bool (c == 95)), []))) := by kernel_rfl


noncomputable def C_refDigit : Caller := ev tab0 1
theorem run_refDigit (N : Nat) (c : Int) : runF C_refDigit N A_cascaderef01_Digit [.pv (.int .u8 c)] [] =
 cond (decide (c ≥ 48))
 (some (.pv (.bool (decide (c ≤ 57))), []))
 (some (.pv (.bool false), [])) := by kernel_rfl


noncomputable def C_refName : Caller := ev K_refName 1
noncomputable def L0_refName (N u : Nat) (s : ByteArray) (i1 : Int) : Option (AV × List AObj) := loopL C_refName N A_cascaderef01_Name 0 (some [0, 3]) 0 A_cascaderef01_Name.body.r.l.r.l.l [.block 0, .seq A_cascaderef01_Name.body.r.r] u [.pv (.str s), .any, .any, .pv (.int .i64 i1), .any, .any, .any, .any, .any, .any, .any, .any, .any, .any, .any, .any, .any, .any, .any, .any, .any, .any, .any, .any, .any, .any, .any, .any, .any] []
theorem L0_refName_eq (N u : Nat) (s : ByteArray) (i1 : Int) : L0_refName N (u + 1)  s i1 =
 cond (decide (i1 < ((ByteArray.size s : Nat) : Int)))
 (cond ((decide (0 ≤ i1)) && (decide (i1 < ((ByteArray.size s : Nat) : Int))))
 (cond (!(letterS (byteAt s i1)))
 (cond (i1 == 0)
 (some (.pv (.bool false), []))
 (cond ((decide (0 ≤ i1)) && (decide (i1 < ((ByteArray.size s : Nat) : Int))))
 (cond (!(digitS (byteAt s i1)))
 (some (.pv (.bool false), []))
 (L0_refName N u s (IntKind.wrap .i64 (i1 + 1))))
 (none)))
 (L0_refName N u s (IntKind.wrap .i64 (i1 + 1))))
 (none))
 (some (.pv (.bool (decide (((ByteArray.size s : Nat) : Int) > 0))), [])) := by kernel_rfl
theorem run_refName (N : Nat) (s : ByteArray) : runF C_refName N A_cascaderef01_Name [.pv (.str s)] [] =
 L0_refName N N s 0 := by kernel_rfl


noncomputable def C_refRight : Caller := ev K_refRight 1
noncomputable def L0_refRight (N u : Nat) (n : ByteArray) (w : ByteArray) (i2 : Int) (i3 : Int) : Option (AV × List AObj) := loopL C_refRight N A_cascaderef09_RightType 0 (some [1, 3, 4]) 1 A_cascaderef09_RightType.body.r.r.l.r.l.l [.block 0, .seq A_cascaderef09_RightType.body.r.r.r] u [.any, .ptr 0 0, .any, .pv (.int .i64 i2), .pv (.int .i64 i3), .any, .any, .any, .any, .any, .any, .any, .any, .any, .any, .any, .any, .any, .any, .any, .any, .any, .any, .any, .any, .any, .any, .any, .any, .any, .any, .any, .any, .any, .any, .any, .any, .any, .any, .any, .any, .any, .any, .any, .any, .any, .any, .any, .any, .any] [.cells [.pv (.str n), .pv (.str w)]]
theorem L0_refRight_eq (N u : Nat) (n : ByteArray) (w : ByteArray) (i2 : Int) (i3 : Int) : L0_refRight N (u + 1)  n w i2 i3 =
 cond (decide (i3 < ((ByteArray.size w : Nat) : Int)))
 (cond ((decide (0 ≤ i3)) && (decide (i3 < ((ByteArray.size w : Nat) : Int))))
 (cond ((byteAt w i3) != 33)
 (cond ((byteAt w i3) != 91)
 (some (.pv (.bool false), []))
 (cond ((byteAt w i3) == 33)
 (cond (decide (i3 > 0))
 (cond ((decide (0 ≤ (IntKind.wrap .i64 (i3 - 1)))) && (decide ((IntKind.wrap .i64 (i3 - 1)) < ((ByteArray.size w : Nat) : Int))))
 (cond ((byteAt w (IntKind.wrap .i64 (i3 - 1))) == 33)
 (some (.pv (.bool false), []))
 (cond ((byteAt w i3) == 91)
 (L0_refRight N u n w (IntKind.wrap .i64 (i2 + 1)) (IntKind.wrap .i64 (i3 + 1)))
 (L0_refRight N u n w i2 (IntKind.wrap .i64 (i3 + 1)))))
 (none))
 (cond ((byteAt w i3) == 91)
 (L0_refRight N u n w (IntKind.wrap .i64 (i2 + 1)) (IntKind.wrap .i64 (i3 + 1)))
 (L0_refRight N u n w i2 (IntKind.wrap .i64 (i3 + 1)))))
 (cond ((byteAt w i3) == 91)
 (L0_refRight N u n w (IntKind.wrap .i64 (i2 + 1)) (IntKind.wrap .i64 (i3 + 1)))
 (L0_refRight N u n w i2 (IntKind.wrap .i64 (i3 + 1))))))
 (cond ((byteAt w i3) == 33)
 (cond (decide (i3 > 0))
 (cond ((decide (0 ≤ (IntKind.wrap .i64 (i3 - 1)))) && (decide ((IntKind.wrap .i64 (i3 - 1)) < ((ByteArray.size w : Nat) : Int))))
 (cond ((byteAt w (IntKind.wrap .i64 (i3 - 1))) == 33)
 (some (.pv (.bool false), []))
 (cond ((byteAt w i3) == 91)
 (L0_refRight N u n w (IntKind.wrap .i64 (i2 + 1)) (IntKind.wrap .i64 (i3 + 1)))
 (L0_refRight N u n w i2 (IntKind.wrap .i64 (i3 + 1)))))
 (none))
 (cond ((byteAt w i3) == 91)
 (L0_refRight N u n w (IntKind.wrap .i64 (i2 + 1)) (IntKind.wrap .i64 (i3 + 1)))
 (L0_refRight N u n w i2 (IntKind.wrap .i64 (i3 + 1)))))
 (cond ((byteAt w i3) == 91)
 (L0_refRight N u n w (IntKind.wrap .i64 (i2 + 1)) (IntKind.wrap .i64 (i3 + 1)))
 (L0_refRight N u n w i2 (IntKind.wrap .i64 (i3 + 1))))))
 (none))
 (cond (decide (i2 ≤ 4))
 (cond (okS n)
 (some (.pv (.bool (nameT n)), []))
 (none))
 (some (.pv (.bool false), []))) := by kernel_rfl
theorem run_refRight (N : Nat) (n : ByteArray) (w : ByteArray) : runF C_refRight N A_cascaderef09_RightType [.pv (.agg [.str n, .str w])] [] =
 L0_refRight N N n w 0 0 := by kernel_rfl


noncomputable def C_refShow : Caller := ev tab0 1
noncomputable def L0_refShow (N u : Nat) (n : ByteArray) (w : ByteArray) (s2 : ByteArray) (i3 : Int) : Option (AV × List AObj) := loopL C_refShow N A_cascaderef09_ShowType 0 (some [1, 3, 4]) 1 A_cascaderef09_ShowType.body.r.r.l.r.l.l [.block 0, .seq A_cascaderef09_ShowType.body.r.r.r] u [.any, .ptr 0 0, .any, .pv (.str s2), .pv (.int .i64 i3), .any, .any, .any, .any, .any, .any, .any, .any, .any, .any, .any, .any, .any, .any, .any, .any, .any, .any, .any, .any] [.cells [.pv (.str n), .pv (.str w)]]
theorem L0_refShow_eq (N u : Nat) (n : ByteArray) (w : ByteArray) (s2 : ByteArray) (i3 : Int) : L0_refShow N (u + 1)  n w s2 i3 =
 cond (decide (i3 < ((ByteArray.size w : Nat) : Int)))
 (cond ((decide (0 ≤ i3)) && (decide (i3 < ((ByteArray.size w : Nat) : Int))))
 (cond ((byteAt w i3) == 33)
 (cond (Nat.ble ((ByteArray.size s2) + 1) 9223372036854775807)
 (L0_refShow N u n w (s2 ++ (ba [33])) (IntKind.wrap .i64 (i3 + 1)))
 (none))
 (cond (Nat.ble (1 + (ByteArray.size s2)) 9223372036854775807)
 (cond (Nat.ble ((ByteArray.size ((ba [91]) ++ s2)) + 1) 9223372036854775807)
 (L0_refShow N u n w (((ba [91]) ++ s2) ++ (ba [93])) (IntKind.wrap .i64 (i3 + 1)))
 (none))
 (none)))
 (none))
 (some (.pv (.str s2), [])) := by kernel_rfl
theorem run_refShow (N : Nat) (n : ByteArray) (w : ByteArray) : runF C_refShow N A_cascaderef09_ShowType [.pv (.agg [.str n, .str w])] [] =
 L0_refShow N N n w n 0 := by kernel_rfl


noncomputable def C_awakeT : Caller := ev K_awakeT 1
theorem run_awakeT (N : Nat)  : runF C_awakeT N A_cascadelaw09_awake [] [] =
 some (.pv (.bool true), []) := by kernel_rfl


noncomputable def C_LitTypes : Caller := ev K_LitTypes 1
theorem run_LitTypes (N : Nat) (n : ByteArray) (w : ByteArray) : runF C_LitTypes N A_cascadelaw09_LitTypes [.pv (.agg [.str n, .str w])] [] =
 cond (decide (((ByteArray.size n : Nat) : Int) > 100))
 (some (.pv (.bool true), []))
 (cond (decide (((ByteArray.size w : Nat) : Int) > 100))
 (some (.pv (.bool true), []))
 (cond ((okS n) && (okS w))
 (cond (smallT n w)
 (cond ((okS n) && (okS w))
 (cond (!((rightT n w) == (rightT n w)))
 (some (.pv (.bool false), []))
 (cond (!(rightT n w))
 (cond ((cond (rightT n w) 0 1 : Int) == 1)
 (some (.pv (.bool ((ByteArray.toList (cond (rightT n w) (showT n w) (ba []))) == (ByteArray.toList (ba [])))), []))
 (some (.pv (.bool false), [])))
 (cond ((plainP (cond (rightT n w) (showT n w) (ba []))) && (rowsOK (lexP (cond (rightT n w) (showT n w) (ba [])))))
 (cond ((cond (rightT n w) 0 1 : Int) == 0)
 (cond ((smallT n w) && (rightT n w))
 (cond ((ByteArray.toList (cond (rightT n w) (showT n w) (ba []))) == (ByteArray.toList (showT n w)))
 (cond (((cond (ptE (cond (rightT n w) (showT n w) (ba []))) (Rd.e (ptQ (cond (rightT n w) (showT n w) (ba [])))) 0) == 0) && (((cond (ptE (cond (rightT n w) (showT n w) (ba []))) (Rd.a (ptQ (cond (rightT n w) (showT n w) (ba [])))) 0) == 0) && true))
 (some (.pv (.bool ((n == (cond (ptE (cond (rightT n w) (showT n w) (ba []))) (ba []) (cond (typeE (ptR (cond (rightT n w) (showT n w) (ba [])))) (ba []) (Prod.fst (Prod.snd (typS 4 (ptR (cond (rightT n w) (showT n w) (ba []))))))))) && ((w == (cond (ptE (cond (rightT n w) (showT n w) (ba []))) (ba []) (cond (typeE (ptR (cond (rightT n w) (showT n w) (ba [])))) (ba []) (Prod.snd (Prod.snd (typS 4 (ptR (cond (rightT n w) (showT n w) (ba []))))))))) && true))), []))
 (some (.pv (.bool false), [])))
 (some (.pv (.bool false), [])))
 (none))
 (some (.pv (.bool false), [])))
 (none))))
 (none))
 (none))
 (none))) := by kernel_rfl


end Go.W
