/- Equations of the evaluations, by program. -/
import Derived.Test.YtjaeanhgcijfoaaGreatDoorLxT
import Derived.KernelRfl
set_option linter.unusedSimpArgs false
set_option maxRecDepth 100000
set_option linter.unusedVariables false
namespace Go.W
open Go Go.Cx
noncomputable def C_letter : Caller := ev tab0 1
theorem run_letter (N : Nat) (c : Int) : runF C_letter N A_token_letter [.pv (.int .u8 c)] [] =
 cond (decide (c ≥ 97))
 (cond (decide (c ≤ 122))
 (some (.pv (.bool true), []))
 (cond (decide (c ≥ 65))
 (cond (decide (c ≤ 90))
 (some (.pv (.bool true), []))
 (some (.pv (.bool (c == 95)), [])))
 (some (.pv (.bool (c == 95)), []))))
 (cond (decide (c ≥ 65))
 (cond (decide (c ≤ 90))
 (some (.pv (.bool true), []))
 (some (.pv (.bool (c == 95)), [])))
 (some (.pv (.bool (c == 95)), []))) := by kernel_rfl


noncomputable def C_digit : Caller := ev tab0 1
theorem run_digit (N : Nat) (c : Int) : runF C_digit N A_token_digit [.pv (.int .u8 c)] [] =
 cond (decide (c ≥ 48))
 (some (.pv (.bool (decide (c ≤ 57))), []))
 (some (.pv (.bool false), [])) := by kernel_rfl


noncomputable def C_next_1 : Caller := ev K_nm 1
theorem run_next_1 (N : Nat) (c : Int) : runF C_next_1 N A_token_lexer_next_1 [.pv (.int .u8 c)] [] =
 cond (letterS c)
 (some (.pv (.bool true), []))
 (some (.pv (.bool (digitS c)), [])) := by kernel_rfl


noncomputable def C_skip_1 : Caller := ev tab0 1
theorem run_skip_1 (N : Nat) (c : Int) : runF C_skip_1 N A_token_lexer_skip_1 [.pv (.int .u8 c)] [] =
 cond (c != 10)
 (some (.pv (.bool (c != 13)), []))
 (some (.pv (.bool false), [])) := by kernel_rfl


noncomputable def C_while_nm : Caller := ev K_while 3
noncomputable def L0_while_nm (N u : Nat) (s : ByteArray) (a : Int) (e : Int) (fa : Int) (l : List (List PV)) (i6 : Int) : Option (AV × List AObj) := loopL C_while_nm N A_token_lexer_while 1 (some [0, 1, 2]) 1 A_token_lexer_while.body.r.l.l.l [.block 0, .seq A_token_lexer_while.body.r.r] u [.ptr 0 0, .pv (.int .i64 i6), .fn f_token_lexer_next_1 [] [], .any, .any, .any, .any, .any, .any, .any, .any, .any, .any, .any, .any, .any, .any, .any, .any, .any, .any, .any, .any, .any, .any, .any, .any] [.cells [.pv (.str s), .pv (.int .i64 a), .own 3 l, .pv (.int .i64 e), .pv (.int .i64 fa)]]
theorem L0_while_nm_eq (N u : Nat) (s : ByteArray) (a : Int) (e : Int) (fa : Int) (l : List (List PV)) (i6 : Int) : L0_while_nm N (u + 1)  s a e fa l i6 =
 cond (decide (i6 < ((ByteArray.size s : Nat) : Int)))
 (cond ((decide (0 ≤ i6)) && (decide (i6 < ((ByteArray.size s : Nat) : Int))))
 (cond ((letterS (byteAt s i6)) || (digitS (byteAt s i6)))
 (L0_while_nm N u s a e fa l (IntKind.wrap .i64 (i6 + 1)))
 (some (.pv (.int .i64 i6), [.cells [.pv (.str s), .pv (.int .i64 a), .own 3 l, .pv (.int .i64 e), .pv (.int .i64 fa)]])))
 (none))
 (some (.pv (.int .i64 i6), [.cells [.pv (.str s), .pv (.int .i64 a), .own 3 l, .pv (.int .i64 e), .pv (.int .i64 fa)]])) := by kernel_rfl
theorem run_while_nm (N : Nat) (i : Int) (s : ByteArray) (a : Int) (e : Int) (fa : Int) (l : List (List PV)) : runF C_while_nm N A_token_lexer_while [.ptr 0 0, .pv (.int .i64 i), .fn f_token_lexer_next_1 [] []] [.cells [.pv (.str s), .pv (.int .i64 a), .own 3 l, .pv (.int .i64 e), .pv (.int .i64 fa)]] =
 L0_while_nm N N s a e fa l i := by kernel_rfl


noncomputable def C_while_sk : Caller := ev K_while 3
noncomputable def L0_while_sk (N u : Nat) (s : ByteArray) (a : Int) (e : Int) (fa : Int) (l : List (List PV)) (i6 : Int) : Option (AV × List AObj) := loopL C_while_sk N A_token_lexer_while 1 (some [0, 1, 2]) 1 A_token_lexer_while.body.r.l.l.l [.block 0, .seq A_token_lexer_while.body.r.r] u [.ptr 0 0, .pv (.int .i64 i6), .fn f_token_lexer_skip_1 [] [], .any, .any, .any, .any, .any, .any, .any, .any, .any, .any, .any, .any, .any, .any, .any, .any, .any, .any, .any, .any, .any, .any, .any, .any] [.cells [.pv (.str s), .pv (.int .i64 a), .own 3 l, .pv (.int .i64 e), .pv (.int .i64 fa)]]
theorem L0_while_sk_eq (N u : Nat) (s : ByteArray) (a : Int) (e : Int) (fa : Int) (l : List (List PV)) (i6 : Int) : L0_while_sk N (u + 1)  s a e fa l i6 =
 cond (decide (i6 < ((ByteArray.size s : Nat) : Int)))
 (cond ((decide (0 ≤ i6)) && (decide (i6 < ((ByteArray.size s : Nat) : Int))))
 (cond (((byteAt s i6) != 10) && ((byteAt s i6) != 13))
 (L0_while_sk N u s a e fa l (IntKind.wrap .i64 (i6 + 1)))
 (some (.pv (.int .i64 i6), [.cells [.pv (.str s), .pv (.int .i64 a), .own 3 l, .pv (.int .i64 e), .pv (.int .i64 fa)]])))
 (none))
 (some (.pv (.int .i64 i6), [.cells [.pv (.str s), .pv (.int .i64 a), .own 3 l, .pv (.int .i64 e), .pv (.int .i64 fa)]])) := by kernel_rfl
theorem run_while_sk (N : Nat) (i : Int) (s : ByteArray) (a : Int) (e : Int) (fa : Int) (l : List (List PV)) : runF C_while_sk N A_token_lexer_while [.ptr 0 0, .pv (.int .i64 i), .fn f_token_lexer_skip_1 [] []] [.cells [.pv (.str s), .pv (.int .i64 a), .own 3 l, .pv (.int .i64 e), .pv (.int .i64 fa)]] =
 L0_while_sk N N s a e fa l i := by kernel_rfl


noncomputable def C_while_dg : Caller := ev K_while 3
noncomputable def L0_while_dg (N u : Nat) (s : ByteArray) (a : Int) (e : Int) (fa : Int) (l : List (List PV)) (i6 : Int) : Option (AV × List AObj) := loopL C_while_dg N A_token_lexer_while 1 (some [0, 1, 2]) 1 A_token_lexer_while.body.r.l.l.l [.block 0, .seq A_token_lexer_while.body.r.r] u [.ptr 0 0, .pv (.int .i64 i6), .fn f_token_digit [] [], .any, .any, .any, .any, .any, .any, .any, .any, .any, .any, .any, .any, .any, .any, .any, .any, .any, .any, .any, .any, .any, .any, .any, .any] [.cells [.pv (.str s), .pv (.int .i64 a), .own 3 l, .pv (.int .i64 e), .pv (.int .i64 fa)]]
theorem L0_while_dg_eq (N u : Nat) (s : ByteArray) (a : Int) (e : Int) (fa : Int) (l : List (List PV)) (i6 : Int) : L0_while_dg N (u + 1)  s a e fa l i6 =
 cond (decide (i6 < ((ByteArray.size s : Nat) : Int)))
 (cond ((decide (0 ≤ i6)) && (decide (i6 < ((ByteArray.size s : Nat) : Int))))
 (cond (digitS (byteAt s i6))
 (L0_while_dg N u s a e fa l (IntKind.wrap .i64 (i6 + 1)))
 (some (.pv (.int .i64 i6), [.cells [.pv (.str s), .pv (.int .i64 a), .own 3 l, .pv (.int .i64 e), .pv (.int .i64 fa)]])))
 (none))
 (some (.pv (.int .i64 i6), [.cells [.pv (.str s), .pv (.int .i64 a), .own 3 l, .pv (.int .i64 e), .pv (.int .i64 fa)]])) := by kernel_rfl
theorem run_while_dg (N : Nat) (i : Int) (s : ByteArray) (a : Int) (e : Int) (fa : Int) (l : List (List PV)) : runF C_while_dg N A_token_lexer_while [.ptr 0 0, .pv (.int .i64 i), .fn f_token_digit [] []] [.cells [.pv (.str s), .pv (.int .i64 a), .own 3 l, .pv (.int .i64 e), .pv (.int .i64 fa)]] =
 L0_while_dg N N s a e fa l i := by kernel_rfl


noncomputable def C_fail : Caller := ev tab0 1
theorem run_fail (N : Nat) (i : Int) (er : Int) (s : ByteArray) (a : Int) (e : Int) (fa : Int) (l : List (List PV)) : runF C_fail N A_token_lexer_fail [.ptr 0 0, .pv (.int .i64 i), .pv (.int .i64 er)] [.cells [.pv (.str s), .pv (.int .i64 a), .own 3 l, .pv (.int .i64 e), .pv (.int .i64 fa)]] =
 cond (e == 0)
 (some (.pv (.tup []), [.cells [.pv (.str s), .pv (.int .i64 a), .own 3 l, .pv (.int .i64 er), .pv (.int .i64 i)]]))
 (some (.pv (.tup []), [.cells [.pv (.str s), .pv (.int .i64 a), .own 3 l, .pv (.int .i64 e), .pv (.int .i64 fa)]])) := by kernel_rfl


noncomputable def C_skip : Caller := ev K_skip 1
noncomputable def L0_skip (N u : Nat) (s : ByteArray) (e : Int) (fa : Int) (l : List (List PV)) (i5 : Int) : Option (AV × List AObj) := loopL C_skip N A_token_lexer_skip 1 (some [0]) 1 A_token_lexer_skip.body.l.l [.block 0] u [.ptr 0 0, .any, .any, .any, .any, .any, .any, .any, .any, .any, .any, .any, .any, .any, .any, .any, .any, .any, .any, .any, .any, .any, .any, .any, .any, .any, .any, .any, .any, .any, .any, .any, .any, .any, .any, .any, .any, .any, .any, .any, .any, .any, .any, .any, .any] [.cells [.pv (.str s), .pv (.int .i64 i5), .own 3 l, .pv (.int .i64 e), .pv (.int .i64 fa)]]
theorem L0_skip_eq (N u : Nat) (s : ByteArray) (e : Int) (fa : Int) (l : List (List PV)) (i5 : Int) : L0_skip N (u + 1)  s e fa l i5 =
 cond (decide (i5 < ((ByteArray.size s : Nat) : Int)))
 (cond ((decide (0 ≤ i5)) && (decide (i5 < ((ByteArray.size s : Nat) : Int))))
 (cond (decide ((Lib.indexByte (Array.toList (ByteArray.data (ba [32, 9, 10, 13, 44]))) (Nat.toUInt8 (Int.toNat (byteAt s i5)))) ≥ 0))
 (L0_skip N u s e fa l (IntKind.wrap .i64 (i5 + 1)))
 (cond ((byteAt s i5) == 35)
 (cond (okP s i5)
 (L0_skip N u s e fa l (whileS rowS s i5))
 (none))
 (some (.pv (.tup []), [.cells [.pv (.str s), .pv (.int .i64 i5), .own 3 l, .pv (.int .i64 e), .pv (.int .i64 fa)]]))))
 (none))
 (some (.pv (.tup []), [.cells [.pv (.str s), .pv (.int .i64 i5), .own 3 l, .pv (.int .i64 e), .pv (.int .i64 fa)]])) := by kernel_rfl
theorem run_skip (N : Nat) (s : ByteArray) (a : Int) (e : Int) (fa : Int) (l : List (List PV)) : runF C_skip N A_token_lexer_skip [.ptr 0 0] [.cells [.pv (.str s), .pv (.int .i64 a), .own 3 l, .pv (.int .i64 e), .pv (.int .i64 fa)]] =
 L0_skip N N s e fa l a := by kernel_rfl


noncomputable def C_HasPrefix0 : Caller := ev tab0 1
theorem run_HasPrefix0 (N : Nat) (s : ByteArray) (p : ByteArray) : runF C_HasPrefix0 N A_stringslite_HasPrefix [.pv (.str s), .pv (.str p)] [] =
 cond (decide (((ByteArray.size s : Nat) : Int) ≥ ((ByteArray.size p : Nat) : Int)))
 (cond (decide (((ByteArray.size p : Nat) : Int) ≤ ((ByteArray.size s : Nat) : Int)))
 (some (.pv (.bool ((ByteArray.toList (ByteArray.extract s 0 (Int.toNat ((ByteArray.size p : Nat) : Int)))) == (ByteArray.toList p))), []))
 (none))
 (some (.pv (.bool false), [])) := by kernel_rfl


noncomputable def C_HasPrefix : Caller := ev K_hp 1
theorem run_HasPrefix (N : Nat) (s : ByteArray) (p : ByteArray) : runF C_HasPrefix N A_strings_HasPrefix [.pv (.str s), .pv (.str p)] [] =
 some (.pv (.bool (hasPre s p)), []) := by kernel_rfl


noncomputable def C_take : Caller := ev tab0 1
theorem run_take (N : Nat) (k : Int) (en : Int) (t : ByteArray) (s : ByteArray) (a : Int) (e : Int) (fa : Int) (l : List (List PV)) : runF C_take N A_token_lexer_take [.ptr 0 0, .pv (.int .i64 k), .pv (.str t), .pv (.int .i64 en)] [.cells [.pv (.str s), .pv (.int .i64 a), .own 3 l, .pv (.int .i64 e), .pv (.int .i64 fa)]] =
 cond (Nat.ble (((List.length l) + 1) * 32) 140737488355328)
 (some (.pv (.tup []), [.cells [.pv (.str s), .pv (.int .i64 en), .own 3 (l ++ [[.int .i64 k, .str t, .int .i64 a]]), .pv (.int .i64 e), .pv (.int .i64 fa)]]))
 (none) := by kernel_rfl


noncomputable def C_next : Caller := ev K_next' 3
theorem run_next (N : Nat) (s : ByteArray) (a : Int) (e : Int) (fa : Int) (l : List (List PV)) : runF C_next N A_token_lexer_next [.ptr 0 0] [.cells [.pv (.str s), .pv (.int .i64 a), .own 3 l, .pv (.int .i64 e), .pv (.int .i64 fa)]] =
 cond (((decide (0 ≤ a)) && (decide (a ≤ ((ByteArray.size s : Nat) : Int)))) && (decide (((ByteArray.size s : Nat) : Int) ≤ ((ByteArray.size s : Nat) : Int))))
 (cond (decide (0 < ((ByteArray.size (ByteArray.extract s (Int.toNat a) (Int.toNat ((ByteArray.size s : Nat) : Int))) : Nat) : Int)))
 (cond (((List.length l : Nat) : Int) == 900)
 (some (.pv (.tup []), [.cells [.pv (.str s), .pv (.int .i64 a), .own 3 l, .pv (.int .i64 (cond (e == 0) 6 e)), .pv (.int .i64 (cond (e == 0) a fa))]]))
 (cond (decide ((Lib.indexByte (Array.toList (ByteArray.data (ba [33, 36, 38, 40, 41, 58, 61, 64, 91, 93, 123, 124, 125]))) (Nat.toUInt8 (Int.toNat (byteAt (ByteArray.extract s (Int.toNat a) (Int.toNat ((ByteArray.size s : Nat) : Int))) 0)))) ≥ 0))
 (cond (decide (1 ≤ ((ByteArray.size (ByteArray.extract s (Int.toNat a) (Int.toNat ((ByteArray.size s : Nat) : Int))) : Nat) : Int)))
 (cond (decide ((List.length l) < 100000))
 (some (.pv (.tup []), [.cells [.pv (.str s), .pv (.int .i64 (IntKind.wrap .i64 (a + 1))), .own 3 (l ++ [[.int .i64 1, .str (ByteArray.extract (ByteArray.extract s (Int.toNat a) (Int.toNat ((ByteArray.size s : Nat) : Int))) 0 1), .int .i64 a]]), .pv (.int .i64 e), .pv (.int .i64 fa)]]))
 (none))
 (none))
 (cond (hasPre (ByteArray.extract s (Int.toNat a) (Int.toNat ((ByteArray.size s : Nat) : Int))) (ba [46, 46, 46]))
 (cond (decide ((List.length l) < 100000))
 (some (.pv (.tup []), [.cells [.pv (.str s), .pv (.int .i64 (IntKind.wrap .i64 (a + 3))), .own 3 (l ++ [[.int .i64 1, .str (ba [46, 46, 46]), .int .i64 a]]), .pv (.int .i64 e), .pv (.int .i64 fa)]]))
 (none))
 (cond (letterS (byteAt (ByteArray.extract s (Int.toNat a) (Int.toNat ((ByteArray.size s : Nat) : Int))) 0))
 (cond (okP s a)
 (cond (((decide (0 ≤ a)) && (decide (a ≤ (whileS nmS s a)))) && (decide ((whileS nmS s a) ≤ ((ByteArray.size s : Nat) : Int))))
 (cond (decide ((List.length l) < 100000))
 (some (.pv (.tup []), [.cells [.pv (.str s), .pv (.int .i64 (whileS nmS s a)), .own 3 (l ++ [[.int .i64 2, .str (ByteArray.extract s (Int.toNat a) (Int.toNat (whileS nmS s a))), .int .i64 a]]), .pv (.int .i64 e), .pv (.int .i64 fa)]]))
 (none))
 (none))
 (none))
 (cond (digitS (byteAt (ByteArray.extract s (Int.toNat a) (Int.toNat ((ByteArray.size s : Nat) : Int))) 0))
 (none)
 (cond ((byteAt (ByteArray.extract s (Int.toNat a) (Int.toNat ((ByteArray.size s : Nat) : Int))) 0) == 45)
 (none)
 (cond (hasPre (ByteArray.extract s (Int.toNat a) (Int.toNat ((ByteArray.size s : Nat) : Int))) (ba [34, 34, 34]))
 (none)
 (cond ((byteAt (ByteArray.extract s (Int.toNat a) (Int.toNat ((ByteArray.size s : Nat) : Int))) 0) == 34)
 (none)
 (some (.pv (.tup []), [.cells [.pv (.str s), .pv (.int .i64 a), .own 3 l, .pv (.int .i64 (cond (e == 0) 3 e)), .pv (.int .i64 (cond (e == 0) a fa))]]))))))))))
 (none))
 (none) := by kernel_rfl


noncomputable def C_text_BadA : Caller := ev tab0 1
noncomputable def L0_text_BadA (N u : Nat) (s : ByteArray) (m1 : Nat) : Option (AV × List AObj) := loopL C_text_BadA N A_text_Bad 0 (some [0, 8]) 1 A_text_Bad.body.r.l.r.l.l [.block 0, .seq A_text_Bad.body.r.r] u [.pv (.str s), .any, .any, .any, .any, .any, .any, .any, .ptr 0 0, .any, .any, .any, .any, .any, .any, .any, .any, .any, .any, .any, .any, .any, .any, .any, .any] [.iter s m1]
theorem L0_text_BadA_eq (N u : Nat) (s : ByteArray) (m1 : Nat) : L0_text_BadA N (u + 1)  s m1 =
 cond (Nat.blt m1 (ByteArray.size s))
 (cond (((Prod.fst (Utf8.decode s m1) : Nat) : Int) != 65533)
 (L0_text_BadA N u s (m1 + (Prod.snd (Utf8.decode s m1))))
 (cond ((decide (((m1 : Nat) : Int) ≤ ((ByteArray.size s : Nat) : Int))) && (decide (((ByteArray.size s : Nat) : Int) ≤ ((ByteArray.size s : Nat) : Int))))
 (none)
 (none)))
 (some (.pv (.int .i64 (-1)), [])) := by kernel_rfl
theorem run_text_BadA (N : Nat) (s : ByteArray) : runF C_text_BadA N A_text_Bad [.pv (.str s)] [] =
 L0_text_BadA N N s 0 := by kernel_rfl


noncomputable def C_Lex : Caller := ev K_Lex 3
noncomputable def L0_Lex (N u : Nat) (s : ByteArray) (i1 : Int) (x2 : List (List PV)) (i3 : Int) (i4 : Int) : Option (AV × List AObj) := loopL C_Lex N A_token_Lex 0 (some [0, 3, 5]) 2 A_token_Lex.body.r.r.r.r.l.r.l.l [.block 0, .seq A_token_Lex.body.r.r.r.r.r] u [.pv (.str s), .any, .any, .ptr 0 0, .any, .ptr 1 0, .any, .any, .any, .any, .any, .any, .any, .any, .any, .any, .any, .any, .any, .any, .any, .any, .any, .any, .any, .any, .any, .any, .any, .any, .any, .any, .any, .any, .any, .any, .any, .any, .any, .any, .any, .any, .any, .any, .any, .any, .any, .any, .any, .any, .any, .any, .any, .any, .any] [.cells [.pv (.int .i64 0), .pv (.int .i64 0)], .cells [.pv (.str s), .pv (.int .i64 i1), .own 3 x2, .pv (.int .i64 i3), .pv (.int .i64 i4)]]
theorem L0_Lex_eq (N u : Nat) (s : ByteArray) (i1 : Int) (x2 : List (List PV)) (i3 : Int) (i4 : Int) : L0_Lex N (u + 1)  s i1 x2 i3 i4 =
 cond (decide (i1 < ((ByteArray.size s : Nat) : Int)))
 (cond (i3 == 0)
 (cond ((((okP s i1) && (decide (i1 < ((ByteArray.size s : Nat) : Int)))) && (decide ((List.length x2) < 100000))) && ((signS (byteAt s i1)) || (letterS (byteAt s i1))))
 (cond (okP s (cond (decide ((List.length x2) = 900)) i1 (cond (signS (byteAt s i1)) (i1 + 1) (whileS nmS s i1))))
 (L0_Lex N u s (skipS s (cond (decide ((List.length x2) = 900)) i1 (cond (signS (byteAt s i1)) (i1 + 1) (whileS nmS s i1)))) (cond (decide ((List.length x2) = 900)) x2 (cond (signS (byteAt s i1)) (x2 ++ [tokRow 1 (sub s i1 (i1 + 1)) i1]) (x2 ++ [tokRow 2 (sub s i1 (whileS nmS s i1)) i1]))) (cond ((decide ((List.length x2) = 900)) && (i3 == 0)) 6 i3) (cond ((decide ((List.length x2) = 900)) && (i3 == 0)) i1 i4))
 (none))
 (none))
 (cond (i3 != 0)
 (some (.pv (.tup [.sl 3 [], .agg [.int .i64 i3, .int .i64 i4]]), []))
 (some (.pv (.tup [.sl 3 x2, .agg [.int .i64 0, .int .i64 0]]), []))))
 (cond (i3 != 0)
 (some (.pv (.tup [.sl 3 [], .agg [.int .i64 i3, .int .i64 i4]]), []))
 (some (.pv (.tup [.sl 3 x2, .agg [.int .i64 0, .int .i64 0]]), []))) := by kernel_rfl
theorem run_Lex (N : Nat) (s : ByteArray) : runF C_Lex N A_token_Lex [.pv (.str s)] [] =
 cond (decide (((ByteArray.size s : Nat) : Int) > 4000))
 (some (.pv (.tup [.sl 3 [], .agg [.int .i64 6, .int .i64 0]]), []))
 (cond ((asciiS s) && (okS s))
 (cond (okP s 0)
 (L0_Lex N N s (skipS s 0) [] 0 0)
 (none))
 (none)) := by kernel_rfl


end Go.W
