/- Queries of names in one another: tables. -/
import Derived.Test.YtjaeanhgcijfoaaGreatDoorLxT
import Derived.Test.YtjaeanhgcijfoaaGreatDoorLxC
import Derived.Test.YtjaeanhgcijfoaaGreatDoorRdC
set_option linter.unusedSimpArgs false
set_option linter.unusedVariables false
set_option maxRecDepth 100000
namespace Go.W
open Go Go.Cx Go.RowKit
noncomputable def K_rd : FuncId → Option Ent := tabT (tabT (tabT (tabT (tabT (tabT (tabT (tabT (tabT tab0 f_token_Lex T_LexP) f_lit_Reader_End T_End) f_lit_Reader_At T_At) f_lit_Reader_Fail T_Fail) f_lit_Reader_form T_form) f_lit_Reader_Is T_Is) f_lit_Reader_Take T_Take) f_lit_Reader_Must T_Must) f_lit_Reader_Name T_NameR
noncomputable def K_qp : FuncId → Option Ent := tabF (tabF (tabF (tabF (tabF (tabF (tabF (tabF (tabF (tabF K_rd f_lit_NewReader A_lit_NewReader) f_lit_Reader_Fault A_lit_Reader_Fault) f_query_parser_op A_query_parser_op) f_query_parser_sels A_query_parser_sels) f_query_parser_many A_query_parser_many) f_query_parser_sels_1 A_query_parser_sels_1) f_query_parser_sel A_query_parser_sel) f_query_parser_field A_query_parser_field) f_query_parser_args A_query_parser_args) f_query_parser_dirs A_query_parser_dirs
theorem tok_qp : TabOK PP GL 0 K_qp := (((((((((((((((((((TabOK.zero.told ok_LexP).told ok_End).told ok_At).told ok_Fail).told ok_form).told ok_Is).told ok_Take).told ok_Must).told ok_NameR).code tr_lit_NewReader).code tr_lit_Reader_Fault).code tr_query_parser_op).code tr_query_parser_sels).code tr_query_parser_many).code tr_query_parser_sels_1).code tr_query_parser_sel).code tr_query_parser_field).code tr_query_parser_args).code tr_query_parser_dirs)
noncomputable def C_qp : Caller := ev K_qp 80
noncomputable def qpRun (s : ByteArray) : Option (AV × List AObj) := runF C_qp 80 A_query_Parse [.pv (.str s)] []

end Go.W
namespace Go.W
open Go Go.Cx Go.RowKit
def qpFit : Option (AV × List AObj) → Bool
  | some (.pv (.tup [.agg [.sl 5 _, .sl 5 _], .agg [.int .i64 _, .int .i64 _]]), []) => true
  | _ => false
def qpOpsR : Option (AV × List AObj) → List (List PV)
  | some (.pv (.tup [.agg [.sl _ l, _], _]), _) => l
  | _ => []
def qpFrR : Option (AV × List AObj) → List (List PV)
  | some (.pv (.tup [.agg [_, .sl _ l], _]), _) => l
  | _ => []
def qpER : Option (AV × List AObj) → Int
  | some (.pv (.tup [_, .agg [.int _ e, _]]), _) => e
  | _ => 0
def qpAR : Option (AV × List AObj) → Int
  | some (.pv (.tup [_, .agg [_, .int _ e]]), _) => e
  | _ => 0
noncomputable def qpOK (s : ByteArray) : Bool := qpFit (qpRun s)
noncomputable def qpOps (s : ByteArray) : List (List PV) := qpOpsR (qpRun s)
noncomputable def qpFr (s : ByteArray) : List (List PV) := qpFrR (qpRun s)
noncomputable def qpE (s : ByteArray) : Int := qpER (qpRun s)
noncomputable def qpA (s : ByteArray) : Int := qpAR (qpRun s)
noncomputable def T_QP (args : List AV) (objs : List AObj) : Ans := match args, objs with
  | [.pv (.str s)], [] => .val (qpOK s) (.pv (.tup [.agg [.sl 5 (qpOps s), .sl 5 (qpFr s)], .agg [.int .i64 (qpE s), .int .i64 (qpA s)]])) []
  | _, _ => .opt none
theorem qp_eq {s : ByteArray} (h : qpOK s = true) : qpRun s = some (.pv (.tup [.agg [.sl 5 (qpOps s), .sl 5 (qpFr s)], .agg [.int .i64 (qpE s), .int .i64 (qpA s)]]), []) := by
  unfold qpOK at h
  unfold qpOps qpFr qpE qpA
  generalize qpRun s = r at *
  unfold qpFit at h
  split at h
  · rfl
  · cases h
theorem ok_QP : TOK f_query_Parse T_QP := by
  intro args objs r objs' h
  unfold T_QP at h
  split at h
  · rename_i s
    obtain ⟨hk, rfl, rfl⟩ := val_get h
    exact FnM_of_run hst0 tok_qp (k := 80) (N := 80) tr_query_Parse (qp_eq hk)
  · cases h
noncomputable def K_aw : FuncId → Option Ent := tabF K_qp f_query_Parse A_query_Parse
theorem awake_run : runF (ev K_aw 80) 80 A_cascadelaw10_awake [] [] = some (.pv (.bool true), []) := by kernel_rfl
def T_true (args : List AV) (objs : List AObj) : Ans := match args, objs with
  | [], [] => .val true (.pv (.bool true)) []
  | _, _ => .opt none
theorem ok_trueQ : TOK f_cascadelaw10_awake T_true := by
  intro args objs r objs' h
  unfold T_true at h
  split at h
  · obtain ⟨_, rfl, rfl⟩ := val_get h
    exact FnM_of_run hst0 (tok_qp.code tr_query_Parse) (k := 80) (N := 80) tr_cascadelaw10_awake awake_run
  · cases h
noncomputable def K_QD : FuncId → Option Ent := tabT (tabT tab0 f_cascadelaw10_awake T_true) f_query_Parse T_QP
end Go.W
