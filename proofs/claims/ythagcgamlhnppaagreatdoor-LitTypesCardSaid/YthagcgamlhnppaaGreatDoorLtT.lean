/- Tables for types. -/
import Derived.Test.YthagcgamlhnppaaGreatDoorLxT
import Derived.Test.YthagcgamlhnppaaGreatDoorLtS
set_option linter.unusedVariables false
set_option linter.unusedSimpArgs false
namespace Go.W
open Go Go.Cx
noncomputable def K_NameT : FuncId → Option Ent := tabT tab0 f_text_letter T_letterR
noncomputable def K_RightType : FuncId → Option Ent := tabT tab0 f_text_Name T_NameT
noncomputable def K_ShowType : FuncId → Option Ent := tabT tab0 f_lit_RightType T_RightType
noncomputable def K_NewReader : FuncId → Option Ent := tabT tab0 f_token_Lex T_LexP
noncomputable def K_Type : FuncId → Option Ent := tabT tab0 f_lit_Reader_typ (T_typ 5)
noncomputable def K_whole : FuncId → Option Ent := tabT (tabT tab0 f_lit_Reader_End T_End) f_lit_Reader_form T_form
noncomputable def K_ParseType : FuncId → Option Ent := tabT (tabT (tabT tab0 f_lit_NewReader T_NewReader) f_lit_Reader_Type T_Type) f_lit_Reader_whole T_whole
noncomputable def K_refName : FuncId → Option Ent := tabT (tabT tab0 f_cascaderef01_Letter T_letter) f_cascaderef01_Digit T_digit
noncomputable def K_refRight : FuncId → Option Ent := tabT tab0 f_cascaderef01_Name T_NameT
noncomputable def K_awakeT : FuncId → Option Ent := tabT tab0 f_lit_ParseType T_ParseType
noncomputable def K_LitTypes : FuncId → Option Ent := tabT (tabT (tabT (tabT (tabT (tabT tab0 f_cascadelaw09_awake T_true) f_cascaderef09_RightType T_RightType) f_lit_ShowType T_ShowType) f_lit_RightType T_RightType) f_lit_ParseType T_ParseType) f_cascaderef09_ShowType T_refShow
end Go.W
