import Derived.Test.YtjaeanhgcijfoaaGreatDoorXA
import Derived.Test.YtjaeanhgcijfoaaGreatDoorLxS
set_option linter.unusedVariables false
set_option linter.unusedSimpArgs false
/- Tables. -/
namespace Go.W
open Go Go.Cx
noncomputable def K_At : FuncId → Option Ent := tab0
noncomputable def K_form : FuncId → Option Ent := tabT (tabT tab0 f_lit_Reader_At T_At) f_lit_Reader_Fail T_Fail
noncomputable def K_kind : FuncId → Option Ent := tabT tab0 f_lit_Reader_End T_End
noncomputable def K_nextR : FuncId → Option Ent := tabT (tabT tab0 f_lit_Reader_End T_End) f_lit_Reader_form T_form
noncomputable def K_Is : FuncId → Option Ent := tabT tab0 f_lit_Reader_kind T_kind
noncomputable def K_Take : FuncId → Option Ent := tabT (tabT tab0 f_lit_Reader_Is T_Is) f_lit_Reader_next T_nextR
noncomputable def K_Must : FuncId → Option Ent := tabT (tabT tab0 f_lit_Reader_Take T_Take) f_lit_Reader_form T_form
noncomputable def K_NameR : FuncId → Option Ent := tabT (tabT (tabT tab0 f_lit_Reader_kind T_kind) f_lit_Reader_form T_form) f_lit_Reader_next T_nextR
noncomputable def K_typ (m : Nat) : FuncId → Option Ent := tabT (tabT (tabT (tabT (tabT (tabT (tabT tab0 f_lit_Reader_Is T_Is) f_lit_Reader_Take T_Take) f_lit_Reader_Must T_Must) f_lit_Reader_Name T_NameR) f_lit_Reader_At T_At) f_lit_Reader_Fail T_Fail) f_lit_Reader_typ (T_typ m)
end Go.W
namespace Go.W
open Go Go.Cx
noncomputable def K_nm : FuncId → Option Ent := tabT (tabT tab0 f_token_letter T_letter) f_token_digit T_digit
noncomputable def K_while : FuncId → Option Ent := tabT (tabT (tabT tab0 f_token_lexer_next_1 T_next_1) f_token_lexer_skip_1 T_skip_1) f_token_digit T_digit
noncomputable def K_skip : FuncId → Option Ent := tabT (tabT tab0 f_token_lexer_while T_while) f_strings_IndexByte T_IndexByte
noncomputable def K_hp : FuncId → Option Ent := tabT tab0 f_stringslite_HasPrefix T_HasPrefix
noncomputable def K_next' : FuncId → Option Ent := tabT (tabT (tabT (tabT (tabT (tabT (tabT tab0 f_token_lexer_while T_while) f_strings_IndexByte T_IndexByte) f_token_lexer_fail T_fail) f_token_letter T_letter) f_token_digit T_digit) f_token_lexer_take T_take) f_strings_HasPrefix T_HasPrefix
noncomputable def K_Lex : FuncId → Option Ent := tabT (tabT (tabT tab0 f_text_Bad T_BadA) f_token_lexer_skip T_skip) f_token_lexer_next T_nextA
end Go.W
