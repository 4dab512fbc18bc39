import Derived.Test.YtpcmcnifbdpfaaaDoorDA
import Derived.Test.YtpcmcnifbdpfaaaDoorDS
set_option linter.unusedVariables false
set_option linter.unusedSimpArgs false
namespace Go.W
open Go Go.Cx
noncomputable def K_nm : FuncId → Option Ent := tabT (tabT tab0 f_token_letter T_letter) f_token_digit T_digit
noncomputable def K_while : FuncId → Option Ent := tabT (tabT (tabT tab0 f_token_lexer_next_1 T_next_1) f_token_lexer_skip_1 T_skip_1) f_token_digit T_digit
noncomputable def K_skip : FuncId → Option Ent := tabT (tabT tab0 f_token_lexer_while T_while) f_strings_IndexByte T_IndexByte
noncomputable def K_next : FuncId → Option Ent := tabF (tabF (tabF (tabT (tabT (tabT (tabT (tabT tab0 f_token_lexer_while T_while) f_strings_IndexByte T_IndexByte) f_token_lexer_fail T_fail) f_token_letter T_letter) f_token_digit T_digit) f_token_lexer_take A_token_lexer_take) f_strings_HasPrefix A_strings_HasPrefix) f_stringslite_HasPrefix A_stringslite_HasPrefix
end Go.W
namespace Go.W
open Go Go.Cx
noncomputable def K_hp : FuncId → Option Ent := tabT tab0 f_stringslite_HasPrefix T_HasPrefix
noncomputable def K_next' : FuncId → Option Ent := tabT (tabT (tabT (tabT (tabT (tabT (tabT tab0 f_token_lexer_while T_while) f_strings_IndexByte T_IndexByte) f_token_lexer_fail T_fail) f_token_letter T_letter) f_token_digit T_digit) f_token_lexer_take T_take) f_strings_HasPrefix T_HasPrefix
end Go.W
namespace Go.W
open Go Go.Cx
noncomputable def K_Lex : FuncId → Option Ent := tabT (tabT (tabT tab0 f_text_Bad T_BadA) f_token_lexer_skip T_skip) f_token_lexer_next T_nextA
end Go.W
namespace Go.W
open Go Go.Cx
noncomputable def K_awake : FuncId → Option Ent := tabT tab0 f_token_Lex T_LexA
noncomputable def K_Many : FuncId → Option Ent := tabT (tabT (tabT tab0 f_token_Lex T_LexA) f_cascadelaw08_zeros T_zeros) f_cascadelaw08_awake T_true
end Go.W
namespace Go.W
open Go Go.Cx
noncomputable def K_Bad : FuncId → Option Ent := tabT tab0 f_utf8_DecodeRuneInString T_DecodeRune
end Go.W
