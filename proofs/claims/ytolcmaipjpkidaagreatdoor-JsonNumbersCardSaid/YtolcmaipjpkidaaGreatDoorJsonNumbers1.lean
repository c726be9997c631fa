/- jsonNumbers_holds jsonNumbers proved lifted over: part 1 of its proof; each part's own remarks stand with its declarations. Conditions: each lemma names its own. -/
import Derived.Test.YtolcmaipjpkidaaGreatDoorJsonNumbers0
import Derived.Test.YtolcmaipjpkidaaGreatDoorProg
set_option linter.unusedSimpArgs false
set_option linter.unusedVariables false
set_option linter.unusedVariables false
set_option maxRecDepth 100000
namespace Go.Proofs.YtolcmaipjpkidaaGreatDoor
open Go Go.SL
noncomputable abbrev P : Program := Tryz.prog
abbrev n_orloplaw15_JsonNumbers : Nat := 5
abbrev n_orloplaw15_awake : Nat := 11
abbrev n_json_Parse : Nat := 12
abbrev n_json_May : Nat := 15
abbrev n_json_Write : Nat := 19
abbrev n_json_Get : Nat := 36
abbrev n_json_parser_all : Nat := 37
abbrev n_json_may : Nat := 40
abbrev n_json_written : Nat := 45
abbrev n_slices_IndexFunc_api_Member_api_Member : Nat := 85
abbrev n_json_Get_1 : Nat := 86
abbrev n_json_parser_all_1 : Nat := 87
abbrev n_json_parser_value : Nat := 88
abbrev n_json_parser_skip : Nat := 89
abbrev n_json_parser_must : Nat := 90
abbrev n_json_Same : Nat := 95
abbrev n_json_bare : Nat := 96
abbrev n_utf8_ValidString : Nat := 97
abbrev n_slices_ContainsFunc_api_Value_api_Value : Nat := 98
abbrev n_json_may_1 : Nat := 99
abbrev n_strconv_FormatBool_101 : Nat := 101
abbrev n_strconv_FormatInt_102 : Nat := 102
abbrev n_json_quoted : Nat := 103
abbrev n_strings_Join : Nat := 104
abbrev n_slices_ContainsFunc_api_Member_api_Member : Nat := 105
abbrev n_word_Unhex : Nat := 109
abbrev n_word_Hex : Nat := 115
abbrev n_json_parser_fail : Nat := 126
abbrev n_json_parser_peek : Nat := 127
abbrev n_json_parser_text : Nat := 128
abbrev n_json_parser_items : Nat := 129
abbrev n_json_parser_value_1 : Nat := 130
abbrev n_json_parser_value_2 : Nat := 131
abbrev n_json_parser_member : Nat := 132
abbrev n_json_parser_has : Nat := 133
abbrev n_json_parser_number : Nat := 134
abbrev n_strings_IndexByte : Nat := 135
abbrev n_slices_EqualFunc_api_Value_api_Value_api_Value_api_Value : Nat := 139
abbrev n_slices_EqualFunc_api_Member_api_Member_api_Member_api_Member : Nat := 140
abbrev n_json_sameMember : Nat := 141
abbrev n_utf8_word_string : Nat := 142
abbrev n_slices_IndexFunc_api_Value_api_Value : Nat := 143
abbrev n_strings_Builder_Grow : Nat := 146
abbrev n_strings_Builder_WriteString : Nat := 147
abbrev n_strings_Builder_String : Nat := 148
abbrev n_utf8_AppendRune : Nat := 155
abbrev n_json_parser_escape : Nat := 156
abbrev n_utf8_DecodeRune : Nat := 157
abbrev n_json_parser_member_1 : Nat := 158
abbrev n_strings_HasPrefix : Nat := 159
abbrev n_json_parser_digits : Nat := 160
abbrev n_strconv_ParseInt_161 : Nat := 161
abbrev n_stringslite_IndexByte : Nat := 162
abbrev n_strconv_small : Nat := 164
abbrev n_strconv_numDigits : Nat := 165
abbrev n_strconv_formatBase10 : Nat := 166
abbrev n_strings_Builder_copyCheck : Nat := 168
abbrev n_json_parser_half : Nat := 174
abbrev n_utf8_decodeRuneSlow : Nat := 175
abbrev n_bytealg_IndexByteString : Nat := 178
abbrev n_bits_Len64 : Nat := 180
abbrev n_abi_NoEscape : Nat := 184
abbrev n_bytealg_MakeNoZero : Nat := 185
abbrev n_strings_ToLower : Nat := 187
abbrev n_strconv_ParseUint : Nat := 188
abbrev n_strings_Builder_WriteByte : Nat := 195
abbrev n_strings_Map : Nat := 196
abbrev n_unicode_ToLower : Nat := 197
abbrev n_utf8_DecodeRuneInString : Nat := 203
abbrev n_utf8_RuneLen : Nat := 204
abbrev n_strings_Builder_WriteRune : Nat := 205
abbrev n_strings_Builder_Cap : Nat := 206
abbrev n_unicode_To : Nat := 207
abbrev n_utf8_decodeRuneInStringSlow : Nat := 209
abbrev n_unicode_lookupCaseRange : Nat := 211
abbrev n_unicode_convertCase : Nat := 212
abbrev gl_unicode_utf8_first : Nat := 0
abbrev gl_unicode_utf8_acceptRanges : Nat := 1
abbrev gl_internal_strconv_uint64pow10 : Nat := 3
abbrev gl_unicode_CaseRanges : Nat := 8
abbrev t_int : Nat := 3
abbrev t_uint8 : Nat := 5
abbrev t_string : Nat := 9
abbrev t_int32 : Nat := 21
abbrev t_Sl_uint8 : Nat := 22
abbrev t_Sl_api_Value : Nat := 24
abbrev t_Sl_api_Member : Nat := 25
abbrev t_api_Value : Nat := 27
abbrev t_api_Code : Nat := 28
abbrev t_Sl_string : Nat := 36
abbrev t_uint32 : Nat := 38
abbrev t_api_Member : Nat := 52
abbrev t_Pt_json_parser : Nat := 64
abbrev t_json_parser : Nat := 66
abbrev t_uint64 : Nat := 106
abbrev t_json_wrong : Nat := 121
abbrev t_256_uint8 : Nat := 164
abbrev t_utf8_acceptRange : Nat := 166
abbrev t_16_utf8_acceptRange : Nat := 167
abbrev t_Pt_strings_Builder : Nat := 169
abbrev t_strings_Builder : Nat := 171
abbrev t_error : Nat := 174
abbrev t_24_uint8 : Nat := 187
abbrev t_Pt_uint8 : Nat := 192
abbrev t_20_uint64 : Nat := 197
abbrev t_unsafe_Pointer : Nat := 201
abbrev t_Sl_unicode_CaseRange : Nat := 228
abbrev t_Pt_unicode_CaseRange : Nat := 229
abbrev t_unicode_d : Nat := 233
abbrev t_unicode_CaseRange : Nat := 235
def tx_962194 : ByteArray := ⟨#[123, 34, 97, 34, 58, 91, 49, 44, 45, 50, 44, 34, 120, 92, 117, 48, 48, 48, 97, 34, 93, 44, 34, 98, 34, 58, 110, 117, 108, 108, 125]⟩
def tx_5a5d7d : ByteArray := ⟨#[115, 116, 114, 105, 110, 103, 115, 58, 32, 74, 111, 105, 110, 32, 111, 117, 116, 112, 117, 116, 32, 108, 101, 110, 103, 116, 104, 32, 111, 118, 101, 114, 102, 108, 111, 119]⟩
def tx_99a77d : ByteArray := ⟨#[115, 116, 114, 105, 110, 103, 115, 46, 66, 117, 105, 108, 100, 101, 114, 46, 71, 114, 111, 119, 58, 32, 110, 101, 103, 97, 116, 105, 118, 101, 32, 99, 111, 117, 110, 116]⟩
def tx_617ef5 : ByteArray := ⟨#[48, 49, 50, 51, 52, 53, 54, 55, 56, 57, 97, 98, 99, 100, 101, 102, 103, 104, 105, 106, 107, 108, 109, 110, 111, 112, 113, 114, 115, 116, 117, 118, 119, 120, 121, 122]⟩
def tx_0db94c : ByteArray := ⟨[48, 48, 48, 49, 48, 50, 48, 51, 48, 52, 48, 53, 48, 54, 48, 55, 48, 56, 48, 57, 49, 48, 49, 49, 49, 50, 49, 51, 49, 52, 49, 53, 49, 54, 49, 55, 49, 56, 49, 57, 50, 48, 50, 49, 50, 50, 50, 51, 50, 52, 50, 53, 50, 54, 50, 55, 50, 56, 50, 57, 51, 48, 51, 49, 51, 50, 51, 51, 51, 52, 51, 53, 51, 54, 51, 55, 51, 56, 51, 57, 52, 48, 52, 49, 52, 50, 52, 51, 52, 52, 52, 53, 52, 54, 52, 55, 52, 56, 52, 57, 53, 48, 53, 49, 53, 50, 53, 51, 53, 52, 53, 53, 53, 54, 53, 55, 53, 56, 53, 57, 54, 48, 54, 49, 54, 50, 54, 51, 54, 52, 54, 53, 54, 54, 54, 55, 54, 56, 54, 57, 55, 48, 55, 49, 55, 50, 55, 51, 55, 52, 55, 53, 55, 54, 55, 55, 55, 56, 55, 57, 56, 48, 56, 49, 56, 50, 56, 51, 56, 52, 56, 53, 56, 54, 56, 55, 56, 56, 56, 57, 57, 48, 57, 49, 57, 50, 57, 51, 57, 52, 57, 53, 57, 54, 57, 55, 57, 56, 57, 57].toArray⟩
def tx_97c9fe : ByteArray := ⟨[0, 1, 2, 2, 3, 3, 3, 3, 4, 4, 4, 4, 4, 4, 4, 4, 5, 5, 5, 5, 5, 5, 5, 5, 5, 5, 5, 5, 5, 5, 5, 5, 6, 6, 6, 6, 6, 6, 6, 6, 6, 6, 6, 6, 6, 6, 6, 6, 6, 6, 6, 6, 6, 6, 6, 6, 6, 6, 6, 6, 6, 6, 6, 6, 7, 7, 7, 7, 7, 7, 7, 7, 7, 7, 7, 7, 7, 7, 7, 7, 7, 7, 7, 7, 7, 7, 7, 7, 7, 7, 7, 7, 7, 7, 7, 7, 7, 7, 7, 7, 7, 7, 7, 7, 7, 7, 7, 7, 7, 7, 7, 7, 7, 7, 7, 7, 7, 7, 7, 7, 7, 7, 7, 7, 7, 7, 7, 7, 8, 8, 8, 8, 8, 8, 8, 8, 8, 8, 8, 8, 8, 8, 8, 8, 8, 8, 8, 8, 8, 8, 8, 8, 8, 8, 8, 8, 8, 8, 8, 8, 8, 8, 8, 8, 8, 8, 8, 8, 8, 8, 8, 8, 8, 8, 8, 8, 8, 8, 8, 8, 8, 8, 8, 8, 8, 8, 8, 8, 8, 8, 8, 8, 8, 8, 8, 8, 8, 8, 8, 8, 8, 8, 8, 8, 8, 8, 8, 8, 8, 8, 8, 8, 8, 8, 8, 8, 8, 8, 8, 8, 8, 8, 8, 8, 8, 8, 8, 8, 8, 8, 8, 8, 8, 8, 8, 8, 8, 8, 8, 8, 8, 8, 8, 8, 8, 8, 8, 8, 8, 8, 8, 8, 8, 8, 8, 8].toArray⟩
theorem mixed : P.follows .mixedOrders = true := by kernel_rfl
theorem u2 : P.underlying 2 = some (.int .i64) := by kernel_rfl
theorem z2 : sz P 2 = some 1 := by kernel_rfl
theorem u3 : P.underlying 3 = some (.int .i64) := by kernel_rfl
theorem z3 : sz P 3 = some 1 := by kernel_rfl
theorem u4 : P.underlying 4 = some .bool := by kernel_rfl
theorem z4 : sz P 4 = some 1 := by kernel_rfl
theorem u5 : P.underlying 5 = some (.int .u8) := by kernel_rfl
theorem z5 : sz P 5 = some 1 := by kernel_rfl
theorem u9 : P.underlying 9 = some .string := by kernel_rfl
theorem z9 : sz P 9 = some 1 := by kernel_rfl
theorem u12 : P.underlying 12 = some (.int .u64) := by kernel_rfl
theorem u21 : P.underlying 21 = some (.int .i32) := by kernel_rfl
theorem z21 : sz P 21 = some 1 := by kernel_rfl
theorem u22 : P.underlying 22 = some (.slice 5) := by kernel_rfl
theorem z22 : sz P 22 = some 1 := by kernel_rfl
theorem u24 : P.underlying 24 = some (.slice 27) := by kernel_rfl
theorem z24 : sz P 24 = some 1 := by kernel_rfl
theorem u25 : P.underlying 25 = some (.slice 52) := by kernel_rfl
theorem z25 : sz P 25 = some 1 := by kernel_rfl
theorem z27 : sz P 27 = some 6 := by kernel_rfl
theorem u27 : P.underlying 27 = some (.struct (match P.underlying 27 with | some (.struct fs) => fs | _ => #[])) := by kernel_rfl
theorem u28 : P.underlying 28 = some (.int .i64) := by kernel_rfl
theorem z28 : sz P 28 = some 1 := by kernel_rfl
theorem u36 : P.underlying 36 = some (.slice 9) := by kernel_rfl
theorem u38 : P.underlying 38 = some (.int .u32) := by kernel_rfl
theorem u40 : P.underlying 40 = some (.slice 79) := by kernel_rfl
theorem u41 : P.underlying 41 = some (.slice 58) := by kernel_rfl
theorem z52 : sz P 52 = some 7 := by kernel_rfl
theorem u52 : P.underlying 52 = some (.struct (match P.underlying 52 with | some (.struct fs) => fs | _ => #[])) := by kernel_rfl
theorem u64 : P.underlying 64 = some (.pointer 66) := by kernel_rfl
theorem u106 : P.underlying 106 = some (.int .u64) := by kernel_rfl
theorem z106 : sz P 106 = some 1 := by kernel_rfl
theorem u129 : P.underlying 129 = some (.map 9 3) := by kernel_rfl
theorem u144 : P.underlying 144 = some (.slice 22) := by kernel_rfl
theorem u149 : P.underlying 149 = some (.int .u64) := by kernel_rfl
theorem u164 : P.underlying 164 = some (.array 256 5) := by kernel_rfl
theorem z166 : sz P 166 = some 2 := by kernel_rfl
theorem u166 : P.underlying 166 = some (.struct (match P.underlying 166 with | some (.struct fs) => fs | _ => #[])) := by kernel_rfl
theorem u167 : P.underlying 167 = some (.array 16 166) := by kernel_rfl
theorem u169 : P.underlying 169 = some (.pointer 171) := by kernel_rfl
theorem z169 : sz P 169 = some 1 := by kernel_rfl
theorem z171 : sz P 171 = some 2 := by kernel_rfl
theorem u187 : P.underlying 187 = some (.array 24 5) := by kernel_rfl
theorem u192 : P.underlying 192 = some (.pointer 5) := by kernel_rfl
theorem u197 : P.underlying 197 = some (.array 20 106) := by kernel_rfl
theorem u198 : P.underlying 198 = some (.array 65 5) := by kernel_rfl
theorem u203 : P.underlying 203 = some (.int .i64) := by kernel_rfl
theorem u206 : P.underlying 206 = some (.pointer 215) := by kernel_rfl
theorem u217 : P.underlying 217 = some (.array 32 5) := by kernel_rfl
theorem u218 : P.underlying 218 = some (.array 64 5) := by kernel_rfl
theorem u223 : P.underlying 223 = some (.pointer 225) := by kernel_rfl
theorem u228 : P.underlying 228 = some (.slice 235) := by kernel_rfl
theorem u229 : P.underlying 229 = some (.pointer 235) := by kernel_rfl
theorem u233 : P.underlying 233 = some (.array 3 21) := by kernel_rfl
theorem z235 : sz P 235 = some 5 := by kernel_rfl
theorem zr3 : zr P 3 = some (.int .i64 0) := by kernel_rfl
theorem nfo5 : (P.info? 5).map (fun i => (i.zero, i.size, i.bytes)) = some (some (.int .u8 0), 1, 1) := by kernel_rfl
theorem zr5 : zr P 5 = some (.int .u8 0) := by kernel_rfl
theorem zr9 : zr P 9 = some (.string ByteArray.empty) := by kernel_rfl
theorem zr28 : zr P 28 = some (.int .i64 0) := by kernel_rfl
theorem ld2 {h : Hp} {K : Value → Prop} (a : Addr) : q P h (Instr.loadAt 2 (.pointer (some a))) K = withVal (h.cell a) K := q_ld u2 rfl a
theorem ld3 {h : Hp} {K : Value → Prop} (a : Addr) : q P h (Instr.loadAt 3 (.pointer (some a))) K = withVal (h.cell a) K := q_ld u3 rfl a
theorem ld4 {h : Hp} {K : Value → Prop} (a : Addr) : q P h (Instr.loadAt 4 (.pointer (some a))) K = withVal (h.cell a) K := q_ld u4 rfl a
theorem eb4 {h : Hp} {K : Value → Prop} (x y : Operand) (a b : Bool) : q P h (eqop .eql 4 x y (.bool a) (.bool b)) K = K (.bool (a == b)) := q_eqlB x y a b u4
theorem nb4 {h : Hp} {K : Value → Prop} (x y : Operand) (a b : Bool) : q P h (eqop .neq 4 x y (.bool a) (.bool b)) K = K (.bool (!(a == b))) := q_neqB x y a b u4
theorem ld5 {h : Hp} {K : Value → Prop} (a : Addr) : q P h (Instr.loadAt 5 (.pointer (some a))) K = withVal (h.cell a) K := q_ld u5 rfl a
theorem ld9 {h : Hp} {K : Value → Prop} (a : Addr) : q P h (Instr.loadAt 9 (.pointer (some a))) K = withVal (h.cell a) K := q_ld u9 rfl a
theorem ln9 {h : Hp} {K : Value → Prop} {T : TypeId} (s : ByteArray) : q P h (Builtin.len_ #[9] T #[.string s]) K = K (.int .i64 s.size) := q_lenStr u9 s
theorem ld12 {h : Hp} {K : Value → Prop} (a : Addr) : q P h (Instr.loadAt 12 (.pointer (some a))) K = withVal (h.cell a) K := q_ld u12 rfl a
theorem ld21 {h : Hp} {K : Value → Prop} (a : Addr) : q P h (Instr.loadAt 21 (.pointer (some a))) K = withVal (h.cell a) K := q_ld u21 rfl a
theorem ld22 {h : Hp} {K : Value → Prop} (a : Addr) : q P h (Instr.loadAt 22 (.pointer (some a))) K = withVal (h.cell a) K := q_ld u22 rfl a
theorem ix22 {h : Hp} {K : Value → Prop} (a : Addr) (n c : Nat) (k : IntKind) (i : Int) (h0 : 0 ≤ i) (h1 : i < n) : q P h (Instr.indexAt 22 (.slice (some a) n c) (.int k i)) K = K (.pointer (some (a.add i.toNat))) := by rw [q_idxS u22 z5 a n c k i h0 h1, Nat.mul_one]
theorem ln22 {h : Hp} {K : Value → Prop} {T : TypeId} (a : Option Addr) (n c : Nat) : q P h (Builtin.len_ #[22] T #[.slice a n c]) K = K (.int .i64 n) := q_lenS u22 a n c
theorem en22 {h : Hp} {K : Value → Prop} (x y : Operand) (a : Option Addr) (n c : Nat) : q P h (eqop .eql 22 x y (.slice a n c) (.slice none 0 0)) K = K (.bool a.isNone) := q_eqlNil x y a n c u22
theorem ld24 {h : Hp} {K : Value → Prop} (a : Addr) : q P h (Instr.loadAt 24 (.pointer (some a))) K = withVal (h.cell a) K := q_ld u24 rfl a
theorem ln24 {h : Hp} {K : Value → Prop} {T : TypeId} (a : Option Addr) (n c : Nat) : q P h (Builtin.len_ #[24] T #[.slice a n c]) K = K (.int .i64 n) := q_lenS u24 a n c
theorem en24 {h : Hp} {K : Value → Prop} (x y : Operand) (a : Option Addr) (n c : Nat) : q P h (eqop .eql 24 x y (.slice a n c) (.slice none 0 0)) K = K (.bool a.isNone) := q_eqlNil x y a n c u24
theorem ld25 {h : Hp} {K : Value → Prop} (a : Addr) : q P h (Instr.loadAt 25 (.pointer (some a))) K = withVal (h.cell a) K := q_ld u25 rfl a
theorem ln25 {h : Hp} {K : Value → Prop} {T : TypeId} (a : Option Addr) (n c : Nat) : q P h (Builtin.len_ #[25] T #[.slice a n c]) K = K (.int .i64 n) := q_lenS u25 a n c
theorem en25 {h : Hp} {K : Value → Prop} (x y : Operand) (a : Option Addr) (n c : Nat) : q P h (eqop .eql 25 x y (.slice a n c) (.slice none 0 0)) K = K (.bool a.isNone) := q_eqlNil x y a n c u25
theorem ld28 {h : Hp} {K : Value → Prop} (a : Addr) : q P h (Instr.loadAt 28 (.pointer (some a))) K = withVal (h.cell a) K := q_ld u28 rfl a
theorem ld36 {h : Hp} {K : Value → Prop} (a : Addr) : q P h (Instr.loadAt 36 (.pointer (some a))) K = withVal (h.cell a) K := q_ld u36 rfl a
theorem ix36 {h : Hp} {K : Value → Prop} (a : Addr) (n c : Nat) (k : IntKind) (i : Int) (h0 : 0 ≤ i) (h1 : i < n) : q P h (Instr.indexAt 36 (.slice (some a) n c) (.int k i)) K = K (.pointer (some (a.add i.toNat))) := by rw [q_idxS u36 z9 a n c k i h0 h1, Nat.mul_one]
theorem ln36 {h : Hp} {K : Value → Prop} {T : TypeId} (a : Option Addr) (n c : Nat) : q P h (Builtin.len_ #[36] T #[.slice a n c]) K = K (.int .i64 n) := q_lenS u36 a n c
theorem en36 {h : Hp} {K : Value → Prop} (x y : Operand) (a : Option Addr) (n c : Nat) : q P h (eqop .eql 36 x y (.slice a n c) (.slice none 0 0)) K = K (.bool a.isNone) := q_eqlNil x y a n c u36
theorem ld38 {h : Hp} {K : Value → Prop} (a : Addr) : q P h (Instr.loadAt 38 (.pointer (some a))) K = withVal (h.cell a) K := q_ld u38 rfl a
theorem ld40 {h : Hp} {K : Value → Prop} (a : Addr) : q P h (Instr.loadAt 40 (.pointer (some a))) K = withVal (h.cell a) K := q_ld u40 rfl a
theorem ln40 {h : Hp} {K : Value → Prop} {T : TypeId} (a : Option Addr) (n c : Nat) : q P h (Builtin.len_ #[40] T #[.slice a n c]) K = K (.int .i64 n) := q_lenS u40 a n c
theorem en40 {h : Hp} {K : Value → Prop} (x y : Operand) (a : Option Addr) (n c : Nat) : q P h (eqop .eql 40 x y (.slice a n c) (.slice none 0 0)) K = K (.bool a.isNone) := q_eqlNil x y a n c u40
theorem ld41 {h : Hp} {K : Value → Prop} (a : Addr) : q P h (Instr.loadAt 41 (.pointer (some a))) K = withVal (h.cell a) K := q_ld u41 rfl a
theorem ln41 {h : Hp} {K : Value → Prop} {T : TypeId} (a : Option Addr) (n c : Nat) : q P h (Builtin.len_ #[41] T #[.slice a n c]) K = K (.int .i64 n) := q_lenS u41 a n c
theorem en41 {h : Hp} {K : Value → Prop} (x y : Operand) (a : Option Addr) (n c : Nat) : q P h (eqop .eql 41 x y (.slice a n c) (.slice none 0 0)) K = K (.bool a.isNone) := q_eqlNil x y a n c u41
theorem ld64 {h : Hp} {K : Value → Prop} (a : Addr) : q P h (Instr.loadAt 64 (.pointer (some a))) K = withVal (h.cell a) K := q_ld u64 rfl a
theorem ld106 {h : Hp} {K : Value → Prop} (a : Addr) : q P h (Instr.loadAt 106 (.pointer (some a))) K = withVal (h.cell a) K := q_ld u106 rfl a
theorem ld129 {h : Hp} {K : Value → Prop} (a : Addr) : q P h (Instr.loadAt 129 (.pointer (some a))) K = withVal (h.cell a) K := q_ld u129 rfl a
theorem ld144 {h : Hp} {K : Value → Prop} (a : Addr) : q P h (Instr.loadAt 144 (.pointer (some a))) K = withVal (h.cell a) K := q_ld u144 rfl a
theorem ix144 {h : Hp} {K : Value → Prop} (a : Addr) (n c : Nat) (k : IntKind) (i : Int) (h0 : 0 ≤ i) (h1 : i < n) : q P h (Instr.indexAt 144 (.slice (some a) n c) (.int k i)) K = K (.pointer (some (a.add i.toNat))) := by rw [q_idxS u144 z22 a n c k i h0 h1, Nat.mul_one]
theorem ln144 {h : Hp} {K : Value → Prop} {T : TypeId} (a : Option Addr) (n c : Nat) : q P h (Builtin.len_ #[144] T #[.slice a n c]) K = K (.int .i64 n) := q_lenS u144 a n c
theorem en144 {h : Hp} {K : Value → Prop} (x y : Operand) (a : Option Addr) (n c : Nat) : q P h (eqop .eql 144 x y (.slice a n c) (.slice none 0 0)) K = K (.bool a.isNone) := q_eqlNil x y a n c u144
theorem ld149 {h : Hp} {K : Value → Prop} (a : Addr) : q P h (Instr.loadAt 149 (.pointer (some a))) K = withVal (h.cell a) K := q_ld u149 rfl a
theorem ix164 {h : Hp} {K : Value → Prop} (a : Addr) (k : IntKind) (i : Int) (h0 : 0 ≤ i) (h1 : i < 256) : q P h (Instr.indexAt 164 (.pointer (some a)) (.int k i)) K = K (.pointer (some (a.add i.toNat))) := by rw [q_idxA u164 z5 a k i h0 h1, Nat.mul_one]
theorem ld169 {h : Hp} {K : Value → Prop} (a : Addr) : q P h (Instr.loadAt 169 (.pointer (some a))) K = withVal (h.cell a) K := q_ld u169 rfl a
theorem ix187 {h : Hp} {K : Value → Prop} (a : Addr) (k : IntKind) (i : Int) (h0 : 0 ≤ i) (h1 : i < 24) : q P h (Instr.indexAt 187 (.pointer (some a)) (.int k i)) K = K (.pointer (some (a.add i.toNat))) := by rw [q_idxA u187 z5 a k i h0 h1, Nat.mul_one]
theorem ld192 {h : Hp} {K : Value → Prop} (a : Addr) : q P h (Instr.loadAt 192 (.pointer (some a))) K = withVal (h.cell a) K := q_ld u192 rfl a
theorem ix197 {h : Hp} {K : Value → Prop} (a : Addr) (k : IntKind) (i : Int) (h0 : 0 ≤ i) (h1 : i < 20) : q P h (Instr.indexAt 197 (.pointer (some a)) (.int k i)) K = K (.pointer (some (a.add i.toNat))) := by rw [q_idxA u197 z106 a k i h0 h1, Nat.mul_one]
theorem ix198 {h : Hp} {K : Value → Prop} (a : Addr) (k : IntKind) (i : Int) (h0 : 0 ≤ i) (h1 : i < 65) : q P h (Instr.indexAt 198 (.pointer (some a)) (.int k i)) K = K (.pointer (some (a.add i.toNat))) := by rw [q_idxA u198 z5 a k i h0 h1, Nat.mul_one]
theorem ld203 {h : Hp} {K : Value → Prop} (a : Addr) : q P h (Instr.loadAt 203 (.pointer (some a))) K = withVal (h.cell a) K := q_ld u203 rfl a
theorem ld206 {h : Hp} {K : Value → Prop} (a : Addr) : q P h (Instr.loadAt 206 (.pointer (some a))) K = withVal (h.cell a) K := q_ld u206 rfl a
theorem ix217 {h : Hp} {K : Value → Prop} (a : Addr) (k : IntKind) (i : Int) (h0 : 0 ≤ i) (h1 : i < 32) : q P h (Instr.indexAt 217 (.pointer (some a)) (.int k i)) K = K (.pointer (some (a.add i.toNat))) := by rw [q_idxA u217 z5 a k i h0 h1, Nat.mul_one]
theorem ix218 {h : Hp} {K : Value → Prop} (a : Addr) (k : IntKind) (i : Int) (h0 : 0 ≤ i) (h1 : i < 64) : q P h (Instr.indexAt 218 (.pointer (some a)) (.int k i)) K = K (.pointer (some (a.add i.toNat))) := by rw [q_idxA u218 z5 a k i h0 h1, Nat.mul_one]
theorem ld223 {h : Hp} {K : Value → Prop} (a : Addr) : q P h (Instr.loadAt 223 (.pointer (some a))) K = withVal (h.cell a) K := q_ld u223 rfl a
theorem ld228 {h : Hp} {K : Value → Prop} (a : Addr) : q P h (Instr.loadAt 228 (.pointer (some a))) K = withVal (h.cell a) K := q_ld u228 rfl a
theorem ln228 {h : Hp} {K : Value → Prop} {T : TypeId} (a : Option Addr) (n c : Nat) : q P h (Builtin.len_ #[228] T #[.slice a n c]) K = K (.int .i64 n) := q_lenS u228 a n c
theorem en228 {h : Hp} {K : Value → Prop} (x y : Operand) (a : Option Addr) (n c : Nat) : q P h (eqop .eql 228 x y (.slice a n c) (.slice none 0 0)) K = K (.bool a.isNone) := q_eqlNil x y a n c u228
theorem ld229 {h : Hp} {K : Value → Prop} (a : Addr) : q P h (Instr.loadAt 229 (.pointer (some a))) K = withVal (h.cell a) K := q_ld u229 rfl a
theorem ix233 {h : Hp} {K : Value → Prop} (a : Addr) (k : IntKind) (i : Int) (h0 : 0 ≤ i) (h1 : i < 3) : q P h (Instr.indexAt 233 (.pointer (some a)) (.int k i)) K = K (.pointer (some (a.add i.toNat))) := by rw [q_idxA u233 z21 a k i h0 h1, Nat.mul_one]
theorem cv2_5 {h : Hp} {K : Value → Prop} {k : IntKind} (a : Int) : q P h (convert 2 5 (.int k a)) K = K (.int .u8 (IntKind.u8.wrap a)) := q_conv a u2 u5
theorem cv2_106 {h : Hp} {K : Value → Prop} {k : IntKind} (a : Int) : q P h (convert 2 106 (.int k a)) K = K (.int .u64 (IntKind.u64.wrap a)) := q_conv a u2 u106
theorem cv3_5 {h : Hp} {K : Value → Prop} {k : IntKind} (a : Int) : q P h (convert 3 5 (.int k a)) K = K (.int .u8 (IntKind.u8.wrap a)) := q_conv a u3 u5
theorem cv3_21 {h : Hp} {K : Value → Prop} {k : IntKind} (a : Int) : q P h (convert 3 21 (.int k a)) K = K (.int .i32 (IntKind.i32.wrap a)) := q_conv a u3 u21
theorem cv3_38 {h : Hp} {K : Value → Prop} {k : IntKind} (a : Int) : q P h (convert 3 38 (.int k a)) K = K (.int .u32 (IntKind.u32.wrap a)) := q_conv a u3 u38
theorem cv3_106 {h : Hp} {K : Value → Prop} {k : IntKind} (a : Int) : q P h (convert 3 106 (.int k a)) K = K (.int .u64 (IntKind.u64.wrap a)) := q_conv a u3 u106
theorem cv3_149 {h : Hp} {K : Value → Prop} {k : IntKind} (a : Int) : q P h (convert 3 149 (.int k a)) K = K (.int .u64 (IntKind.u64.wrap a)) := q_conv a u3 u149
theorem cv5_2 {h : Hp} {K : Value → Prop} {k : IntKind} (a : Int) : q P h (convert 5 2 (.int k a)) K = K (.int .i64 (IntKind.i64.wrap a)) := q_conv a u5 u2
theorem cv5_3 {h : Hp} {K : Value → Prop} {k : IntKind} (a : Int) : q P h (convert 5 3 (.int k a)) K = K (.int .i64 (IntKind.i64.wrap a)) := q_conv a u5 u3
theorem cv5_12 {h : Hp} {K : Value → Prop} {k : IntKind} (a : Int) : q P h (convert 5 12 (.int k a)) K = K (.int .u64 (IntKind.u64.wrap a)) := q_conv a u5 u12
theorem cv5_21 {h : Hp} {K : Value → Prop} {k : IntKind} (a : Int) : q P h (convert 5 21 (.int k a)) K = K (.int .i32 (IntKind.i32.wrap a)) := q_conv a u5 u21
theorem cv5_106 {h : Hp} {K : Value → Prop} {k : IntKind} (a : Int) : q P h (convert 5 106 (.int k a)) K = K (.int .u64 (IntKind.u64.wrap a)) := q_conv a u5 u106
theorem cv21_5 {h : Hp} {K : Value → Prop} {k : IntKind} (a : Int) : q P h (convert 21 5 (.int k a)) K = K (.int .u8 (IntKind.u8.wrap a)) := q_conv a u21 u5
theorem cv21_38 {h : Hp} {K : Value → Prop} {k : IntKind} (a : Int) : q P h (convert 21 38 (.int k a)) K = K (.int .u32 (IntKind.u32.wrap a)) := q_conv a u21 u38
theorem cv38_2 {h : Hp} {K : Value → Prop} {k : IntKind} (a : Int) : q P h (convert 38 2 (.int k a)) K = K (.int .i64 (IntKind.i64.wrap a)) := q_conv a u38 u2
theorem cv38_3 {h : Hp} {K : Value → Prop} {k : IntKind} (a : Int) : q P h (convert 38 3 (.int k a)) K = K (.int .i64 (IntKind.i64.wrap a)) := q_conv a u38 u3
theorem cv38_5 {h : Hp} {K : Value → Prop} {k : IntKind} (a : Int) : q P h (convert 38 5 (.int k a)) K = K (.int .u8 (IntKind.u8.wrap a)) := q_conv a u38 u5
theorem cv38_21 {h : Hp} {K : Value → Prop} {k : IntKind} (a : Int) : q P h (convert 38 21 (.int k a)) K = K (.int .i32 (IntKind.i32.wrap a)) := q_conv a u38 u21
theorem cv38_106 {h : Hp} {K : Value → Prop} {k : IntKind} (a : Int) : q P h (convert 38 106 (.int k a)) K = K (.int .u64 (IntKind.u64.wrap a)) := q_conv a u38 u106
theorem cv106_2 {h : Hp} {K : Value → Prop} {k : IntKind} (a : Int) : q P h (convert 106 2 (.int k a)) K = K (.int .i64 (IntKind.i64.wrap a)) := q_conv a u106 u2
theorem cv106_3 {h : Hp} {K : Value → Prop} {k : IntKind} (a : Int) : q P h (convert 106 3 (.int k a)) K = K (.int .i64 (IntKind.i64.wrap a)) := q_conv a u106 u3
theorem cv106_5 {h : Hp} {K : Value → Prop} {k : IntKind} (a : Int) : q P h (convert 106 5 (.int k a)) K = K (.int .u8 (IntKind.u8.wrap a)) := q_conv a u106 u5
theorem cv106_38 {h : Hp} {K : Value → Prop} {k : IntKind} (a : Int) : q P h (convert 106 38 (.int k a)) K = K (.int .u32 (IntKind.u32.wrap a)) := q_conv a u106 u38
theorem cv149_3 {h : Hp} {K : Value → Prop} {k : IntKind} (a : Int) : q P h (convert 149 3 (.int k a)) K = K (.int .i64 (IntKind.i64.wrap a)) := q_conv a u149 u3
theorem cv149_38 {h : Hp} {K : Value → Prop} {k : IntKind} (a : Int) : q P h (convert 149 38 (.int k a)) K = K (.int .u32 (IntKind.u32.wrap a)) := q_conv a u149 u38
/-- The readings' rules at this seat's types. -/
theorem RL :
  (∀ {h : Hp} {K : Value → Prop} (a : Addr), q P h (Instr.loadAt 2 (.pointer (some a))) K = withVal (h.cell a) K) ∧
  (∀ {h : Hp} {K : Value → Prop} (a : Addr), q P h (Instr.loadAt 3 (.pointer (some a))) K = withVal (h.cell a) K) ∧
  (∀ {h : Hp} {K : Value → Prop} (a : Addr), q P h (Instr.loadAt 4 (.pointer (some a))) K = withVal (h.cell a) K) ∧
  (∀ {h : Hp} {K : Value → Prop} (x y : Operand) (a b : Bool), q P h (eqop .eql 4 x y (.bool a) (.bool b)) K = K (.bool (a == b))) ∧
  (∀ {h : Hp} {K : Value → Prop} (x y : Operand) (a b : Bool), q P h (eqop .neq 4 x y (.bool a) (.bool b)) K = K (.bool (!(a == b)))) ∧
  (∀ {h : Hp} {K : Value → Prop} (a : Addr), q P h (Instr.loadAt 5 (.pointer (some a))) K = withVal (h.cell a) K) ∧
  (∀ {h : Hp} {K : Value → Prop} (a : Addr), q P h (Instr.loadAt 9 (.pointer (some a))) K = withVal (h.cell a) K) ∧
  (∀ {h : Hp} {K : Value → Prop} {T : TypeId} (s : ByteArray), q P h (Builtin.len_ #[9] T #[.string s]) K = K (.int .i64 s.size)) ∧
  (∀ {h : Hp} {K : Value → Prop} (a : Addr), q P h (Instr.loadAt 12 (.pointer (some a))) K = withVal (h.cell a) K) ∧
  (∀ {h : Hp} {K : Value → Prop} (a : Addr), q P h (Instr.loadAt 21 (.pointer (some a))) K = withVal (h.cell a) K) ∧
  (∀ {h : Hp} {K : Value → Prop} (a : Addr), q P h (Instr.loadAt 22 (.pointer (some a))) K = withVal (h.cell a) K) ∧
  (∀ {h : Hp} {K : Value → Prop} (a : Addr) (n c : Nat) (k : IntKind) (i : Int) (h0 : 0 ≤ i) (h1 : i < n), q P h (Instr.indexAt 22 (.slice (some a) n c) (.int k i)) K = K (.pointer (some (a.add i.toNat)))) ∧
  (∀ {h : Hp} {K : Value → Prop} {T : TypeId} (a : Option Addr) (n c : Nat), q P h (Builtin.len_ #[22] T #[.slice a n c]) K = K (.int .i64 n)) ∧
  (∀ {h : Hp} {K : Value → Prop} (x y : Operand) (a : Option Addr) (n c : Nat), q P h (eqop .eql 22 x y (.slice a n c) (.slice none 0 0)) K = K (.bool a.isNone)) ∧
  (∀ {h : Hp} {K : Value → Prop} (a : Addr), q P h (Instr.loadAt 24 (.pointer (some a))) K = withVal (h.cell a) K) ∧
  (∀ {h : Hp} {K : Value → Prop} {T : TypeId} (a : Option Addr) (n c : Nat), q P h (Builtin.len_ #[24] T #[.slice a n c]) K = K (.int .i64 n)) ∧
  (∀ {h : Hp} {K : Value → Prop} (x y : Operand) (a : Option Addr) (n c : Nat), q P h (eqop .eql 24 x y (.slice a n c) (.slice none 0 0)) K = K (.bool a.isNone)) ∧
  (∀ {h : Hp} {K : Value → Prop} (a : Addr), q P h (Instr.loadAt 25 (.pointer (some a))) K = withVal (h.cell a) K) ∧
  (∀ {h : Hp} {K : Value → Prop} {T : TypeId} (a : Option Addr) (n c : Nat), q P h (Builtin.len_ #[25] T #[.slice a n c]) K = K (.int .i64 n)) ∧
  (∀ {h : Hp} {K : Value → Prop} (x y : Operand) (a : Option Addr) (n c : Nat), q P h (eqop .eql 25 x y (.slice a n c) (.slice none 0 0)) K = K (.bool a.isNone)) ∧
  (∀ {h : Hp} {K : Value → Prop} (a : Addr), q P h (Instr.loadAt 28 (.pointer (some a))) K = withVal (h.cell a) K) ∧
  (∀ {h : Hp} {K : Value → Prop} (a : Addr), q P h (Instr.loadAt 36 (.pointer (some a))) K = withVal (h.cell a) K) ∧
  (∀ {h : Hp} {K : Value → Prop} (a : Addr) (n c : Nat) (k : IntKind) (i : Int) (h0 : 0 ≤ i) (h1 : i < n), q P h (Instr.indexAt 36 (.slice (some a) n c) (.int k i)) K = K (.pointer (some (a.add i.toNat)))) ∧
  (∀ {h : Hp} {K : Value → Prop} {T : TypeId} (a : Option Addr) (n c : Nat), q P h (Builtin.len_ #[36] T #[.slice a n c]) K = K (.int .i64 n)) ∧
  (∀ {h : Hp} {K : Value → Prop} (x y : Operand) (a : Option Addr) (n c : Nat), q P h (eqop .eql 36 x y (.slice a n c) (.slice none 0 0)) K = K (.bool a.isNone)) ∧
  (∀ {h : Hp} {K : Value → Prop} (a : Addr), q P h (Instr.loadAt 38 (.pointer (some a))) K = withVal (h.cell a) K) ∧
  (∀ {h : Hp} {K : Value → Prop} (a : Addr), q P h (Instr.loadAt 40 (.pointer (some a))) K = withVal (h.cell a) K) ∧
  (∀ {h : Hp} {K : Value → Prop} {T : TypeId} (a : Option Addr) (n c : Nat), q P h (Builtin.len_ #[40] T #[.slice a n c]) K = K (.int .i64 n)) ∧
  (∀ {h : Hp} {K : Value → Prop} (x y : Operand) (a : Option Addr) (n c : Nat), q P h (eqop .eql 40 x y (.slice a n c) (.slice none 0 0)) K = K (.bool a.isNone)) ∧
  (∀ {h : Hp} {K : Value → Prop} (a : Addr), q P h (Instr.loadAt 41 (.pointer (some a))) K = withVal (h.cell a) K) ∧
  (∀ {h : Hp} {K : Value → Prop} {T : TypeId} (a : Option Addr) (n c : Nat), q P h (Builtin.len_ #[41] T #[.slice a n c]) K = K (.int .i64 n)) ∧
  (∀ {h : Hp} {K : Value → Prop} (x y : Operand) (a : Option Addr) (n c : Nat), q P h (eqop .eql 41 x y (.slice a n c) (.slice none 0 0)) K = K (.bool a.isNone)) ∧
  (∀ {h : Hp} {K : Value → Prop} (a : Addr), q P h (Instr.loadAt 64 (.pointer (some a))) K = withVal (h.cell a) K) ∧
  (∀ {h : Hp} {K : Value → Prop} (a : Addr), q P h (Instr.loadAt 106 (.pointer (some a))) K = withVal (h.cell a) K) ∧
  (∀ {h : Hp} {K : Value → Prop} (a : Addr), q P h (Instr.loadAt 129 (.pointer (some a))) K = withVal (h.cell a) K) ∧
  (∀ {h : Hp} {K : Value → Prop} (a : Addr), q P h (Instr.loadAt 144 (.pointer (some a))) K = withVal (h.cell a) K) ∧
  (∀ {h : Hp} {K : Value → Prop} (a : Addr) (n c : Nat) (k : IntKind) (i : Int) (h0 : 0 ≤ i) (h1 : i < n), q P h (Instr.indexAt 144 (.slice (some a) n c) (.int k i)) K = K (.pointer (some (a.add i.toNat)))) ∧
  (∀ {h : Hp} {K : Value → Prop} {T : TypeId} (a : Option Addr) (n c : Nat), q P h (Builtin.len_ #[144] T #[.slice a n c]) K = K (.int .i64 n)) ∧
  (∀ {h : Hp} {K : Value → Prop} (x y : Operand) (a : Option Addr) (n c : Nat), q P h (eqop .eql 144 x y (.slice a n c) (.slice none 0 0)) K = K (.bool a.isNone)) ∧
  (∀ {h : Hp} {K : Value → Prop} (a : Addr), q P h (Instr.loadAt 149 (.pointer (some a))) K = withVal (h.cell a) K) ∧
  (∀ {h : Hp} {K : Value → Prop} (a : Addr) (k : IntKind) (i : Int) (h0 : 0 ≤ i) (h1 : i < 256), q P h (Instr.indexAt 164 (.pointer (some a)) (.int k i)) K = K (.pointer (some (a.add i.toNat)))) ∧
  (∀ {h : Hp} {K : Value → Prop} (a : Addr), q P h (Instr.loadAt 169 (.pointer (some a))) K = withVal (h.cell a) K) ∧
  (∀ {h : Hp} {K : Value → Prop} (a : Addr) (k : IntKind) (i : Int) (h0 : 0 ≤ i) (h1 : i < 24), q P h (Instr.indexAt 187 (.pointer (some a)) (.int k i)) K = K (.pointer (some (a.add i.toNat)))) ∧
  (∀ {h : Hp} {K : Value → Prop} (a : Addr), q P h (Instr.loadAt 192 (.pointer (some a))) K = withVal (h.cell a) K) ∧
  (∀ {h : Hp} {K : Value → Prop} (a : Addr) (k : IntKind) (i : Int) (h0 : 0 ≤ i) (h1 : i < 20), q P h (Instr.indexAt 197 (.pointer (some a)) (.int k i)) K = K (.pointer (some (a.add i.toNat)))) ∧
  (∀ {h : Hp} {K : Value → Prop} (a : Addr) (k : IntKind) (i : Int) (h0 : 0 ≤ i) (h1 : i < 65), q P h (Instr.indexAt 198 (.pointer (some a)) (.int k i)) K = K (.pointer (some (a.add i.toNat)))) ∧
  (∀ {h : Hp} {K : Value → Prop} (a : Addr), q P h (Instr.loadAt 203 (.pointer (some a))) K = withVal (h.cell a) K) ∧
  (∀ {h : Hp} {K : Value → Prop} (a : Addr), q P h (Instr.loadAt 206 (.pointer (some a))) K = withVal (h.cell a) K) ∧
  (∀ {h : Hp} {K : Value → Prop} (a : Addr) (k : IntKind) (i : Int) (h0 : 0 ≤ i) (h1 : i < 32), q P h (Instr.indexAt 217 (.pointer (some a)) (.int k i)) K = K (.pointer (some (a.add i.toNat)))) ∧
  (∀ {h : Hp} {K : Value → Prop} (a : Addr) (k : IntKind) (i : Int) (h0 : 0 ≤ i) (h1 : i < 64), q P h (Instr.indexAt 218 (.pointer (some a)) (.int k i)) K = K (.pointer (some (a.add i.toNat)))) ∧
  (∀ {h : Hp} {K : Value → Prop} (a : Addr), q P h (Instr.loadAt 223 (.pointer (some a))) K = withVal (h.cell a) K) ∧
  (∀ {h : Hp} {K : Value → Prop} (a : Addr), q P h (Instr.loadAt 228 (.pointer (some a))) K = withVal (h.cell a) K) ∧
  (∀ {h : Hp} {K : Value → Prop} {T : TypeId} (a : Option Addr) (n c : Nat), q P h (Builtin.len_ #[228] T #[.slice a n c]) K = K (.int .i64 n)) ∧
  (∀ {h : Hp} {K : Value → Prop} (x y : Operand) (a : Option Addr) (n c : Nat), q P h (eqop .eql 228 x y (.slice a n c) (.slice none 0 0)) K = K (.bool a.isNone)) ∧
  (∀ {h : Hp} {K : Value → Prop} (a : Addr), q P h (Instr.loadAt 229 (.pointer (some a))) K = withVal (h.cell a) K) ∧
  (∀ {h : Hp} {K : Value → Prop} (a : Addr) (k : IntKind) (i : Int) (h0 : 0 ≤ i) (h1 : i < 3), q P h (Instr.indexAt 233 (.pointer (some a)) (.int k i)) K = K (.pointer (some (a.add i.toNat)))) ∧
  (∀ {h : Hp} {K : Value → Prop} {k : IntKind} (a : Int), q P h (convert 2 5 (.int k a)) K = K (.int .u8 (IntKind.u8.wrap a))) ∧
  (∀ {h : Hp} {K : Value → Prop} {k : IntKind} (a : Int), q P h (convert 2 106 (.int k a)) K = K (.int .u64 (IntKind.u64.wrap a))) ∧
  (∀ {h : Hp} {K : Value → Prop} {k : IntKind} (a : Int), q P h (convert 3 5 (.int k a)) K = K (.int .u8 (IntKind.u8.wrap a))) ∧
  (∀ {h : Hp} {K : Value → Prop} {k : IntKind} (a : Int), q P h (convert 3 21 (.int k a)) K = K (.int .i32 (IntKind.i32.wrap a))) ∧
  (∀ {h : Hp} {K : Value → Prop} {k : IntKind} (a : Int), q P h (convert 3 38 (.int k a)) K = K (.int .u32 (IntKind.u32.wrap a))) ∧
  (∀ {h : Hp} {K : Value → Prop} {k : IntKind} (a : Int), q P h (convert 3 106 (.int k a)) K = K (.int .u64 (IntKind.u64.wrap a))) ∧
  (∀ {h : Hp} {K : Value → Prop} {k : IntKind} (a : Int), q P h (convert 3 149 (.int k a)) K = K (.int .u64 (IntKind.u64.wrap a))) ∧
  (∀ {h : Hp} {K : Value → Prop} {k : IntKind} (a : Int), q P h (convert 5 2 (.int k a)) K = K (.int .i64 (IntKind.i64.wrap a))) ∧
  (∀ {h : Hp} {K : Value → Prop} {k : IntKind} (a : Int), q P h (convert 5 3 (.int k a)) K = K (.int .i64 (IntKind.i64.wrap a))) ∧
  (∀ {h : Hp} {K : Value → Prop} {k : IntKind} (a : Int), q P h (convert 5 12 (.int k a)) K = K (.int .u64 (IntKind.u64.wrap a))) ∧
  (∀ {h : Hp} {K : Value → Prop} {k : IntKind} (a : Int), q P h (convert 5 21 (.int k a)) K = K (.int .i32 (IntKind.i32.wrap a))) ∧
  (∀ {h : Hp} {K : Value → Prop} {k : IntKind} (a : Int), q P h (convert 5 106 (.int k a)) K = K (.int .u64 (IntKind.u64.wrap a))) ∧
  (∀ {h : Hp} {K : Value → Prop} {k : IntKind} (a : Int), q P h (convert 21 5 (.int k a)) K = K (.int .u8 (IntKind.u8.wrap a))) ∧
  (∀ {h : Hp} {K : Value → Prop} {k : IntKind} (a : Int), q P h (convert 21 38 (.int k a)) K = K (.int .u32 (IntKind.u32.wrap a))) ∧
  (∀ {h : Hp} {K : Value → Prop} {k : IntKind} (a : Int), q P h (convert 38 2 (.int k a)) K = K (.int .i64 (IntKind.i64.wrap a))) ∧
  (∀ {h : Hp} {K : Value → Prop} {k : IntKind} (a : Int), q P h (convert 38 3 (.int k a)) K = K (.int .i64 (IntKind.i64.wrap a))) ∧
  (∀ {h : Hp} {K : Value → Prop} {k : IntKind} (a : Int), q P h (convert 38 5 (.int k a)) K = K (.int .u8 (IntKind.u8.wrap a))) ∧
  (∀ {h : Hp} {K : Value → Prop} {k : IntKind} (a : Int), q P h (convert 38 21 (.int k a)) K = K (.int .i32 (IntKind.i32.wrap a))) ∧
  (∀ {h : Hp} {K : Value → Prop} {k : IntKind} (a : Int), q P h (convert 38 106 (.int k a)) K = K (.int .u64 (IntKind.u64.wrap a))) ∧
  (∀ {h : Hp} {K : Value → Prop} {k : IntKind} (a : Int), q P h (convert 106 2 (.int k a)) K = K (.int .i64 (IntKind.i64.wrap a))) ∧
  (∀ {h : Hp} {K : Value → Prop} {k : IntKind} (a : Int), q P h (convert 106 3 (.int k a)) K = K (.int .i64 (IntKind.i64.wrap a))) ∧
  (∀ {h : Hp} {K : Value → Prop} {k : IntKind} (a : Int), q P h (convert 106 5 (.int k a)) K = K (.int .u8 (IntKind.u8.wrap a))) ∧
  (∀ {h : Hp} {K : Value → Prop} {k : IntKind} (a : Int), q P h (convert 106 38 (.int k a)) K = K (.int .u32 (IntKind.u32.wrap a))) ∧
  (∀ {h : Hp} {K : Value → Prop} {k : IntKind} (a : Int), q P h (convert 149 3 (.int k a)) K = K (.int .i64 (IntKind.i64.wrap a))) ∧
  (∀ {h : Hp} {K : Value → Prop} {k : IntKind} (a : Int), q P h (convert 149 38 (.int k a)) K = K (.int .u32 (IntKind.u32.wrap a))) :=
  ⟨@ld2, @ld3, @ld4, @eb4, @nb4, @ld5, @ld9, @ln9, @ld12, @ld21, @ld22, @ix22, @ln22, @en22, @ld24, @ln24, @en24, @ld25, @ln25, @en25, @ld28, @ld36, @ix36, @ln36, @en36, @ld38, @ld40, @ln40, @en40, @ld41, @ln41, @en41, @ld64, @ld106, @ld129, @ld144, @ix144, @ln144, @en144, @ld149, @ix164, @ld169, @ix187, @ld192, @ix197, @ix198, @ld203, @ld206, @ix217, @ix218, @ld223, @ld228, @ln228, @en228, @ld229, @ix233, @cv2_5, @cv2_106, @cv3_5, @cv3_21, @cv3_38, @cv3_106, @cv3_149, @cv5_2, @cv5_3, @cv5_12, @cv5_21, @cv5_106, @cv21_5, @cv21_38, @cv38_2, @cv38_3, @cv38_5, @cv38_21, @cv38_106, @cv106_2, @cv106_3, @cv106_5, @cv106_38, @cv149_3, @cv149_38⟩
theorem u_int64 : P.underlying 2 = some (.int .i64) := u2
theorem z_int64 : sz P 2 = some 1 := z2
theorem z_int : sz P 3 = some 1 := z3
theorem zr_int : zr P 3 = some (.int .i64 0) := zr3
theorem z_bool : sz P 4 = some 1 := z4
theorem u_uint8 : P.underlying 5 = some (.int .u8) := u5
theorem z_uint8 : sz P 5 = some 1 := z5
theorem nfo_uint8 : (P.info? 5).map (fun i => (i.zero, i.size, i.bytes)) = some (some (.int .u8 0), 1, 1) := nfo5
theorem zr_uint8 : zr P 5 = some (.int .u8 0) := zr5
theorem u_string : P.underlying 9 = some .string := u9
theorem z_string : sz P 9 = some 1 := z9
theorem zr_string : zr P 9 = some (.string ByteArray.empty) := zr9
theorem u_int32 : P.underlying 21 = some (.int .i32) := u21
theorem u_Sl_uint8 : P.underlying 22 = some (.slice 5) := u22
theorem z_Sl_uint8 : sz P 22 = some 1 := z22
theorem u_Sl_api_Value : P.underlying 24 = some (.slice 27) := u24
theorem z_Sl_api_Value : sz P 24 = some 1 := z24
theorem u_Sl_api_Member : P.underlying 25 = some (.slice 52) := u25
theorem z_Sl_api_Member : sz P 25 = some 1 := z25
theorem u_api_Value : P.underlying 27 = some (.struct (match P.underlying 27 with | some (.struct fs) => fs | _ => #[])) := u27
theorem z_api_Value : sz P 27 = some 6 := z27
theorem u_api_Code : P.underlying 28 = some (.int .i64) := u28
theorem z_api_Code : sz P 28 = some 1 := z28
theorem zr_api_Code : zr P 28 = some (.int .i64 0) := zr28
theorem u_Sl_string : P.underlying 36 = some (.slice 9) := u36
theorem u_uint32 : P.underlying 38 = some (.int .u32) := u38
theorem u_api_Member : P.underlying 52 = some (.struct (match P.underlying 52 with | some (.struct fs) => fs | _ => #[])) := u52
theorem z_api_Member : sz P 52 = some 7 := z52
theorem u_uint64 : P.underlying 106 = some (.int .u64) := u106
theorem u_map_string_int : P.underlying 129 = some (.map 9 3) := u129
theorem u_256_uint8 : P.underlying 164 = some (.array 256 5) := u164
theorem u_utf8_acceptRange : P.underlying 166 = some (.struct (match P.underlying 166 with | some (.struct fs) => fs | _ => #[])) := u166
theorem z_utf8_acceptRange : sz P 166 = some 2 := z166
theorem u_16_utf8_acceptRange : P.underlying 167 = some (.array 16 166) := u167
theorem u_Pt_strings_Builder : P.underlying 169 = some (.pointer 171) := u169
theorem z_Pt_strings_Builder : sz P 169 = some 1 := z169
theorem z_strings_Builder : sz P 171 = some 2 := z171
theorem u_Pt_uint8 : P.underlying 192 = some (.pointer 5) := u192
theorem u_20_uint64 : P.underlying 197 = some (.array 20 106) := u197
theorem u_Sl_unicode_CaseRange : P.underlying 228 = some (.slice 235) := u228
theorem u_Pt_unicode_CaseRange : P.underlying 229 = some (.pointer 235) := u229
theorem z_unicode_CaseRange : sz P 235 = some 5 := z235
end Go.Proofs.YtolcmaipjpkidaaGreatDoor
set_option linter.unusedVariables false
set_option maxRecDepth 100000
namespace Go.Proofs.YtolcmaipjpkidaaGreatDoor
open Go Go.SL
/-- function 5: orlop.orloplaw15.JsonNumbers -/
def s_orloplaw15_JsonNumbers (K : Value → Hp → Prop) (h : Hp) (t0 t1 : Value) : Prop := Cn P 11 #[] h fun t9 h => q P h (Op.unary .not t9) fun t10 => cnd t10 (K (Value.bool false) h) (q P h (Instr.build 27 #[(0, (Value.int .i64 2)), (2, t0)]) fun t13 => Cn P 19 #[t13] h fun t14 h => aw P (convert 9 22 t14) (fun t15 h => Cn P 12 #[t15] h fun t16 h => q P h (Instr.extract t16 0) fun t17 => q P h (Instr.extract t16 1) fun t18 => aw P (Instr.alloc 27 true (.tuple #[])) (fun t5 h => aw P (Instr.storeAt 27 t5 t17) (fun _ h => 
let J7 : Value → Hp → Prop := fun t24 h => cnd t24 (q P h (eqop .eql 28 (.tmp 25) (.const (Value.int .i64 8)) t18 (Value.int .i64 8)) fun t26 => gd t26 true (q P h (Instr.build 27 #[(0, (Value.int .i64 2)), (2, t0)]) fun t29 => Cn P 15 #[t29] h fun t30 h => q P h (Op.unary .not t30) fun t31 => K t31 h) (K (Value.bool false) h)) (q P h (binOp .rem 38 t1 (Value.int .u32 90000)) fun t35 => q P h (convert 38 2 t35) fun t36 => q P h (binOp .add 2 (Value.int .i64 10000) t36) fun t37 => q P h (Instr.build 27 #[(0, (Value.int .i64 2)), (2, t37)]) fun t38 => Cn P 19 #[t38] h fun t39 h => q P h (binOp .add 9 (Value.string ⟨#[57, 48, 48, 55, 49, 57, 57, 50, 53, 52, 55]⟩) t39) fun t40 => aw P (convert 9 22 t40) (fun t41 h => Cn P 12 #[t41] h fun t42 h => q P h (Instr.extract t42 0) fun t43 => q P h (Instr.extract t42 1) fun t44 => aw P (Instr.alloc 27 true (.tuple #[])) (fun t7 h => aw P (Instr.storeAt 27 t7 t43) (fun _ h => 
let J10 : Hp → Prop := fun h => q P h (eqop .eql 28 (.tmp 52) (.const (Value.int .i64 0)) t18 (Value.int .i64 0)) fun t53 => gd t53 true (q P h (Instr.fieldAt 27 t5 0) fun t55 => q P h (Instr.loadAt 3 t55) fun t56 => q P h (eqop .eql 3 (.tmp 56) (.const (Value.int .i64 2)) t56 (Value.int .i64 2)) fun t57 => gd t57 true (q P h (Instr.fieldAt 27 t5 2) fun t60 => q P h (Instr.loadAt 2 t60) fun t61 => q P h (eqop .eql 2 (.tmp 61) (.tmp 62) t61 t0) fun t63 => K t63 h) (K (Value.bool false) h)) (K (Value.bool false) h);
q P h (eqop .eql 28 (.tmp 45) (.const (Value.int .i64 0)) t44 (Value.int .i64 0)) fun t46 => gd t46 true (q P h (Instr.fieldAt 27 t7 2) fun t48 => q P h (Instr.loadAt 2 t48) fun t49 => q P h (binOp .gtr 2 t49 (Value.int .i64 9007199254740991)) fun t50 => cnd t50 (K (Value.bool false) h) (J10 h)) (cnd (Value.bool false) (K (Value.bool false) h) (J10 h))) h) h) h);
q P h (binOp .gtr 2 t0 (Value.int .i64 9007199254740991)) fun t20 => gd t20 false (q P h (binOp .lss 2 t0 (Value.int .i64 (-9007199254740991))) fun t23 => J7 t23 h) (J7 (Value.bool true) h)) h) h) h)
theorem F_orloplaw15_JsonNumbers {K : Value → Hp → Prop} {h : Hp} {t0 t1 : Value} (s : s_orloplaw15_JsonNumbers K h t0 t1) : Cn P 5 #[t0, t1] h K :=
  Cn_ofs mixed Tryz.func5 (by kernel_rfl) (args := [t0, t1]) (by kernel_rfl) s
end Go.Proofs.YtolcmaipjpkidaaGreatDoor
set_option linter.unusedVariables false
set_option maxRecDepth 100000
namespace Go.Proofs.YtolcmaipjpkidaaGreatDoor
open Go Go.SL
/-- function 11: orlop.orloplaw15.awake -/
def s_orloplaw15_awake (K : Value → Hp → Prop) (h : Hp) : Prop := aw P (Instr.buildSlice 22 30 #[(0, (Value.int .u8 32)), (1, (Value.int .u8 123)), (2, (Value.int .u8 34)), (3, (Value.int .u8 97)), (4, (Value.int .u8 34)), (5, (Value.int .u8 58)), (6, (Value.int .u8 91)), (7, (Value.int .u8 49)), (8, (Value.int .u8 44)), (9, (Value.int .u8 45)), (10, (Value.int .u8 50)), (11, (Value.int .u8 44)), (12, (Value.int .u8 34)), (13, (Value.int .u8 120)), (14, (Value.int .u8 92)), (15, (Value.int .u8 110)), (16, (Value.int .u8 34)), (17, (Value.int .u8 93)), (18, (Value.int .u8 32)), (19, (Value.int .u8 44)), (20, (Value.int .u8 32)), (21, (Value.int .u8 34)), (22, (Value.int .u8 98)), (23, (Value.int .u8 34)), (24, (Value.int .u8 58)), (25, (Value.int .u8 110)), (26, (Value.int .u8 117)), (27, (Value.int .u8 108)), (28, (Value.int .u8 108)), (29, (Value.int .u8 125))]) (fun t10 h => aw P (convert 22 22 t10) (fun t11 h => Cn P 12 #[t11] h fun t12 h => q P h (Instr.extract t12 0) fun t13 => q P h (Instr.extract t12 1) fun t14 => aw P (Instr.alloc 27 true (.tuple #[])) (fun t1 h => aw P (Instr.storeAt 27 t1 t13) (fun _ h => aw P (Instr.buildSlice 22 2 #[(0, (Value.int .u8 48)), (1, (Value.int .u8 49))]) (fun t16 h => aw P (convert 22 22 t16) (fun t17 h => Cn P 12 #[t17] h fun t18 h => q P h (Instr.extract t18 0) fun t19 => q P h (Instr.extract t18 1) fun t20 => aw P (Instr.alloc 27 true (.tuple #[])) (fun t3 h => aw P (Instr.storeAt 27 t3 t19) (fun _ h => aw P (Instr.buildSlice 22 17 #[(0, (Value.int .u8 91)), (1, (Value.int .u8 91)), (2, (Value.int .u8 91)), (3, (Value.int .u8 91)), (4, (Value.int .u8 91)), (5, (Value.int .u8 91)), (6, (Value.int .u8 91)), (7, (Value.int .u8 91)), (8, (Value.int .u8 91)), (9, (Value.int .u8 91)), (10, (Value.int .u8 91)), (11, (Value.int .u8 91)), (12, (Value.int .u8 91)), (13, (Value.int .u8 91)), (14, (Value.int .u8 91)), (15, (Value.int .u8 91)), (16, (Value.int .u8 91))]) (fun t22 h => aw P (convert 22 22 t22) (fun t23 h => Cn P 12 #[t23] h fun t24 h => q P h (Instr.extract t24 0) fun t25 => q P h (Instr.extract t24 1) fun t26 => aw P (Instr.alloc 27 true (.tuple #[])) (fun t5 h => aw P (Instr.storeAt 27 t5 t25) (fun _ h => q P h (Instr.loadAt 27 t1) fun t28 => Cn P 36 #[t28, (Value.string ⟨#[97]⟩)] h fun t29 h => q P h (Instr.extract t29 0) fun t30 => q P h (Instr.extract t29 1) fun t31 => aw P (Instr.alloc 27 true (.tuple #[])) (fun t7 h => aw P (Instr.storeAt 27 t7 t30) (fun _ h => q P h (eqop .eql 28 (.tmp 32) (.const (Value.int .i64 0)) t14 (Value.int .i64 0)) fun t33 => gd t33 true (q P h (eqop .eql 28 (.tmp 35) (.const (Value.int .i64 8)) t20 (Value.int .i64 8)) fun t36 => gd t36 true (q P h (eqop .eql 28 (.tmp 39) (.const (Value.int .i64 3)) t26 (Value.int .i64 3)) fun t40 => gd t40 true (gd t31 true (q P h (Instr.fieldAt 27 t7 4) fun t46 => q P h (Instr.loadAt 24 t46) fun t47 => q P h (Builtin.len_ #[24] 3 #[t47]) fun t48 => q P h (eqop .eql 3 (.tmp 48) (.const (Value.int .i64 3)) t48 (Value.int .i64 3)) fun t49 => gd t49 true (q P h (Instr.loadAt 27 t1) fun t52 => Cn P 19 #[t52] h fun t53 h => q P h (eqop .eql 9 (.tmp 53) (.const (Value.string tx_962194)) t53 (Value.string tx_962194)) fun t54 => K t54 h) (K (Value.bool false) h)) (K (Value.bool false) h)) (K (Value.bool false) h)) (K (Value.bool false) h)) (K (Value.bool false) h)) h) h) h) h) h) h) h) h) h) h) h) h) h) h
theorem F_orloplaw15_awake {K : Value → Hp → Prop} {h : Hp} (s : s_orloplaw15_awake K h) : Cn P 11 #[] h K :=
  Cn_ofs mixed Tryz.func11 (by kernel_rfl) (args := []) (by kernel_rfl) s
/-- function 12: orlop.json.Parse -/
def s_json_Parse (K : Value → Hp → Prop) (h : Hp) (t0 : Value) : Prop := aw P (Instr.alloc 27 true (.tuple #[])) (fun t2 h => q P h (Builtin.len_ #[22] 3 #[t0]) fun t6 => q P h (binOp .gtr 3 t6 (Value.int .i64 65536)) fun t7 => cnd t7 (q P h (Instr.build 27 #[]) fun t8 => aw P (Instr.storeAt 27 t2 t8) (fun _ h => q P h ((asAddr t2).bind (loadVar 27)) fun r0 => K (Value.tuple #[r0, (Value.int .i64 3)]) h) h) (q P h (Instr.build 66 #[(0, t0)]) fun t10 => aw P (Instr.box 66 t10) (fun t11 h => Cn P 37 #[t11] h fun t13 h => q P h (Instr.extract t13 0) fun t14 => q P h (Instr.extract t13 1) fun t15 => aw P (Instr.storeAt 27 t2 t14) (fun _ h => q P h ((asAddr t2).bind (loadVar 27)) fun r0 => K (Value.tuple #[r0, t15]) h) h) h)) h
theorem F_json_Parse {K : Value → Hp → Prop} {h : Hp} {t0 : Value} (s : s_json_Parse K h t0) : Cn P 12 #[t0] h K :=
  Cn_ofs mixed Tryz.func12 (by kernel_rfl) (args := [t0]) (by kernel_rfl) s
end Go.Proofs.YtolcmaipjpkidaaGreatDoor
set_option linter.unusedVariables false
set_option maxRecDepth 100000
namespace Go.Proofs.YtolcmaipjpkidaaGreatDoor
open Go Go.SL
/-- function 15: orlop.json.May -/
def s_json_May (K : Value → Hp → Prop) (h : Hp) (t0 : Value) : Prop := aw P (Instr.box 27 t0) (fun t1 h => q P h (Instr.loadAt 27 t1) fun t3 => Cn P 40 #[t3, (Value.int .i64 1)] h fun t4 h => K t4 h) h
theorem F_json_May {K : Value → Hp → Prop} {h : Hp} {t0 : Value} (s : s_json_May K h t0) : Cn P 15 #[t0] h K :=
  Cn_ofs mixed Tryz.func15 (by kernel_rfl) (args := [t0]) (by kernel_rfl) s
/-- function 19: orlop.json.Write -/
def s_json_Write (K : Value → Hp → Prop) (h : Hp) (t0 : Value) : Prop := aw P (Instr.box 27 t0) (fun t1 h => q P h (Instr.loadAt 27 t1) fun t3 => Cn P 15 #[t3] h fun t4 h => q P h (Op.unary .not t4) fun t5 => cnd t5 (K (Value.string ⟨#[]⟩) h) (q P h (Instr.loadAt 27 t1) fun t6 => Cn P 45 #[t6] h fun t7 h => K t7 h)) h
theorem F_json_Write {K : Value → Hp → Prop} {h : Hp} {t0 : Value} (s : s_json_Write K h t0) : Cn P 19 #[t0] h K :=
  Cn_ofs mixed Tryz.func19 (by kernel_rfl) (args := [t0]) (by kernel_rfl) s
end Go.Proofs.YtolcmaipjpkidaaGreatDoor
set_option linter.unusedVariables false
set_option maxRecDepth 100000
namespace Go.Proofs.YtolcmaipjpkidaaGreatDoor
open Go Go.SL
/-- function 36: orlop.json.Get -/
def s_json_Get (K : Value → Hp → Prop) (h : Hp) (t0 t1 : Value) : Prop := aw P (Instr.box 27 t0) (fun t2 h => aw P (Instr.box 9 t1) (fun t3 h => aw P (Instr.alloc 27 true (.tuple #[])) (fun t4 h => q P h (Instr.fieldAt 27 t2 5) fun t7 => q P h (Instr.loadAt 25 t7) fun t8 => Cn P 85 #[t8, (Value.func (.func 86) #[] #[t3])] h fun t10 h => q P h (binOp .geq 3 t10 (Value.int .i64 0)) fun t12 => cnd t12 (q P h (Instr.fieldAt 27 t2 5) fun t13 => q P h (Instr.loadAt 25 t13) fun t14 => q P h (Instr.indexAt 25 t14 t10) fun t16 => q P h (Instr.fieldAt 52 t16 1) fun t17 => q P h (Instr.loadAt 27 t17) fun t18 => aw P (Instr.storeAt 27 t4 t18) (fun _ h => q P h ((asAddr t4).bind (loadVar 27)) fun r0 => K (Value.tuple #[r0, (Value.bool true)]) h) h) (q P h (Instr.build 27 #[]) fun t19 => aw P (Instr.storeAt 27 t4 t19) (fun _ h => q P h ((asAddr t4).bind (loadVar 27)) fun r0 => K (Value.tuple #[r0, (Value.bool false)]) h) h)) h) h) h
theorem F_json_Get {K : Value → Hp → Prop} {h : Hp} {t0 t1 : Value} (s : s_json_Get K h t0 t1) : Cn P 36 #[t0, t1] h K :=
  Cn_ofs mixed Tryz.func36 (by kernel_rfl) (args := [t0, t1]) (by kernel_rfl) s
end Go.Proofs.YtolcmaipjpkidaaGreatDoor
set_option linter.unusedVariables false
set_option maxRecDepth 100000
namespace Go.Proofs.YtolcmaipjpkidaaGreatDoor
open Go Go.SL
/-- function 40: orlop.json.may -/
def s_json_may (K : Value → Hp → Prop) (h : Hp) (t0 t1 : Value) : Prop := aw P (Instr.box 27 t0) (fun t2 h => aw P (Instr.box 3 t1) (fun t3 h => 
let J2 : Hp → Prop := fun h => aw P (Instr.makeMap 129 none) (fun t43 h => q P h (Instr.fieldAt 27 t2 5) fun t44 => q P h (Instr.loadAt 25 t44) fun t45 => q P h (Builtin.len_ #[25] 3 #[t45]) fun t46 => 
Lp [(Value.bool false), (Value.int .i64 0)] h fun nx15 vs15 h =>
q P h (binOp .lss 3 (vs15.getD 1 undef) t46) fun t48 => cnd t48 (q P h (Instr.indexAt 25 t45 (vs15.getD 1 undef)) fun t49 => q P h (Instr.loadAt 52 t49) fun t50 => aw P (Instr.alloc 52 true (.tuple #[])) (fun t7 h => aw P (Instr.storeAt 52 t7 t50) (fun _ h => q P h (Instr.fieldAt 52 t7 0) fun t52 => q P h (Instr.loadAt 9 t52) fun t53 => q P h (Instr.lookup 129 t43 t53 false) fun t54 => q P h (binOp .add 3 t54 (Value.int .i64 1)) fun t55 => aw P (Instr.mapUpdate 129 t43 t53 t55) (fun _ h => q P h (Instr.fieldAt 52 t7 0) fun t57 => q P h (Instr.loadAt 9 t57) fun t58 => q P h (Instr.lookup 129 t43 t58 false) fun t59 => q P h (binOp .gtr 3 t59 (Value.int .i64 1)) fun t60 => gd t60 false (q P h (Instr.fieldAt 52 t7 0) fun t62 => q P h (Instr.loadAt 9 t62) fun t63 => Cn P 97 #[t63] h fun t64 h => q P h (Op.unary .not t64) fun t65 => gd t65 false (q P h (Instr.fieldAt 52 t7 1) fun t68 => q P h (Instr.loadAt 27 t68) fun t69 => q P h (Instr.loadAt 3 t3) fun t70 => q P h (binOp .add 3 t70 (Value.int .i64 1)) fun t71 => Cn P 40 #[t69, t71] h fun t72 h => q P h (Op.unary .not t72) fun t73 => cnd t73 (K (Value.bool false) h) (q P h (binOp .add 3 (vs15.getD 1 undef) (Value.int .i64 1)) fun t75 => nx15 [(vs15.getD 0 undef), t75] h)) (cnd (Value.bool true) (K (Value.bool false) h) (q P h (binOp .add 3 (vs15.getD 1 undef) (Value.int .i64 1)) fun t75 => nx15 [(vs15.getD 0 undef), t75] h))) (cnd (Value.bool true) (K (Value.bool false) h) (q P h (binOp .add 3 (vs15.getD 1 undef) (Value.int .i64 1)) fun t75 => nx15 [(vs15.getD 0 undef), t75] h))) h) h) h) (q P h (Instr.fieldAt 27 t2 4) fun t76 => q P h (Instr.loadAt 24 t76) fun t77 => Cn P 98 #[t77, (Value.func (.func 99) #[] #[t3])] h fun t79 h => q P h (Op.unary .not t79) fun t80 => K t80 h)) h;
q P h (Instr.loadAt 3 t3) fun t8 => q P emp (binOp .gtr 3 t8 (Value.int .i64 16)) fun t9 => gd t9 false (q P h (Instr.fieldAt 27 t2 0) fun t11 => q P h (Instr.loadAt 3 t11) fun t12 => q P emp (binOp .lss 3 t12 (Value.int .i64 0)) fun t13 => gd t13 false (q P h (Instr.fieldAt 27 t2 0) fun t16 => q P h (Instr.loadAt 3 t16) fun t17 => q P emp (binOp .gtr 3 t17 (Value.int .i64 5)) fun t18 => gd t18 false (q P h (Instr.loadAt 27 t2) fun t21 => q P h (Instr.loadAt 27 t2) fun t22 => Cn P 96 #[t22] h fun t23 h => peek P h (Instr.loadAt 27 t2) = some t21 ∧ Cn P 95 #[t21, t23] h fun t24 h => q P emp (Op.unary .not t24) fun t25 => gd t25 false (q P h (Instr.fieldAt 27 t2 2) fun t28 => q P h (Instr.loadAt 2 t28) fun t29 => q P emp (binOp .lss 2 t29 (Value.int .i64 (-9007199254740991))) fun t30 => gd t30 false (q P h (Instr.fieldAt 27 t2 2) fun t33 => q P h (Instr.loadAt 2 t33) fun t34 => q P emp (binOp .gtr 2 t34 (Value.int .i64 9007199254740991)) fun t35 => gd t35 false (q P h (Instr.fieldAt 27 t2 3) fun t38 => q P h (Instr.loadAt 9 t38) fun t39 => Cn P 97 #[t39] h fun t40 h => q P emp (Op.unary .not t40) fun t41 => cnd t41 (K (Value.bool false) h) (J2 h)) (cnd (Value.bool true) (K (Value.bool false) h) (J2 h))) (cnd (Value.bool true) (K (Value.bool false) h) (J2 h))) (cnd (Value.bool true) (K (Value.bool false) h) (J2 h))) (cnd (Value.bool true) (K (Value.bool false) h) (J2 h))) (cnd (Value.bool true) (K (Value.bool false) h) (J2 h))) (cnd (Value.bool true) (K (Value.bool false) h) (J2 h))) h) h
theorem F_json_may {K : Value → Hp → Prop} {h : Hp} {t0 t1 : Value} (s : s_json_may K h t0 t1) : Cn P 40 #[t0, t1] h K :=
  Cn_ofs mixed Tryz.func40 (by kernel_rfl) (args := [t0, t1]) (by kernel_rfl) s
end Go.Proofs.YtolcmaipjpkidaaGreatDoor
set_option linter.unusedVariables false
set_option maxRecDepth 100000
namespace Go.Proofs.YtolcmaipjpkidaaGreatDoor
open Go Go.SL
/-- function 45: orlop.json.written -/
def s_json_written (K : Value → Hp → Prop) (h : Hp) (t0 : Value) : Prop := aw P (Instr.box 27 t0) (fun t1 h => q P h (Instr.fieldAt 27 t1 0) fun t8 => q P h (Instr.loadAt 3 t8) fun t9 => q P h (eqop .eql 3 (.tmp 9) (.const (Value.int .i64 1)) t9 (Value.int .i64 1)) fun t11 => cnd t11 (q P h (Instr.fieldAt 27 t1 1) fun t12 => q P h (Instr.loadAt 4 t12) fun t13 => Cn P 101 #[t13] h fun t14 h => K t14 h) (q P h (eqop .eql 3 (.tmp 9) (.const (Value.int .i64 2)) t9 (Value.int .i64 2)) fun t16 => cnd t16 (q P h (Instr.fieldAt 27 t1 2) fun t17 => q P h (Instr.loadAt 2 t17) fun t18 => Cn P 102 #[t18, (Value.int .i64 10)] h fun t19 h => K t19 h) (q P h (eqop .eql 3 (.tmp 9) (.const (Value.int .i64 3)) t9 (Value.int .i64 3)) fun t21 => cnd t21 (q P h (Instr.fieldAt 27 t1 3) fun t22 => q P h (Instr.loadAt 9 t22) fun t23 => Cn P 103 #[t23] h fun t24 h => K t24 h) (q P h (eqop .eql 3 (.tmp 9) (.const (Value.int .i64 4)) t9 (Value.int .i64 4)) fun t26 => cnd t26 (q P h (Instr.fieldAt 27 t1 4) fun t27 => q P h (Instr.loadAt 24 t27) fun t28 => q P h (Builtin.len_ #[24] 3 #[t28]) fun t29 => 
Lp [(Value.slice none 0 0), (Value.int .i64 0)] h fun nx14 vs14 h =>
q P h (binOp .lss 3 (vs14.getD 1 undef) t29) fun t31 => cnd t31 (q P h (Instr.indexAt 24 t28 (vs14.getD 1 undef)) fun t32 => q P h (Instr.loadAt 27 t32) fun t33 => aw P (Instr.alloc 27 true (.tuple #[])) (fun t5 h => aw P (Instr.storeAt 27 t5 t33) (fun _ h => q P h (Instr.loadAt 27 t5) fun t35 => Cn P 45 #[t35] h fun t36 h => aw P (Instr.buildSlice 36 1 #[(0, t36)]) (fun t37 h => aw P (Builtin.append_ #[36, 36] 36 #[(vs14.getD 0 undef), t37]) (fun t38 h => q P h (binOp .add 3 (vs14.getD 1 undef) (Value.int .i64 1)) fun t39 => nx14 [t38, t39] h) h) h) h) h) (Cn P 104 #[(vs14.getD 0 undef), (Value.string ⟨#[44]⟩)] h fun t41 h => q P h (binOp .add 9 (Value.string ⟨#[91]⟩) t41) fun t42 => q P h (binOp .add 9 t42 (Value.string ⟨#[93]⟩)) fun t43 => K t43 h)) (q P h (eqop .eql 3 (.tmp 9) (.const (Value.int .i64 5)) t9 (Value.int .i64 5)) fun t45 => cnd t45 (q P h (Instr.fieldAt 27 t1 5) fun t46 => q P h (Instr.loadAt 25 t46) fun t47 => q P h (Builtin.len_ #[25] 3 #[t47]) fun t48 => 
Lp [(Value.slice none 0 0), (Value.int .i64 0)] h fun nx23 vs23 h =>
q P h (binOp .lss 3 (vs23.getD 1 undef) t48) fun t50 => cnd t50 (q P h (Instr.indexAt 25 t47 (vs23.getD 1 undef)) fun t51 => q P h (Instr.loadAt 52 t51) fun t52 => aw P (Instr.alloc 52 true (.tuple #[])) (fun t7 h => aw P (Instr.storeAt 52 t7 t52) (fun _ h => q P h (Instr.fieldAt 52 t7 0) fun t54 => q P h (Instr.loadAt 9 t54) fun t55 => q P h (Instr.fieldAt 52 t7 1) fun t58 => q P h (Instr.loadAt 27 t58) fun t59 => Cn P 103 #[t55] h fun t56 h => peek P h (Instr.loadAt 27 t58) = some t59 ∧ peek P h (Instr.fieldAt 52 t7 1) = some t58 ∧ q P emp (binOp .add 9 t56 (Value.string ⟨#[58]⟩)) fun t57 => Cn P 45 #[t59] h fun t60 h => q P emp (binOp .add 9 t57 t60) fun t61 => aw P (Instr.buildSlice 36 1 #[(0, t61)]) (fun t62 h => aw P (Builtin.append_ #[36, 36] 36 #[(vs23.getD 0 undef), t62]) (fun t63 h => q P h (binOp .add 3 (vs23.getD 1 undef) (Value.int .i64 1)) fun t64 => nx23 [t63, t64] h) h) h) h) h) (Cn P 104 #[(vs23.getD 0 undef), (Value.string ⟨#[44]⟩)] h fun t66 h => q P h (binOp .add 9 (Value.string ⟨#[123]⟩) t66) fun t67 => q P h (binOp .add 9 t67 (Value.string ⟨#[125]⟩)) fun t68 => K t68 h)) (K (Value.string ⟨#[110, 117, 108, 108]⟩) h)))))) h
theorem F_json_written {K : Value → Hp → Prop} {h : Hp} {t0 : Value} (s : s_json_written K h t0) : Cn P 45 #[t0] h K :=
  Cn_ofs mixed Tryz.func45 (by kernel_rfl) (args := [t0]) (by kernel_rfl) s
end Go.Proofs.YtolcmaipjpkidaaGreatDoor
set_option linter.unusedVariables false
set_option maxRecDepth 100000
namespace Go.Proofs.YtolcmaipjpkidaaGreatDoor
open Go Go.SL
/-- function 85: slices.IndexFunc[[]orlop.api.Member,orlop.api.Member] -/
def s_slices_IndexFunc_api_Member_api_Member (K : Value → Hp → Prop) (h : Hp) (t0 t1 : Value) : Prop := q P h (Builtin.len_ #[25] 3 #[t0]) fun t7 => 
Lp [(Value.int .i64 0), (Value.int .i64 0)] h fun nx4 vs4 h =>
q P h (binOp .lss 3 (vs4.getD 1 undef) t7) fun t9 => cnd t9 (q P h (Instr.indexAt 25 t0 (vs4.getD 1 undef)) fun t14 => q P h (Instr.loadAt 52 t14) fun t15 => callP P t1 [t15] h fun t16 h => cnd t16 (K (vs4.getD 1 undef) h) (q P h (binOp .add 3 (vs4.getD 1 undef) (Value.int .i64 1)) fun t18 => nx4 [(vs4.getD 0 undef), t18] h)) (K (Value.int .i64 (-1)) h)
theorem F_slices_IndexFunc_api_Member_api_Member {K : Value → Hp → Prop} {h : Hp} {t0 t1 : Value} (s : s_slices_IndexFunc_api_Member_api_Member K h t0 t1) : Cn P 85 #[t0, t1] h K :=
  Cn_ofs mixed Tryz.func85 (by kernel_rfl) (args := [t0, t1]) (by kernel_rfl) s
/-- function 86: orlop.json.Get$1 -/
def s_json_Get_1 (K : Value → Hp → Prop) (h : Hp) (t0 t1 : Value) : Prop := aw P (Instr.box 52 t0) (fun t2 h => q P h (Instr.fieldAt 52 t2 0) fun t4 => q P h (Instr.loadAt 9 t4) fun t5 => q P h (Instr.loadAt 9 t1) fun t6 => q P h (eqop .eql 9 (.tmp 5) (.tmp 6) t5 t6) fun t7 => K t7 h) h
theorem F_json_Get_1 {K : Value → Hp → Prop} {h : Hp} {t0 t1 : Value} (s : s_json_Get_1 K h t0 t1) : Cn P 86 #[t0, t1] h K :=
  Cn_ofs mixed Tryz.func86 (by kernel_rfl) (args := [t0, t1]) (by kernel_rfl) s
/-- function 88: (*orlop.json.parser).value -/
def s_json_parser_value (Z : Zt) (K : Value → Hp → Prop) (h : Hp) (t0 t1 : Value) : Prop := aw P (Instr.box 64 t0) (fun t2 h => aw P (Instr.box 3 t1) (fun t3 h => aw P (Instr.alloc 27 true (.tuple #[])) (fun t4 h => q P h (Instr.loadAt 64 t2) fun t8 => CnZ P Z 89 #[t8] h fun t9 h => 
let J3 : Hp → Prop := fun h => q P h (Instr.loadAt 64 t2) fun t14 => CnZ P Z 127 #[t14] h fun t15 h => q P h (eqop .eql 5 (.tmp 17) (.const (Value.int .u8 34)) t15 (Value.int .u8 34)) fun t18 => cnd t18 (q P h (Instr.loadAt 64 t2) fun t19 => CnZ P Z 128 #[t19] h fun t20 h => q P h (Instr.build 27 #[(0, (Value.int .i64 3)), (3, t20)]) fun t21 => aw P (Instr.storeAt 27 t4 t21) (fun _ h => q P h ((asAddr t4).bind (loadVar 27)) fun r0 => K r0 h) h) (q P h (eqop .eql 5 (.tmp 23) (.const (Value.int .u8 91)) t15 (Value.int .u8 91)) fun t24 => cnd t24 (q P h (Instr.build 27 #[(0, (Value.int .i64 4))]) fun t25 => aw P (Instr.alloc 27 true (.tuple #[])) (fun t6 h => aw P (Instr.storeAt 27 t6 t25) (fun _ h => q P h (Instr.loadAt 64 t2) fun t26 => CnZ P Z 129 #[t26, (Value.string ⟨#[93]⟩), (Value.func (.func 130) #[] #[t6, t2, t3])] h fun t28 h => q P h (Instr.loadAt 27 t6) fun t29 => aw P (Instr.storeAt 27 t4 t29) (fun _ h => q P h ((asAddr t4).bind (loadVar 27)) fun r0 => K r0 h) h) h) h) (q P h (eqop .eql 5 (.tmp 31) (.const (Value.int .u8 123)) t15 (Value.int .u8 123)) fun t32 => cnd t32 (q P h (Instr.build 27 #[(0, (Value.int .i64 5))]) fun t33 => aw P (Instr.alloc 27 true (.tuple #[])) (fun t7 h => aw P (Instr.storeAt 27 t7 t33) (fun _ h => q P h (Instr.loadAt 64 t2) fun t34 => CnZ P Z 129 #[t34, (Value.string ⟨#[125]⟩), (Value.func (.func 131) #[] #[t7, t2, t3])] h fun t36 h => q P h (Instr.loadAt 27 t7) fun t37 => aw P (Instr.storeAt 27 t4 t37) (fun _ h => q P h ((asAddr t4).bind (loadVar 27)) fun r0 => K r0 h) h) h) h) (q P h (Instr.loadAt 64 t2) fun t39 => CnZ P Z 133 #[t39, (Value.string ⟨#[110, 117, 108, 108]⟩)] h fun t40 h => cnd t40 (q P h (Instr.build 27 #[]) fun t41 => aw P (Instr.storeAt 27 t4 t41) (fun _ h => q P h ((asAddr t4).bind (loadVar 27)) fun r0 => K r0 h) h) (q P h (Instr.loadAt 64 t2) fun t43 => CnZ P Z 133 #[t43, (Value.string ⟨#[116, 114, 117, 101]⟩)] h fun t44 h => cnd t44 (q P h (Instr.build 27 #[(0, (Value.int .i64 1)), (1, (Value.bool true))]) fun t45 => aw P (Instr.storeAt 27 t4 t45) (fun _ h => q P h ((asAddr t4).bind (loadVar 27)) fun r0 => K r0 h) h) (q P h (Instr.loadAt 64 t2) fun t47 => CnZ P Z 133 #[t47, (Value.string ⟨#[102, 97, 108, 115, 101]⟩)] h fun t48 h => cnd t48 (q P h (Instr.build 27 #[(0, (Value.int .i64 1))]) fun t49 => aw P (Instr.storeAt 27 t4 t49) (fun _ h => q P h ((asAddr t4).bind (loadVar 27)) fun r0 => K r0 h) h) (q P h (Instr.loadAt 64 t2) fun t50 => CnZ P Z 134 #[t50] h fun t51 h => aw P (Instr.storeAt 27 t4 t51) (fun _ h => q P h ((asAddr t4).bind (loadVar 27)) fun r0 => K r0 h) h))))));
q P h (Instr.loadAt 3 t3) fun t10 => q P h (binOp .gtr 3 t10 (Value.int .i64 16)) fun t11 => cnd t11 (q P h (Instr.loadAt 64 t2) fun t12 => CnZ P Z 126 #[t12, (Value.int .i64 3)] h fun t13 h => J3 h) (J3 h)) h) h) h
theorem F_json_parser_value {Z : Zt} {K : Value → Hp → Prop} {h : Hp} {t0 t1 : Value} (s : s_json_parser_value Z K h t0 t1) : CnZ P Z 88 #[t0, t1] h K :=
  CnZ_ofs mixed Tryz.func88 (by kernel_rfl) (args := [t0, t1]) (by kernel_rfl) s
/-- function 89: (*orlop.json.parser).skip -/
def s_json_parser_skip (Z : Zt) (K : Value → Hp → Prop) (h : Hp) (t0 : Value) : Prop := 
Lp [] h fun nx1 vs1 h =>

let J2 : Hp → Prop := fun h => q P h (nilCk t0) fun t27 => q P h (Instr.fieldAt 66 t27 1) fun t28 => q P h (Instr.loadAt 3 t28) fun t29 => q P h (binOp .add 3 t29 (Value.int .i64 1)) fun t30 => q P h (nilCk t0) fun t31 => q P h (Instr.fieldAt 66 t31 1) fun t32 => aw P (Instr.storeAt 3 t32 t30) (fun _ h => nx1 [] h) h;
q P emp (nilCk t0) fun t3 => q P h (Instr.fieldAt 66 t3 1) fun t4 => q P h (Instr.loadAt 3 t4) fun t5 => q P emp (nilCk t0) fun t7 => q P h (Instr.fieldAt 66 t7 0) fun t8 => q P h (Instr.loadAt 22 t8) fun t9 => q P h (Builtin.len_ #[22] 3 #[t9]) fun t10 => q P emp (binOp .lss 3 t5 t10) fun t11 => gd t11 true (q P emp (nilCk t0) fun t14 => q P h (Instr.fieldAt 66 t14 0) fun t15 => q P h (Instr.loadAt 22 t15) fun t16 => q P emp (nilCk t0) fun t18 => q P h (Instr.fieldAt 66 t18 1) fun t19 => q P h (Instr.loadAt 3 t19) fun t20 => q P emp (Instr.indexAt 22 t16 t20) fun t21 => q P h (Instr.loadAt 5 t21) fun t22 => CnZ P Z 135 #[(Value.string ⟨#[9, 10, 13, 32]⟩), t22] h fun t23 h => q P emp (binOp .geq 3 t23 (Value.int .i64 0)) fun t24 => cnd t24 (J2 h) (K (Value.tuple #[]) h)) (cnd (Value.bool false) (J2 h) (K (Value.tuple #[]) h))
theorem F_json_parser_skip {Z : Zt} {K : Value → Hp → Prop} {h : Hp} {t0 : Value} (s : s_json_parser_skip Z K h t0) : CnZ P Z 89 #[t0] h K :=
  CnZ_ofs mixed Tryz.func89 (by kernel_rfl) (args := [t0]) (by kernel_rfl) s
/-- function 90: (*orlop.json.parser).must -/
def s_json_parser_must (Z : Zt) (K : Value → Hp → Prop) (h : Hp) (t0 t1 : Value) : Prop := q P h (Op.unary .not t1) fun t5 => cnd t5 (CnZ P Z 126 #[t0, (Value.int .i64 8)] h fun t7 h => K (Value.tuple #[]) h) (K (Value.tuple #[]) h)
theorem F_json_parser_must {Z : Zt} {K : Value → Hp → Prop} {h : Hp} {t0 t1 : Value} (s : s_json_parser_must Z K h t0 t1) : CnZ P Z 90 #[t0, t1] h K :=
  CnZ_ofs mixed Tryz.func90 (by kernel_rfl) (args := [t0, t1]) (by kernel_rfl) s
end Go.Proofs.YtolcmaipjpkidaaGreatDoor
set_option linter.unusedVariables false
set_option maxRecDepth 100000
namespace Go.Proofs.YtolcmaipjpkidaaGreatDoor
open Go Go.SL
/-- function 95: orlop.json.Same -/
def s_json_Same (K : Value → Hp → Prop) (h : Hp) (t0 t1 : Value) : Prop := aw P (Instr.box 27 t0) (fun t2 h => aw P (Instr.box 27 t1) (fun t3 h => q P h (Instr.fieldAt 27 t2 0) fun t5 => q P h (Instr.loadAt 3 t5) fun t6 => q P h (Instr.fieldAt 27 t3 0) fun t7 => q P h (Instr.loadAt 3 t7) fun t8 => q P h (eqop .eql 3 (.tmp 6) (.tmp 8) t6 t8) fun t9 => gd t9 true (q P h (Instr.fieldAt 27 t2 1) fun t11 => q P h (Instr.loadAt 4 t11) fun t12 => q P h (Instr.fieldAt 27 t3 1) fun t13 => q P h (Instr.loadAt 4 t13) fun t14 => q P h (eqop .eql 4 (.tmp 12) (.tmp 14) t12 t14) fun t15 => gd t15 true (q P h (Instr.fieldAt 27 t2 2) fun t18 => q P h (Instr.loadAt 2 t18) fun t19 => q P h (Instr.fieldAt 27 t3 2) fun t20 => q P h (Instr.loadAt 2 t20) fun t21 => q P h (eqop .eql 2 (.tmp 19) (.tmp 21) t19 t21) fun t22 => gd t22 true (q P h (Instr.fieldAt 27 t2 3) fun t25 => q P h (Instr.loadAt 9 t25) fun t26 => q P h (Instr.fieldAt 27 t3 3) fun t27 => q P h (Instr.loadAt 9 t27) fun t28 => q P h (eqop .eql 9 (.tmp 26) (.tmp 28) t26 t28) fun t29 => gd t29 true (q P h (Instr.fieldAt 27 t2 4) fun t32 => q P h (Instr.loadAt 24 t32) fun t33 => q P h (Instr.fieldAt 27 t3 4) fun t34 => q P h (Instr.loadAt 24 t34) fun t35 => Cn P 139 #[t33, t35, (Value.func (.func 95) #[] #[])] h fun t36 h => gd t36 true (q P h (Instr.fieldAt 27 t2 5) fun t39 => q P h (Instr.loadAt 25 t39) fun t40 => q P h (Instr.fieldAt 27 t3 5) fun t41 => q P h (Instr.loadAt 25 t41) fun t42 => Cn P 140 #[t40, t42, (Value.func (.func 141) #[] #[])] h fun t43 h => K t43 h) (K (Value.bool false) h)) (K (Value.bool false) h)) (K (Value.bool false) h)) (K (Value.bool false) h)) (K (Value.bool false) h)) h) h
theorem F_json_Same {K : Value → Hp → Prop} {h : Hp} {t0 t1 : Value} (s : s_json_Same K h t0 t1) : Cn P 95 #[t0, t1] h K :=
  Cn_ofs mixed Tryz.func95 (by kernel_rfl) (args := [t0, t1]) (by kernel_rfl) s
end Go.Proofs.YtolcmaipjpkidaaGreatDoor
set_option linter.unusedVariables false
set_option maxRecDepth 100000
namespace Go.Proofs.YtolcmaipjpkidaaGreatDoor
open Go Go.SL
/-- function 96: orlop.json.bare -/
def s_json_bare (K : Value → Hp → Prop) (h : Hp) (t0 : Value) : Prop := aw P (Instr.box 27 t0) (fun t1 h => aw P (Instr.alloc 27 true (.tuple #[])) (fun t2 h => q P h (Instr.fieldAt 27 t1 0) fun t4 => q P h (Instr.loadAt 3 t4) fun t5 => q P h (Instr.build 27 #[(0, t5)]) fun t6 => aw P (Instr.alloc 27 true (.tuple #[])) (fun t3 h => aw P (Instr.storeAt 27 t3 t6) (fun _ h => q P h (Instr.fieldAt 27 t1 0) fun t7 => q P h (Instr.loadAt 3 t7) fun t8 => q P h (eqop .eql 3 (.tmp 8) (.const (Value.int .i64 1)) t8 (Value.int .i64 1)) fun t10 => cnd t10 (q P h (Instr.fieldAt 27 t1 1) fun t11 => q P h (Instr.loadAt 4 t11) fun t12 => q P h (Instr.fieldAt 27 t3 1) fun t13 => aw P (Instr.storeAt 4 t13 t12) (fun _ h => q P h (Instr.loadAt 27 t3) fun t34 => aw P (Instr.storeAt 27 t2 t34) (fun _ h => q P h ((asAddr t2).bind (loadVar 27)) fun r0 => K r0 h) h) h) (q P h (eqop .eql 3 (.tmp 8) (.const (Value.int .i64 2)) t8 (Value.int .i64 2)) fun t15 => cnd t15 (q P h (Instr.fieldAt 27 t1 2) fun t16 => q P h (Instr.loadAt 2 t16) fun t17 => q P h (Instr.fieldAt 27 t3 2) fun t18 => aw P (Instr.storeAt 2 t18 t17) (fun _ h => q P h (Instr.loadAt 27 t3) fun t34 => aw P (Instr.storeAt 27 t2 t34) (fun _ h => q P h ((asAddr t2).bind (loadVar 27)) fun r0 => K r0 h) h) h) (q P h (eqop .eql 3 (.tmp 8) (.const (Value.int .i64 3)) t8 (Value.int .i64 3)) fun t20 => cnd t20 (q P h (Instr.fieldAt 27 t1 3) fun t21 => q P h (Instr.loadAt 9 t21) fun t22 => q P h (Instr.fieldAt 27 t3 3) fun t23 => aw P (Instr.storeAt 9 t23 t22) (fun _ h => q P h (Instr.loadAt 27 t3) fun t34 => aw P (Instr.storeAt 27 t2 t34) (fun _ h => q P h ((asAddr t2).bind (loadVar 27)) fun r0 => K r0 h) h) h) (q P h (eqop .eql 3 (.tmp 8) (.const (Value.int .i64 4)) t8 (Value.int .i64 4)) fun t25 => cnd t25 (q P h (Instr.fieldAt 27 t1 4) fun t26 => q P h (Instr.loadAt 24 t26) fun t27 => q P h (Instr.fieldAt 27 t3 4) fun t28 => aw P (Instr.storeAt 24 t28 t27) (fun _ h => q P h (Instr.loadAt 27 t3) fun t34 => aw P (Instr.storeAt 27 t2 t34) (fun _ h => q P h ((asAddr t2).bind (loadVar 27)) fun r0 => K r0 h) h) h) (q P h (eqop .eql 3 (.tmp 8) (.const (Value.int .i64 5)) t8 (Value.int .i64 5)) fun t30 => cnd t30 (q P h (Instr.fieldAt 27 t1 5) fun t31 => q P h (Instr.loadAt 25 t31) fun t32 => q P h (Instr.fieldAt 27 t3 5) fun t33 => aw P (Instr.storeAt 25 t33 t32) (fun _ h => q P h (Instr.loadAt 27 t3) fun t34 => aw P (Instr.storeAt 27 t2 t34) (fun _ h => q P h ((asAddr t2).bind (loadVar 27)) fun r0 => K r0 h) h) h) (q P h (Instr.loadAt 27 t3) fun t34 => aw P (Instr.storeAt 27 t2 t34) (fun _ h => q P h ((asAddr t2).bind (loadVar 27)) fun r0 => K r0 h) h)))))) h) h) h) h
theorem F_json_bare {K : Value → Hp → Prop} {h : Hp} {t0 : Value} (s : s_json_bare K h t0) : Cn P 96 #[t0] h K :=
  Cn_ofs mixed Tryz.func96 (by kernel_rfl) (args := [t0]) (by kernel_rfl) s
/-- function 97: unicode.utf8.ValidString -/
def s_utf8_ValidString (K : Value → Hp → Prop) (h : Hp) (t0 : Value) : Prop := 
Lp [t0, (Value.bool false)] h fun nx3 vs3 h =>
q P h (Builtin.len_ #[9] 3 #[(vs3.getD 0 undef)]) fun t8 => q P h (binOp .gtr 3 t8 (Value.int .i64 0)) fun t9 => cnd t9 (q P h (Instr.index 9 (vs3.getD 0 undef) (Value.int .i64 0)) fun t11 => q P h (binOp .lss 5 t11 (Value.int .u8 128)) fun t13 => cnd t13 (q P h (Instr.sliceAt 9 (vs3.getD 0 undef) (some (Value.int .i64 1)) none none) fun t15 => 
let J11 : Value → Hp → Prop := fun t24 h => cnd t24 (q P h (Instr.sliceAt 9 t15 (some (Value.int .i64 8)) none none) fun t26 => 
let J13 : Value → Hp → Prop := fun t39 h => cnd t39 (q P h (Instr.sliceAt 9 t26 (some (Value.int .i64 16)) none none) fun t41 => 
Lp [t41] h fun nx15 vs15 h =>
q P h (Builtin.len_ #[9] 3 #[(vs15.getD 0 undef)]) fun t43 => q P emp (binOp .gtr 3 t43 (Value.int .i64 32)) fun t44 => gd t44 true (q P h (Instr.sliceAt 9 (vs15.getD 0 undef) (some (Value.int .i64 8)) none none) fun t49 => q P h (Instr.sliceAt 9 (vs15.getD 0 undef) (some (Value.int .i64 16)) none none) fun t53 => q P h (Instr.sliceAt 9 (vs15.getD 0 undef) (some (Value.int .i64 24)) none none) fun t56 => Cn P 142 #[(vs15.getD 0 undef)] h fun t47 h => peek P h (Instr.sliceAt 9 (vs15.getD 0 undef) (some (Value.int .i64 24)) none none) = some t56 ∧ peek P h (Instr.sliceAt 9 (vs15.getD 0 undef) (some (Value.int .i64 16)) none none) = some t53 ∧ peek P h (Instr.sliceAt 9 (vs15.getD 0 undef) (some (Value.int .i64 8)) none none) = some t49 ∧ Cn P 142 #[t49] h fun t50 h => peek P h (Instr.sliceAt 9 (vs15.getD 0 undef) (some (Value.int .i64 24)) none none) = some t56 ∧ peek P h (Instr.sliceAt 9 (vs15.getD 0 undef) (some (Value.int .i64 16)) none none) = some t53 ∧ q P emp (binOp .or 12 t47 t50) fun t51 => Cn P 142 #[t53] h fun t54 h => peek P h (Instr.sliceAt 9 (vs15.getD 0 undef) (some (Value.int .i64 24)) none none) = some t56 ∧ Cn P 142 #[t56] h fun t57 h => q P emp (binOp .or 12 t54 t57) fun t58 => q P emp (binOp .or 12 t51 t58) fun t59 => q P emp (binOp .and 12 t59 (Value.int .u64 9259542123273814144)) fun t60 => q P h (eqop .eql 12 (.tmp 60) (.const (Value.int .u64 0)) t60 (Value.int .u64 0)) fun t61 => cnd t61 (q P h (Instr.sliceAt 9 (vs15.getD 0 undef) (some (Value.int .i64 32)) none none) fun t64 => nx15 [t64] h) (nx3 [(vs15.getD 0 undef), (vs3.getD 1 undef)] h)) (cnd (Value.bool false) (q P h (Instr.sliceAt 9 (vs15.getD 0 undef) (some (Value.int .i64 32)) none none) fun t64 => nx15 [t64] h) (nx3 [(vs15.getD 0 undef), (vs3.getD 1 undef)] h))) (nx3 [t26, (vs3.getD 1 undef)] h);
q P h (Builtin.len_ #[9] 3 #[t26]) fun t28 => q P emp (binOp .gtr 3 t28 (Value.int .i64 16)) fun t29 => gd t29 true (q P h (Instr.sliceAt 9 t26 (some (Value.int .i64 8)) none none) fun t34 => Cn P 142 #[t26] h fun t32 h => peek P h (Instr.sliceAt 9 t26 (some (Value.int .i64 8)) none none) = some t34 ∧ Cn P 142 #[t34] h fun t35 h => q P emp (binOp .or 12 t32 t35) fun t36 => q P emp (binOp .and 12 t36 (Value.int .u64 9259542123273814144)) fun t37 => q P h (eqop .eql 12 (.tmp 37) (.const (Value.int .u64 0)) t37 (Value.int .u64 0)) fun t38 => J13 t38 h) (J13 (Value.bool false) h)) (nx3 [t15, (vs3.getD 1 undef)] h);
q P h (Builtin.len_ #[9] 3 #[t15]) fun t17 => q P h (binOp .gtr 3 t17 (Value.int .i64 8)) fun t18 => gd t18 true (Cn P 142 #[t15] h fun t21 h => q P h (binOp .and 12 t21 (Value.int .u64 9259542123273814144)) fun t22 => q P h (eqop .eql 12 (.tmp 22) (.const (Value.int .u64 0)) t22 (Value.int .u64 0)) fun t23 => J11 t23 h) (J11 (Value.bool false) h)) (q P h (Instr.indexAt 164 (Value.pointer (some ⟨0, 0, none⟩)) t11) fun t66 => q P h (Instr.loadAt 5 t66) fun t67 => q P h (binOp .and 5 t67 (Value.int .u8 7)) fun t69 => q P h (convert 5 3 t69) fun t70 => q P h (binOp .shr 5 t67 (Value.int .u64 4)) fun t72 => q P h (Instr.indexAt 167 (Value.pointer (some ⟨1, 0, none⟩)) t72) fun t73 => q P h (Instr.loadAt 166 t73) fun t74 => aw P (Instr.alloc 166 true (.tuple #[])) (fun t6 h => aw P (Instr.storeAt 166 t6 t74) (fun _ h => q P h (eqop .eql 3 (.tmp 75) (.const (Value.int .i64 2)) t70 (Value.int .i64 2)) fun t77 => cnd t77 (q P h (Builtin.len_ #[9] 3 #[(vs3.getD 0 undef)]) fun t79 => q P emp (binOp .lss 3 t79 (Value.int .i64 2)) fun t80 => gd t80 false (q P emp (Instr.index 9 (vs3.getD 0 undef) (Value.int .i64 1)) fun t83 => q P h (Instr.fieldAt 166 t6 0) fun t84 => q P h (Instr.loadAt 5 t84) fun t85 => q P emp (binOp .lss 5 t83 t85) fun t86 => gd t86 false (q P h (Instr.fieldAt 166 t6 1) fun t89 => q P h (Instr.loadAt 5 t89) fun t90 => q P emp (Instr.index 9 (vs3.getD 0 undef) (Value.int .i64 1)) fun t92 => q P emp (binOp .lss 5 t90 t92) fun t93 => cnd t93 (K (Value.bool false) h) (q P h (Instr.sliceAt 9 (vs3.getD 0 undef) (some (Value.int .i64 2)) none none) fun t96 => nx3 [t96, (vs3.getD 1 undef)] h)) (cnd (Value.bool true) (K (Value.bool false) h) (q P h (Instr.sliceAt 9 (vs3.getD 0 undef) (some (Value.int .i64 2)) none none) fun t96 => nx3 [t96, (vs3.getD 1 undef)] h))) (cnd (Value.bool true) (K (Value.bool false) h) (q P h (Instr.sliceAt 9 (vs3.getD 0 undef) (some (Value.int .i64 2)) none none) fun t96 => nx3 [t96, (vs3.getD 1 undef)] h))) (q P h (eqop .eql 3 (.tmp 75) (.const (Value.int .i64 3)) t70 (Value.int .i64 3)) fun t98 => cnd t98 (q P h (Builtin.len_ #[9] 3 #[(vs3.getD 0 undef)]) fun t100 => q P emp (binOp .lss 3 t100 (Value.int .i64 3)) fun t101 => gd t101 false (q P emp (Instr.index 9 (vs3.getD 0 undef) (Value.int .i64 1)) fun t104 => q P h (Instr.fieldAt 166 t6 0) fun t105 => q P h (Instr.loadAt 5 t105) fun t106 => q P emp (binOp .lss 5 t104 t106) fun t107 => gd t107 false (q P h (Instr.fieldAt 166 t6 1) fun t110 => q P h (Instr.loadAt 5 t110) fun t111 => q P emp (Instr.index 9 (vs3.getD 0 undef) (Value.int .i64 1)) fun t113 => q P emp (binOp .lss 5 t111 t113) fun t114 => gd t114 false (q P emp (Instr.index 9 (vs3.getD 0 undef) (Value.int .i64 2)) fun t118 => q P emp (binOp .lss 5 t118 (Value.int .u8 128)) fun t119 => gd t119 false (q P emp (Instr.index 9 (vs3.getD 0 undef) (Value.int .i64 2)) fun t123 => q P emp (binOp .lss 5 (Value.int .u8 191) t123) fun t124 => cnd t124 (K (Value.bool false) h) (q P h (Instr.sliceAt 9 (vs3.getD 0 undef) (some (Value.int .i64 3)) none none) fun t127 => nx3 [t127, (vs3.getD 1 undef)] h)) (cnd (Value.bool true) (K (Value.bool false) h) (q P h (Instr.sliceAt 9 (vs3.getD 0 undef) (some (Value.int .i64 3)) none none) fun t127 => nx3 [t127, (vs3.getD 1 undef)] h))) (cnd (Value.bool true) (K (Value.bool false) h) (q P h (Instr.sliceAt 9 (vs3.getD 0 undef) (some (Value.int .i64 3)) none none) fun t127 => nx3 [t127, (vs3.getD 1 undef)] h))) (cnd (Value.bool true) (K (Value.bool false) h) (q P h (Instr.sliceAt 9 (vs3.getD 0 undef) (some (Value.int .i64 3)) none none) fun t127 => nx3 [t127, (vs3.getD 1 undef)] h))) (cnd (Value.bool true) (K (Value.bool false) h) (q P h (Instr.sliceAt 9 (vs3.getD 0 undef) (some (Value.int .i64 3)) none none) fun t127 => nx3 [t127, (vs3.getD 1 undef)] h))) (q P h (eqop .eql 3 (.tmp 75) (.const (Value.int .i64 4)) t70 (Value.int .i64 4)) fun t129 => cnd t129 (q P h (Builtin.len_ #[9] 3 #[(vs3.getD 0 undef)]) fun t131 => q P emp (binOp .lss 3 t131 (Value.int .i64 4)) fun t132 => gd t132 false (q P emp (Instr.index 9 (vs3.getD 0 undef) (Value.int .i64 1)) fun t135 => q P h (Instr.fieldAt 166 t6 0) fun t136 => q P h (Instr.loadAt 5 t136) fun t137 => q P emp (binOp .lss 5 t135 t137) fun t138 => gd t138 false (q P h (Instr.fieldAt 166 t6 1) fun t141 => q P h (Instr.loadAt 5 t141) fun t142 => q P emp (Instr.index 9 (vs3.getD 0 undef) (Value.int .i64 1)) fun t144 => q P emp (binOp .lss 5 t142 t144) fun t145 => gd t145 false (q P emp (Instr.index 9 (vs3.getD 0 undef) (Value.int .i64 2)) fun t149 => q P emp (binOp .lss 5 t149 (Value.int .u8 128)) fun t150 => gd t150 false (q P emp (Instr.index 9 (vs3.getD 0 undef) (Value.int .i64 2)) fun t154 => q P emp (binOp .lss 5 (Value.int .u8 191) t154) fun t155 => gd t155 false (q P emp (Instr.index 9 (vs3.getD 0 undef) (Value.int .i64 3)) fun t159 => q P emp (binOp .lss 5 t159 (Value.int .u8 128)) fun t160 => gd t160 false (q P emp (Instr.index 9 (vs3.getD 0 undef) (Value.int .i64 3)) fun t164 => q P emp (binOp .lss 5 (Value.int .u8 191) t164) fun t165 => cnd t165 (K (Value.bool false) h) (q P h (Instr.sliceAt 9 (vs3.getD 0 undef) (some (Value.int .i64 4)) none none) fun t168 => nx3 [t168, (vs3.getD 1 undef)] h)) (cnd (Value.bool true) (K (Value.bool false) h) (q P h (Instr.sliceAt 9 (vs3.getD 0 undef) (some (Value.int .i64 4)) none none) fun t168 => nx3 [t168, (vs3.getD 1 undef)] h))) (cnd (Value.bool true) (K (Value.bool false) h) (q P h (Instr.sliceAt 9 (vs3.getD 0 undef) (some (Value.int .i64 4)) none none) fun t168 => nx3 [t168, (vs3.getD 1 undef)] h))) (cnd (Value.bool true) (K (Value.bool false) h) (q P h (Instr.sliceAt 9 (vs3.getD 0 undef) (some (Value.int .i64 4)) none none) fun t168 => nx3 [t168, (vs3.getD 1 undef)] h))) (cnd (Value.bool true) (K (Value.bool false) h) (q P h (Instr.sliceAt 9 (vs3.getD 0 undef) (some (Value.int .i64 4)) none none) fun t168 => nx3 [t168, (vs3.getD 1 undef)] h))) (cnd (Value.bool true) (K (Value.bool false) h) (q P h (Instr.sliceAt 9 (vs3.getD 0 undef) (some (Value.int .i64 4)) none none) fun t168 => nx3 [t168, (vs3.getD 1 undef)] h))) (cnd (Value.bool true) (K (Value.bool false) h) (q P h (Instr.sliceAt 9 (vs3.getD 0 undef) (some (Value.int .i64 4)) none none) fun t168 => nx3 [t168, (vs3.getD 1 undef)] h))) (K (Value.bool false) h)))) h) h)) (K (Value.bool true) h)
theorem F_utf8_ValidString {K : Value → Hp → Prop} {h : Hp} {t0 : Value} (s : s_utf8_ValidString K h t0) : Cn P 97 #[t0] h K :=
  Cn_ofs mixed Tryz.func97 (by kernel_rfl) (args := [t0]) (by kernel_rfl) s
/-- function 98: slices.ContainsFunc[[]orlop.api.Value,orlop.api.Value] -/
def s_slices_ContainsFunc_api_Value_api_Value (K : Value → Hp → Prop) (h : Hp) (t0 t1 : Value) : Prop := Cn P 143 #[t0, t1] h fun t7 h => q P h (binOp .geq 3 t7 (Value.int .i64 0)) fun t8 => K t8 h
theorem F_slices_ContainsFunc_api_Value_api_Value {K : Value → Hp → Prop} {h : Hp} {t0 t1 : Value} (s : s_slices_ContainsFunc_api_Value_api_Value K h t0 t1) : Cn P 98 #[t0, t1] h K :=
  Cn_ofs mixed Tryz.func98 (by kernel_rfl) (args := [t0, t1]) (by kernel_rfl) s
/-- function 99: orlop.json.may$1 -/
def s_json_may_1 (K : Value → Hp → Prop) (h : Hp) (t0 t1 : Value) : Prop := aw P (Instr.box 27 t0) (fun t2 h => q P h (Instr.loadAt 27 t2) fun t4 => q P h (Instr.loadAt 3 t1) fun t5 => q P h (binOp .add 3 t5 (Value.int .i64 1)) fun t6 => Cn P 40 #[t4, t6] h fun t7 h => q P h (Op.unary .not t7) fun t8 => K t8 h) h
theorem F_json_may_1 {K : Value → Hp → Prop} {h : Hp} {t0 t1 : Value} (s : s_json_may_1 K h t0 t1) : Cn P 99 #[t0, t1] h K :=
  Cn_ofs mixed Tryz.func99 (by kernel_rfl) (args := [t0, t1]) (by kernel_rfl) s
/-- function 101: strconv.FormatBool -/
def s_strconv_FormatBool_101 (K : Value → Hp → Prop) (h : Hp) (t0 : Value) : Prop := Cn P 144 #[t0] h fun t4 h => K t4 h
theorem F_strconv_FormatBool_101 {K : Value → Hp → Prop} {h : Hp} {t0 : Value} (s : s_strconv_FormatBool_101 K h t0) : Cn P 101 #[t0] h K :=
  Cn_ofs mixed Tryz.func101 (by kernel_rfl) (args := [t0]) (by kernel_rfl) s
/-- function 102: strconv.FormatInt -/
def s_strconv_FormatInt_102 (K : Value → Hp → Prop) (h : Hp) (t0 t1 : Value) : Prop := Cn P 145 #[t0, t1] h fun t7 h => K t7 h
theorem F_strconv_FormatInt_102 {K : Value → Hp → Prop} {h : Hp} {t0 t1 : Value} (s : s_strconv_FormatInt_102 K h t0 t1) : Cn P 102 #[t0, t1] h K :=
  Cn_ofs mixed Tryz.func102 (by kernel_rfl) (args := [t0, t1]) (by kernel_rfl) s
end Go.Proofs.YtolcmaipjpkidaaGreatDoor
set_option linter.unusedVariables false
set_option maxRecDepth 100000
namespace Go.Proofs.YtolcmaipjpkidaaGreatDoor
open Go Go.SL
/-- function 103: orlop.json.quoted -/
def s_json_quoted (K : Value → Hp → Prop) (h : Hp) (t0 : Value) : Prop := aw P (Instr.buildSlice 22 1 #[(0, (Value.int .u8 34))]) (fun t6 h => q P h (Builtin.len_ #[9] 3 #[t0]) fun t8 => 
Lp [t6, (Value.int .i64 0)] h fun nx5 vs5 h =>
q P h (binOp .lss 3 (vs5.getD 1 undef) t8) fun t10 => cnd t10 (q P h (Instr.index 9 t0 (vs5.getD 1 undef)) fun t14 => 
let J11 : Value → Hp → Prop := fun t19 h => cnd t19 (aw P (Instr.buildSlice 22 2 #[(0, (Value.int .u8 92)), (1, t14)]) (fun t28 h => aw P (Builtin.append_ #[22, 22] 22 #[(vs5.getD 0 undef), t28]) (fun t29 h => q P h (binOp .add 3 (vs5.getD 1 undef) (Value.int .i64 1)) fun t39 => nx5 [t29, t39] h) h) h) (q P h (binOp .lss 5 t14 (Value.int .u8 32)) fun t32 => cnd t32 (aw P (Instr.buildSlice 22 1 #[(0, t14)]) (fun t35 h => Cn P 115 #[t35] h fun t36 h => q P h (binOp .add 9 (Value.string ⟨#[92, 117, 48, 48]⟩) t36) fun t37 => aw P (Builtin.append_ #[22, 9] 22 #[(vs5.getD 0 undef), t37]) (fun t38 h => q P h (binOp .add 3 (vs5.getD 1 undef) (Value.int .i64 1)) fun t39 => nx5 [t38, t39] h) h) h) (aw P (Instr.buildSlice 22 1 #[(0, t14)]) (fun t17 h => aw P (Builtin.append_ #[22, 22] 22 #[(vs5.getD 0 undef), t17]) (fun t18 h => q P h (binOp .add 3 (vs5.getD 1 undef) (Value.int .i64 1)) fun t39 => nx5 [t18, t39] h) h) h));
q P h (eqop .eql 5 (.tmp 20) (.const (Value.int .u8 34)) t14 (Value.int .u8 34)) fun t21 => gd t21 false (q P h (eqop .eql 5 (.tmp 23) (.const (Value.int .u8 92)) t14 (Value.int .u8 92)) fun t24 => J11 t24 h) (J11 (Value.bool true) h)) (aw P (Instr.buildSlice 22 1 #[(0, (Value.int .u8 34))]) (fun t41 h => aw P (Builtin.append_ #[22, 22] 22 #[(vs5.getD 0 undef), t41]) (fun t42 h => q P h (convert 22 9 t42) fun t43 => K t43 h) h) h)) h
theorem F_json_quoted {K : Value → Hp → Prop} {h : Hp} {t0 : Value} (s : s_json_quoted K h t0) : Cn P 103 #[t0] h K :=
  Cn_ofs mixed Tryz.func103 (by kernel_rfl) (args := [t0]) (by kernel_rfl) s
/-- function 104: strings.Join -/
def s_strings_Join (K : Value → Hp → Prop) (h : Hp) (t0 t1 : Value) : Prop := q P h (Builtin.len_ #[36] 3 #[t0]) fun t12 => q P h (eqop .eql 3 (.tmp 12) (.const (Value.int .i64 0)) t12 (Value.int .i64 0)) fun t14 => cnd t14 (K (Value.string ⟨#[]⟩) h) (q P h (eqop .eql 3 (.tmp 12) (.const (Value.int .i64 1)) t12 (Value.int .i64 1)) fun t16 => cnd t16 (q P h (Instr.indexAt 36 t0 (Value.int .i64 0)) fun t18 => q P h (Instr.loadAt 9 t18) fun t19 => K t19 h) (
let J9 : Value → Hp → Prop := fun t5 h => q P h (Builtin.len_ #[36] 3 #[t0]) fun t40 => 
Lp [t5, (Value.int .i64 0)] h fun nx15 vs15 h =>
q P h (binOp .lss 3 (vs15.getD 1 undef) t40) fun t42 => cnd t42 (q P h (Instr.indexAt 36 t0 (vs15.getD 1 undef)) fun t43 => q P h (Instr.loadAt 9 t43) fun t44 => q P h (Builtin.len_ #[9] 3 #[t44]) fun t46 => q P h (binOp .sub 3 (Value.int .i64 9223372036854775807) (vs15.getD 0 undef)) fun t48 => q P h (binOp .gtr 3 t46 t48) fun t49 => cnd t49 (q P h (Instr.makeInterface 9 (Value.string tx_5a5d7d)) fun t50 => False) (q P h (Builtin.len_ #[9] 3 #[t44]) fun t53 => q P h (binOp .add 3 (vs15.getD 0 undef) t53) fun t54 => q P h (binOp .add 3 (vs15.getD 1 undef) (Value.int .i64 1)) fun t55 => nx15 [t54, t55] h)) (aw P (Instr.alloc 171 true (.tuple #[])) (fun t8 h => Cn P 146 #[t8, (vs15.getD 0 undef)] h fun t57 h => q P h (Instr.indexAt 36 t0 (Value.int .i64 0)) fun t59 => q P h (Instr.loadAt 9 t59) fun t60 => Cn P 147 #[t8, t60] h fun t61 h => q P h (Instr.sliceAt 36 t0 (some (Value.int .i64 1)) none none) fun t63 => q P h (Builtin.len_ #[36] 3 #[t63]) fun t64 => 
Lp [(Value.int .i64 0)] h fun nx27 vs27 h =>
q P h (binOp .lss 3 (vs27.getD 0 undef) t64) fun t66 => cnd t66 (q P h (Instr.indexAt 36 t63 (vs27.getD 0 undef)) fun t67 => q P h (Instr.loadAt 9 t67) fun t68 => Cn P 147 #[t8, t1] h fun t70 h => Cn P 147 #[t8, t68] h fun t72 h => q P h (binOp .add 3 (vs27.getD 0 undef) (Value.int .i64 1)) fun t73 => nx27 [t73] h) (Cn P 148 #[t8] h fun t74 h => K t74 h)) h);
q P h (Builtin.len_ #[9] 3 #[t1]) fun t21 => q P h (binOp .gtr 3 t21 (Value.int .i64 0)) fun t22 => cnd t22 (q P h (Builtin.len_ #[9] 3 #[t1]) fun t24 => q P h (Builtin.len_ #[36] 3 #[t0]) fun t26 => q P h (binOp .sub 3 t26 (Value.int .i64 1)) fun t27 => q P h (binOp .quo 3 (Value.int .i64 9223372036854775807) t27) fun t28 => q P h (binOp .geq 3 t24 t28) fun t29 => cnd t29 (q P h (Instr.makeInterface 9 (Value.string tx_5a5d7d)) fun t30 => False) (q P h (Builtin.len_ #[9] 3 #[t1]) fun t33 => q P h (Builtin.len_ #[36] 3 #[t0]) fun t35 => q P h (binOp .sub 3 t35 (Value.int .i64 1)) fun t36 => q P h (binOp .mul 3 t33 t36) fun t37 => q P h (binOp .add 3 (Value.int .i64 0) t37) fun t38 => J9 t38 h)) (J9 (Value.int .i64 0) h)))
theorem F_strings_Join {K : Value → Hp → Prop} {h : Hp} {t0 t1 : Value} (s : s_strings_Join K h t0 t1) : Cn P 104 #[t0, t1] h K :=
  Cn_ofs mixed Tryz.func104 (by kernel_rfl) (args := [t0, t1]) (by kernel_rfl) s
/-- function 105: slices.ContainsFunc[[]orlop.api.Member,orlop.api.Member] -/
def s_slices_ContainsFunc_api_Member_api_Member (K : Value → Hp → Prop) (h : Hp) (t0 t1 : Value) : Prop := Cn P 85 #[t0, t1] h fun t7 h => q P h (binOp .geq 3 t7 (Value.int .i64 0)) fun t8 => K t8 h
theorem F_slices_ContainsFunc_api_Member_api_Member {K : Value → Hp → Prop} {h : Hp} {t0 t1 : Value} (s : s_slices_ContainsFunc_api_Member_api_Member K h t0 t1) : Cn P 105 #[t0, t1] h K :=
  Cn_ofs mixed Tryz.func105 (by kernel_rfl) (args := [t0, t1]) (by kernel_rfl) s
/-- function 109: orlop.word.Unhex -/
def s_word_Unhex (K : Value → Hp → Prop) (h : Hp) (t0 : Value) : Prop := q P h (Builtin.len_ #[9] 3 #[t0]) fun t9 => q P h (binOp .rem 3 t9 (Value.int .i64 2)) fun t10 => q P h (eqop .neq 3 (.tmp 10) (.const (Value.int .i64 0)) t10 (Value.int .i64 0)) fun t11 => cnd t11 (K (Value.tuple #[(Value.slice none 0 0), (Value.bool false)]) h) (
Lp [(Value.slice none 0 0), (Value.bool false), (Value.slice none 0 0), (Value.int .i64 0)] h fun nx8 vs8 h =>
q P h (Builtin.len_ #[9] 3 #[t0]) fun t14 => q P h (binOp .lss 3 (vs8.getD 3 undef) t14) fun t15 => cnd t15 (q P emp (Instr.index 9 t0 (vs8.getD 3 undef)) fun t20 => q P emp (binOp .add 3 (vs8.getD 3 undef) (Value.int .i64 1)) fun t24 => q P emp (Instr.index 9 t0 t24) fun t25 => Cn P 135 #[(Value.string ⟨#[48, 49, 50, 51, 52, 53, 54, 55, 56, 57, 97, 98, 99, 100, 101, 102]⟩), t20] h fun t21 h => Cn P 135 #[(Value.string ⟨#[48, 49, 50, 51, 52, 53, 54, 55, 56, 57, 97, 98, 99, 100, 101, 102]⟩), t25] h fun t26 h => 
let J13 : Value → Value → Hp → Prop := fun t2 t3 h => q P h (binOp .shl 3 t21 (Value.int .u64 4)) fun t35 => q P h (binOp .or 3 t35 t26) fun t37 => q P h (convert 3 5 t37) fun t38 => aw P (Instr.buildSlice 22 1 #[(0, t38)]) (fun t39 h => aw P (Builtin.append_ #[22, 22] 22 #[(vs8.getD 2 undef), t39]) (fun t40 h => q P h (binOp .add 3 (vs8.getD 3 undef) (Value.int .i64 2)) fun t17 => nx8 [t2, t3, t40, t17] h) h) h;
q P h (binOp .lss 3 t21 (Value.int .i64 0)) fun t28 => gd t28 false (q P h (binOp .lss 3 t26 (Value.int .i64 0)) fun t31 => cnd t31 (K (Value.tuple #[(Value.slice none 0 0), (Value.bool false)]) h) (J13 (vs8.getD 0 undef) (vs8.getD 1 undef) h)) (cnd (Value.bool true) (K (Value.tuple #[(Value.slice none 0 0), (Value.bool false)]) h) (J13 (vs8.getD 0 undef) (vs8.getD 1 undef) h))) (K (Value.tuple #[(vs8.getD 2 undef), (Value.bool true)]) h))
theorem F_word_Unhex {K : Value → Hp → Prop} {h : Hp} {t0 : Value} (s : s_word_Unhex K h t0) : Cn P 109 #[t0] h K :=
  Cn_ofs mixed Tryz.func109 (by kernel_rfl) (args := [t0]) (by kernel_rfl) s
/-- function 115: orlop.word.Hex -/
def s_word_Hex (K : Value → Hp → Prop) (h : Hp) (t0 : Value) : Prop := q P h (Builtin.len_ #[22] 3 #[t0]) fun t7 => 
Lp [(Value.slice none 0 0), (Value.int .i64 0)] h fun nx5 vs5 h =>
q P h (binOp .lss 3 (vs5.getD 1 undef) t7) fun t9 => cnd t9 (q P h (Instr.indexAt 22 t0 (vs5.getD 1 undef)) fun t10 => q P h (Instr.loadAt 5 t10) fun t11 => q P emp (binOp .shr 5 t11 (Value.int .u64 4)) fun t14 => q P emp (Instr.index 9 (Value.string ⟨#[48, 49, 50, 51, 52, 53, 54, 55, 56, 57, 97, 98, 99, 100, 101, 102]⟩) t14) fun t15 => q P emp (binOp .and 5 t11 (Value.int .u8 15)) fun t17 => q P emp (Instr.index 9 (Value.string ⟨#[48, 49, 50, 51, 52, 53, 54, 55, 56, 57, 97, 98, 99, 100, 101, 102]⟩) t17) fun t18 => aw P (Instr.buildSlice 22 2 #[(0, t15), (1, t18)]) (fun t19 h => aw P (Builtin.append_ #[22, 22] 22 #[(vs5.getD 0 undef), t19]) (fun t20 h => q P h (binOp .add 3 (vs5.getD 1 undef) (Value.int .i64 1)) fun t21 => nx5 [t20, t21] h) h) h) (q P h (convert 22 9 (vs5.getD 0 undef)) fun t23 => K t23 h)
theorem F_word_Hex {K : Value → Hp → Prop} {h : Hp} {t0 : Value} (s : s_word_Hex K h t0) : Cn P 115 #[t0] h K :=
  Cn_ofs mixed Tryz.func115 (by kernel_rfl) (args := [t0]) (by kernel_rfl) s
end Go.Proofs.YtolcmaipjpkidaaGreatDoor
set_option linter.unusedVariables false
set_option maxRecDepth 100000
namespace Go.Proofs.YtolcmaipjpkidaaGreatDoor
open Go Go.SL
/-- function 126: (*orlop.json.parser).fail -/
def s_json_parser_fail (Z : Zt) (K : Value → Hp → Prop) (h : Hp) (t0 t1 : Value) : Prop := q P h (Instr.build 121 #[(0, t1)]) fun t5 => q P h (Instr.makeInterface 121 t5) fun t6 => Z [pe t6] h
theorem F_json_parser_fail {Z : Zt} {K : Value → Hp → Prop} {h : Hp} {t0 t1 : Value} (s : s_json_parser_fail Z K h t0 t1) : CnZ P Z 126 #[t0, t1] h K :=
  CnZ_ofs mixed Tryz.func126 (by kernel_rfl) (args := [t0, t1]) (by kernel_rfl) s
/-- function 127: (*orlop.json.parser).peek -/
def s_json_parser_peek (Z : Zt) (K : Value → Hp → Prop) (h : Hp) (t0 : Value) : Prop := q P emp (nilCk t0) fun t4 => q P h (Instr.fieldAt 66 t4 1) fun t5 => q P h (Instr.loadAt 3 t5) fun t6 => q P emp (nilCk t0) fun t8 => q P h (Instr.fieldAt 66 t8 0) fun t9 => q P h (Instr.loadAt 22 t9) fun t10 => q P h (Builtin.len_ #[22] 3 #[t10]) fun t11 => q P emp (binOp .lss 3 t6 t11) fun t12 => cnd t12 (q P emp (nilCk t0) fun t14 => q P h (Instr.fieldAt 66 t14 0) fun t15 => q P h (Instr.loadAt 22 t15) fun t16 => q P emp (nilCk t0) fun t18 => q P h (Instr.fieldAt 66 t18 1) fun t19 => q P h (Instr.loadAt 3 t19) fun t20 => q P emp (Instr.indexAt 22 t16 t20) fun t21 => q P h (Instr.loadAt 5 t21) fun t22 => K t22 h) (K (Value.int .u8 0) h)
theorem F_json_parser_peek {Z : Zt} {K : Value → Hp → Prop} {h : Hp} {t0 : Value} (s : s_json_parser_peek Z K h t0) : CnZ P Z 127 #[t0] h K :=
  CnZ_ofs mixed Tryz.func127 (by kernel_rfl) (args := [t0]) (by kernel_rfl) s
/-- function 128: (*orlop.json.parser).text -/
def s_json_parser_text (Z : Zt) (K : Value → Hp → Prop) (h : Hp) (t0 : Value) : Prop := CnZ P Z 133 #[t0, (Value.string ⟨#[34]⟩)] h fun t8 h => CnZ P Z 90 #[t0, t8] h fun t9 h => 
Lp [(Value.slice none 0 0)] h fun nx5 vs5 h =>
CnZ P Z 133 #[t0, (Value.string ⟨#[34]⟩)] h fun t11 h => q P h (Op.unary .not t11) fun t12 => cnd t12 (
let J8 : Hp → Prop := fun h => CnZ P Z 133 #[t0, (Value.string ⟨#[92]⟩)] h fun t39 h => cnd t39 (CnZ P Z 156 #[t0] h fun t42 h => CnZ P Z 155 #[(vs5.getD 0 undef), t42] h fun t43 h => nx5 [t43] h) (q P emp (nilCk t0) fun t46 => q P h (Instr.fieldAt 66 t46 0) fun t47 => q P h (Instr.loadAt 22 t47) fun t48 => q P emp (nilCk t0) fun t50 => q P h (Instr.fieldAt 66 t50 1) fun t51 => q P h (Instr.loadAt 3 t51) fun t52 => q P h (Instr.sliceAt 22 t48 (some t52) none none) fun t53 => CnZ P Z 157 #[t53] h fun t54 h => q P emp (Instr.extract t54 0) fun t55 => q P emp (Instr.extract t54 1) fun t56 => 
let J13 : Hp → Prop := fun h => q P emp (nilCk t0) fun t67 => q P h (Instr.fieldAt 66 t67 0) fun t68 => q P h (Instr.loadAt 22 t68) fun t69 => q P emp (nilCk t0) fun t71 => q P h (Instr.fieldAt 66 t71 1) fun t72 => q P h (Instr.loadAt 3 t72) fun t73 => q P emp (nilCk t0) fun t75 => q P h (Instr.fieldAt 66 t75 1) fun t76 => q P h (Instr.loadAt 3 t76) fun t77 => q P emp (binOp .add 3 t77 t56) fun t79 => q P h (Instr.sliceAt 22 t69 (some t73) (some t79) none) fun t80 => aw P (Builtin.append_ #[22, 22] 22 #[(vs5.getD 0 undef), t80]) (fun t81 h => q P h (nilCk t0) fun t83 => q P h (Instr.fieldAt 66 t83 1) fun t84 => q P h (Instr.loadAt 3 t84) fun t85 => q P h (binOp .add 3 t85 t56) fun t87 => q P h (nilCk t0) fun t88 => q P h (Instr.fieldAt 66 t88 1) fun t89 => aw P (Instr.storeAt 3 t89 t87) (fun _ h => nx5 [t81] h) h) h;
q P h (eqop .neq 21 (.tmp 58) (.const (Value.int .i32 65533)) t55 (Value.int .i32 65533)) fun t59 => gd t59 false (q P h (binOp .gtr 3 t56 (Value.int .i64 1)) fun t62 => CnZ P Z 90 #[t0, t62] h fun t64 h => J13 h) (CnZ P Z 90 #[t0, (Value.bool true)] h fun t64 h => J13 h));
q P emp (nilCk t0) fun t15 => q P h (Instr.fieldAt 66 t15 1) fun t16 => q P h (Instr.loadAt 3 t16) fun t17 => q P emp (nilCk t0) fun t19 => q P h (Instr.fieldAt 66 t19 0) fun t20 => q P h (Instr.loadAt 22 t20) fun t21 => q P h (Builtin.len_ #[22] 3 #[t21]) fun t22 => q P emp (binOp .lss 3 t17 t22) fun t23 => gd t23 true (q P emp (nilCk t0) fun t26 => q P h (Instr.fieldAt 66 t26 0) fun t27 => q P h (Instr.loadAt 22 t27) fun t28 => q P emp (nilCk t0) fun t30 => q P h (Instr.fieldAt 66 t30 1) fun t31 => q P h (Instr.loadAt 3 t31) fun t32 => q P emp (Instr.indexAt 22 t28 t32) fun t33 => q P h (Instr.loadAt 5 t33) fun t34 => q P emp (binOp .geq 5 t34 (Value.int .u8 32)) fun t35 => CnZ P Z 90 #[t0, t35] h fun t37 h => J8 h) (CnZ P Z 90 #[t0, (Value.bool false)] h fun t37 h => J8 h)) (q P h (convert 22 9 (vs5.getD 0 undef)) fun t91 => K t91 h)
theorem F_json_parser_text {Z : Zt} {K : Value → Hp → Prop} {h : Hp} {t0 : Value} (s : s_json_parser_text Z K h t0) : CnZ P Z 128 #[t0] h K :=
  CnZ_ofs mixed Tryz.func128 (by kernel_rfl) (args := [t0]) (by kernel_rfl) s
/-- function 129: (*orlop.json.parser).items -/
def s_json_parser_items (Z : Zt) (K : Value → Hp → Prop) (h : Hp) (t0 t1 t2 : Value) : Prop := q P h (nilCk t0) fun t7 => q P h (Instr.fieldAt 66 t7 1) fun t8 => q P h (Instr.loadAt 3 t8) fun t9 => q P h (binOp .add 3 t9 (Value.int .i64 1)) fun t10 => q P h (nilCk t0) fun t11 => q P h (Instr.fieldAt 66 t11 1) fun t12 => aw P (Instr.storeAt 3 t12 t10) (fun _ h => CnZ P Z 89 #[t0] h fun t14 h => CnZ P Z 133 #[t0, t1] h fun t17 h => cnd t17 (K (Value.tuple #[]) h) (
Lp [] h fun nx5 vs5 h =>
callZ P Z t2 [] h fun t19 h => CnZ P Z 89 #[t0] h fun t21 h => CnZ P Z 133 #[t0, t1] h fun t24 h => cnd t24 (K (Value.tuple #[]) h) (CnZ P Z 133 #[t0, (Value.string ⟨#[44]⟩)] h fun t27 h => CnZ P Z 90 #[t0, t27] h fun t28 h => nx5 [] h))) h
theorem F_json_parser_items {Z : Zt} {K : Value → Hp → Prop} {h : Hp} {t0 t1 t2 : Value} (s : s_json_parser_items Z K h t0 t1 t2) : CnZ P Z 129 #[t0, t1, t2] h K :=
  CnZ_ofs mixed Tryz.func129 (by kernel_rfl) (args := [t0, t1, t2]) (by kernel_rfl) s
/-- function 130: (*orlop.json.parser).value$1 -/
def s_json_parser_value_1 (Z : Zt) (K : Value → Hp → Prop) (h : Hp) (t0 t1 t2 : Value) : Prop := q P h (Instr.fieldAt 27 t0 4) fun t3 => q P h (Instr.loadAt 24 t3) fun t4 => q P h (Instr.loadAt 64 t1) fun t5 => q P h (Instr.loadAt 3 t2) fun t6 => q P emp (binOp .add 3 t6 (Value.int .i64 1)) fun t7 => q P h (Builtin.len_ #[24] 3 #[t4]) fun t9 => (CnZ P Z 88 #[t5, t7] h fun t8 h => peek P h (Builtin.len_ #[24] 3 #[t4]) = some t9 ∧ peek P h (Instr.loadAt 24 t3) = some t4 ∧ peek P h (Instr.fieldAt 27 t0 4) = some t3 ∧ aw P (Instr.buildSlice 24 1 #[(0, (Value.agg #[(Value.int .i64 0), (Value.bool false), (Value.int .i64 0), (Value.string ⟨#[]⟩), (Value.slice none 0 0), (Value.slice none 0 0)]))]) (fun t10 h => peek P h (Builtin.len_ #[24] 3 #[t4]) = some t9 ∧ peek P h (Instr.loadAt 24 t3) = some t4 ∧ peek P h (Instr.fieldAt 27 t0 4) = some t3 ∧ aw P (Builtin.append_ #[24, 24] 24 #[t4, t10]) (fun t11 h => q P emp (Instr.indexAt 24 t11 t9) fun t12 => q P h (Instr.fieldAt 27 t0 4) fun t13 => (aw P (Instr.storeAt 27 t12 t8) (fun _ h => peek P h (Instr.fieldAt 27 t0 4) = some t13 ∧ aw P (Instr.storeAt 24 t13 t11) (fun _ h => K (Value.tuple #[]) h) h) h) ∧ (aw P (Instr.storeAt 24 t13 t11) (fun _ h => aw P (Instr.storeAt 27 t12 t8) (fun _ h => K (Value.tuple #[]) h) h) h)) h) h) ∧ (aw P (Instr.buildSlice 24 1 #[(0, (Value.agg #[(Value.int .i64 0), (Value.bool false), (Value.int .i64 0), (Value.string ⟨#[]⟩), (Value.slice none 0 0), (Value.slice none 0 0)]))]) (fun t10 h => peek P h (Builtin.len_ #[24] 3 #[t4]) = some t9 ∧ peek P h (Instr.loadAt 3 t2) = some t6 ∧ peek P h (Instr.loadAt 64 t1) = some t5 ∧ peek P h (Instr.loadAt 24 t3) = some t4 ∧ peek P h (Instr.fieldAt 27 t0 4) = some t3 ∧ CnZ P Z 88 #[t5, t7] h fun t8 h => peek P h (Builtin.len_ #[24] 3 #[t4]) = some t9 ∧ peek P h (Instr.loadAt 24 t3) = some t4 ∧ peek P h (Instr.fieldAt 27 t0 4) = some t3 ∧ aw P (Builtin.append_ #[24, 24] 24 #[t4, t10]) (fun t11 h => q P emp (Instr.indexAt 24 t11 t9) fun t12 => q P h (Instr.fieldAt 27 t0 4) fun t13 => (aw P (Instr.storeAt 27 t12 t8) (fun _ h => peek P h (Instr.fieldAt 27 t0 4) = some t13 ∧ aw P (Instr.storeAt 24 t13 t11) (fun _ h => K (Value.tuple #[]) h) h) h) ∧ (aw P (Instr.storeAt 24 t13 t11) (fun _ h => aw P (Instr.storeAt 27 t12 t8) (fun _ h => K (Value.tuple #[]) h) h) h)) h) h)
theorem F_json_parser_value_1 {Z : Zt} {K : Value → Hp → Prop} {h : Hp} {t0 t1 t2 : Value} (s : s_json_parser_value_1 Z K h t0 t1 t2) : CnZ P Z 130 #[t0, t1, t2] h K :=
  CnZ_ofs mixed Tryz.func130 (by kernel_rfl) (args := [t0, t1, t2]) (by kernel_rfl) s
end Go.Proofs.YtolcmaipjpkidaaGreatDoor
set_option linter.unusedVariables false
set_option maxRecDepth 100000
namespace Go.Proofs.YtolcmaipjpkidaaGreatDoor
open Go Go.SL
/-- function 131: (*orlop.json.parser).value$2 -/
def s_json_parser_value_2 (Z : Zt) (K : Value → Hp → Prop) (h : Hp) (t0 t1 t2 : Value) : Prop := q P h (Instr.fieldAt 27 t0 5) fun t3 => q P h (Instr.loadAt 25 t3) fun t4 => q P h (Instr.loadAt 64 t1) fun t5 => q P h (Instr.fieldAt 27 t0 5) fun t6 => q P h (Instr.loadAt 25 t6) fun t7 => q P h (Instr.loadAt 3 t2) fun t8 => q P h (Builtin.len_ #[25] 3 #[t4]) fun t10 => (CnZ P Z 132 #[t5, t7, t8] h fun t9 h => peek P h (Builtin.len_ #[25] 3 #[t4]) = some t10 ∧ peek P h (Instr.loadAt 25 t3) = some t4 ∧ peek P h (Instr.fieldAt 27 t0 5) = some t3 ∧ aw P (Instr.buildSlice 25 1 #[(0, (Value.agg #[(Value.string ⟨#[]⟩), (Value.int .i64 0), (Value.bool false), (Value.int .i64 0), (Value.string ⟨#[]⟩), (Value.slice none 0 0), (Value.slice none 0 0)]))]) (fun t11 h => peek P h (Builtin.len_ #[25] 3 #[t4]) = some t10 ∧ peek P h (Instr.loadAt 25 t3) = some t4 ∧ peek P h (Instr.fieldAt 27 t0 5) = some t3 ∧ aw P (Builtin.append_ #[25, 25] 25 #[t4, t11]) (fun t12 h => q P emp (Instr.indexAt 25 t12 t10) fun t13 => q P h (Instr.fieldAt 27 t0 5) fun t14 => (aw P (Instr.storeAt 52 t13 t9) (fun _ h => peek P h (Instr.fieldAt 27 t0 5) = some t14 ∧ aw P (Instr.storeAt 25 t14 t12) (fun _ h => K (Value.tuple #[]) h) h) h) ∧ (aw P (Instr.storeAt 25 t14 t12) (fun _ h => aw P (Instr.storeAt 52 t13 t9) (fun _ h => K (Value.tuple #[]) h) h) h)) h) h) ∧ (aw P (Instr.buildSlice 25 1 #[(0, (Value.agg #[(Value.string ⟨#[]⟩), (Value.int .i64 0), (Value.bool false), (Value.int .i64 0), (Value.string ⟨#[]⟩), (Value.slice none 0 0), (Value.slice none 0 0)]))]) (fun t11 h => peek P h (Builtin.len_ #[25] 3 #[t4]) = some t10 ∧ peek P h (Instr.loadAt 3 t2) = some t8 ∧ peek P h (Instr.loadAt 25 t6) = some t7 ∧ peek P h (Instr.fieldAt 27 t0 5) = some t6 ∧ peek P h (Instr.loadAt 64 t1) = some t5 ∧ peek P h (Instr.loadAt 25 t3) = some t4 ∧ peek P h (Instr.fieldAt 27 t0 5) = some t3 ∧ CnZ P Z 132 #[t5, t7, t8] h fun t9 h => peek P h (Builtin.len_ #[25] 3 #[t4]) = some t10 ∧ peek P h (Instr.loadAt 25 t3) = some t4 ∧ peek P h (Instr.fieldAt 27 t0 5) = some t3 ∧ aw P (Builtin.append_ #[25, 25] 25 #[t4, t11]) (fun t12 h => q P emp (Instr.indexAt 25 t12 t10) fun t13 => q P h (Instr.fieldAt 27 t0 5) fun t14 => (aw P (Instr.storeAt 52 t13 t9) (fun _ h => peek P h (Instr.fieldAt 27 t0 5) = some t14 ∧ aw P (Instr.storeAt 25 t14 t12) (fun _ h => K (Value.tuple #[]) h) h) h) ∧ (aw P (Instr.storeAt 25 t14 t12) (fun _ h => aw P (Instr.storeAt 52 t13 t9) (fun _ h => K (Value.tuple #[]) h) h) h)) h) h)
theorem F_json_parser_value_2 {Z : Zt} {K : Value → Hp → Prop} {h : Hp} {t0 t1 t2 : Value} (s : s_json_parser_value_2 Z K h t0 t1 t2) : CnZ P Z 131 #[t0, t1, t2] h K :=
  CnZ_ofs mixed Tryz.func131 (by kernel_rfl) (args := [t0, t1, t2]) (by kernel_rfl) s
/-- function 132: (*orlop.json.parser).member -/
def s_json_parser_member (Z : Zt) (K : Value → Hp → Prop) (h : Hp) (t0 t1 t2 : Value) : Prop := aw P (Instr.alloc 52 true (.tuple #[])) (fun t6 h => CnZ P Z 89 #[t0] h fun t9 h => CnZ P Z 128 #[t0] h fun t11 h => aw P (Instr.alloc 9 true (.tuple #[])) (fun t7 h => aw P (Instr.storeAt 9 t7 t11) (fun _ h => CnZ P Z 105 #[t1, (Value.func (.func 158) #[] #[t7])] h fun t15 h => q P h (Op.unary .not t15) fun t16 => CnZ P Z 90 #[t0, t16] h fun t17 h => CnZ P Z 89 #[t0] h fun t19 h => CnZ P Z 133 #[t0, (Value.string ⟨#[58]⟩)] h fun t22 h => CnZ P Z 90 #[t0, t22] h fun t23 h => q P h (Instr.loadAt 9 t7) fun t24 => q P emp (binOp .add 3 t2 (Value.int .i64 1)) fun t27 => CnZ P Z 88 #[t0, t27] h fun t28 h => peek P h (Instr.loadAt 9 t7) = some t24 ∧ q P emp (Instr.build 52 #[(0, t24), (1, t28)]) fun t29 => aw P (Instr.storeAt 52 t6 t29) (fun _ h => q P h ((asAddr t6).bind (loadVar 52)) fun r0 => K r0 h) h) h) h) h
theorem F_json_parser_member {Z : Zt} {K : Value → Hp → Prop} {h : Hp} {t0 t1 t2 : Value} (s : s_json_parser_member Z K h t0 t1 t2) : CnZ P Z 132 #[t0, t1, t2] h K :=
  CnZ_ofs mixed Tryz.func132 (by kernel_rfl) (args := [t0, t1, t2]) (by kernel_rfl) s
/-- function 133: (*orlop.json.parser).has -/
def s_json_parser_has (Z : Zt) (K : Value → Hp → Prop) (h : Hp) (t0 t1 : Value) : Prop := q P emp (nilCk t0) fun t6 => q P h (Instr.fieldAt 66 t6 0) fun t7 => q P h (Instr.loadAt 22 t7) fun t8 => q P emp (nilCk t0) fun t10 => q P h (Instr.fieldAt 66 t10 1) fun t11 => q P h (Instr.loadAt 3 t11) fun t12 => q P emp (nilCk t0) fun t14 => q P h (Instr.fieldAt 66 t14 1) fun t15 => q P h (Instr.loadAt 3 t15) fun t16 => q P h (Builtin.len_ #[9] 3 #[t1]) fun t18 => q P emp (binOp .add 3 t16 t18) fun t19 => q P emp (nilCk t0) fun t21 => q P h (Instr.fieldAt 66 t21 0) fun t22 => q P h (Instr.loadAt 22 t22) fun t23 => q P h (Builtin.len_ #[22] 3 #[t23]) fun t24 => q P h (Builtin.min_ #[3, 3] 3 #[t19, t24]) fun t25 => q P h (Instr.sliceAt 22 t8 (some t12) (some t25) none) fun t26 => q P h (convert 22 9 t26) fun t27 => CnZ P Z 159 #[t27, t1] h fun t29 h => q P emp (Op.unary .not t29) fun t30 => cnd t30 (K (Value.bool false) h) (q P h (nilCk t0) fun t32 => q P h (Instr.fieldAt 66 t32 1) fun t33 => q P h (Instr.loadAt 3 t33) fun t34 => q P h (Builtin.len_ #[9] 3 #[t1]) fun t36 => q P h (binOp .add 3 t34 t36) fun t37 => q P h (nilCk t0) fun t38 => q P h (Instr.fieldAt 66 t38 1) fun t39 => aw P (Instr.storeAt 3 t39 t37) (fun _ h => K (Value.bool true) h) h)
theorem F_json_parser_has {Z : Zt} {K : Value → Hp → Prop} {h : Hp} {t0 t1 : Value} (s : s_json_parser_has Z K h t0 t1) : CnZ P Z 133 #[t0, t1] h K :=
  CnZ_ofs mixed Tryz.func133 (by kernel_rfl) (args := [t0, t1]) (by kernel_rfl) s
/-- function 134: (*orlop.json.parser).number -/
def s_json_parser_number (Z : Zt) (K : Value → Hp → Prop) (h : Hp) (t0 : Value) : Prop := aw P (Instr.alloc 27 true (.tuple #[])) (fun t2 h => CnZ P Z 133 #[t0, (Value.string ⟨#[45]⟩)] h fun t8 h => CnZ P Z 160 #[t0] h fun t10 h => 
let J4 : Hp → Prop := fun h => q P emp (nilCk t0) fun t42 => q P h (Instr.fieldAt 66 t42 0) fun t43 => q P h (Instr.loadAt 22 t43) fun t44 => q P emp (nilCk t0) fun t46 => q P h (Instr.fieldAt 66 t46 1) fun t47 => q P h (Instr.loadAt 3 t47) fun t48 => q P emp (nilCk t0) fun t50 => q P h (Instr.fieldAt 66 t50 1) fun t51 => q P h (Instr.loadAt 3 t51) fun t52 => q P emp (binOp .add 3 t52 t10) fun t54 => q P h (Instr.sliceAt 22 t44 (some t48) (some t54) none) fun t55 => q P h (convert 22 9 t55) fun t56 => CnZ P Z 161 #[t56, (Value.int .i64 10), (Value.int .i64 64)] h fun t57 h => q P emp (Instr.extract t57 0) fun t58 => q P emp (Instr.extract t57 1) fun t59 => q P h (binOp .leq 2 t58 (Value.int .i64 9007199254740991)) fun t62 => CnZ P Z 90 #[t0, t62] h fun t63 h => q P h (nilCk t0) fun t65 => q P h (Instr.fieldAt 66 t65 1) fun t66 => q P h (Instr.loadAt 3 t66) fun t67 => q P h (binOp .add 3 t67 t10) fun t69 => q P h (nilCk t0) fun t70 => q P h (Instr.fieldAt 66 t70 1) fun t71 => aw P (Instr.storeAt 3 t71 t69) (fun _ h => 
let J8 : Value → Hp → Prop := fun t5 h => q P h (Instr.build 27 #[(0, (Value.int .i64 2)), (2, t5)]) fun t76 => aw P (Instr.storeAt 27 t2 t76) (fun _ h => q P h ((asAddr t2).bind (loadVar 27)) fun r0 => K r0 h) h;
cnd t8 (q P h (Op.unary .neg t58) fun t74 => J8 t74 h) (J8 t58 h)) h;
q P emp (binOp .gtr 3 t10 (Value.int .i64 0)) fun t13 => gd t13 true (q P emp (binOp .leq 3 t10 (Value.int .i64 16)) fun t16 => gd t16 true (q P emp (nilCk t0) fun t20 => q P h (Instr.fieldAt 66 t20 0) fun t21 => q P h (Instr.loadAt 22 t21) fun t22 => q P emp (nilCk t0) fun t24 => q P h (Instr.fieldAt 66 t24 1) fun t25 => q P h (Instr.loadAt 3 t25) fun t26 => q P emp (Instr.indexAt 22 t22 t26) fun t27 => q P h (Instr.loadAt 5 t27) fun t28 => q P h (eqop .neq 5 (.tmp 28) (.const (Value.int .u8 48)) t28 (Value.int .u8 48)) fun t29 => gd t29 false (q P h (eqop .eql 3 (.tmp 31) (.const (Value.int .i64 1)) t10 (Value.int .i64 1)) fun t32 => gd t32 true (q P emp (Op.unary .not t8) fun t35 => CnZ P Z 90 #[t0, t35] h fun t39 h => J4 h) (CnZ P Z 90 #[t0, (Value.bool false)] h fun t39 h => J4 h)) (CnZ P Z 90 #[t0, (Value.bool true)] h fun t39 h => J4 h)) (CnZ P Z 90 #[t0, (Value.bool false)] h fun t39 h => J4 h)) (CnZ P Z 90 #[t0, (Value.bool false)] h fun t39 h => J4 h)) h
theorem F_json_parser_number {Z : Zt} {K : Value → Hp → Prop} {h : Hp} {t0 : Value} (s : s_json_parser_number Z K h t0) : CnZ P Z 134 #[t0] h K :=
  CnZ_ofs mixed Tryz.func134 (by kernel_rfl) (args := [t0]) (by kernel_rfl) s
/-- function 135: strings.IndexByte -/
def s_strings_IndexByte (K : Value → Hp → Prop) (h : Hp) (t0 t1 : Value) : Prop := Cn P 162 #[t0, t1] h fun t7 h => K t7 h
theorem F_strings_IndexByte {K : Value → Hp → Prop} {h : Hp} {t0 t1 : Value} (s : s_strings_IndexByte K h t0 t1) : Cn P 135 #[t0, t1] h K :=
  Cn_ofs mixed Tryz.func135 (by kernel_rfl) (args := [t0, t1]) (by kernel_rfl) s
end Go.Proofs.YtolcmaipjpkidaaGreatDoor
set_option linter.unusedVariables false
set_option maxRecDepth 100000
namespace Go.Proofs.YtolcmaipjpkidaaGreatDoor
open Go Go.SL
/-- function 139: slices.EqualFunc[[]orlop.api.Value,[]orlop.api.Value,orlop.api.Value,orlop.api.Value] -/
def s_slices_EqualFunc_api_Value_api_Value_api_Value_api_Value (K : Value → Hp → Prop) (h : Hp) (t0 t1 t2 : Value) : Prop := q P h (Builtin.len_ #[24] 3 #[t0]) fun t11 => q P h (Builtin.len_ #[24] 3 #[t1]) fun t13 => q P h (eqop .neq 3 (.tmp 11) (.tmp 13) t11 t13) fun t14 => cnd t14 (K (Value.bool false) h) (q P h (Builtin.len_ #[24] 3 #[t0]) fun t16 => 
Lp [(Value.bool false), (Value.int .i64 0)] h fun nx7 vs7 h =>
q P h (binOp .lss 3 (vs7.getD 1 undef) t16) fun t18 => cnd t18 (q P h (Instr.indexAt 24 t0 (vs7.getD 1 undef)) fun t20 => q P h (Instr.loadAt 27 t20) fun t21 => aw P (Instr.alloc 27 true (.tuple #[])) (fun t8 h => aw P (Instr.storeAt 27 t8 t21) (fun _ h => q P h (Instr.indexAt 24 t1 (vs7.getD 1 undef)) fun t24 => q P h (Instr.loadAt 27 t24) fun t25 => aw P (Instr.alloc 27 true (.tuple #[])) (fun t9 h => aw P (Instr.storeAt 27 t9 t25) (fun _ h => q P h (Instr.loadAt 27 t8) fun t27 => q P h (Instr.loadAt 27 t9) fun t28 => callP P t2 [t27, t28] h fun t29 h => q P h (Op.unary .not t29) fun t30 => cnd t30 (K (Value.bool false) h) (q P h (binOp .add 3 (vs7.getD 1 undef) (Value.int .i64 1)) fun t31 => nx7 [(vs7.getD 0 undef), t31] h)) h) h) h) h) (K (Value.bool true) h))
theorem F_slices_EqualFunc_api_Value_api_Value_api_Value_api_Value {K : Value → Hp → Prop} {h : Hp} {t0 t1 t2 : Value} (s : s_slices_EqualFunc_api_Value_api_Value_api_Value_api_Value K h t0 t1 t2) : Cn P 139 #[t0, t1, t2] h K :=
  Cn_ofs mixed Tryz.func139 (by kernel_rfl) (args := [t0, t1, t2]) (by kernel_rfl) s
/-- function 140: slices.EqualFunc[[]orlop.api.Member,[]orlop.api.Member,orlop.api.Member,orlop.api.Member] -/
def s_slices_EqualFunc_api_Member_api_Member_api_Member_api_Member (K : Value → Hp → Prop) (h : Hp) (t0 t1 t2 : Value) : Prop := q P h (Builtin.len_ #[25] 3 #[t0]) fun t11 => q P h (Builtin.len_ #[25] 3 #[t1]) fun t13 => q P h (eqop .neq 3 (.tmp 11) (.tmp 13) t11 t13) fun t14 => cnd t14 (K (Value.bool false) h) (q P h (Builtin.len_ #[25] 3 #[t0]) fun t16 => 
Lp [(Value.bool false), (Value.int .i64 0)] h fun nx7 vs7 h =>
q P h (binOp .lss 3 (vs7.getD 1 undef) t16) fun t18 => cnd t18 (q P h (Instr.indexAt 25 t0 (vs7.getD 1 undef)) fun t20 => q P h (Instr.loadAt 52 t20) fun t21 => aw P (Instr.alloc 52 true (.tuple #[])) (fun t8 h => aw P (Instr.storeAt 52 t8 t21) (fun _ h => q P h (Instr.indexAt 25 t1 (vs7.getD 1 undef)) fun t24 => q P h (Instr.loadAt 52 t24) fun t25 => aw P (Instr.alloc 52 true (.tuple #[])) (fun t9 h => aw P (Instr.storeAt 52 t9 t25) (fun _ h => q P h (Instr.loadAt 52 t8) fun t27 => q P h (Instr.loadAt 52 t9) fun t28 => callP P t2 [t27, t28] h fun t29 h => q P h (Op.unary .not t29) fun t30 => cnd t30 (K (Value.bool false) h) (q P h (binOp .add 3 (vs7.getD 1 undef) (Value.int .i64 1)) fun t31 => nx7 [(vs7.getD 0 undef), t31] h)) h) h) h) h) (K (Value.bool true) h))
theorem F_slices_EqualFunc_api_Member_api_Member_api_Member_api_Member {K : Value → Hp → Prop} {h : Hp} {t0 t1 t2 : Value} (s : s_slices_EqualFunc_api_Member_api_Member_api_Member_api_Member K h t0 t1 t2) : Cn P 140 #[t0, t1, t2] h K :=
  Cn_ofs mixed Tryz.func140 (by kernel_rfl) (args := [t0, t1, t2]) (by kernel_rfl) s
end Go.Proofs.YtolcmaipjpkidaaGreatDoor
set_option linter.unusedVariables false
set_option maxRecDepth 100000
namespace Go.Proofs.YtolcmaipjpkidaaGreatDoor
open Go Go.SL
/-- function 141: orlop.json.sameMember -/
def s_json_sameMember (K : Value → Hp → Prop) (h : Hp) (t0 t1 : Value) : Prop := aw P (Instr.box 52 t0) (fun t2 h => aw P (Instr.box 52 t1) (fun t3 h => q P h (Instr.fieldAt 52 t2 0) fun t5 => q P h (Instr.loadAt 9 t5) fun t6 => q P h (Instr.fieldAt 52 t3 0) fun t7 => q P h (Instr.loadAt 9 t7) fun t8 => q P h (eqop .eql 9 (.tmp 6) (.tmp 8) t6 t8) fun t9 => gd t9 true (q P h (Instr.fieldAt 52 t2 1) fun t11 => q P h (Instr.loadAt 27 t11) fun t12 => q P h (Instr.fieldAt 52 t3 1) fun t13 => q P h (Instr.loadAt 27 t13) fun t14 => Cn P 95 #[t12, t14] h fun t15 h => K t15 h) (K (Value.bool false) h)) h) h
theorem F_json_sameMember {K : Value → Hp → Prop} {h : Hp} {t0 t1 : Value} (s : s_json_sameMember K h t0 t1) : Cn P 141 #[t0, t1] h K :=
  Cn_ofs mixed Tryz.func141 (by kernel_rfl) (args := [t0, t1]) (by kernel_rfl) s
/-- function 142: unicode.utf8.word[string] -/
def s_utf8_word_string (K : Value → Hp → Prop) (h : Hp) (t0 : Value) : Prop := cnd (Value.bool false) (q P emp (Instr.index 9 t0 (Value.int .i64 0)) fun t4 => q P h (convert 5 12 t4) fun t5 => q P emp (Instr.index 9 t0 (Value.int .i64 1)) fun t7 => q P h (convert 5 12 t7) fun t8 => q P emp (binOp .shl 12 t8 (Value.int .u64 8)) fun t9 => q P emp (binOp .or 12 t5 t9) fun t10 => q P emp (Instr.index 9 t0 (Value.int .i64 2)) fun t12 => q P h (convert 5 12 t12) fun t13 => q P emp (binOp .shl 12 t13 (Value.int .u64 16)) fun t14 => q P emp (binOp .or 12 t10 t14) fun t15 => q P emp (Instr.index 9 t0 (Value.int .i64 3)) fun t17 => q P h (convert 5 12 t17) fun t18 => q P emp (binOp .shl 12 t18 (Value.int .u64 24)) fun t19 => q P emp (binOp .or 12 t15 t19) fun t20 => K t20 h) (q P emp (Instr.index 9 t0 (Value.int .i64 0)) fun t22 => q P h (convert 5 106 t22) fun t23 => q P emp (Instr.index 9 t0 (Value.int .i64 1)) fun t25 => q P h (convert 5 106 t25) fun t26 => q P emp (binOp .shl 106 t26 (Value.int .u64 8)) fun t27 => q P emp (binOp .or 106 t23 t27) fun t28 => q P emp (Instr.index 9 t0 (Value.int .i64 2)) fun t30 => q P h (convert 5 106 t30) fun t31 => q P emp (binOp .shl 106 t31 (Value.int .u64 16)) fun t32 => q P emp (binOp .or 106 t28 t32) fun t33 => q P emp (Instr.index 9 t0 (Value.int .i64 3)) fun t35 => q P h (convert 5 106 t35) fun t36 => q P emp (binOp .shl 106 t36 (Value.int .u64 24)) fun t37 => q P emp (binOp .or 106 t33 t37) fun t38 => q P emp (Instr.index 9 t0 (Value.int .i64 4)) fun t40 => q P h (convert 5 106 t40) fun t41 => q P emp (binOp .shl 106 t41 (Value.int .u64 32)) fun t42 => q P emp (binOp .or 106 t38 t42) fun t43 => q P emp (Instr.index 9 t0 (Value.int .i64 5)) fun t45 => q P h (convert 5 106 t45) fun t46 => q P emp (binOp .shl 106 t46 (Value.int .u64 40)) fun t47 => q P emp (binOp .or 106 t43 t47) fun t48 => q P emp (Instr.index 9 t0 (Value.int .i64 6)) fun t50 => q P h (convert 5 106 t50) fun t51 => q P emp (binOp .shl 106 t51 (Value.int .u64 48)) fun t52 => q P emp (binOp .or 106 t48 t52) fun t53 => q P emp (Instr.index 9 t0 (Value.int .i64 7)) fun t55 => q P h (convert 5 106 t55) fun t56 => q P emp (binOp .shl 106 t56 (Value.int .u64 56)) fun t57 => q P emp (binOp .or 106 t53 t57) fun t58 => K t58 h)
theorem F_utf8_word_string {K : Value → Hp → Prop} {h : Hp} {t0 : Value} (s : s_utf8_word_string K h t0) : Cn P 142 #[t0] h K :=
  Cn_ofs mixed Tryz.func142 (by kernel_rfl) (args := [t0]) (by kernel_rfl) s
/-- function 143: slices.IndexFunc[[]orlop.api.Value,orlop.api.Value] -/
def s_slices_IndexFunc_api_Value_api_Value (K : Value → Hp → Prop) (h : Hp) (t0 t1 : Value) : Prop := q P h (Builtin.len_ #[24] 3 #[t0]) fun t7 => 
Lp [(Value.int .i64 0), (Value.int .i64 0)] h fun nx4 vs4 h =>
q P h (binOp .lss 3 (vs4.getD 1 undef) t7) fun t9 => cnd t9 (q P h (Instr.indexAt 24 t0 (vs4.getD 1 undef)) fun t14 => q P h (Instr.loadAt 27 t14) fun t15 => callP P t1 [t15] h fun t16 h => cnd t16 (K (vs4.getD 1 undef) h) (q P h (binOp .add 3 (vs4.getD 1 undef) (Value.int .i64 1)) fun t18 => nx4 [(vs4.getD 0 undef), t18] h)) (K (Value.int .i64 (-1)) h)
theorem F_slices_IndexFunc_api_Value_api_Value {K : Value → Hp → Prop} {h : Hp} {t0 t1 : Value} (s : s_slices_IndexFunc_api_Value_api_Value K h t0 t1) : Cn P 143 #[t0, t1] h K :=
  Cn_ofs mixed Tryz.func143 (by kernel_rfl) (args := [t0, t1]) (by kernel_rfl) s
/-- function 144: internal.strconv.FormatBool -/
def s_strconv_FormatBool_144 (K : Value → Hp → Prop) (h : Hp) (t0 : Value) : Prop := cnd t0 (K (Value.string ⟨#[116, 114, 117, 101]⟩) h) (K (Value.string ⟨#[102, 97, 108, 115, 101]⟩) h)
theorem F_strconv_FormatBool_144 {K : Value → Hp → Prop} {h : Hp} {t0 : Value} (s : s_strconv_FormatBool_144 K h t0) : Cn P 144 #[t0] h K :=
  Cn_ofs mixed Tryz.func144 (by kernel_rfl) (args := [t0]) (by kernel_rfl) s
/-- function 145: internal.strconv.FormatInt -/
def s_strconv_FormatInt_145 (K : Value → Hp → Prop) (h : Hp) (t0 t1 : Value) : Prop := q P h (eqop .eql 3 (.tmp 10) (.const (Value.int .i64 10)) t1 (Value.int .i64 10)) fun t11 => cnd t11 (
let J4 : Hp → Prop := fun h => aw P (Instr.alloc 187 true (.tuple #[])) (fun t5 h => q P h (convert 2 106 t0) fun t21 => 
let J11 : Value → Hp → Prop := fun t6 h => Cn P 165 #[t6] h fun t27 h => q P h (binOp .add 3 (Value.int .i64 1) t27) fun t29 => q P h (Instr.sliceAt 187 t5 (some (Value.int .i64 1)) (some t29) none) fun t30 => Cn P 166 #[t30, t6] h fun t32 h => q P h (binOp .lss 2 t0 (Value.int .i64 0)) fun t34 => cnd t34 (q P h (Instr.indexAt 187 t5 (Value.int .i64 0)) fun t35 => aw P (Instr.storeAt 5 t35 (Value.int .u8 45)) (fun _ h => q P h (binOp .add 3 (Value.int .i64 1) t27) fun t37 => q P h (Instr.sliceAt 187 t5 none (some t37) none) fun t38 => q P h (convert 22 9 t38) fun t39 => K t39 h) h) (q P h (binOp .add 3 (Value.int .i64 1) t27) fun t41 => q P h (Instr.sliceAt 187 t5 (some (Value.int .i64 1)) (some t41) none) fun t42 => q P h (convert 22 9 t42) fun t43 => K t43 h);
q P h (binOp .lss 2 t0 (Value.int .i64 0)) fun t23 => cnd t23 (q P h (Op.unary .neg t21) fun t25 => J11 t25 h) (J11 t21 h)) h;
q P h (binOp .leq 2 (Value.int .i64 0) t0) fun t13 => gd t13 true (q P h (binOp .lss 2 t0 (Value.int .i64 100)) fun t16 => cnd t16 (Cn P 164 #[t0] h fun t19 h => K t19 h) (J4 h)) (cnd (Value.bool false) (Cn P 164 #[t0] h fun t19 h => K t19 h) (J4 h))) (q P h (convert 2 106 t0) fun t46 => q P h (binOp .lss 2 t0 (Value.int .i64 0)) fun t49 => Cn P 167 #[(Value.slice none 0 0), t46, t1, t49, (Value.bool false)] h fun t50 h => q P h (Instr.extract t50 0) fun t51 => q P h (Instr.extract t50 1) fun t52 => K t52 h)
theorem F_strconv_FormatInt_145 {K : Value → Hp → Prop} {h : Hp} {t0 t1 : Value} (s : s_strconv_FormatInt_145 K h t0 t1) : Cn P 145 #[t0, t1] h K :=
  Cn_ofs mixed Tryz.func145 (by kernel_rfl) (args := [t0, t1]) (by kernel_rfl) s
/-- function 146: (*strings.Builder).Grow -/
def s_strings_Builder_Grow (K : Value → Hp → Prop) (h : Hp) (t0 t1 : Value) : Prop := Cn P 168 #[t0] h fun t5 h => q P h (binOp .lss 3 t1 (Value.int .i64 0)) fun t7 => cnd t7 (q P h (Instr.makeInterface 9 (Value.string tx_99a77d)) fun t8 => False) (q P emp (nilCk t0) fun t10 => q P h (Instr.fieldAt 171 t10 1) fun t11 => q P h (Instr.loadAt 22 t11) fun t12 => q P h (Builtin.cap_ #[22] 3 #[t12]) fun t13 => q P emp (nilCk t0) fun t15 => q P h (Instr.fieldAt 171 t15 1) fun t16 => q P h (Instr.loadAt 22 t16) fun t17 => q P h (Builtin.len_ #[22] 3 #[t17]) fun t18 => q P emp (binOp .sub 3 t13 t18) fun t19 => q P emp (binOp .lss 3 t19 t1) fun t21 => cnd t21 (Cn P 169 #[t0, t1] h fun t24 h => K (Value.tuple #[]) h) (K (Value.tuple #[]) h))
theorem F_strings_Builder_Grow {K : Value → Hp → Prop} {h : Hp} {t0 t1 : Value} (s : s_strings_Builder_Grow K h t0 t1) : Cn P 146 #[t0, t1] h K :=
  Cn_ofs mixed Tryz.func146 (by kernel_rfl) (args := [t0, t1]) (by kernel_rfl) s
/-- function 147: (*strings.Builder).WriteString -/
def s_strings_Builder_WriteString (K : Value → Hp → Prop) (h : Hp) (t0 t1 : Value) : Prop := Cn P 168 #[t0] h fun t7 h => q P h (nilCk t0) fun t10 => q P h (Instr.fieldAt 171 t10 1) fun t11 => q P h (Instr.loadAt 22 t11) fun t12 => aw P (Builtin.append_ #[22, 9] 22 #[t12, t1]) (fun t14 h => q P h (nilCk t0) fun t15 => q P h (Instr.fieldAt 171 t15 1) fun t16 => aw P (Instr.storeAt 22 t16 t14) (fun _ h => q P h (Builtin.len_ #[9] 3 #[t1]) fun t18 => K (Value.tuple #[t18, Value.nilIface]) h) h) h
theorem F_strings_Builder_WriteString {K : Value → Hp → Prop} {h : Hp} {t0 t1 : Value} (s : s_strings_Builder_WriteString K h t0 t1) : Cn P 147 #[t0, t1] h K :=
  Cn_ofs mixed Tryz.func147 (by kernel_rfl) (args := [t0, t1]) (by kernel_rfl) s
/-- function 148: (*strings.Builder).String -/
def s_strings_Builder_String (K : Value → Hp → Prop) (h : Hp) (t0 : Value) : Prop := q P emp (nilCk t0) fun t4 => q P h (Instr.fieldAt 171 t4 1) fun t5 => q P h (Instr.loadAt 22 t5) fun t6 => q P emp (nilCk t0) fun t9 => q P h (Instr.fieldAt 171 t9 1) fun t10 => q P h (Instr.loadAt 22 t10) fun t11 => q P h (Builtin.len_ #[22] 3 #[t11]) fun t12 => aw P (Builtin.unsafeSliceData_ #[22] 192 #[t6]) (fun t7 h => peek P h (Builtin.len_ #[22] 3 #[t11]) = some t12 ∧ peek P h (Instr.loadAt 22 t10) = some t11 ∧ peek P h (Instr.fieldAt 171 t9 1) = some t10 ∧ aw P (Builtin.unsafeString_ #[192, 3] 9 #[t7, t12]) (fun t13 h => K t13 h) h) h
theorem F_strings_Builder_String {K : Value → Hp → Prop} {h : Hp} {t0 : Value} (s : s_strings_Builder_String K h t0) : Cn P 148 #[t0] h K :=
  Cn_ofs mixed Tryz.func148 (by kernel_rfl) (args := [t0]) (by kernel_rfl) s
/-- function 155: unicode.utf8.AppendRune -/
def s_utf8_AppendRune (K : Value → Hp → Prop) (h : Hp) (t0 t1 : Value) : Prop := q P h (convert 21 38 t1) fun t6 => q P h (binOp .leq 38 t6 (Value.int .u32 127)) fun t7 => cnd t7 (q P h (convert 21 5 t1) fun t10 => aw P (Instr.buildSlice 22 1 #[(0, t10)]) (fun t11 h => aw P (Builtin.append_ #[22, 22] 22 #[t0, t11]) (fun t12 h => K t12 h) h) h) (Cn P 173 #[t0, t1] h fun t15 h => K t15 h)
theorem F_utf8_AppendRune {K : Value → Hp → Prop} {h : Hp} {t0 t1 : Value} (s : s_utf8_AppendRune K h t0 t1) : Cn P 155 #[t0, t1] h K :=
  Cn_ofs mixed Tryz.func155 (by kernel_rfl) (args := [t0, t1]) (by kernel_rfl) s
end Go.Proofs.YtolcmaipjpkidaaGreatDoor
set_option linter.unusedVariables false
set_option maxRecDepth 100000
namespace Go.Proofs.YtolcmaipjpkidaaGreatDoor
open Go Go.SL
/-- function 156: (*orlop.json.parser).escape -/
def s_json_parser_escape (Z : Zt) (K : Value → Hp → Prop) (h : Hp) (t0 : Value) : Prop := CnZ P Z 127 #[t0] h fun t8 h => q P h (nilCk t0) fun t10 => q P h (Instr.fieldAt 66 t10 1) fun t11 => q P h (Instr.loadAt 3 t11) fun t12 => q P h (binOp .add 3 t12 (Value.int .i64 1)) fun t13 => q P h (nilCk t0) fun t14 => q P h (Instr.fieldAt 66 t14 1) fun t15 => aw P (Instr.storeAt 3 t15 t13) (fun _ h => 
let J4 : Hp → Prop := fun h => q P h (eqop .eql 5 (.tmp 28) (.const (Value.int .u8 117)) t8 (Value.int .u8 117)) fun t29 => CnZ P Z 90 #[t0, t29] h fun t30 h => CnZ P Z 174 #[t0] h fun t32 h => 
let J12 : Hp → Prop := fun h => 
let J17 : Hp → Prop := fun h => CnZ P Z 174 #[t0] h fun t49 h => 
let J19 : Hp → Prop := fun h => q P h (binOp .sub 21 t32 (Value.int .i32 55296)) fun t59 => q P h (binOp .shl 21 t59 (Value.int .u64 10)) fun t60 => q P h (binOp .sub 21 t49 (Value.int .i32 56320)) fun t62 => q P h (binOp .add 21 t60 t62) fun t63 => q P h (binOp .add 21 t63 (Value.int .i32 65536)) fun t64 => K t64 h;
q P h (binOp .geq 21 t49 (Value.int .i32 56320)) fun t52 => gd t52 true (q P h (binOp .leq 21 t49 (Value.int .i32 57343)) fun t55 => CnZ P Z 90 #[t0, t55] h fun t57 h => J19 h) (CnZ P Z 90 #[t0, (Value.bool false)] h fun t57 h => J19 h);
q P h (binOp .lss 21 t32 (Value.int .i32 56320)) fun t42 => gd t42 true (CnZ P Z 133 #[t0, (Value.string ⟨#[92, 117]⟩)] h fun t45 h => CnZ P Z 90 #[t0, t45] h fun t47 h => J17 h) (CnZ P Z 90 #[t0, (Value.bool false)] h fun t47 h => J17 h);
q P h (binOp .lss 21 t32 (Value.int .i32 55296)) fun t34 => gd t34 false (q P h (binOp .gtr 21 t32 (Value.int .i32 57343)) fun t37 => cnd t37 (K t32 h) (J12 h)) (cnd (Value.bool true) (K t32 h) (J12 h));
CnZ P Z 135 #[(Value.string ⟨#[34, 92, 47, 98, 102, 110, 114, 116]⟩), t8] h fun t17 h => q P h (binOp .geq 3 t17 (Value.int .i64 0)) fun t19 => gd t19 true (q P h (eqop .neq 5 (.tmp 21) (.const (Value.int .u8 0)) t8 (Value.int .u8 0)) fun t22 => cnd t22 (q P h (Instr.index 9 (Value.string ⟨#[34, 92, 47, 8, 12, 10, 13, 9]⟩) t17) fun t25 => q P h (convert 5 21 t25) fun t26 => K t26 h) (J4 h)) (cnd (Value.bool false) (q P h (Instr.index 9 (Value.string ⟨#[34, 92, 47, 8, 12, 10, 13, 9]⟩) t17) fun t25 => q P h (convert 5 21 t25) fun t26 => K t26 h) (J4 h))) h
theorem F_json_parser_escape {Z : Zt} {K : Value → Hp → Prop} {h : Hp} {t0 : Value} (s : s_json_parser_escape Z K h t0) : CnZ P Z 156 #[t0] h K :=
  CnZ_ofs mixed Tryz.func156 (by kernel_rfl) (args := [t0]) (by kernel_rfl) s
/-- function 157: unicode.utf8.DecodeRune -/
def s_utf8_DecodeRune (K : Value → Hp → Prop) (h : Hp) (t0 : Value) : Prop := q P h (Builtin.len_ #[22] 3 #[t0]) fun t7 => 
Lp [(Value.int .i32 0), (Value.int .i64 0), (Value.int .i64 0)] h fun nx4 vs4 h =>
q P h (binOp .lss 3 (vs4.getD 2 undef) t7) fun t9 => cnd t9 (q P h (Instr.indexAt 22 t0 (vs4.getD 2 undef)) fun t10 => q P h (Instr.loadAt 5 t10) fun t11 => q P h (binOp .lss 5 t11 (Value.int .u8 128)) fun t13 => cnd t13 (q P h (convert 5 21 t11) fun t15 => K (Value.tuple #[t15, (Value.int .i64 1)]) h) (Cn P 175 #[t0] h fun t19 h => q P h (Instr.extract t19 0) fun t20 => q P h (Instr.extract t19 1) fun t21 => K (Value.tuple #[t20, t21]) h)) (Cn P 175 #[t0] h fun t19 h => q P h (Instr.extract t19 0) fun t20 => q P h (Instr.extract t19 1) fun t21 => K (Value.tuple #[t20, t21]) h)
theorem F_utf8_DecodeRune {K : Value → Hp → Prop} {h : Hp} {t0 : Value} (s : s_utf8_DecodeRune K h t0) : Cn P 157 #[t0] h K :=
  Cn_ofs mixed Tryz.func157 (by kernel_rfl) (args := [t0]) (by kernel_rfl) s
/-- function 158: (*orlop.json.parser).member$1 -/
def s_json_parser_member_1 (Z : Zt) (K : Value → Hp → Prop) (h : Hp) (t0 t1 : Value) : Prop := aw P (Instr.box 52 t0) (fun t2 h => q P h (Instr.fieldAt 52 t2 0) fun t4 => q P h (Instr.loadAt 9 t4) fun t5 => q P h (Instr.loadAt 9 t1) fun t6 => q P h (eqop .eql 9 (.tmp 5) (.tmp 6) t5 t6) fun t7 => K t7 h) h
theorem F_json_parser_member_1 {Z : Zt} {K : Value → Hp → Prop} {h : Hp} {t0 t1 : Value} (s : s_json_parser_member_1 Z K h t0 t1) : CnZ P Z 158 #[t0, t1] h K :=
  CnZ_ofs mixed Tryz.func158 (by kernel_rfl) (args := [t0, t1]) (by kernel_rfl) s
/-- function 159: strings.HasPrefix -/
def s_strings_HasPrefix (K : Value → Hp → Prop) (h : Hp) (t0 t1 : Value) : Prop := Cn P 170 #[t0, t1] h fun t7 h => K t7 h
theorem F_strings_HasPrefix {K : Value → Hp → Prop} {h : Hp} {t0 t1 : Value} (s : s_strings_HasPrefix K h t0 t1) : Cn P 159 #[t0, t1] h K :=
  Cn_ofs mixed Tryz.func159 (by kernel_rfl) (args := [t0, t1]) (by kernel_rfl) s
/-- function 160: (*orlop.json.parser).digits -/
def s_json_parser_digits (Z : Zt) (K : Value → Hp → Prop) (h : Hp) (t0 : Value) : Prop := 
Lp [(Value.int .i64 0)] h fun nx4 vs4 h =>
q P emp (nilCk t0) fun t5 => q P h (Instr.fieldAt 66 t5 1) fun t6 => q P h (Instr.loadAt 3 t6) fun t7 => q P emp (binOp .add 3 t7 (vs4.getD 0 undef)) fun t9 => q P emp (nilCk t0) fun t11 => q P h (Instr.fieldAt 66 t11 0) fun t12 => q P h (Instr.loadAt 22 t12) fun t13 => q P h (Builtin.len_ #[22] 3 #[t13]) fun t14 => q P emp (binOp .lss 3 t9 t14) fun t15 => gd t15 true (q P emp (nilCk t0) fun t18 => q P h (Instr.fieldAt 66 t18 0) fun t19 => q P h (Instr.loadAt 22 t19) fun t20 => q P emp (nilCk t0) fun t22 => q P h (Instr.fieldAt 66 t22 1) fun t23 => q P h (Instr.loadAt 3 t23) fun t24 => q P emp (binOp .add 3 t24 (vs4.getD 0 undef)) fun t26 => q P emp (Instr.indexAt 22 t20 t26) fun t27 => q P h (Instr.loadAt 5 t27) fun t28 => q P emp (binOp .geq 5 t28 (Value.int .u8 48)) fun t29 => gd t29 true (q P emp (nilCk t0) fun t33 => q P h (Instr.fieldAt 66 t33 0) fun t34 => q P h (Instr.loadAt 22 t34) fun t35 => q P emp (nilCk t0) fun t37 => q P h (Instr.fieldAt 66 t37 1) fun t38 => q P h (Instr.loadAt 3 t38) fun t39 => q P emp (binOp .add 3 t39 (vs4.getD 0 undef)) fun t41 => q P emp (Instr.indexAt 22 t35 t41) fun t42 => q P h (Instr.loadAt 5 t42) fun t43 => q P emp (binOp .leq 5 t43 (Value.int .u8 57)) fun t44 => cnd t44 (q P h (binOp .add 3 (vs4.getD 0 undef) (Value.int .i64 1)) fun t47 => nx4 [t47] h) (K (vs4.getD 0 undef) h)) (cnd (Value.bool false) (q P h (binOp .add 3 (vs4.getD 0 undef) (Value.int .i64 1)) fun t47 => nx4 [t47] h) (K (vs4.getD 0 undef) h))) (cnd (Value.bool false) (q P h (binOp .add 3 (vs4.getD 0 undef) (Value.int .i64 1)) fun t47 => nx4 [t47] h) (K (vs4.getD 0 undef) h))
theorem F_json_parser_digits {Z : Zt} {K : Value → Hp → Prop} {h : Hp} {t0 : Value} (s : s_json_parser_digits Z K h t0) : CnZ P Z 160 #[t0] h K :=
  CnZ_ofs mixed Tryz.func160 (by kernel_rfl) (args := [t0]) (by kernel_rfl) s
/-- function 161: strconv.ParseInt -/
def s_strconv_ParseInt_161 (K : Value → Hp → Prop) (h : Hp) (t0 t1 t2 : Value) : Prop := Cn P 176 #[t0, t1, t2] h fun t13 h => q P h (Instr.extract t13 0) fun t14 => q P h (Instr.extract t13 1) fun t15 => q P h (eqop .neq 174 (.tmp 16) (.const Value.nilIface) t15 Value.nilIface) fun t17 => cnd t17 (Cn P 177 #[(Value.string ⟨#[80, 97, 114, 115, 101, 73, 110, 116]⟩), t0, t1, t2, t15] h fun t23 h => K (Value.tuple #[t14, t23]) h) (K (Value.tuple #[t14, Value.nilIface]) h)
theorem F_strconv_ParseInt_161 {K : Value → Hp → Prop} {h : Hp} {t0 t1 t2 : Value} (s : s_strconv_ParseInt_161 K h t0 t1 t2) : Cn P 161 #[t0, t1, t2] h K :=
  Cn_ofs mixed Tryz.func161 (by kernel_rfl) (args := [t0, t1, t2]) (by kernel_rfl) s
/-- function 162: internal.stringslite.IndexByte -/
def s_stringslite_IndexByte (K : Value → Hp → Prop) (h : Hp) (t0 t1 : Value) : Prop := exP P 178 #[t0, t1] h fun t7 h => K t7 h
theorem F_stringslite_IndexByte {K : Value → Hp → Prop} {h : Hp} {t0 t1 : Value} (s : s_stringslite_IndexByte K h t0 t1) : Cn P 162 #[t0, t1] h K :=
  Cn_ofs mixed Tryz.func162 (by kernel_rfl) (args := [t0, t1]) (by kernel_rfl) s
/-- function 164: internal.strconv.small -/
def s_strconv_small (K : Value → Hp → Prop) (h : Hp) (t0 : Value) : Prop := q P h (binOp .lss 3 t0 (Value.int .i64 10)) fun t4 => cnd t4 (q P h (binOp .add 3 t0 (Value.int .i64 1)) fun t7 => q P h (Instr.sliceAt 9 (Value.string tx_617ef5) (some t0) (some t7) none) fun t8 => K t8 h) (q P h (binOp .mul 3 t0 (Value.int .i64 2)) fun t10 => q P h (binOp .mul 3 t0 (Value.int .i64 2)) fun t12 => q P h (binOp .add 3 t12 (Value.int .i64 2)) fun t13 => q P h (Instr.sliceAt 9 (Value.string tx_0db94c) (some t10) (some t13) none) fun t14 => K t14 h)
theorem F_strconv_small {K : Value → Hp → Prop} {h : Hp} {t0 : Value} (s : s_strconv_small K h t0) : Cn P 164 #[t0] h K :=
  Cn_ofs mixed Tryz.func164 (by kernel_rfl) (args := [t0]) (by kernel_rfl) s
/-- function 165: internal.strconv.numDigits -/
def s_strconv_numDigits (K : Value → Hp → Prop) (h : Hp) (t0 : Value) : Prop := Cn P 180 #[t0] h fun t5 h => Cn P 179 #[t5] h fun t6 h => q P h (Instr.indexAt 197 (Value.pointer (some ⟨3, 0, none⟩)) t6) fun t10 => q P h (Instr.loadAt 106 t10) fun t11 => q P h (binOp .geq 106 t0 t11) fun t12 => Cn P 181 #[t12] h fun t13 h => q P h (binOp .add 3 t6 t13) fun t14 => K t14 h
theorem F_strconv_numDigits {K : Value → Hp → Prop} {h : Hp} {t0 : Value} (s : s_strconv_numDigits K h t0) : Cn P 165 #[t0] h K :=
  Cn_ofs mixed Tryz.func165 (by kernel_rfl) (args := [t0]) (by kernel_rfl) s
end Go.Proofs.YtolcmaipjpkidaaGreatDoor
set_option linter.unusedVariables false
set_option maxRecDepth 100000
namespace Go.Proofs.YtolcmaipjpkidaaGreatDoor
open Go Go.SL
/-- function 166: internal.strconv.formatBase10 -/
def s_strconv_formatBase10 (K : Value → Hp → Prop) (h : Hp) (t0 t1 : Value) : Prop := q P h (Builtin.len_ #[22] 3 #[t0]) fun t18 => 
Lp [t1, t18] h fun nx3 vs3 h =>
q P h (binOp .geq 3 (vs3.getD 1 undef) (Value.int .i64 8)) fun t20 => cnd t20 (q P h (binOp .rem 106 (vs3.getD 0 undef) (Value.int .u64 100000000)) fun t22 => q P h (convert 106 38 t22) fun t23 => q P h (binOp .quo 106 (vs3.getD 0 undef) (Value.int .u64 100000000)) fun t25 => q P h (binOp .quo 38 t23 (Value.int .u32 10000)) fun t27 => q P h (binOp .rem 38 t23 (Value.int .u32 10000)) fun t29 => q P h (binOp .quo 38 t29 (Value.int .u32 100)) fun t31 => q P h (binOp .mul 38 t31 (Value.int .u32 2)) fun t32 => q P h (binOp .rem 38 t29 (Value.int .u32 100)) fun t34 => q P h (binOp .mul 38 t34 (Value.int .u32 2)) fun t35 => q P h (binOp .quo 38 t27 (Value.int .u32 100)) fun t37 => q P h (binOp .mul 38 t37 (Value.int .u32 2)) fun t38 => q P h (binOp .rem 38 t27 (Value.int .u32 100)) fun t40 => q P h (binOp .mul 38 t40 (Value.int .u32 2)) fun t41 => q P emp (binOp .sub 3 (vs3.getD 1 undef) (Value.int .i64 1)) fun t44 => q P emp (binOp .sub 3 (vs3.getD 1 undef) (Value.int .i64 2)) fun t47 => q P emp (binOp .add 38 t35 (Value.int .u32 1)) fun t49 => q P emp (Instr.index 9 (Value.string tx_0db94c) t49) fun t50 => q P emp (Instr.index 9 (Value.string tx_0db94c) t35) fun t52 => q P emp (Instr.indexAt 22 t0 t44) fun t53 => aw P (Instr.storeAt 5 t53 t50) (fun _ h => q P emp (Instr.indexAt 22 t0 t47) fun t54 => aw P (Instr.storeAt 5 t54 t52) (fun _ h => q P emp (binOp .sub 3 (vs3.getD 1 undef) (Value.int .i64 3)) fun t57 => q P emp (binOp .sub 3 (vs3.getD 1 undef) (Value.int .i64 4)) fun t60 => q P emp (binOp .add 38 t32 (Value.int .u32 1)) fun t62 => q P emp (Instr.index 9 (Value.string tx_0db94c) t62) fun t63 => q P emp (Instr.index 9 (Value.string tx_0db94c) t32) fun t65 => q P emp (Instr.indexAt 22 t0 t57) fun t66 => aw P (Instr.storeAt 5 t66 t63) (fun _ h => q P emp (Instr.indexAt 22 t0 t60) fun t67 => aw P (Instr.storeAt 5 t67 t65) (fun _ h => q P emp (binOp .sub 3 (vs3.getD 1 undef) (Value.int .i64 5)) fun t70 => q P emp (binOp .sub 3 (vs3.getD 1 undef) (Value.int .i64 6)) fun t73 => q P emp (binOp .add 38 t41 (Value.int .u32 1)) fun t75 => q P emp (Instr.index 9 (Value.string tx_0db94c) t75) fun t76 => q P emp (Instr.index 9 (Value.string tx_0db94c) t41) fun t78 => q P emp (Instr.indexAt 22 t0 t70) fun t79 => aw P (Instr.storeAt 5 t79 t76) (fun _ h => q P emp (Instr.indexAt 22 t0 t73) fun t80 => aw P (Instr.storeAt 5 t80 t78) (fun _ h => q P emp (binOp .sub 3 (vs3.getD 1 undef) (Value.int .i64 7)) fun t83 => q P emp (binOp .sub 3 (vs3.getD 1 undef) (Value.int .i64 8)) fun t86 => q P emp (binOp .add 38 t38 (Value.int .u32 1)) fun t88 => q P emp (Instr.index 9 (Value.string tx_0db94c) t88) fun t89 => q P emp (Instr.index 9 (Value.string tx_0db94c) t38) fun t91 => q P emp (Instr.indexAt 22 t0 t83) fun t92 => aw P (Instr.storeAt 5 t92 t89) (fun _ h => q P emp (Instr.indexAt 22 t0 t86) fun t93 => aw P (Instr.storeAt 5 t93 t91) (fun _ h => q P h (binOp .sub 3 (vs3.getD 1 undef) (Value.int .i64 8)) fun t95 => nx3 [t25, t95] h) h) h) h) h) h) h) h) h) (q P h (convert 106 38 (vs3.getD 0 undef)) fun t97 => 
let J16 : Value → Value → Hp → Prop := fun t4 t12 h => 
let J23 : Value → Value → Hp → Prop := fun t4 t12 h => q P h (binOp .gtr 3 t4 (Value.int .i64 0)) fun t161 => cnd t161 (q P h (binOp .add 38 (Value.int .u32 48) t12) fun t164 => q P h (convert 38 5 t164) fun t165 => q P h (Instr.indexAt 22 t0 (Value.int .i64 0)) fun t166 => aw P (Instr.storeAt 5 t166 t165) (fun _ h => K (Value.tuple #[]) h) h) (K (Value.tuple #[]) h);
q P h (binOp .geq 3 t4 (Value.int .i64 2)) fun t139 => cnd t139 (q P h (binOp .rem 38 t12 (Value.int .u32 100)) fun t141 => q P h (binOp .mul 38 t141 (Value.int .u32 2)) fun t142 => q P h (binOp .quo 38 t12 (Value.int .u32 100)) fun t144 => q P emp (binOp .sub 3 t4 (Value.int .i64 1)) fun t147 => q P emp (binOp .sub 3 t4 (Value.int .i64 2)) fun t150 => q P emp (binOp .add 38 t142 (Value.int .u32 1)) fun t152 => q P emp (Instr.index 9 (Value.string tx_0db94c) t152) fun t153 => q P emp (Instr.index 9 (Value.string tx_0db94c) t142) fun t155 => q P emp (Instr.indexAt 22 t0 t147) fun t156 => aw P (Instr.storeAt 5 t156 t153) (fun _ h => q P emp (Instr.indexAt 22 t0 t150) fun t157 => aw P (Instr.storeAt 5 t157 t155) (fun _ h => q P h (binOp .sub 3 t4 (Value.int .i64 2)) fun t159 => J23 t159 t144 h) h) h) (J23 t4 t12 h);
q P h (binOp .geq 3 (vs3.getD 1 undef) (Value.int .i64 4)) fun t99 => cnd t99 (q P h (binOp .rem 38 t97 (Value.int .u32 10000)) fun t101 => q P h (binOp .quo 38 t97 (Value.int .u32 10000)) fun t103 => q P h (binOp .quo 38 t101 (Value.int .u32 100)) fun t105 => q P h (binOp .mul 38 t105 (Value.int .u32 2)) fun t106 => q P h (binOp .rem 38 t101 (Value.int .u32 100)) fun t108 => q P h (binOp .mul 38 t108 (Value.int .u32 2)) fun t109 => q P emp (binOp .sub 3 (vs3.getD 1 undef) (Value.int .i64 1)) fun t112 => q P emp (binOp .sub 3 (vs3.getD 1 undef) (Value.int .i64 2)) fun t115 => q P emp (binOp .add 38 t109 (Value.int .u32 1)) fun t117 => q P emp (Instr.index 9 (Value.string tx_0db94c) t117) fun t118 => q P emp (Instr.index 9 (Value.string tx_0db94c) t109) fun t120 => q P emp (Instr.indexAt 22 t0 t112) fun t121 => aw P (Instr.storeAt 5 t121 t118) (fun _ h => q P emp (Instr.indexAt 22 t0 t115) fun t122 => aw P (Instr.storeAt 5 t122 t120) (fun _ h => q P emp (binOp .sub 3 (vs3.getD 1 undef) (Value.int .i64 3)) fun t125 => q P emp (binOp .sub 3 (vs3.getD 1 undef) (Value.int .i64 4)) fun t128 => q P emp (binOp .add 38 t106 (Value.int .u32 1)) fun t130 => q P emp (Instr.index 9 (Value.string tx_0db94c) t130) fun t131 => q P emp (Instr.index 9 (Value.string tx_0db94c) t106) fun t133 => q P emp (Instr.indexAt 22 t0 t125) fun t134 => aw P (Instr.storeAt 5 t134 t131) (fun _ h => q P emp (Instr.indexAt 22 t0 t128) fun t135 => aw P (Instr.storeAt 5 t135 t133) (fun _ h => q P h (binOp .sub 3 (vs3.getD 1 undef) (Value.int .i64 4)) fun t137 => J16 t137 t103 h) h) h) h) h) (J16 (vs3.getD 1 undef) t97 h))
theorem F_strconv_formatBase10 {K : Value → Hp → Prop} {h : Hp} {t0 t1 : Value} (s : s_strconv_formatBase10 K h t0 t1) : Cn P 166 #[t0, t1] h K :=
  Cn_ofs mixed Tryz.func166 (by kernel_rfl) (args := [t0, t1]) (by kernel_rfl) s
/-- function 168: (*strings.Builder).copyCheck -/
def s_strings_Builder_copyCheck (K : Value → Hp → Prop) (h : Hp) (t0 : Value) : Prop := q P h (nilCk t0) fun t3 => q P h (Instr.fieldAt 171 t3 0) fun t4 => q P h (Instr.loadAt 169 t4) fun t5 => q P h (eqop .eql 169 (.tmp 5) (.const (Value.pointer none)) t5 (Value.pointer none)) fun t6 => cnd t6 (q P h (convert 169 201 t0) fun t9 => exP P 184 #[t9] h fun t10 h => q P h (convert 201 169 t10) fun t11 => q P h (nilCk t0) fun t12 => q P h (Instr.fieldAt 171 t12 0) fun t13 => aw P (Instr.storeAt 169 t13 t11) (fun _ h => K (Value.tuple #[]) h) h) (q P h (nilCk t0) fun t15 => q P h (Instr.fieldAt 171 t15 0) fun t16 => q P h (Instr.loadAt 169 t16) fun t17 => q P h (eqop .neq 169 (.tmp 17) (.tmp 18) t17 t0) fun t19 => cnd t19 (False) (K (Value.tuple #[]) h))
theorem F_strings_Builder_copyCheck {K : Value → Hp → Prop} {h : Hp} {t0 : Value} (s : s_strings_Builder_copyCheck K h t0) : Cn P 168 #[t0] h K :=
  Cn_ofs mixed Tryz.func168 (by kernel_rfl) (args := [t0]) (by kernel_rfl) s
/-- function 169: (*strings.Builder).grow -/
def s_strings_Builder_grow (K : Value → Hp → Prop) (h : Hp) (t0 t1 : Value) : Prop := q P emp (nilCk t0) fun t6 => q P h (Instr.fieldAt 171 t6 1) fun t7 => q P h (Instr.loadAt 22 t7) fun t8 => q P h (Builtin.cap_ #[22] 3 #[t8]) fun t9 => q P emp (binOp .mul 3 (Value.int .i64 2) t9) fun t10 => q P emp (binOp .add 3 t10 t1) fun t12 => q P emp (nilCk t0) fun t15 => q P h (Instr.fieldAt 171 t15 1) fun t16 => q P h (Instr.loadAt 22 t16) fun t17 => q P h (Builtin.len_ #[22] 3 #[t17]) fun t18 => exP P 185 #[t12] h fun t13 h => peek P h (Builtin.len_ #[22] 3 #[t17]) = some t18 ∧ peek P h (Instr.loadAt 22 t16) = some t17 ∧ peek P h (Instr.fieldAt 171 t15 1) = some t16 ∧ q P h (Instr.sliceAt 22 t13 none (some t18) none) fun t19 => q P h (nilCk t0) fun t22 => q P h (Instr.fieldAt 171 t22 1) fun t23 => q P h (Instr.loadAt 22 t23) fun t24 => aw P (Builtin.copy_ #[22, 22] 3 #[t19, t24]) (fun t25 h => q P h (nilCk t0) fun t28 => q P h (Instr.fieldAt 171 t28 1) fun t29 => aw P (Instr.storeAt 22 t29 t19) (fun _ h => K (Value.tuple #[]) h) h) h
theorem F_strings_Builder_grow {K : Value → Hp → Prop} {h : Hp} {t0 t1 : Value} (s : s_strings_Builder_grow K h t0 t1) : Cn P 169 #[t0, t1] h K :=
  Cn_ofs mixed Tryz.func169 (by kernel_rfl) (args := [t0, t1]) (by kernel_rfl) s
/-- function 170: internal.stringslite.HasPrefix -/
def s_stringslite_HasPrefix (K : Value → Hp → Prop) (h : Hp) (t0 t1 : Value) : Prop := q P h (Builtin.len_ #[9] 3 #[t0]) fun t6 => q P h (Builtin.len_ #[9] 3 #[t1]) fun t8 => q P h (binOp .geq 3 t6 t8) fun t9 => gd t9 true (q P h (Builtin.len_ #[9] 3 #[t1]) fun t13 => q P h (Instr.sliceAt 9 t0 none (some t13) none) fun t14 => q P h (eqop .eql 9 (.tmp 14) (.tmp 15) t14 t1) fun t16 => K t16 h) (K (Value.bool false) h)
theorem F_stringslite_HasPrefix {K : Value → Hp → Prop} {h : Hp} {t0 t1 : Value} (s : s_stringslite_HasPrefix K h t0 t1) : Cn P 170 #[t0, t1] h K :=
  Cn_ofs mixed Tryz.func170 (by kernel_rfl) (args := [t0, t1]) (by kernel_rfl) s
end Go.Proofs.YtolcmaipjpkidaaGreatDoor
set_option linter.unusedVariables false
set_option maxRecDepth 100000
namespace Go.Proofs.YtolcmaipjpkidaaGreatDoor
open Go Go.SL
/-- function 173: unicode.utf8.appendRuneNonASCII -/
def s_utf8_appendRuneNonASCII (K : Value → Hp → Prop) (h : Hp) (t0 t1 : Value) : Prop := q P h (convert 21 38 t1) fun t7 => q P h (binOp .leq 38 t7 (Value.int .u32 2047)) fun t13 => cnd t13 (q P h (binOp .shr 21 t1 (Value.int .u64 6)) fun t16 => q P h (convert 21 5 t16) fun t17 => q P h (binOp .or 5 (Value.int .u8 192) t17) fun t18 => q P h (convert 21 5 t1) fun t20 => q P h (binOp .and 5 t20 (Value.int .u8 63)) fun t21 => q P h (binOp .or 5 (Value.int .u8 128) t21) fun t22 => aw P (Instr.buildSlice 22 2 #[(0, t18), (1, t22)]) (fun t23 h => aw P (Builtin.append_ #[22, 22] 22 #[t0, t23]) (fun t24 h => K t24 h) h) h) (
let J5 : Value → Hp → Prop := fun t25 h => cnd t25 (q P h (binOp .shr 21 t1 (Value.int .u64 12)) fun t36 => q P h (convert 21 5 t36) fun t37 => q P h (binOp .or 5 (Value.int .u8 224) t37) fun t38 => q P h (binOp .shr 21 t1 (Value.int .u64 6)) fun t40 => q P h (convert 21 5 t40) fun t41 => q P h (binOp .and 5 t41 (Value.int .u8 63)) fun t42 => q P h (binOp .or 5 (Value.int .u8 128) t42) fun t43 => q P h (convert 21 5 t1) fun t45 => q P h (binOp .and 5 t45 (Value.int .u8 63)) fun t46 => q P h (binOp .or 5 (Value.int .u8 128) t46) fun t47 => aw P (Instr.buildSlice 22 3 #[(0, t38), (1, t43), (2, t47)]) (fun t48 h => aw P (Builtin.append_ #[22, 22] 22 #[t0, t48]) (fun t49 h => K t49 h) h) h) (
let J8 : Value → Hp → Prop := fun t50 h => cnd t50 (q P h (binOp .shr 21 t1 (Value.int .u64 18)) fun t59 => q P h (convert 21 5 t59) fun t60 => q P h (binOp .or 5 (Value.int .u8 240) t60) fun t61 => q P h (binOp .shr 21 t1 (Value.int .u64 12)) fun t63 => q P h (convert 21 5 t63) fun t64 => q P h (binOp .and 5 t64 (Value.int .u8 63)) fun t65 => q P h (binOp .or 5 (Value.int .u8 128) t65) fun t66 => q P h (binOp .shr 21 t1 (Value.int .u64 6)) fun t68 => q P h (convert 21 5 t68) fun t69 => q P h (binOp .and 5 t69 (Value.int .u8 63)) fun t70 => q P h (binOp .or 5 (Value.int .u8 128) t70) fun t71 => q P h (convert 21 5 t1) fun t73 => q P h (binOp .and 5 t73 (Value.int .u8 63)) fun t74 => q P h (binOp .or 5 (Value.int .u8 128) t74) fun t75 => aw P (Instr.buildSlice 22 4 #[(0, t61), (1, t66), (2, t71), (3, t75)]) (fun t76 h => aw P (Builtin.append_ #[22, 22] 22 #[t0, t76]) (fun t77 h => K t77 h) h) h) (aw P (Instr.buildSlice 22 3 #[(0, (Value.int .u8 239)), (1, (Value.int .u8 191)), (2, (Value.int .u8 189))]) (fun t9 h => aw P (Builtin.append_ #[22, 22] 22 #[t0, t9]) (fun t10 h => K t10 h) h) h);
q P h (binOp .gtr 38 t7 (Value.int .u32 65535)) fun t52 => gd t52 true (q P h (binOp .leq 38 t7 (Value.int .u32 1114111)) fun t55 => J8 t55 h) (J8 (Value.bool false) h));
q P h (binOp .lss 38 t7 (Value.int .u32 55296)) fun t27 => cnd t27 (J5 t27 h) (q P h (binOp .lss 38 (Value.int .u32 57343) t7) fun t29 => gd t29 true (q P h (binOp .leq 38 t7 (Value.int .u32 65535)) fun t32 => J5 t32 h) (J5 (Value.bool false) h)))
theorem F_utf8_appendRuneNonASCII {K : Value → Hp → Prop} {h : Hp} {t0 t1 : Value} (s : s_utf8_appendRuneNonASCII K h t0 t1) : Cn P 173 #[t0, t1] h K :=
  Cn_ofs mixed Tryz.func173 (by kernel_rfl) (args := [t0, t1]) (by kernel_rfl) s
/-- function 174: (*orlop.json.parser).half -/
def s_json_parser_half (Z : Zt) (K : Value → Hp → Prop) (h : Hp) (t0 : Value) : Prop := q P emp (nilCk t0) fun t7 => q P h (Instr.fieldAt 66 t7 1) fun t8 => q P h (Instr.loadAt 3 t8) fun t9 => q P emp (binOp .add 3 t9 (Value.int .i64 4)) fun t10 => q P emp (nilCk t0) fun t12 => q P h (Instr.fieldAt 66 t12 0) fun t13 => q P h (Instr.loadAt 22 t13) fun t14 => q P h (Builtin.len_ #[22] 3 #[t14]) fun t15 => q P emp (binOp .leq 3 t10 t15) fun t16 => CnZ P Z 90 #[t0, t16] h fun t17 h => q P emp (nilCk t0) fun t20 => q P h (Instr.fieldAt 66 t20 0) fun t21 => q P h (Instr.loadAt 22 t21) fun t22 => q P emp (nilCk t0) fun t24 => q P h (Instr.fieldAt 66 t24 1) fun t25 => q P h (Instr.loadAt 3 t25) fun t26 => q P emp (nilCk t0) fun t28 => q P h (Instr.fieldAt 66 t28 1) fun t29 => q P h (Instr.loadAt 3 t29) fun t30 => q P emp (binOp .add 3 t30 (Value.int .i64 4)) fun t31 => q P h (Instr.sliceAt 22 t22 (some t26) (some t31) none) fun t32 => q P h (convert 22 9 t32) fun t33 => CnZ P Z 187 #[t33] h fun t34 h => CnZ P Z 109 #[t34] h fun t35 h => q P emp (Instr.extract t35 0) fun t36 => q P emp (Instr.extract t35 1) fun t37 => CnZ P Z 90 #[t0, t37] h fun t40 h => q P h (nilCk t0) fun t42 => q P h (Instr.fieldAt 66 t42 1) fun t43 => q P h (Instr.loadAt 3 t43) fun t44 => q P h (binOp .add 3 t44 (Value.int .i64 4)) fun t45 => q P h (nilCk t0) fun t46 => q P h (Instr.fieldAt 66 t46 1) fun t47 => aw P (Instr.storeAt 3 t47 t45) (fun _ h => q P emp (Instr.indexAt 22 t36 (Value.int .i64 0)) fun t49 => q P h (Instr.loadAt 5 t49) fun t50 => q P h (convert 5 21 t50) fun t51 => q P emp (binOp .shl 21 t51 (Value.int .u64 8)) fun t52 => q P emp (Instr.indexAt 22 t36 (Value.int .i64 1)) fun t54 => q P h (Instr.loadAt 5 t54) fun t55 => q P h (convert 5 21 t55) fun t56 => q P emp (binOp .or 21 t52 t56) fun t57 => K t57 h) h
theorem F_json_parser_half {Z : Zt} {K : Value → Hp → Prop} {h : Hp} {t0 : Value} (s : s_json_parser_half Z K h t0) : CnZ P Z 174 #[t0] h K :=
  CnZ_ofs mixed Tryz.func174 (by kernel_rfl) (args := [t0]) (by kernel_rfl) s
end Go.Proofs.YtolcmaipjpkidaaGreatDoor
set_option linter.unusedVariables false
set_option maxRecDepth 100000
namespace Go.Proofs.YtolcmaipjpkidaaGreatDoor
open Go Go.SL
/-- function 175: unicode.utf8.decodeRuneSlow -/
def s_utf8_decodeRuneSlow_18 (K : Value → Hp → Prop) (h : Hp) (t2 t3 : Value) : Prop := K (Value.tuple #[t2, t3]) h
def s_utf8_decodeRuneSlow_17 (K : Value → Hp → Prop) (h : Hp) (t2 t3 t5 t10 t11 t12 : Value) : Prop := q P h (binOp .and 5 t5 (Value.int .u8 7)) fun t105 => q P h (convert 5 21 t105) fun t106 => q P h (binOp .shl 21 t106 (Value.int .u64 18)) fun t107 => q P h (binOp .and 5 t10 (Value.int .u8 63)) fun t109 => q P h (convert 5 21 t109) fun t110 => q P h (binOp .shl 21 t110 (Value.int .u64 12)) fun t111 => q P h (binOp .or 21 t107 t111) fun t112 => q P h (binOp .and 5 t11 (Value.int .u8 63)) fun t114 => q P h (convert 5 21 t114) fun t115 => q P h (binOp .shl 21 t115 (Value.int .u64 6)) fun t116 => q P h (binOp .or 21 t112 t116) fun t117 => q P h (binOp .and 5 t12 (Value.int .u8 63)) fun t119 => q P h (convert 5 21 t119) fun t120 => q P h (binOp .or 21 t117 t120) fun t121 => s_utf8_decodeRuneSlow_18 K h t121 (Value.int .i64 4)
def s_utf8_decodeRuneSlow_16 (K : Value → Hp → Prop) (h : Hp) (t2 t3 t5 t10 t11 t12 : Value) : Prop := q P h (binOp .lss 5 t12 (Value.int .u8 128)) fun t99 => gd t99 false (q P h (binOp .lss 5 (Value.int .u8 191) t12) fun t102 => cnd t102 (K (Value.tuple #[(Value.int .i32 65533), (Value.int .i64 1)]) h) (s_utf8_decodeRuneSlow_17 K h t2 t3 t5 t10 t11 t12)) (cnd (Value.bool true) (K (Value.tuple #[(Value.int .i32 65533), (Value.int .i64 1)]) h) (s_utf8_decodeRuneSlow_17 K h t2 t3 t5 t10 t11 t12))
def s_utf8_decodeRuneSlow_15 (K : Value → Hp → Prop) (h : Hp) (t0 t2 t3 t5 t10 t11 : Value) : Prop := q P h (Instr.indexAt 22 t0 (Value.int .i64 3)) fun t96 => q P h (Instr.loadAt 5 t96) fun t97 => s_utf8_decodeRuneSlow_16 K h t2 t3 t5 t10 t11 t97
def s_utf8_decodeRuneSlow_14 (K : Value → Hp → Prop) (h : Hp) (t0 t2 t3 t5 t8 t10 t11 : Value) : Prop := q P h (binOp .leq 3 t8 (Value.int .i64 3)) fun t81 => cnd t81 (q P h (binOp .and 5 t5 (Value.int .u8 15)) fun t83 => q P h (convert 5 21 t83) fun t84 => q P h (binOp .shl 21 t84 (Value.int .u64 12)) fun t85 => q P h (binOp .and 5 t10 (Value.int .u8 63)) fun t87 => q P h (convert 5 21 t87) fun t88 => q P h (binOp .shl 21 t88 (Value.int .u64 6)) fun t89 => q P h (binOp .or 21 t85 t89) fun t90 => q P h (binOp .and 5 t11 (Value.int .u8 63)) fun t92 => q P h (convert 5 21 t92) fun t93 => q P h (binOp .or 21 t90 t93) fun t94 => K (Value.tuple #[t94, (Value.int .i64 3)]) h) (s_utf8_decodeRuneSlow_15 K h t0 t2 t3 t5 t10 t11)
def s_utf8_decodeRuneSlow_13 (K : Value → Hp → Prop) (h : Hp) (t0 t2 t3 t5 t8 t10 t11 : Value) : Prop := q P h (binOp .lss 5 t11 (Value.int .u8 128)) fun t75 => gd t75 false (q P h (binOp .lss 5 (Value.int .u8 191) t11) fun t78 => cnd t78 (K (Value.tuple #[(Value.int .i32 65533), (Value.int .i64 1)]) h) (s_utf8_decodeRuneSlow_14 K h t0 t2 t3 t5 t8 t10 t11)) (cnd (Value.bool true) (K (Value.tuple #[(Value.int .i32 65533), (Value.int .i64 1)]) h) (s_utf8_decodeRuneSlow_14 K h t0 t2 t3 t5 t8 t10 t11))
def s_utf8_decodeRuneSlow_12 (K : Value → Hp → Prop) (h : Hp) (t0 t2 t3 t5 t8 t10 : Value) : Prop := q P h (Instr.indexAt 22 t0 (Value.int .i64 2)) fun t72 => q P h (Instr.loadAt 5 t72) fun t73 => s_utf8_decodeRuneSlow_13 K h t0 t2 t3 t5 t8 t10 t73
def s_utf8_decodeRuneSlow_11 (K : Value → Hp → Prop) (h : Hp) (t0 t2 t3 t5 t8 t10 : Value) : Prop := q P h (binOp .leq 3 t8 (Value.int .i64 2)) fun t62 => cnd t62 (q P h (binOp .and 5 t5 (Value.int .u8 31)) fun t64 => q P h (convert 5 21 t64) fun t65 => q P h (binOp .shl 21 t65 (Value.int .u64 6)) fun t66 => q P h (binOp .and 5 t10 (Value.int .u8 63)) fun t68 => q P h (convert 5 21 t68) fun t69 => q P h (binOp .or 21 t66 t69) fun t70 => K (Value.tuple #[t70, (Value.int .i64 2)]) h) (s_utf8_decodeRuneSlow_12 K h t0 t2 t3 t5 t8 t10)
def s_utf8_decodeRuneSlow_10 (K : Value → Hp → Prop) (h : Hp) (t0 t2 t3 t5 t8 t9 t10 : Value) : Prop := q P h (Instr.fieldAt 166 t9 0) fun t52 => q P h (Instr.loadAt 5 t52) fun t53 => q P h (binOp .lss 5 t10 t53) fun t54 => gd t54 false (q P h (Instr.fieldAt 166 t9 1) fun t56 => q P h (Instr.loadAt 5 t56) fun t57 => q P h (binOp .lss 5 t57 t10) fun t59 => cnd t59 (K (Value.tuple #[(Value.int .i32 65533), (Value.int .i64 1)]) h) (s_utf8_decodeRuneSlow_11 K h t0 t2 t3 t5 t8 t10)) (cnd (Value.bool true) (K (Value.tuple #[(Value.int .i32 65533), (Value.int .i64 1)]) h) (s_utf8_decodeRuneSlow_11 K h t0 t2 t3 t5 t8 t10))
def s_utf8_decodeRuneSlow_9 (K : Value → Hp → Prop) (h : Hp) (t0 t2 t3 t5 t8 t9 : Value) : Prop := q P h (Instr.indexAt 22 t0 (Value.int .i64 1)) fun t49 => q P h (Instr.loadAt 5 t49) fun t50 => s_utf8_decodeRuneSlow_10 K h t0 t2 t3 t5 t8 t9 t50
def s_utf8_decodeRuneSlow_8 (K : Value → Hp → Prop) (h : Hp) (t0 t2 t3 t4 t5 t8 t9 : Value) : Prop := q P h (binOp .lss 3 t4 t8) fun t47 => cnd t47 (K (Value.tuple #[(Value.int .i32 65533), (Value.int .i64 1)]) h) (s_utf8_decodeRuneSlow_9 K h t0 t2 t3 t5 t8 t9)
def s_utf8_decodeRuneSlow_7 (K : Value → Hp → Prop) (h : Hp) (t0 t2 t3 t4 t5 t6 t8 : Value) : Prop := q P h (binOp .shr 5 t6 (Value.int .u64 4)) fun t42 => q P h (Instr.indexAt 167 (Value.pointer (some ⟨1, 0, none⟩)) t42) fun t43 => q P h (Instr.loadAt 166 t43) fun t44 => aw P (Instr.alloc 166 true (.tuple #[])) (fun t9 h => aw P (Instr.storeAt 166 t9 t44) (fun _ h => s_utf8_decodeRuneSlow_8 K h t0 t2 t3 t4 t5 t8 t9) h) h
def s_utf8_decodeRuneSlow_6 (K : Value → Hp → Prop) (h : Hp) (t0 t2 t3 t4 t5 t6 : Value) : Prop := q P h (binOp .and 5 t6 (Value.int .u8 7)) fun t39 => q P h (convert 5 3 t39) fun t40 => s_utf8_decodeRuneSlow_7 K h t0 t2 t3 t4 t5 t6 t40
def s_utf8_decodeRuneSlow_5 (K : Value → Hp → Prop) (h : Hp) (t0 t2 t3 t4 t5 t6 : Value) : Prop := q P h (binOp .geq 5 t6 (Value.int .u8 240)) fun t24 => cnd t24 (q P h (convert 5 21 t6) fun t26 => q P h (binOp .shl 21 t26 (Value.int .u64 31)) fun t27 => q P h (binOp .shr 21 t27 (Value.int .u64 31)) fun t28 => q P h (Instr.indexAt 22 t0 (Value.int .i64 0)) fun t30 => q P h (Instr.loadAt 5 t30) fun t31 => q P h (convert 5 21 t31) fun t32 => q P h (binOp .andNot 21 t32 t28) fun t34 => q P h (binOp .and 21 (Value.int .i32 65533) t28) fun t36 => q P h (binOp .or 21 t34 t36) fun t37 => K (Value.tuple #[t37, (Value.int .i64 1)]) h) (s_utf8_decodeRuneSlow_6 K h t0 t2 t3 t4 t5 t6)
def s_utf8_decodeRuneSlow_4 (K : Value → Hp → Prop) (h : Hp) (t0 t2 t3 t4 t5 : Value) : Prop := q P h (Instr.indexAt 164 (Value.pointer (some ⟨0, 0, none⟩)) t5) fun t21 => q P h (Instr.loadAt 5 t21) fun t22 => s_utf8_decodeRuneSlow_5 K h t0 t2 t3 t4 t5 t22
def s_utf8_decodeRuneSlow_3 (K : Value → Hp → Prop) (h : Hp) (t0 t2 t3 t4 : Value) : Prop := q P h (Instr.indexAt 22 t0 (Value.int .i64 0)) fun t18 => q P h (Instr.loadAt 5 t18) fun t19 => s_utf8_decodeRuneSlow_4 K h t0 t2 t3 t4 t19
def s_utf8_decodeRuneSlow_2 (K : Value → Hp → Prop) (h : Hp) (t0 t2 t3 t4 : Value) : Prop := q P h (binOp .lss 3 t4 (Value.int .i64 1)) fun t16 => cnd t16 (K (Value.tuple #[(Value.int .i32 65533), (Value.int .i64 0)]) h) (s_utf8_decodeRuneSlow_3 K h t0 t2 t3 t4)
def s_utf8_decodeRuneSlow_1 (K : Value → Hp → Prop) (h : Hp) (t0 t2 t3 : Value) : Prop := q P h (Builtin.len_ #[22] 3 #[t0]) fun t14 => s_utf8_decodeRuneSlow_2 K h t0 t2 t3 t14
def s_utf8_decodeRuneSlow (K : Value → Hp → Prop) (h : Hp) (t0 : Value) : Prop := s_utf8_decodeRuneSlow_1 K h t0 (Value.int .i32 0) (Value.int .i64 0)
theorem c_utf8_decodeRuneSlow_18 {K : Value → Hp → Prop} {h : Hp} {t2 t3 : Value} (s : s_utf8_decodeRuneSlow_18 K h t2 t3) : SV P Tryz.f175.ntmps (seqR (seqR (seqR (seqR (seqR (seqR (seqR (seqR (seqR (seqR (seqR (seqR (seqR (seqR (seqR (seqR (seqR (seqR (Tryz.f175.body.getD .skip))))))))))))))))))) (retP P Tryz.f175.results.toList K) (headOf [2, 3] [t2, t3]) h :=
  SV_of mixed (by kernel_rfl) s
theorem c_utf8_decodeRuneSlow_17 {K : Value → Hp → Prop} {h : Hp} {t2 t3 t5 t10 t11 t12 : Value} (s : s_utf8_decodeRuneSlow_17 K h t2 t3 t5 t10 t11 t12) : SV P Tryz.f175.ntmps (seqR (seqR (seqR (seqR (seqR (seqR (seqR (seqR (seqR (seqR (seqR (seqR (seqR (seqR (seqR (seqR (seqR (Tryz.f175.body.getD .skip)))))))))))))))))) (retP P Tryz.f175.results.toList K) (headOf [2, 3, 5, 10, 11, 12] [t2, t3, t5, t10, t11, t12]) h :=
  cut_at mixed (by kernel_rfl) [2, 3] (fun vs h => s_utf8_decodeRuneSlow_18 K h (vs.getD 0 undef) (vs.getD 1 undef)) (fun vs h _ x => Eq.mp (by kernel_rfl) (c_utf8_decodeRuneSlow_18 x)) (by kernel_rfl) s
theorem c_utf8_decodeRuneSlow_16 {K : Value → Hp → Prop} {h : Hp} {t2 t3 t5 t10 t11 t12 : Value} (s : s_utf8_decodeRuneSlow_16 K h t2 t3 t5 t10 t11 t12) : SV P Tryz.f175.ntmps (seqR (seqR (seqR (seqR (seqR (seqR (seqR (seqR (seqR (seqR (seqR (seqR (seqR (seqR (seqR (seqR (Tryz.f175.body.getD .skip))))))))))))))))) (retP P Tryz.f175.results.toList K) (headOf [2, 3, 5, 10, 11, 12] [t2, t3, t5, t10, t11, t12]) h :=
  cut_at mixed (by kernel_rfl) [2, 3, 5, 10, 11, 12] (fun vs h => s_utf8_decodeRuneSlow_17 K h (vs.getD 0 undef) (vs.getD 1 undef) (vs.getD 2 undef) (vs.getD 3 undef) (vs.getD 4 undef) (vs.getD 5 undef)) (fun vs h _ x => Eq.mp (by kernel_rfl) (c_utf8_decodeRuneSlow_17 x)) (by kernel_rfl) s
theorem c_utf8_decodeRuneSlow_15 {K : Value → Hp → Prop} {h : Hp} {t0 t2 t3 t5 t10 t11 : Value} (s : s_utf8_decodeRuneSlow_15 K h t0 t2 t3 t5 t10 t11) : SV P Tryz.f175.ntmps (seqR (seqR (seqR (seqR (seqR (seqR (seqR (seqR (seqR (seqR (seqR (seqR (seqR (seqR (seqR (Tryz.f175.body.getD .skip)))))))))))))))) (retP P Tryz.f175.results.toList K) (headOf [0, 2, 3, 5, 10, 11] [t0, t2, t3, t5, t10, t11]) h :=
  cut_at mixed (by kernel_rfl) [2, 3, 5, 10, 11, 12] (fun vs h => s_utf8_decodeRuneSlow_16 K h (vs.getD 0 undef) (vs.getD 1 undef) (vs.getD 2 undef) (vs.getD 3 undef) (vs.getD 4 undef) (vs.getD 5 undef)) (fun vs h _ x => Eq.mp (by kernel_rfl) (c_utf8_decodeRuneSlow_16 x)) (by kernel_rfl) s
theorem c_utf8_decodeRuneSlow_14 {K : Value → Hp → Prop} {h : Hp} {t0 t2 t3 t5 t8 t10 t11 : Value} (s : s_utf8_decodeRuneSlow_14 K h t0 t2 t3 t5 t8 t10 t11) : SV P Tryz.f175.ntmps (seqR (seqR (seqR (seqR (seqR (seqR (seqR (seqR (seqR (seqR (seqR (seqR (seqR (seqR (Tryz.f175.body.getD .skip))))))))))))))) (retP P Tryz.f175.results.toList K) (headOf [0, 2, 3, 5, 8, 10, 11] [t0, t2, t3, t5, t8, t10, t11]) h :=
  cut_at mixed (by kernel_rfl) [0, 2, 3, 5, 10, 11] (fun vs h => s_utf8_decodeRuneSlow_15 K h (vs.getD 0 undef) (vs.getD 1 undef) (vs.getD 2 undef) (vs.getD 3 undef) (vs.getD 4 undef) (vs.getD 5 undef)) (fun vs h _ x => Eq.mp (by kernel_rfl) (c_utf8_decodeRuneSlow_15 x)) (by kernel_rfl) s
theorem c_utf8_decodeRuneSlow_13 {K : Value → Hp → Prop} {h : Hp} {t0 t2 t3 t5 t8 t10 t11 : Value} (s : s_utf8_decodeRuneSlow_13 K h t0 t2 t3 t5 t8 t10 t11) : SV P Tryz.f175.ntmps (seqR (seqR (seqR (seqR (seqR (seqR (seqR (seqR (seqR (seqR (seqR (seqR (seqR (Tryz.f175.body.getD .skip)))))))))))))) (retP P Tryz.f175.results.toList K) (headOf [0, 2, 3, 5, 8, 10, 11] [t0, t2, t3, t5, t8, t10, t11]) h :=
  cut_at mixed (by kernel_rfl) [0, 2, 3, 5, 8, 10, 11] (fun vs h => s_utf8_decodeRuneSlow_14 K h (vs.getD 0 undef) (vs.getD 1 undef) (vs.getD 2 undef) (vs.getD 3 undef) (vs.getD 4 undef) (vs.getD 5 undef) (vs.getD 6 undef)) (fun vs h _ x => Eq.mp (by kernel_rfl) (c_utf8_decodeRuneSlow_14 x)) (by kernel_rfl) s
theorem c_utf8_decodeRuneSlow_12 {K : Value → Hp → Prop} {h : Hp} {t0 t2 t3 t5 t8 t10 : Value} (s : s_utf8_decodeRuneSlow_12 K h t0 t2 t3 t5 t8 t10) : SV P Tryz.f175.ntmps (seqR (seqR (seqR (seqR (seqR (seqR (seqR (seqR (seqR (seqR (seqR (seqR (Tryz.f175.body.getD .skip))))))))))))) (retP P Tryz.f175.results.toList K) (headOf [0, 2, 3, 5, 8, 10] [t0, t2, t3, t5, t8, t10]) h :=
  cut_at mixed (by kernel_rfl) [0, 2, 3, 5, 8, 10, 11] (fun vs h => s_utf8_decodeRuneSlow_13 K h (vs.getD 0 undef) (vs.getD 1 undef) (vs.getD 2 undef) (vs.getD 3 undef) (vs.getD 4 undef) (vs.getD 5 undef) (vs.getD 6 undef)) (fun vs h _ x => Eq.mp (by kernel_rfl) (c_utf8_decodeRuneSlow_13 x)) (by kernel_rfl) s
theorem c_utf8_decodeRuneSlow_11 {K : Value → Hp → Prop} {h : Hp} {t0 t2 t3 t5 t8 t10 : Value} (s : s_utf8_decodeRuneSlow_11 K h t0 t2 t3 t5 t8 t10) : SV P Tryz.f175.ntmps (seqR (seqR (seqR (seqR (seqR (seqR (seqR (seqR (seqR (seqR (seqR (Tryz.f175.body.getD .skip)))))))))))) (retP P Tryz.f175.results.toList K) (headOf [0, 2, 3, 5, 8, 10] [t0, t2, t3, t5, t8, t10]) h :=
  cut_at mixed (by kernel_rfl) [0, 2, 3, 5, 8, 10] (fun vs h => s_utf8_decodeRuneSlow_12 K h (vs.getD 0 undef) (vs.getD 1 undef) (vs.getD 2 undef) (vs.getD 3 undef) (vs.getD 4 undef) (vs.getD 5 undef)) (fun vs h _ x => Eq.mp (by kernel_rfl) (c_utf8_decodeRuneSlow_12 x)) (by kernel_rfl) s
theorem c_utf8_decodeRuneSlow_10 {K : Value → Hp → Prop} {h : Hp} {t0 t2 t3 t5 t8 t9 t10 : Value} (s : s_utf8_decodeRuneSlow_10 K h t0 t2 t3 t5 t8 t9 t10) : SV P Tryz.f175.ntmps (seqR (seqR (seqR (seqR (seqR (seqR (seqR (seqR (seqR (seqR (Tryz.f175.body.getD .skip))))))))))) (retP P Tryz.f175.results.toList K) (headOf [0, 2, 3, 5, 8, 9, 10] [t0, t2, t3, t5, t8, t9, t10]) h :=
  cut_at mixed (by kernel_rfl) [0, 2, 3, 5, 8, 10] (fun vs h => s_utf8_decodeRuneSlow_11 K h (vs.getD 0 undef) (vs.getD 1 undef) (vs.getD 2 undef) (vs.getD 3 undef) (vs.getD 4 undef) (vs.getD 5 undef)) (fun vs h _ x => Eq.mp (by kernel_rfl) (c_utf8_decodeRuneSlow_11 x)) (by kernel_rfl) s
theorem c_utf8_decodeRuneSlow_9 {K : Value → Hp → Prop} {h : Hp} {t0 t2 t3 t5 t8 t9 : Value} (s : s_utf8_decodeRuneSlow_9 K h t0 t2 t3 t5 t8 t9) : SV P Tryz.f175.ntmps (seqR (seqR (seqR (seqR (seqR (seqR (seqR (seqR (seqR (Tryz.f175.body.getD .skip)))))))))) (retP P Tryz.f175.results.toList K) (headOf [0, 2, 3, 5, 8, 9] [t0, t2, t3, t5, t8, t9]) h :=
  cut_at mixed (by kernel_rfl) [0, 2, 3, 5, 8, 9, 10] (fun vs h => s_utf8_decodeRuneSlow_10 K h (vs.getD 0 undef) (vs.getD 1 undef) (vs.getD 2 undef) (vs.getD 3 undef) (vs.getD 4 undef) (vs.getD 5 undef) (vs.getD 6 undef)) (fun vs h _ x => Eq.mp (by kernel_rfl) (c_utf8_decodeRuneSlow_10 x)) (by kernel_rfl) s
theorem c_utf8_decodeRuneSlow_8 {K : Value → Hp → Prop} {h : Hp} {t0 t2 t3 t4 t5 t8 t9 : Value} (s : s_utf8_decodeRuneSlow_8 K h t0 t2 t3 t4 t5 t8 t9) : SV P Tryz.f175.ntmps (seqR (seqR (seqR (seqR (seqR (seqR (seqR (seqR (Tryz.f175.body.getD .skip))))))))) (retP P Tryz.f175.results.toList K) (headOf [0, 2, 3, 4, 5, 8, 9] [t0, t2, t3, t4, t5, t8, t9]) h :=
  cut_at mixed (by kernel_rfl) [0, 2, 3, 5, 8, 9] (fun vs h => s_utf8_decodeRuneSlow_9 K h (vs.getD 0 undef) (vs.getD 1 undef) (vs.getD 2 undef) (vs.getD 3 undef) (vs.getD 4 undef) (vs.getD 5 undef)) (fun vs h _ x => Eq.mp (by kernel_rfl) (c_utf8_decodeRuneSlow_9 x)) (by kernel_rfl) s
theorem c_utf8_decodeRuneSlow_7 {K : Value → Hp → Prop} {h : Hp} {t0 t2 t3 t4 t5 t6 t8 : Value} (s : s_utf8_decodeRuneSlow_7 K h t0 t2 t3 t4 t5 t6 t8) : SV P Tryz.f175.ntmps (seqR (seqR (seqR (seqR (seqR (seqR (seqR (Tryz.f175.body.getD .skip)))))))) (retP P Tryz.f175.results.toList K) (headOf [0, 2, 3, 4, 5, 6, 8] [t0, t2, t3, t4, t5, t6, t8]) h :=
  cut_at mixed (by kernel_rfl) [0, 2, 3, 4, 5, 8, 9] (fun vs h => s_utf8_decodeRuneSlow_8 K h (vs.getD 0 undef) (vs.getD 1 undef) (vs.getD 2 undef) (vs.getD 3 undef) (vs.getD 4 undef) (vs.getD 5 undef) (vs.getD 6 undef)) (fun vs h _ x => Eq.mp (by kernel_rfl) (c_utf8_decodeRuneSlow_8 x)) (by kernel_rfl) s
theorem c_utf8_decodeRuneSlow_6 {K : Value → Hp → Prop} {h : Hp} {t0 t2 t3 t4 t5 t6 : Value} (s : s_utf8_decodeRuneSlow_6 K h t0 t2 t3 t4 t5 t6) : SV P Tryz.f175.ntmps (seqR (seqR (seqR (seqR (seqR (seqR (Tryz.f175.body.getD .skip))))))) (retP P Tryz.f175.results.toList K) (headOf [0, 2, 3, 4, 5, 6] [t0, t2, t3, t4, t5, t6]) h :=
  cut_at mixed (by kernel_rfl) [0, 2, 3, 4, 5, 6, 8] (fun vs h => s_utf8_decodeRuneSlow_7 K h (vs.getD 0 undef) (vs.getD 1 undef) (vs.getD 2 undef) (vs.getD 3 undef) (vs.getD 4 undef) (vs.getD 5 undef) (vs.getD 6 undef)) (fun vs h _ x => Eq.mp (by kernel_rfl) (c_utf8_decodeRuneSlow_7 x)) (by kernel_rfl) s
theorem c_utf8_decodeRuneSlow_5 {K : Value → Hp → Prop} {h : Hp} {t0 t2 t3 t4 t5 t6 : Value} (s : s_utf8_decodeRuneSlow_5 K h t0 t2 t3 t4 t5 t6) : SV P Tryz.f175.ntmps (seqR (seqR (seqR (seqR (seqR (Tryz.f175.body.getD .skip)))))) (retP P Tryz.f175.results.toList K) (headOf [0, 2, 3, 4, 5, 6] [t0, t2, t3, t4, t5, t6]) h :=
  cut_at mixed (by kernel_rfl) [0, 2, 3, 4, 5, 6] (fun vs h => s_utf8_decodeRuneSlow_6 K h (vs.getD 0 undef) (vs.getD 1 undef) (vs.getD 2 undef) (vs.getD 3 undef) (vs.getD 4 undef) (vs.getD 5 undef)) (fun vs h _ x => Eq.mp (by kernel_rfl) (c_utf8_decodeRuneSlow_6 x)) (by kernel_rfl) s
theorem c_utf8_decodeRuneSlow_4 {K : Value → Hp → Prop} {h : Hp} {t0 t2 t3 t4 t5 : Value} (s : s_utf8_decodeRuneSlow_4 K h t0 t2 t3 t4 t5) : SV P Tryz.f175.ntmps (seqR (seqR (seqR (seqR (Tryz.f175.body.getD .skip))))) (retP P Tryz.f175.results.toList K) (headOf [0, 2, 3, 4, 5] [t0, t2, t3, t4, t5]) h :=
  cut_at mixed (by kernel_rfl) [0, 2, 3, 4, 5, 6] (fun vs h => s_utf8_decodeRuneSlow_5 K h (vs.getD 0 undef) (vs.getD 1 undef) (vs.getD 2 undef) (vs.getD 3 undef) (vs.getD 4 undef) (vs.getD 5 undef)) (fun vs h _ x => Eq.mp (by kernel_rfl) (c_utf8_decodeRuneSlow_5 x)) (by kernel_rfl) s
theorem c_utf8_decodeRuneSlow_3 {K : Value → Hp → Prop} {h : Hp} {t0 t2 t3 t4 : Value} (s : s_utf8_decodeRuneSlow_3 K h t0 t2 t3 t4) : SV P Tryz.f175.ntmps (seqR (seqR (seqR (Tryz.f175.body.getD .skip)))) (retP P Tryz.f175.results.toList K) (headOf [0, 2, 3, 4] [t0, t2, t3, t4]) h :=
  cut_at mixed (by kernel_rfl) [0, 2, 3, 4, 5] (fun vs h => s_utf8_decodeRuneSlow_4 K h (vs.getD 0 undef) (vs.getD 1 undef) (vs.getD 2 undef) (vs.getD 3 undef) (vs.getD 4 undef)) (fun vs h _ x => Eq.mp (by kernel_rfl) (c_utf8_decodeRuneSlow_4 x)) (by kernel_rfl) s
theorem c_utf8_decodeRuneSlow_2 {K : Value → Hp → Prop} {h : Hp} {t0 t2 t3 t4 : Value} (s : s_utf8_decodeRuneSlow_2 K h t0 t2 t3 t4) : SV P Tryz.f175.ntmps (seqR (seqR (Tryz.f175.body.getD .skip))) (retP P Tryz.f175.results.toList K) (headOf [0, 2, 3, 4] [t0, t2, t3, t4]) h :=
  cut_at mixed (by kernel_rfl) [0, 2, 3, 4] (fun vs h => s_utf8_decodeRuneSlow_3 K h (vs.getD 0 undef) (vs.getD 1 undef) (vs.getD 2 undef) (vs.getD 3 undef)) (fun vs h _ x => Eq.mp (by kernel_rfl) (c_utf8_decodeRuneSlow_3 x)) (by kernel_rfl) s
theorem c_utf8_decodeRuneSlow_1 {K : Value → Hp → Prop} {h : Hp} {t0 t2 t3 : Value} (s : s_utf8_decodeRuneSlow_1 K h t0 t2 t3) : SV P Tryz.f175.ntmps (seqR (Tryz.f175.body.getD .skip)) (retP P Tryz.f175.results.toList K) (headOf [0, 2, 3] [t0, t2, t3]) h :=
  cut_at mixed (by kernel_rfl) [0, 2, 3, 4] (fun vs h => s_utf8_decodeRuneSlow_2 K h (vs.getD 0 undef) (vs.getD 1 undef) (vs.getD 2 undef) (vs.getD 3 undef)) (fun vs h _ x => Eq.mp (by kernel_rfl) (c_utf8_decodeRuneSlow_2 x)) (by kernel_rfl) s
theorem c_utf8_decodeRuneSlow_0 {K : Value → Hp → Prop} {h : Hp} {t0 : Value} (s : s_utf8_decodeRuneSlow K h t0) : SV P Tryz.f175.ntmps (Tryz.f175.body.getD .skip) (retP P Tryz.f175.results.toList K) (env0 [t0]) h :=
  cut_at mixed (by kernel_rfl) [0, 2, 3] (fun vs h => s_utf8_decodeRuneSlow_1 K h (vs.getD 0 undef) (vs.getD 1 undef) (vs.getD 2 undef)) (fun vs h _ x => Eq.mp (by kernel_rfl) (c_utf8_decodeRuneSlow_1 x)) (by kernel_rfl) s
theorem F_utf8_decodeRuneSlow {K : Value → Hp → Prop} {h : Hp} {t0 : Value} (s : s_utf8_decodeRuneSlow K h t0) : Cn P 175 #[t0] h K :=
  Cn_sv Tryz.func175 (by kernel_rfl) (args := [t0]) (c_utf8_decodeRuneSlow_0 s)
end Go.Proofs.YtolcmaipjpkidaaGreatDoor
set_option linter.unusedVariables false
set_option maxRecDepth 100000
namespace Go.Proofs.YtolcmaipjpkidaaGreatDoor
open Go Go.SL
/-- function 176: internal.strconv.ParseInt -/
def s_strconv_ParseInt_176 (K : Value → Hp → Prop) (h : Hp) (t0 t1 t2 : Value) : Prop := q P h (eqop .eql 9 (.tmp 12) (.const (Value.string ⟨#[]⟩)) t0 (Value.string ⟨#[]⟩)) fun t13 => cnd t13 (q P h (Instr.makeInterface 203 (Value.int .i64 2)) fun t14 => K (Value.tuple #[(Value.int .i64 0), t14]) h) (
let J6 : Value → Value → Hp → Prop := fun t0n6 t8 h => Cn P 188 #[t0n6, t1, t2] h fun t29 h => q P h (Instr.extract t29 0) fun t30 => q P h (Instr.extract t29 1) fun t31 => 
let J13 : Hp → Prop := fun h => 
let J18 : Value → Hp → Prop := fun t2n18 h => q P h (binOp .sub 3 t2n18 (Value.int .i64 1)) fun t43 => q P h (convert 3 149 t43) fun t44 => q P h (binOp .shl 106 (Value.int .u64 1) t44) fun t45 => 
let J22 : Value → Hp → Prop := fun t52 h => cnd t52 (q P h (binOp .sub 106 t45 (Value.int .u64 1)) fun t54 => q P h (convert 106 2 t54) fun t55 => q P h (Instr.makeInterface 203 (Value.int .i64 1)) fun t56 => K (Value.tuple #[t55, t56]) h) (
let J25 : Value → Hp → Prop := fun t62 h => cnd t62 (q P h (convert 106 2 t45) fun t64 => q P h (Op.unary .neg t64) fun t65 => q P h (Instr.makeInterface 203 (Value.int .i64 1)) fun t66 => K (Value.tuple #[t65, t66]) h) (q P h (convert 106 2 t30) fun t68 => cnd t8 (q P h (Op.unary .neg t68) fun t71 => K (Value.tuple #[t71, Value.nilIface]) h) (K (Value.tuple #[t68, Value.nilIface]) h));
gd t8 true (q P h (binOp .gtr 106 t30 t45) fun t61 => J25 t61 h) (J25 (Value.bool false) h));
q P h (Op.unary .not t8) fun t47 => gd t47 true (q P h (binOp .geq 106 t30 t45) fun t51 => J22 t51 h) (J22 (Value.bool false) h);
q P h (eqop .eql 3 (.tmp 40) (.const (Value.int .i64 0)) t2 (Value.int .i64 0)) fun t41 => cnd t41 (J18 (Value.int .i64 64) h) (J18 t2 h);
q P h (eqop .neq 174 (.tmp 32) (.const Value.nilIface) t31 Value.nilIface) fun t33 => gd t33 true (q P h (Instr.makeInterface 203 (Value.int .i64 1)) fun t36 => q P h (eqop .neq 174 (.tmp 35) (.tmp 36) t31 t36) fun t37 => cnd t37 (K (Value.tuple #[(Value.int .i64 0), t31]) h) (J13 h)) (cnd (Value.bool false) (K (Value.tuple #[(Value.int .i64 0), t31]) h) (J13 h));
q P h (Instr.index 9 t0 (Value.int .i64 0)) fun t16 => q P h (eqop .eql 5 (.tmp 16) (.const (Value.int .u8 43)) t16 (Value.int .u8 43)) fun t18 => cnd t18 (q P h (Instr.sliceAt 9 t0 (some (Value.int .i64 1)) none none) fun t20 => J6 t20 (Value.bool false) h) (q P h (eqop .eql 5 (.tmp 16) (.const (Value.int .u8 45)) t16 (Value.int .u8 45)) fun t22 => cnd t22 (q P h (Instr.sliceAt 9 t0 (some (Value.int .i64 1)) none none) fun t24 => J6 t24 (Value.bool true) h) (J6 t0 (Value.bool false) h)))
theorem F_strconv_ParseInt_176 {K : Value → Hp → Prop} {h : Hp} {t0 t1 t2 : Value} (s : s_strconv_ParseInt_176 K h t0 t1 t2) : Cn P 176 #[t0, t1, t2] h K :=
  Cn_ofs mixed Tryz.func176 (by kernel_rfl) (args := [t0, t1, t2]) (by kernel_rfl) s
/-- function 179: internal.strconv.log10Pow2 -/
def s_strconv_log10Pow2 (K : Value → Hp → Prop) (h : Hp) (t0 : Value) : Prop := q P h (binOp .mul 3 t0 (Value.int .i64 78913)) fun t4 => q P h (binOp .shr 3 t4 (Value.int .u64 18)) fun t5 => K t5 h
theorem F_strconv_log10Pow2 {K : Value → Hp → Prop} {h : Hp} {t0 : Value} (s : s_strconv_log10Pow2 K h t0) : Cn P 179 #[t0] h K :=
  Cn_ofs mixed Tryz.func179 (by kernel_rfl) (args := [t0]) (by kernel_rfl) s
/-- function 180: math.bits.Len64 -/
def s_bits_Len64 (K : Value → Hp → Prop) (h : Hp) (t0 : Value) : Prop := 
let J2 : Value → Value → Hp → Prop := fun t0 t2 h => 
let J5 : Value → Value → Hp → Prop := fun t0 t2 h => 
let J8 : Value → Value → Hp → Prop := fun t0 t2 h => q P h (convert 106 5 t0) fun t21 => q P h (Instr.index 9 (Value.string tx_97c9fe) t21) fun t22 => q P h (convert 5 3 t22) fun t23 => q P h (binOp .add 3 t2 t23) fun t24 => K t24 h;
q P h (binOp .geq 106 t0 (Value.int .u64 256)) fun t14 => cnd t14 (q P h (binOp .shr 106 t0 (Value.int .u64 8)) fun t16 => q P h (binOp .add 3 t2 (Value.int .i64 8)) fun t18 => J8 t16 t18 h) (J8 t0 t2 h);
q P h (binOp .geq 106 t0 (Value.int .u64 65536)) fun t8 => cnd t8 (q P h (binOp .shr 106 t0 (Value.int .u64 16)) fun t10 => q P h (binOp .add 3 t2 (Value.int .i64 16)) fun t12 => J5 t10 t12 h) (J5 t0 t2 h);
q P h (binOp .geq 106 t0 (Value.int .u64 4294967296)) fun t4 => cnd t4 (q P h (binOp .shr 106 t0 (Value.int .u64 32)) fun t6 => J2 t6 (Value.int .i64 32) h) (J2 t0 (Value.int .i64 0) h)
theorem F_bits_Len64 {K : Value → Hp → Prop} {h : Hp} {t0 : Value} (s : s_bits_Len64 K h t0) : Cn P 180 #[t0] h K :=
  Cn_ofs mixed Tryz.func180 (by kernel_rfl) (args := [t0]) (by kernel_rfl) s
/-- function 181: internal.strconv.bool2[int] -/
def s_strconv_bool2_int (K : Value → Hp → Prop) (h : Hp) (t0 : Value) : Prop := cnd t0 (K (Value.int .i64 1) h) (K (Value.int .i64 0) h)
theorem F_strconv_bool2_int {K : Value → Hp → Prop} {h : Hp} {t0 : Value} (s : s_strconv_bool2_int K h t0) : Cn P 181 #[t0] h K :=
  Cn_ofs mixed Tryz.func181 (by kernel_rfl) (args := [t0]) (by kernel_rfl) s
/-- function 187: strings.ToLower -/
def s_strings_ToLower (K : Value → Hp → Prop) (h : Hp) (t0 : Value) : Prop := 
let J3 : Value → Value → Hp → Prop := fun t3 t4 h => cnd t3 (q P h (Op.unary .not t4) fun t33 => cnd t33 (K t0 h) (aw P (Instr.alloc 171 true (.tuple #[])) (fun t7 h => q P h (Builtin.len_ #[9] 3 #[t0]) fun t36 => Cn P 146 #[t7, t36] h fun t37 h => 
Lp [(Value.int .i64 0), (Value.int .i64 0)] h fun nx23 vs23 h =>
q P h (Builtin.len_ #[9] 3 #[t0]) fun t40 => q P h (binOp .lss 3 (vs23.getD 1 undef) t40) fun t41 => cnd t41 (q P h (Instr.index 9 t0 (vs23.getD 1 undef)) fun t46 => 
let J28 : Value → Hp → Prop := fun t52 h => cnd t52 (q P h (binOp .add 5 t46 (Value.int .u8 32)) fun t54 => q P h (binOp .lss 3 (vs23.getD 0 undef) (vs23.getD 1 undef)) fun t57 => cnd t57 (q P h (Instr.sliceAt 9 t0 (some (vs23.getD 0 undef)) (some (vs23.getD 1 undef)) none) fun t61 => Cn P 147 #[t7, t61] h fun t62 h => Cn P 195 #[t7, t54] h fun t64 h => q P h (binOp .add 3 (vs23.getD 1 undef) (Value.int .i64 1)) fun t66 => q P h (binOp .add 3 (vs23.getD 1 undef) (Value.int .i64 1)) fun t43 => nx23 [t66, t43] h) (Cn P 195 #[t7, t54] h fun t64 h => q P h (binOp .add 3 (vs23.getD 1 undef) (Value.int .i64 1)) fun t66 => q P h (binOp .add 3 (vs23.getD 1 undef) (Value.int .i64 1)) fun t43 => nx23 [t66, t43] h)) (q P h (binOp .add 3 (vs23.getD 1 undef) (Value.int .i64 1)) fun t43 => nx23 [(vs23.getD 0 undef), t43] h);
q P h (binOp .leq 5 (Value.int .u8 65) t46) fun t48 => gd t48 true (q P h (binOp .leq 5 t46 (Value.int .u8 90)) fun t51 => J28 t51 h) (J28 (Value.bool false) h)) (q P h (Builtin.len_ #[9] 3 #[t0]) fun t69 => q P h (binOp .lss 3 (vs23.getD 0 undef) t69) fun t70 => cnd t70 (q P h (Instr.sliceAt 9 t0 (some (vs23.getD 0 undef)) none none) fun t73 => Cn P 147 #[t7, t73] h fun t74 h => Cn P 148 #[t7] h fun t75 h => K t75 h) (Cn P 148 #[t7] h fun t75 h => K t75 h))) h)) (Cn P 196 #[(Value.func (.func 197) #[] #[]), t0] h fun t77 h => K t77 h);

Lp [(Value.bool true), (Value.bool false), (Value.int .i64 0)] h fun nx5 vs5 h =>
q P h (Builtin.len_ #[9] 3 #[t0]) fun t13 => q P h (binOp .lss 3 (vs5.getD 2 undef) t13) fun t14 => cnd t14 (q P h (Instr.index 9 t0 (vs5.getD 2 undef)) fun t19 => q P h (binOp .geq 5 t19 (Value.int .u8 128)) fun t21 => cnd t21 (J3 (Value.bool false) (vs5.getD 1 undef) h) (gd (vs5.getD 1 undef) false (q P h (binOp .leq 5 (Value.int .u8 65) t19) fun t25 => gd t25 true (q P h (binOp .leq 5 t19 (Value.int .u8 90)) fun t28 => q P h (binOp .add 3 (vs5.getD 2 undef) (Value.int .i64 1)) fun t16 => nx5 [(vs5.getD 0 undef), t28, t16] h) (q P h (binOp .add 3 (vs5.getD 2 undef) (Value.int .i64 1)) fun t16 => nx5 [(vs5.getD 0 undef), (Value.bool false), t16] h)) (q P h (binOp .add 3 (vs5.getD 2 undef) (Value.int .i64 1)) fun t16 => nx5 [(vs5.getD 0 undef), (Value.bool true), t16] h))) (J3 (vs5.getD 0 undef) (vs5.getD 1 undef) h)
theorem F_strings_ToLower {K : Value → Hp → Prop} {h : Hp} {t0 : Value} (s : s_strings_ToLower K h t0) : Cn P 187 #[t0] h K :=
  Cn_ofs mixed Tryz.func187 (by kernel_rfl) (args := [t0]) (by kernel_rfl) s
end Go.Proofs.YtolcmaipjpkidaaGreatDoor
set_option linter.unusedVariables false
set_option maxRecDepth 100000
namespace Go.Proofs.YtolcmaipjpkidaaGreatDoor
open Go Go.SL
/-- function 188: internal.strconv.ParseUint -/
def s_strconv_ParseUint_14 (K : Value → Hp → Prop) (h : Hp) (t6 t7 : Value) : Prop := K (Value.tuple #[t6, t7]) h
def s_strconv_ParseUint_13 (K : Value → Hp → Prop) (h : Hp) (t6 t7 t13 : Value) : Prop := s_strconv_ParseUint_14 K h t13 (Value.nilIface)
def s_strconv_ParseUint_12 (K : Value → Hp → Prop) (h : Hp) (t6 t7 t9 t12 t13 : Value) : Prop := gd t12 true (Cn P 199 #[t9] h fun t167 h => q P h (Op.unary .not t167) fun t168 => cnd t168 (q P h (Instr.makeInterface 203 (Value.int .i64 2)) fun t170 => K (Value.tuple #[(Value.int .u64 0), t170]) h) (s_strconv_ParseUint_13 K h t6 t7 t13)) (cnd (Value.bool false) (q P h (Instr.makeInterface 203 (Value.int .i64 2)) fun t170 => K (Value.tuple #[(Value.int .u64 0), t170]) h) (s_strconv_ParseUint_13 K h t6 t7 t13))
def s_strconv_ParseUint_11 (K : Value → Hp → Prop) (h : Hp) (t0 t1 t6 t7 t8 t9 t10 t11 t12 t13 : Value) : Prop := aw P (convert 9 22 t0) (fun t99 h => q P h (Builtin.len_ #[22] 3 #[t99]) fun t100 => 
Lp [t12, t6, t7, t13, (Value.int .i64 0)] h fun nx24 vs24 h =>
q P h (binOp .lss 3 (vs24.getD 4 undef) t100) fun t102 => cnd t102 (q P h (Instr.indexAt 22 t99 (vs24.getD 4 undef)) fun t103 => q P h (Instr.loadAt 5 t103) fun t104 => 
let J30 : Value → Value → Value → Value → Hp → Prop := fun t6 t7 t12 t16 h => q P h (convert 3 5 t1) fun t136 => q P h (binOp .geq 5 t16 t136) fun t137 => cnd t137 (q P h (Instr.makeInterface 203 (Value.int .i64 2)) fun t138 => K (Value.tuple #[(Value.int .u64 0), t138]) h) (q P h (binOp .geq 106 (vs24.getD 3 undef) t10) fun t141 => cnd t141 (q P h (Instr.makeInterface 203 (Value.int .i64 1)) fun t143 => K (Value.tuple #[t11, t143]) h) (q P h (convert 3 106 t1) fun t146 => q P h (binOp .mul 106 (vs24.getD 3 undef) t146) fun t147 => q P h (convert 5 106 t16) fun t150 => q P h (binOp .add 106 t147 t150) fun t151 => q P h (binOp .lss 106 t151 t147) fun t154 => gd t154 false (q P h (binOp .gtr 106 t151 t11) fun t158 => cnd t158 (q P h (Instr.makeInterface 203 (Value.int .i64 1)) fun t161 => K (Value.tuple #[t11, t161]) h) (q P h (binOp .add 3 (vs24.getD 4 undef) (Value.int .i64 1)) fun t163 => nx24 [t12, t6, t7, t151, t163] h)) (cnd (Value.bool true) (q P h (Instr.makeInterface 203 (Value.int .i64 1)) fun t161 => K (Value.tuple #[t11, t161]) h) (q P h (binOp .add 3 (vs24.getD 4 undef) (Value.int .i64 1)) fun t163 => nx24 [t12, t6, t7, t151, t163] h))));

let J31 : Value → Hp → Prop := fun t106 h => cnd t106 (q P h (binOp .add 3 (vs24.getD 4 undef) (Value.int .i64 1)) fun t163 => nx24 [(Value.bool true), (vs24.getD 1 undef), (vs24.getD 2 undef), (vs24.getD 3 undef), t163] h) (
let J33 : Value → Hp → Prop := fun t112 h => cnd t112 (q P h (binOp .sub 5 t104 (Value.int .u8 48)) fun t120 => J30 (vs24.getD 1 undef) (vs24.getD 2 undef) (vs24.getD 0 undef) t120 h) (
let J34 : Value → Hp → Prop := fun t121 h => cnd t121 (Cn P 198 #[t104] h fun t131 h => q P h (binOp .sub 5 t131 (Value.int .u8 97)) fun t132 => q P h (binOp .add 5 t132 (Value.int .u8 10)) fun t133 => J30 (vs24.getD 1 undef) (vs24.getD 2 undef) (vs24.getD 0 undef) t133 h) (q P h (Instr.makeInterface 203 (Value.int .i64 2)) fun t105 => K (Value.tuple #[(Value.int .u64 0), t105]) h);
Cn P 198 #[t104] h fun t123 h => q P h (binOp .leq 5 (Value.int .u8 97) t123) fun t124 => gd t124 true (Cn P 198 #[t104] h fun t127 h => q P h (binOp .leq 5 t127 (Value.int .u8 122)) fun t128 => J34 t128 h) (J34 (Value.bool false) h));
q P h (binOp .leq 5 (Value.int .u8 48) t104) fun t114 => gd t114 true (q P h (binOp .leq 5 t104 (Value.int .u8 57)) fun t117 => J33 t117 h) (J33 (Value.bool false) h));
q P h (eqop .eql 5 (.tmp 107) (.const (Value.int .u8 95)) t104 (Value.int .u8 95)) fun t108 => gd t108 true (J31 t8 h) (J31 (Value.bool false) h)) (s_strconv_ParseUint_12 K h (vs24.getD 1 undef) (vs24.getD 2 undef) t9 (vs24.getD 0 undef) (vs24.getD 3 undef))) h
def s_strconv_ParseUint_10 (K : Value → Hp → Prop) (h : Hp) (t0 t1 t6 t7 t8 t9 t10 t11 t12 : Value) : Prop := s_strconv_ParseUint_11 K h t0 t1 t6 t7 t8 t9 t10 t11 t12 (Value.int .u64 0)
def s_strconv_ParseUint_9 (K : Value → Hp → Prop) (h : Hp) (t0 t1 t6 t7 t8 t9 t10 t11 : Value) : Prop := s_strconv_ParseUint_10 K h t0 t1 t6 t7 t8 t9 t10 t11 (Value.bool false)
def s_strconv_ParseUint_8 (K : Value → Hp → Prop) (h : Hp) (t0 t1 t2 t6 t7 t8 t9 t10 : Value) : Prop := q P h (convert 3 149 t2) fun t95 => q P h (binOp .shl 106 (Value.int .u64 1) t95) fun t96 => q P h (binOp .sub 106 t96 (Value.int .u64 1)) fun t97 => s_strconv_ParseUint_9 K h t0 t1 t6 t7 t8 t9 t10 t97
def s_strconv_ParseUint_7 (K : Value → Hp → Prop) (h : Hp) (t0 t1 t2 t6 t7 t8 t9 t10 : Value) : Prop := q P h (eqop .eql 3 (.tmp 85) (.const (Value.int .i64 10)) t1 (Value.int .i64 10)) fun t91 => cnd t91 (s_strconv_ParseUint_8 K h t0 t1 t2 t6 t7 t8 t9 (Value.int .u64 1844674407370955162)) (q P h (eqop .eql 3 (.tmp 85) (.const (Value.int .i64 16)) t1 (Value.int .i64 16)) fun t93 => cnd t93 (s_strconv_ParseUint_8 K h t0 t1 t2 t6 t7 t8 t9 (Value.int .u64 1152921504606846976)) (q P h (convert 3 106 t1) fun t87 => q P h (binOp .quo 106 (Value.int .u64 18446744073709551615) t87) fun t88 => q P h (binOp .add 106 t88 (Value.int .u64 1)) fun t89 => s_strconv_ParseUint_8 K h t0 t1 t2 t6 t7 t8 t9 t89))
def s_strconv_ParseUint_6 (K : Value → Hp → Prop) (h : Hp) (t0 t1 t2 t6 t7 t8 t9 : Value) : Prop := s_strconv_ParseUint_7 K h t0 t1 t2 t6 t7 t8 t9 (Value.int .u64 0)
def s_strconv_ParseUint_5 (K : Value → Hp → Prop) (h : Hp) (t0 t1 t2 t6 t7 t8 t9 : Value) : Prop := q P h (eqop .eql 3 (.tmp 76) (.const (Value.int .i64 0)) t2 (Value.int .i64 0)) fun t77 => cnd t77 (s_strconv_ParseUint_6 K h t0 t1 (Value.int .i64 64) t6 t7 t8 t9) (q P h (binOp .lss 3 t2 (Value.int .i64 0)) fun t79 => gd t79 false (q P h (binOp .gtr 3 t2 (Value.int .i64 64)) fun t82 => cnd t82 (q P h (Instr.makeInterface 203 (Value.int .i64 4)) fun t84 => K (Value.tuple #[(Value.int .u64 0), t84]) h) (s_strconv_ParseUint_6 K h t0 t1 t2 t6 t7 t8 t9)) (cnd (Value.bool true) (q P h (Instr.makeInterface 203 (Value.int .i64 4)) fun t84 => K (Value.tuple #[(Value.int .u64 0), t84]) h) (s_strconv_ParseUint_6 K h t0 t1 t2 t6 t7 t8 t9)))
def s_strconv_ParseUint_4 (K : Value → Hp → Prop) (h : Hp) (t0 t1 t2 t6 t7 t8 t9 : Value) : Prop := 
let J3 : Value → Hp → Prop := fun t25 h => cnd t25 (s_strconv_ParseUint_5 K h t0 t1 t2 t6 t7 t8 t9) (q P h (eqop .eql 3 (.tmp 33) (.const (Value.int .i64 0)) t1 (Value.int .i64 0)) fun t34 => cnd t34 (q P h (Instr.index 9 t0 (Value.int .i64 0)) fun t36 => q P h (eqop .eql 5 (.tmp 36) (.const (Value.int .u8 48)) t36 (Value.int .u8 48)) fun t37 => cnd t37 (
let J7 : Value → Hp → Prop := fun t40 h => cnd t40 (q P h (Instr.sliceAt 9 t0 (some (Value.int .i64 2)) none none) fun t51 => s_strconv_ParseUint_5 K h t51 (Value.int .i64 2) t2 t6 t7 t8 t9) (
let J9 : Value → Hp → Prop := fun t52 h => cnd t52 (q P h (Instr.sliceAt 9 t0 (some (Value.int .i64 2)) none none) fun t63 => s_strconv_ParseUint_5 K h t63 (Value.int .i64 8) t2 t6 t7 t8 t9) (
let J11 : Value → Hp → Prop := fun t64 h => cnd t64 (q P h (Instr.sliceAt 9 t0 (some (Value.int .i64 2)) none none) fun t75 => s_strconv_ParseUint_5 K h t75 (Value.int .i64 16) t2 t6 t7 t8 t9) (q P h (Instr.sliceAt 9 t0 (some (Value.int .i64 1)) none none) fun t39 => s_strconv_ParseUint_5 K h t39 (Value.int .i64 8) t2 t6 t7 t8 t9);
q P h (Builtin.len_ #[9] 3 #[t0]) fun t66 => q P h (binOp .geq 3 t66 (Value.int .i64 3)) fun t67 => gd t67 true (q P h (Instr.index 9 t0 (Value.int .i64 1)) fun t70 => Cn P 198 #[t70] h fun t71 h => q P h (eqop .eql 5 (.tmp 71) (.const (Value.int .u8 120)) t71 (Value.int .u8 120)) fun t72 => J11 t72 h) (J11 (Value.bool false) h));
q P h (Builtin.len_ #[9] 3 #[t0]) fun t54 => q P h (binOp .geq 3 t54 (Value.int .i64 3)) fun t55 => gd t55 true (q P h (Instr.index 9 t0 (Value.int .i64 1)) fun t58 => Cn P 198 #[t58] h fun t59 h => q P h (eqop .eql 5 (.tmp 59) (.const (Value.int .u8 111)) t59 (Value.int .u8 111)) fun t60 => J9 t60 h) (J9 (Value.bool false) h));
q P h (Builtin.len_ #[9] 3 #[t0]) fun t42 => q P h (binOp .geq 3 t42 (Value.int .i64 3)) fun t43 => gd t43 true (q P h (Instr.index 9 t0 (Value.int .i64 1)) fun t46 => Cn P 198 #[t46] h fun t47 h => q P h (eqop .eql 5 (.tmp 47) (.const (Value.int .u8 98)) t47 (Value.int .u8 98)) fun t48 => J7 t48 h) (J7 (Value.bool false) h)) (s_strconv_ParseUint_5 K h t0 (Value.int .i64 10) t2 t6 t7 t8 t9)) (q P h (Instr.makeInterface 203 (Value.int .i64 3)) fun t24 => K (Value.tuple #[(Value.int .u64 0), t24]) h));
q P h (binOp .leq 3 (Value.int .i64 2) t1) fun t27 => gd t27 true (q P h (binOp .leq 3 t1 (Value.int .i64 36)) fun t30 => J3 t30 h) (J3 (Value.bool false) h)
def s_strconv_ParseUint_3 (K : Value → Hp → Prop) (h : Hp) (t0 t1 t2 t6 t7 t8 : Value) : Prop := s_strconv_ParseUint_4 K h t0 t1 t2 t6 t7 t8 t0
def s_strconv_ParseUint_2 (K : Value → Hp → Prop) (h : Hp) (t0 t1 t2 t6 t7 : Value) : Prop := q P h (eqop .eql 3 (.tmp 21) (.const (Value.int .i64 0)) t1 (Value.int .i64 0)) fun t22 => s_strconv_ParseUint_3 K h t0 t1 t2 t6 t7 t22
def s_strconv_ParseUint_1 (K : Value → Hp → Prop) (h : Hp) (t0 t1 t2 t6 t7 : Value) : Prop := q P h (eqop .eql 9 (.tmp 18) (.const (Value.string ⟨#[]⟩)) t0 (Value.string ⟨#[]⟩)) fun t19 => cnd t19 (q P h (Instr.makeInterface 203 (Value.int .i64 2)) fun t20 => K (Value.tuple #[(Value.int .u64 0), t20]) h) (s_strconv_ParseUint_2 K h t0 t1 t2 t6 t7)
def s_strconv_ParseUint (K : Value → Hp → Prop) (h : Hp) (t0 t1 t2 : Value) : Prop := s_strconv_ParseUint_1 K h t0 t1 t2 (Value.int .u64 0) (Value.nilIface)
theorem c_strconv_ParseUint_14 {K : Value → Hp → Prop} {h : Hp} {t6 t7 : Value} (s : s_strconv_ParseUint_14 K h t6 t7) : SV P Tryz.f188.ntmps (seqR (seqR (seqR (seqR (seqR (seqR (seqR (seqR (seqR (seqR (seqR (seqR (seqR (seqR (Tryz.f188.body.getD .skip))))))))))))))) (retP P Tryz.f188.results.toList K) (headOf [6, 7] [t6, t7]) h :=
  SV_of mixed (by kernel_rfl) s
theorem c_strconv_ParseUint_13 {K : Value → Hp → Prop} {h : Hp} {t6 t7 t13 : Value} (s : s_strconv_ParseUint_13 K h t6 t7 t13) : SV P Tryz.f188.ntmps (seqR (seqR (seqR (seqR (seqR (seqR (seqR (seqR (seqR (seqR (seqR (seqR (seqR (Tryz.f188.body.getD .skip)))))))))))))) (retP P Tryz.f188.results.toList K) (headOf [6, 7, 13] [t6, t7, t13]) h :=
  cut_at mixed (by kernel_rfl) [6, 7] (fun vs h => s_strconv_ParseUint_14 K h (vs.getD 0 undef) (vs.getD 1 undef)) (fun vs h _ x => Eq.mp (by kernel_rfl) (c_strconv_ParseUint_14 x)) (by kernel_rfl) s
theorem c_strconv_ParseUint_12 {K : Value → Hp → Prop} {h : Hp} {t6 t7 t9 t12 t13 : Value} (s : s_strconv_ParseUint_12 K h t6 t7 t9 t12 t13) : SV P Tryz.f188.ntmps (seqR (seqR (seqR (seqR (seqR (seqR (seqR (seqR (seqR (seqR (seqR (seqR (Tryz.f188.body.getD .skip))))))))))))) (retP P Tryz.f188.results.toList K) (headOf [6, 7, 9, 12, 13] [t6, t7, t9, t12, t13]) h :=
  cut_at mixed (by kernel_rfl) [6, 7, 13] (fun vs h => s_strconv_ParseUint_13 K h (vs.getD 0 undef) (vs.getD 1 undef) (vs.getD 2 undef)) (fun vs h _ x => Eq.mp (by kernel_rfl) (c_strconv_ParseUint_13 x)) (by kernel_rfl) s
theorem c_strconv_ParseUint_11 {K : Value → Hp → Prop} {h : Hp} {t0 t1 t6 t7 t8 t9 t10 t11 t12 t13 : Value} (s : s_strconv_ParseUint_11 K h t0 t1 t6 t7 t8 t9 t10 t11 t12 t13) : SV P Tryz.f188.ntmps (seqR (seqR (seqR (seqR (seqR (seqR (seqR (seqR (seqR (seqR (seqR (Tryz.f188.body.getD .skip)))))))))))) (retP P Tryz.f188.results.toList K) (headOf [0, 1, 6, 7, 8, 9, 10, 11, 12, 13] [t0, t1, t6, t7, t8, t9, t10, t11, t12, t13]) h :=
  cut_at mixed (by kernel_rfl) [6, 7, 9, 12, 13] (fun vs h => s_strconv_ParseUint_12 K h (vs.getD 0 undef) (vs.getD 1 undef) (vs.getD 2 undef) (vs.getD 3 undef) (vs.getD 4 undef)) (fun vs h _ x => Eq.mp (by kernel_rfl) (c_strconv_ParseUint_12 x)) (by kernel_rfl) s
theorem c_strconv_ParseUint_10 {K : Value → Hp → Prop} {h : Hp} {t0 t1 t6 t7 t8 t9 t10 t11 t12 : Value} (s : s_strconv_ParseUint_10 K h t0 t1 t6 t7 t8 t9 t10 t11 t12) : SV P Tryz.f188.ntmps (seqR (seqR (seqR (seqR (seqR (seqR (seqR (seqR (seqR (seqR (Tryz.f188.body.getD .skip))))))))))) (retP P Tryz.f188.results.toList K) (headOf [0, 1, 6, 7, 8, 9, 10, 11, 12] [t0, t1, t6, t7, t8, t9, t10, t11, t12]) h :=
  cut_at mixed (by kernel_rfl) [0, 1, 6, 7, 8, 9, 10, 11, 12, 13] (fun vs h => s_strconv_ParseUint_11 K h (vs.getD 0 undef) (vs.getD 1 undef) (vs.getD 2 undef) (vs.getD 3 undef) (vs.getD 4 undef) (vs.getD 5 undef) (vs.getD 6 undef) (vs.getD 7 undef) (vs.getD 8 undef) (vs.getD 9 undef)) (fun vs h _ x => Eq.mp (by kernel_rfl) (c_strconv_ParseUint_11 x)) (by kernel_rfl) s
theorem c_strconv_ParseUint_9 {K : Value → Hp → Prop} {h : Hp} {t0 t1 t6 t7 t8 t9 t10 t11 : Value} (s : s_strconv_ParseUint_9 K h t0 t1 t6 t7 t8 t9 t10 t11) : SV P Tryz.f188.ntmps (seqR (seqR (seqR (seqR (seqR (seqR (seqR (seqR (seqR (Tryz.f188.body.getD .skip)))))))))) (retP P Tryz.f188.results.toList K) (headOf [0, 1, 6, 7, 8, 9, 10, 11] [t0, t1, t6, t7, t8, t9, t10, t11]) h :=
  cut_at mixed (by kernel_rfl) [0, 1, 6, 7, 8, 9, 10, 11, 12] (fun vs h => s_strconv_ParseUint_10 K h (vs.getD 0 undef) (vs.getD 1 undef) (vs.getD 2 undef) (vs.getD 3 undef) (vs.getD 4 undef) (vs.getD 5 undef) (vs.getD 6 undef) (vs.getD 7 undef) (vs.getD 8 undef)) (fun vs h _ x => Eq.mp (by kernel_rfl) (c_strconv_ParseUint_10 x)) (by kernel_rfl) s
theorem c_strconv_ParseUint_8 {K : Value → Hp → Prop} {h : Hp} {t0 t1 t2 t6 t7 t8 t9 t10 : Value} (s : s_strconv_ParseUint_8 K h t0 t1 t2 t6 t7 t8 t9 t10) : SV P Tryz.f188.ntmps (seqR (seqR (seqR (seqR (seqR (seqR (seqR (seqR (Tryz.f188.body.getD .skip))))))))) (retP P Tryz.f188.results.toList K) (headOf [0, 1, 2, 6, 7, 8, 9, 10] [t0, t1, t2, t6, t7, t8, t9, t10]) h :=
  cut_at mixed (by kernel_rfl) [0, 1, 6, 7, 8, 9, 10, 11] (fun vs h => s_strconv_ParseUint_9 K h (vs.getD 0 undef) (vs.getD 1 undef) (vs.getD 2 undef) (vs.getD 3 undef) (vs.getD 4 undef) (vs.getD 5 undef) (vs.getD 6 undef) (vs.getD 7 undef)) (fun vs h _ x => Eq.mp (by kernel_rfl) (c_strconv_ParseUint_9 x)) (by kernel_rfl) s
theorem c_strconv_ParseUint_7 {K : Value → Hp → Prop} {h : Hp} {t0 t1 t2 t6 t7 t8 t9 t10 : Value} (s : s_strconv_ParseUint_7 K h t0 t1 t2 t6 t7 t8 t9 t10) : SV P Tryz.f188.ntmps (seqR (seqR (seqR (seqR (seqR (seqR (seqR (Tryz.f188.body.getD .skip)))))))) (retP P Tryz.f188.results.toList K) (headOf [0, 1, 2, 6, 7, 8, 9, 10] [t0, t1, t2, t6, t7, t8, t9, t10]) h :=
  cut_at mixed (by kernel_rfl) [0, 1, 2, 6, 7, 8, 9, 10] (fun vs h => s_strconv_ParseUint_8 K h (vs.getD 0 undef) (vs.getD 1 undef) (vs.getD 2 undef) (vs.getD 3 undef) (vs.getD 4 undef) (vs.getD 5 undef) (vs.getD 6 undef) (vs.getD 7 undef)) (fun vs h _ x => Eq.mp (by kernel_rfl) (c_strconv_ParseUint_8 x)) (by kernel_rfl) s
theorem c_strconv_ParseUint_6 {K : Value → Hp → Prop} {h : Hp} {t0 t1 t2 t6 t7 t8 t9 : Value} (s : s_strconv_ParseUint_6 K h t0 t1 t2 t6 t7 t8 t9) : SV P Tryz.f188.ntmps (seqR (seqR (seqR (seqR (seqR (seqR (Tryz.f188.body.getD .skip))))))) (retP P Tryz.f188.results.toList K) (headOf [0, 1, 2, 6, 7, 8, 9] [t0, t1, t2, t6, t7, t8, t9]) h :=
  cut_at mixed (by kernel_rfl) [0, 1, 2, 6, 7, 8, 9, 10] (fun vs h => s_strconv_ParseUint_7 K h (vs.getD 0 undef) (vs.getD 1 undef) (vs.getD 2 undef) (vs.getD 3 undef) (vs.getD 4 undef) (vs.getD 5 undef) (vs.getD 6 undef) (vs.getD 7 undef)) (fun vs h _ x => Eq.mp (by kernel_rfl) (c_strconv_ParseUint_7 x)) (by kernel_rfl) s
theorem c_strconv_ParseUint_5 {K : Value → Hp → Prop} {h : Hp} {t0 t1 t2 t6 t7 t8 t9 : Value} (s : s_strconv_ParseUint_5 K h t0 t1 t2 t6 t7 t8 t9) : SV P Tryz.f188.ntmps (seqR (seqR (seqR (seqR (seqR (Tryz.f188.body.getD .skip)))))) (retP P Tryz.f188.results.toList K) (headOf [0, 1, 2, 6, 7, 8, 9] [t0, t1, t2, t6, t7, t8, t9]) h :=
  cut_at mixed (by kernel_rfl) [0, 1, 2, 6, 7, 8, 9] (fun vs h => s_strconv_ParseUint_6 K h (vs.getD 0 undef) (vs.getD 1 undef) (vs.getD 2 undef) (vs.getD 3 undef) (vs.getD 4 undef) (vs.getD 5 undef) (vs.getD 6 undef)) (fun vs h _ x => Eq.mp (by kernel_rfl) (c_strconv_ParseUint_6 x)) (by kernel_rfl) s
theorem c_strconv_ParseUint_4 {K : Value → Hp → Prop} {h : Hp} {t0 t1 t2 t6 t7 t8 t9 : Value} (s : s_strconv_ParseUint_4 K h t0 t1 t2 t6 t7 t8 t9) : SV P Tryz.f188.ntmps (seqR (seqR (seqR (seqR (Tryz.f188.body.getD .skip))))) (retP P Tryz.f188.results.toList K) (headOf [0, 1, 2, 6, 7, 8, 9] [t0, t1, t2, t6, t7, t8, t9]) h :=
  cut_at mixed (by kernel_rfl) [0, 1, 2, 6, 7, 8, 9] (fun vs h => s_strconv_ParseUint_5 K h (vs.getD 0 undef) (vs.getD 1 undef) (vs.getD 2 undef) (vs.getD 3 undef) (vs.getD 4 undef) (vs.getD 5 undef) (vs.getD 6 undef)) (fun vs h _ x => Eq.mp (by kernel_rfl) (c_strconv_ParseUint_5 x)) (by kernel_rfl) s
theorem c_strconv_ParseUint_3 {K : Value → Hp → Prop} {h : Hp} {t0 t1 t2 t6 t7 t8 : Value} (s : s_strconv_ParseUint_3 K h t0 t1 t2 t6 t7 t8) : SV P Tryz.f188.ntmps (seqR (seqR (seqR (Tryz.f188.body.getD .skip)))) (retP P Tryz.f188.results.toList K) (headOf [0, 1, 2, 6, 7, 8] [t0, t1, t2, t6, t7, t8]) h :=
  cut_at mixed (by kernel_rfl) [0, 1, 2, 6, 7, 8, 9] (fun vs h => s_strconv_ParseUint_4 K h (vs.getD 0 undef) (vs.getD 1 undef) (vs.getD 2 undef) (vs.getD 3 undef) (vs.getD 4 undef) (vs.getD 5 undef) (vs.getD 6 undef)) (fun vs h _ x => Eq.mp (by kernel_rfl) (c_strconv_ParseUint_4 x)) (by kernel_rfl) s
theorem c_strconv_ParseUint_2 {K : Value → Hp → Prop} {h : Hp} {t0 t1 t2 t6 t7 : Value} (s : s_strconv_ParseUint_2 K h t0 t1 t2 t6 t7) : SV P Tryz.f188.ntmps (seqR (seqR (Tryz.f188.body.getD .skip))) (retP P Tryz.f188.results.toList K) (headOf [0, 1, 2, 6, 7] [t0, t1, t2, t6, t7]) h :=
  cut_at mixed (by kernel_rfl) [0, 1, 2, 6, 7, 8] (fun vs h => s_strconv_ParseUint_3 K h (vs.getD 0 undef) (vs.getD 1 undef) (vs.getD 2 undef) (vs.getD 3 undef) (vs.getD 4 undef) (vs.getD 5 undef)) (fun vs h _ x => Eq.mp (by kernel_rfl) (c_strconv_ParseUint_3 x)) (by kernel_rfl) s
theorem c_strconv_ParseUint_1 {K : Value → Hp → Prop} {h : Hp} {t0 t1 t2 t6 t7 : Value} (s : s_strconv_ParseUint_1 K h t0 t1 t2 t6 t7) : SV P Tryz.f188.ntmps (seqR (Tryz.f188.body.getD .skip)) (retP P Tryz.f188.results.toList K) (headOf [0, 1, 2, 6, 7] [t0, t1, t2, t6, t7]) h :=
  cut_at mixed (by kernel_rfl) [0, 1, 2, 6, 7] (fun vs h => s_strconv_ParseUint_2 K h (vs.getD 0 undef) (vs.getD 1 undef) (vs.getD 2 undef) (vs.getD 3 undef) (vs.getD 4 undef)) (fun vs h _ x => Eq.mp (by kernel_rfl) (c_strconv_ParseUint_2 x)) (by kernel_rfl) s
theorem c_strconv_ParseUint_0 {K : Value → Hp → Prop} {h : Hp} {t0 t1 t2 : Value} (s : s_strconv_ParseUint K h t0 t1 t2) : SV P Tryz.f188.ntmps (Tryz.f188.body.getD .skip) (retP P Tryz.f188.results.toList K) (env0 [t0, t1, t2]) h :=
  cut_at mixed (by kernel_rfl) [0, 1, 2, 6, 7] (fun vs h => s_strconv_ParseUint_1 K h (vs.getD 0 undef) (vs.getD 1 undef) (vs.getD 2 undef) (vs.getD 3 undef) (vs.getD 4 undef)) (fun vs h _ x => Eq.mp (by kernel_rfl) (c_strconv_ParseUint_1 x)) (by kernel_rfl) s
theorem F_strconv_ParseUint {K : Value → Hp → Prop} {h : Hp} {t0 t1 t2 : Value} (s : s_strconv_ParseUint K h t0 t1 t2) : Cn P 188 #[t0, t1, t2] h K :=
  Cn_sv Tryz.func188 (by kernel_rfl) (args := [t0, t1, t2]) (c_strconv_ParseUint_0 s)
end Go.Proofs.YtolcmaipjpkidaaGreatDoor
set_option linter.unusedVariables false
set_option maxRecDepth 100000
namespace Go.Proofs.YtolcmaipjpkidaaGreatDoor
open Go Go.SL
/-- function 195: (*strings.Builder).WriteByte -/
def s_strings_Builder_WriteByte (K : Value → Hp → Prop) (h : Hp) (t0 t1 : Value) : Prop := Cn P 168 #[t0] h fun t6 h => q P h (nilCk t0) fun t9 => q P h (Instr.fieldAt 171 t9 1) fun t10 => q P h (Instr.loadAt 22 t10) fun t11 => aw P (Instr.buildSlice 22 1 #[(0, t1)]) (fun t13 h => aw P (Builtin.append_ #[22, 22] 22 #[t11, t13]) (fun t14 h => q P h (nilCk t0) fun t15 => q P h (Instr.fieldAt 171 t15 1) fun t16 => aw P (Instr.storeAt 22 t16 t14) (fun _ h => K Value.nilIface h) h) h) h
theorem F_strings_Builder_WriteByte {K : Value → Hp → Prop} {h : Hp} {t0 t1 : Value} (s : s_strings_Builder_WriteByte K h t0 t1) : Cn P 195 #[t0, t1] h K :=
  Cn_ofs mixed Tryz.func195 (by kernel_rfl) (args := [t0, t1]) (by kernel_rfl) s
/-- function 196: strings.Map -/
def s_strings_Map (K : Value → Hp → Prop) (h : Hp) (t0 t1 : Value) : Prop := aw P (Instr.alloc 171 true (.tuple #[])) (fun t5 h => 
let J3 : Value → Hp → Prop := fun t1 h => Cn P 206 #[t5] h fun t64 h => q P h (eqop .eql 3 (.tmp 64) (.const (Value.int .i64 0)) t64 (Value.int .i64 0)) fun t65 => cnd t65 (K t1 h) (aw P (Instr.range 9 t1) (fun t68 h => 
Lp [] h fun nx29 vs29 h =>
aw P (Instr.next t68 true 0) (fun t69 h => q P h (Instr.extract t69 0) fun t70 => cnd t70 (q P h (Instr.extract t69 2) fun t71 => callP P t0 [t71] h fun t74 h => q P h (binOp .geq 21 t74 (Value.int .i32 0)) fun t76 => cnd t76 (q P h (binOp .lss 21 t74 (Value.int .i32 128)) fun t78 => cnd t78 (q P h (convert 21 5 t74) fun t80 => Cn P 195 #[t5, t80] h fun t81 h => nx29 [] h) (Cn P 205 #[t5, t74] h fun t83 h => nx29 [] h)) (nx29 [] h)) (Cn P 148 #[t5] h fun t84 h => K t84 h)) h) h);
aw P (Instr.range 9 t1) (fun t14 h => 
Lp [t1] h fun nx5 vs5 h =>
aw P (Instr.next t14 true 0) (fun t15 h => q P h (Instr.extract t15 0) fun t16 => cnd t16 (q P h (Instr.extract t15 1) fun t17 => q P h (Instr.extract t15 2) fun t18 => callP P t0 [t18] h fun t21 h => 
let J10 : Hp → Prop := fun h => 
let J13 : Value → Value → Hp → Prop := fun t7 t9 h => q P h (Builtin.len_ #[9] 3 #[(vs5.getD 0 undef)]) fun t48 => q P h (binOp .add 3 t48 (Value.int .i64 4)) fun t49 => Cn P 146 #[t5, t49] h fun t50 h => q P h (Instr.sliceAt 9 (vs5.getD 0 undef) none (some t17) none) fun t53 => Cn P 147 #[t5, t53] h fun t54 h => q P h (binOp .geq 21 t21 (Value.int .i32 0)) fun t56 => cnd t56 (Cn P 205 #[t5, t21] h fun t58 h => q P h (binOp .add 3 t17 t9) fun t62 => q P h (Instr.sliceAt 9 (vs5.getD 0 undef) (some t62) none none) fun t63 => J3 t63 h) (q P h (binOp .add 3 t17 t9) fun t62 => q P h (Instr.sliceAt 9 (vs5.getD 0 undef) (some t62) none none) fun t63 => J3 t63 h);
q P h (eqop .eql 21 (.tmp 29) (.const (Value.int .i32 65533)) t18 (Value.int .i32 65533)) fun t30 => cnd t30 (q P h (Instr.sliceAt 9 (vs5.getD 0 undef) (some t17) none none) fun t34 => Cn P 203 #[t34] h fun t35 h => q P h (Instr.extract t35 0) fun t36 => q P h (Instr.extract t35 1) fun t37 => q P h (eqop .neq 3 (.tmp 38) (.const (Value.int .i64 1)) t37 (Value.int .i64 1)) fun t39 => gd t39 true (q P h (eqop .eql 21 (.tmp 41) (.tmp 42) t21 t36) fun t43 => cnd t43 (nx5 [(vs5.getD 0 undef)] h) (J13 t36 t37 h)) (cnd (Value.bool false) (nx5 [(vs5.getD 0 undef)] h) (J13 t36 t37 h))) (Cn P 204 #[t18] h fun t46 h => J13 t18 t46 h);
q P h (eqop .eql 21 (.tmp 22) (.tmp 23) t21 t18) fun t24 => gd t24 true (q P h (eqop .neq 21 (.tmp 26) (.const (Value.int .i32 65533)) t18 (Value.int .i32 65533)) fun t27 => cnd t27 (nx5 [(vs5.getD 0 undef)] h) (J10 h)) (cnd (Value.bool false) (nx5 [(vs5.getD 0 undef)] h) (J10 h))) (J3 (vs5.getD 0 undef) h)) h) h) h
theorem F_strings_Map {K : Value → Hp → Prop} {h : Hp} {t0 t1 : Value} (s : s_strings_Map K h t0 t1) : Cn P 196 #[t0, t1] h K :=
  Cn_ofs mixed Tryz.func196 (by kernel_rfl) (args := [t0, t1]) (by kernel_rfl) s
/-- function 197: unicode.ToLower -/
def s_unicode_ToLower (K : Value → Hp → Prop) (h : Hp) (t0 : Value) : Prop := q P h (binOp .leq 21 t0 (Value.int .i32 127)) fun t4 => cnd t4 (q P h (binOp .leq 21 (Value.int .i32 65) t0) fun t6 => gd t6 true (q P h (binOp .leq 21 t0 (Value.int .i32 90)) fun t9 => cnd t9 (q P h (binOp .add 21 t0 (Value.int .i32 32)) fun t12 => K t12 h) (K t0 h)) (cnd (Value.bool false) (q P h (binOp .add 21 t0 (Value.int .i32 32)) fun t12 => K t12 h) (K t0 h))) (Cn P 207 #[(Value.int .i64 1), t0] h fun t15 h => K t15 h)
theorem F_unicode_ToLower {K : Value → Hp → Prop} {h : Hp} {t0 : Value} (s : s_unicode_ToLower K h t0) : Cn P 197 #[t0] h K :=
  Cn_ofs mixed Tryz.func197 (by kernel_rfl) (args := [t0]) (by kernel_rfl) s
end Go.Proofs.YtolcmaipjpkidaaGreatDoor
set_option linter.unusedVariables false
set_option maxRecDepth 100000
namespace Go.Proofs.YtolcmaipjpkidaaGreatDoor
open Go Go.SL
/-- function 203: unicode.utf8.DecodeRuneInString -/
def s_utf8_DecodeRuneInString (K : Value → Hp → Prop) (h : Hp) (t0 : Value) : Prop := 
let J3 : Value → Hp → Prop := fun t10 h => cnd t10 (q P h (Instr.index 9 t0 (Value.int .i64 0)) fun t12 => q P h (convert 5 21 t12) fun t13 => K (Value.tuple #[t13, (Value.int .i64 1)]) h) (Cn P 209 #[t0] h fun t16 h => q P h (Instr.extract t16 0) fun t17 => q P h (Instr.extract t16 1) fun t18 => K (Value.tuple #[t17, t18]) h);
q P h (eqop .neq 9 (.tmp 4) (.const (Value.string ⟨#[]⟩)) t0 (Value.string ⟨#[]⟩)) fun t5 => gd t5 true (q P h (Instr.index 9 t0 (Value.int .i64 0)) fun t8 => q P h (binOp .lss 5 t8 (Value.int .u8 128)) fun t9 => J3 t9 h) (J3 (Value.bool false) h)
theorem F_utf8_DecodeRuneInString {K : Value → Hp → Prop} {h : Hp} {t0 : Value} (s : s_utf8_DecodeRuneInString K h t0) : Cn P 203 #[t0] h K :=
  Cn_ofs mixed Tryz.func203 (by kernel_rfl) (args := [t0]) (by kernel_rfl) s
/-- function 204: unicode.utf8.RuneLen -/
def s_utf8_RuneLen (K : Value → Hp → Prop) (h : Hp) (t0 : Value) : Prop := q P h (binOp .lss 21 t0 (Value.int .i32 0)) fun t5 => cnd t5 (K (Value.int .i64 (-1)) h) (q P h (binOp .leq 21 t0 (Value.int .i32 127)) fun t8 => cnd t8 (K (Value.int .i64 1) h) (q P h (binOp .leq 21 t0 (Value.int .i32 2047)) fun t11 => cnd t11 (K (Value.int .i64 2) h) (
let J9 : Value → Hp → Prop := fun t12 h => cnd t12 (K (Value.int .i64 (-1)) h) (q P h (binOp .leq 21 t0 (Value.int .i32 65535)) fun t21 => cnd t21 (K (Value.int .i64 3) h) (q P h (binOp .leq 21 t0 (Value.int .i32 1114111)) fun t24 => cnd t24 (K (Value.int .i64 4) h) (K (Value.int .i64 (-1)) h)));
q P h (binOp .leq 21 (Value.int .i32 55296) t0) fun t14 => gd t14 true (q P h (binOp .leq 21 t0 (Value.int .i32 57343)) fun t17 => J9 t17 h) (J9 (Value.bool false) h))))
theorem F_utf8_RuneLen {K : Value → Hp → Prop} {h : Hp} {t0 : Value} (s : s_utf8_RuneLen K h t0) : Cn P 204 #[t0] h K :=
  Cn_ofs mixed Tryz.func204 (by kernel_rfl) (args := [t0]) (by kernel_rfl) s
/-- function 205: (*strings.Builder).WriteRune -/
def s_strings_Builder_WriteRune (K : Value → Hp → Prop) (h : Hp) (t0 t1 : Value) : Prop := Cn P 168 #[t0] h fun t8 h => q P h (nilCk t0) fun t10 => q P h (Instr.fieldAt 171 t10 1) fun t11 => q P h (Instr.loadAt 22 t11) fun t12 => q P h (Builtin.len_ #[22] 3 #[t12]) fun t13 => q P h (nilCk t0) fun t16 => q P h (Instr.fieldAt 171 t16 1) fun t17 => q P h (Instr.loadAt 22 t17) fun t18 => Cn P 155 #[t18, t1] h fun t20 h => q P h (nilCk t0) fun t21 => q P h (Instr.fieldAt 171 t21 1) fun t22 => aw P (Instr.storeAt 22 t22 t20) (fun _ h => q P h (nilCk t0) fun t24 => q P h (Instr.fieldAt 171 t24 1) fun t25 => q P h (Instr.loadAt 22 t25) fun t26 => q P h (Builtin.len_ #[22] 3 #[t26]) fun t27 => q P h (binOp .sub 3 t27 t13) fun t29 => K (Value.tuple #[t29, Value.nilIface]) h) h
theorem F_strings_Builder_WriteRune {K : Value → Hp → Prop} {h : Hp} {t0 t1 : Value} (s : s_strings_Builder_WriteRune K h t0 t1) : Cn P 205 #[t0, t1] h K :=
  Cn_ofs mixed Tryz.func205 (by kernel_rfl) (args := [t0, t1]) (by kernel_rfl) s
/-- function 206: (*strings.Builder).Cap -/
def s_strings_Builder_Cap (K : Value → Hp → Prop) (h : Hp) (t0 : Value) : Prop := q P h (nilCk t0) fun t4 => q P h (Instr.fieldAt 171 t4 1) fun t5 => q P h (Instr.loadAt 22 t5) fun t6 => q P h (Builtin.cap_ #[22] 3 #[t6]) fun t7 => K t7 h
theorem F_strings_Builder_Cap {K : Value → Hp → Prop} {h : Hp} {t0 : Value} (s : s_strings_Builder_Cap K h t0) : Cn P 206 #[t0] h K :=
  Cn_ofs mixed Tryz.func206 (by kernel_rfl) (args := [t0]) (by kernel_rfl) s
/-- function 207: unicode.To -/
def s_unicode_To (K : Value → Hp → Prop) (h : Hp) (t0 t1 : Value) : Prop := q P h (Instr.loadAt 228 (Value.pointer (some ⟨8, 0, none⟩))) fun t8 => Cn P 210 #[t0, t1, t8] h fun t9 h => q P h (Instr.extract t9 0) fun t10 => q P h (Instr.extract t9 1) fun t11 => K t10 h
theorem F_unicode_To {K : Value → Hp → Prop} {h : Hp} {t0 t1 : Value} (s : s_unicode_To K h t0 t1) : Cn P 207 #[t0, t1] h K :=
  Cn_ofs mixed Tryz.func207 (by kernel_rfl) (args := [t0, t1]) (by kernel_rfl) s
end Go.Proofs.YtolcmaipjpkidaaGreatDoor
set_option linter.unusedVariables false
set_option maxRecDepth 100000
namespace Go.Proofs.YtolcmaipjpkidaaGreatDoor
open Go Go.SL
/-- function 209: unicode.utf8.decodeRuneInStringSlow -/
def s_utf8_decodeRuneInStringSlow_18 (K : Value → Hp → Prop) (h : Hp) (t2 t3 : Value) : Prop := K (Value.tuple #[t2, t3]) h
def s_utf8_decodeRuneInStringSlow_17 (K : Value → Hp → Prop) (h : Hp) (t2 t3 t5 t10 t11 t12 : Value) : Prop := q P h (binOp .and 5 t5 (Value.int .u8 7)) fun t100 => q P h (convert 5 21 t100) fun t101 => q P h (binOp .shl 21 t101 (Value.int .u64 18)) fun t102 => q P h (binOp .and 5 t10 (Value.int .u8 63)) fun t104 => q P h (convert 5 21 t104) fun t105 => q P h (binOp .shl 21 t105 (Value.int .u64 12)) fun t106 => q P h (binOp .or 21 t102 t106) fun t107 => q P h (binOp .and 5 t11 (Value.int .u8 63)) fun t109 => q P h (convert 5 21 t109) fun t110 => q P h (binOp .shl 21 t110 (Value.int .u64 6)) fun t111 => q P h (binOp .or 21 t107 t111) fun t112 => q P h (binOp .and 5 t12 (Value.int .u8 63)) fun t114 => q P h (convert 5 21 t114) fun t115 => q P h (binOp .or 21 t112 t115) fun t116 => s_utf8_decodeRuneInStringSlow_18 K h t116 (Value.int .i64 4)
def s_utf8_decodeRuneInStringSlow_16 (K : Value → Hp → Prop) (h : Hp) (t2 t3 t5 t10 t11 t12 : Value) : Prop := q P h (binOp .lss 5 t12 (Value.int .u8 128)) fun t94 => gd t94 false (q P h (binOp .lss 5 (Value.int .u8 191) t12) fun t97 => cnd t97 (K (Value.tuple #[(Value.int .i32 65533), (Value.int .i64 1)]) h) (s_utf8_decodeRuneInStringSlow_17 K h t2 t3 t5 t10 t11 t12)) (cnd (Value.bool true) (K (Value.tuple #[(Value.int .i32 65533), (Value.int .i64 1)]) h) (s_utf8_decodeRuneInStringSlow_17 K h t2 t3 t5 t10 t11 t12))
def s_utf8_decodeRuneInStringSlow_15 (K : Value → Hp → Prop) (h : Hp) (t0 t2 t3 t5 t10 t11 : Value) : Prop := q P h (Instr.index 9 t0 (Value.int .i64 3)) fun t92 => s_utf8_decodeRuneInStringSlow_16 K h t2 t3 t5 t10 t11 t92
def s_utf8_decodeRuneInStringSlow_14 (K : Value → Hp → Prop) (h : Hp) (t0 t2 t3 t5 t8 t10 t11 : Value) : Prop := q P h (binOp .leq 3 t8 (Value.int .i64 3)) fun t77 => cnd t77 (q P h (binOp .and 5 t5 (Value.int .u8 15)) fun t79 => q P h (convert 5 21 t79) fun t80 => q P h (binOp .shl 21 t80 (Value.int .u64 12)) fun t81 => q P h (binOp .and 5 t10 (Value.int .u8 63)) fun t83 => q P h (convert 5 21 t83) fun t84 => q P h (binOp .shl 21 t84 (Value.int .u64 6)) fun t85 => q P h (binOp .or 21 t81 t85) fun t86 => q P h (binOp .and 5 t11 (Value.int .u8 63)) fun t88 => q P h (convert 5 21 t88) fun t89 => q P h (binOp .or 21 t86 t89) fun t90 => K (Value.tuple #[t90, (Value.int .i64 3)]) h) (s_utf8_decodeRuneInStringSlow_15 K h t0 t2 t3 t5 t10 t11)
def s_utf8_decodeRuneInStringSlow_13 (K : Value → Hp → Prop) (h : Hp) (t0 t2 t3 t5 t8 t10 t11 : Value) : Prop := q P h (binOp .lss 5 t11 (Value.int .u8 128)) fun t71 => gd t71 false (q P h (binOp .lss 5 (Value.int .u8 191) t11) fun t74 => cnd t74 (K (Value.tuple #[(Value.int .i32 65533), (Value.int .i64 1)]) h) (s_utf8_decodeRuneInStringSlow_14 K h t0 t2 t3 t5 t8 t10 t11)) (cnd (Value.bool true) (K (Value.tuple #[(Value.int .i32 65533), (Value.int .i64 1)]) h) (s_utf8_decodeRuneInStringSlow_14 K h t0 t2 t3 t5 t8 t10 t11))
def s_utf8_decodeRuneInStringSlow_12 (K : Value → Hp → Prop) (h : Hp) (t0 t2 t3 t5 t8 t10 : Value) : Prop := q P h (Instr.index 9 t0 (Value.int .i64 2)) fun t69 => s_utf8_decodeRuneInStringSlow_13 K h t0 t2 t3 t5 t8 t10 t69
def s_utf8_decodeRuneInStringSlow_11 (K : Value → Hp → Prop) (h : Hp) (t0 t2 t3 t5 t8 t10 : Value) : Prop := q P h (binOp .leq 3 t8 (Value.int .i64 2)) fun t59 => cnd t59 (q P h (binOp .and 5 t5 (Value.int .u8 31)) fun t61 => q P h (convert 5 21 t61) fun t62 => q P h (binOp .shl 21 t62 (Value.int .u64 6)) fun t63 => q P h (binOp .and 5 t10 (Value.int .u8 63)) fun t65 => q P h (convert 5 21 t65) fun t66 => q P h (binOp .or 21 t63 t66) fun t67 => K (Value.tuple #[t67, (Value.int .i64 2)]) h) (s_utf8_decodeRuneInStringSlow_12 K h t0 t2 t3 t5 t8 t10)
def s_utf8_decodeRuneInStringSlow_10 (K : Value → Hp → Prop) (h : Hp) (t0 t2 t3 t5 t8 t9 t10 : Value) : Prop := q P h (Instr.fieldAt 166 t9 0) fun t49 => q P h (Instr.loadAt 5 t49) fun t50 => q P h (binOp .lss 5 t10 t50) fun t51 => gd t51 false (q P h (Instr.fieldAt 166 t9 1) fun t53 => q P h (Instr.loadAt 5 t53) fun t54 => q P h (binOp .lss 5 t54 t10) fun t56 => cnd t56 (K (Value.tuple #[(Value.int .i32 65533), (Value.int .i64 1)]) h) (s_utf8_decodeRuneInStringSlow_11 K h t0 t2 t3 t5 t8 t10)) (cnd (Value.bool true) (K (Value.tuple #[(Value.int .i32 65533), (Value.int .i64 1)]) h) (s_utf8_decodeRuneInStringSlow_11 K h t0 t2 t3 t5 t8 t10))
def s_utf8_decodeRuneInStringSlow_9 (K : Value → Hp → Prop) (h : Hp) (t0 t2 t3 t5 t8 t9 : Value) : Prop := q P h (Instr.index 9 t0 (Value.int .i64 1)) fun t47 => s_utf8_decodeRuneInStringSlow_10 K h t0 t2 t3 t5 t8 t9 t47
def s_utf8_decodeRuneInStringSlow_8 (K : Value → Hp → Prop) (h : Hp) (t0 t2 t3 t4 t5 t8 t9 : Value) : Prop := q P h (binOp .lss 3 t4 t8) fun t45 => cnd t45 (K (Value.tuple #[(Value.int .i32 65533), (Value.int .i64 1)]) h) (s_utf8_decodeRuneInStringSlow_9 K h t0 t2 t3 t5 t8 t9)
def s_utf8_decodeRuneInStringSlow_7 (K : Value → Hp → Prop) (h : Hp) (t0 t2 t3 t4 t5 t6 t8 : Value) : Prop := q P h (binOp .shr 5 t6 (Value.int .u64 4)) fun t40 => q P h (Instr.indexAt 167 (Value.pointer (some ⟨1, 0, none⟩)) t40) fun t41 => q P h (Instr.loadAt 166 t41) fun t42 => aw P (Instr.alloc 166 true (.tuple #[])) (fun t9 h => aw P (Instr.storeAt 166 t9 t42) (fun _ h => s_utf8_decodeRuneInStringSlow_8 K h t0 t2 t3 t4 t5 t8 t9) h) h
def s_utf8_decodeRuneInStringSlow_6 (K : Value → Hp → Prop) (h : Hp) (t0 t2 t3 t4 t5 t6 : Value) : Prop := q P h (binOp .and 5 t6 (Value.int .u8 7)) fun t37 => q P h (convert 5 3 t37) fun t38 => s_utf8_decodeRuneInStringSlow_7 K h t0 t2 t3 t4 t5 t6 t38
def s_utf8_decodeRuneInStringSlow_5 (K : Value → Hp → Prop) (h : Hp) (t0 t2 t3 t4 t5 t6 : Value) : Prop := q P h (binOp .geq 5 t6 (Value.int .u8 240)) fun t23 => cnd t23 (q P h (convert 5 21 t6) fun t25 => q P h (binOp .shl 21 t25 (Value.int .u64 31)) fun t26 => q P h (binOp .shr 21 t26 (Value.int .u64 31)) fun t27 => q P h (Instr.index 9 t0 (Value.int .i64 0)) fun t29 => q P h (convert 5 21 t29) fun t30 => q P h (binOp .andNot 21 t30 t27) fun t32 => q P h (binOp .and 21 (Value.int .i32 65533) t27) fun t34 => q P h (binOp .or 21 t32 t34) fun t35 => K (Value.tuple #[t35, (Value.int .i64 1)]) h) (s_utf8_decodeRuneInStringSlow_6 K h t0 t2 t3 t4 t5 t6)
def s_utf8_decodeRuneInStringSlow_4 (K : Value → Hp → Prop) (h : Hp) (t0 t2 t3 t4 t5 : Value) : Prop := q P h (Instr.indexAt 164 (Value.pointer (some ⟨0, 0, none⟩)) t5) fun t20 => q P h (Instr.loadAt 5 t20) fun t21 => s_utf8_decodeRuneInStringSlow_5 K h t0 t2 t3 t4 t5 t21
def s_utf8_decodeRuneInStringSlow_3 (K : Value → Hp → Prop) (h : Hp) (t0 t2 t3 t4 : Value) : Prop := q P h (Instr.index 9 t0 (Value.int .i64 0)) fun t18 => s_utf8_decodeRuneInStringSlow_4 K h t0 t2 t3 t4 t18
def s_utf8_decodeRuneInStringSlow_2 (K : Value → Hp → Prop) (h : Hp) (t0 t2 t3 t4 : Value) : Prop := q P h (binOp .lss 3 t4 (Value.int .i64 1)) fun t16 => cnd t16 (K (Value.tuple #[(Value.int .i32 65533), (Value.int .i64 0)]) h) (s_utf8_decodeRuneInStringSlow_3 K h t0 t2 t3 t4)
def s_utf8_decodeRuneInStringSlow_1 (K : Value → Hp → Prop) (h : Hp) (t0 t2 t3 : Value) : Prop := q P h (Builtin.len_ #[9] 3 #[t0]) fun t14 => s_utf8_decodeRuneInStringSlow_2 K h t0 t2 t3 t14
def s_utf8_decodeRuneInStringSlow (K : Value → Hp → Prop) (h : Hp) (t0 : Value) : Prop := s_utf8_decodeRuneInStringSlow_1 K h t0 (Value.int .i32 0) (Value.int .i64 0)
theorem c_utf8_decodeRuneInStringSlow_18 {K : Value → Hp → Prop} {h : Hp} {t2 t3 : Value} (s : s_utf8_decodeRuneInStringSlow_18 K h t2 t3) : SV P Tryz.f209.ntmps (seqR (seqR (seqR (seqR (seqR (seqR (seqR (seqR (seqR (seqR (seqR (seqR (seqR (seqR (seqR (seqR (seqR (seqR (Tryz.f209.body.getD .skip))))))))))))))))))) (retP P Tryz.f209.results.toList K) (headOf [2, 3] [t2, t3]) h :=
  SV_of mixed (by kernel_rfl) s
theorem c_utf8_decodeRuneInStringSlow_17 {K : Value → Hp → Prop} {h : Hp} {t2 t3 t5 t10 t11 t12 : Value} (s : s_utf8_decodeRuneInStringSlow_17 K h t2 t3 t5 t10 t11 t12) : SV P Tryz.f209.ntmps (seqR (seqR (seqR (seqR (seqR (seqR (seqR (seqR (seqR (seqR (seqR (seqR (seqR (seqR (seqR (seqR (seqR (Tryz.f209.body.getD .skip)))))))))))))))))) (retP P Tryz.f209.results.toList K) (headOf [2, 3, 5, 10, 11, 12] [t2, t3, t5, t10, t11, t12]) h :=
  cut_at mixed (by kernel_rfl) [2, 3] (fun vs h => s_utf8_decodeRuneInStringSlow_18 K h (vs.getD 0 undef) (vs.getD 1 undef)) (fun vs h _ x => Eq.mp (by kernel_rfl) (c_utf8_decodeRuneInStringSlow_18 x)) (by kernel_rfl) s
theorem c_utf8_decodeRuneInStringSlow_16 {K : Value → Hp → Prop} {h : Hp} {t2 t3 t5 t10 t11 t12 : Value} (s : s_utf8_decodeRuneInStringSlow_16 K h t2 t3 t5 t10 t11 t12) : SV P Tryz.f209.ntmps (seqR (seqR (seqR (seqR (seqR (seqR (seqR (seqR (seqR (seqR (seqR (seqR (seqR (seqR (seqR (seqR (Tryz.f209.body.getD .skip))))))))))))))))) (retP P Tryz.f209.results.toList K) (headOf [2, 3, 5, 10, 11, 12] [t2, t3, t5, t10, t11, t12]) h :=
  cut_at mixed (by kernel_rfl) [2, 3, 5, 10, 11, 12] (fun vs h => s_utf8_decodeRuneInStringSlow_17 K h (vs.getD 0 undef) (vs.getD 1 undef) (vs.getD 2 undef) (vs.getD 3 undef) (vs.getD 4 undef) (vs.getD 5 undef)) (fun vs h _ x => Eq.mp (by kernel_rfl) (c_utf8_decodeRuneInStringSlow_17 x)) (by kernel_rfl) s
theorem c_utf8_decodeRuneInStringSlow_15 {K : Value → Hp → Prop} {h : Hp} {t0 t2 t3 t5 t10 t11 : Value} (s : s_utf8_decodeRuneInStringSlow_15 K h t0 t2 t3 t5 t10 t11) : SV P Tryz.f209.ntmps (seqR (seqR (seqR (seqR (seqR (seqR (seqR (seqR (seqR (seqR (seqR (seqR (seqR (seqR (seqR (Tryz.f209.body.getD .skip)))))))))))))))) (retP P Tryz.f209.results.toList K) (headOf [0, 2, 3, 5, 10, 11] [t0, t2, t3, t5, t10, t11]) h :=
  cut_at mixed (by kernel_rfl) [2, 3, 5, 10, 11, 12] (fun vs h => s_utf8_decodeRuneInStringSlow_16 K h (vs.getD 0 undef) (vs.getD 1 undef) (vs.getD 2 undef) (vs.getD 3 undef) (vs.getD 4 undef) (vs.getD 5 undef)) (fun vs h _ x => Eq.mp (by kernel_rfl) (c_utf8_decodeRuneInStringSlow_16 x)) (by kernel_rfl) s
theorem c_utf8_decodeRuneInStringSlow_14 {K : Value → Hp → Prop} {h : Hp} {t0 t2 t3 t5 t8 t10 t11 : Value} (s : s_utf8_decodeRuneInStringSlow_14 K h t0 t2 t3 t5 t8 t10 t11) : SV P Tryz.f209.ntmps (seqR (seqR (seqR (seqR (seqR (seqR (seqR (seqR (seqR (seqR (seqR (seqR (seqR (seqR (Tryz.f209.body.getD .skip))))))))))))))) (retP P Tryz.f209.results.toList K) (headOf [0, 2, 3, 5, 8, 10, 11] [t0, t2, t3, t5, t8, t10, t11]) h :=
  cut_at mixed (by kernel_rfl) [0, 2, 3, 5, 10, 11] (fun vs h => s_utf8_decodeRuneInStringSlow_15 K h (vs.getD 0 undef) (vs.getD 1 undef) (vs.getD 2 undef) (vs.getD 3 undef) (vs.getD 4 undef) (vs.getD 5 undef)) (fun vs h _ x => Eq.mp (by kernel_rfl) (c_utf8_decodeRuneInStringSlow_15 x)) (by kernel_rfl) s
theorem c_utf8_decodeRuneInStringSlow_13 {K : Value → Hp → Prop} {h : Hp} {t0 t2 t3 t5 t8 t10 t11 : Value} (s : s_utf8_decodeRuneInStringSlow_13 K h t0 t2 t3 t5 t8 t10 t11) : SV P Tryz.f209.ntmps (seqR (seqR (seqR (seqR (seqR (seqR (seqR (seqR (seqR (seqR (seqR (seqR (seqR (Tryz.f209.body.getD .skip)))))))))))))) (retP P Tryz.f209.results.toList K) (headOf [0, 2, 3, 5, 8, 10, 11] [t0, t2, t3, t5, t8, t10, t11]) h :=
  cut_at mixed (by kernel_rfl) [0, 2, 3, 5, 8, 10, 11] (fun vs h => s_utf8_decodeRuneInStringSlow_14 K h (vs.getD 0 undef) (vs.getD 1 undef) (vs.getD 2 undef) (vs.getD 3 undef) (vs.getD 4 undef) (vs.getD 5 undef) (vs.getD 6 undef)) (fun vs h _ x => Eq.mp (by kernel_rfl) (c_utf8_decodeRuneInStringSlow_14 x)) (by kernel_rfl) s
theorem c_utf8_decodeRuneInStringSlow_12 {K : Value → Hp → Prop} {h : Hp} {t0 t2 t3 t5 t8 t10 : Value} (s : s_utf8_decodeRuneInStringSlow_12 K h t0 t2 t3 t5 t8 t10) : SV P Tryz.f209.ntmps (seqR (seqR (seqR (seqR (seqR (seqR (seqR (seqR (seqR (seqR (seqR (seqR (Tryz.f209.body.getD .skip))))))))))))) (retP P Tryz.f209.results.toList K) (headOf [0, 2, 3, 5, 8, 10] [t0, t2, t3, t5, t8, t10]) h :=
  cut_at mixed (by kernel_rfl) [0, 2, 3, 5, 8, 10, 11] (fun vs h => s_utf8_decodeRuneInStringSlow_13 K h (vs.getD 0 undef) (vs.getD 1 undef) (vs.getD 2 undef) (vs.getD 3 undef) (vs.getD 4 undef) (vs.getD 5 undef) (vs.getD 6 undef)) (fun vs h _ x => Eq.mp (by kernel_rfl) (c_utf8_decodeRuneInStringSlow_13 x)) (by kernel_rfl) s
theorem c_utf8_decodeRuneInStringSlow_11 {K : Value → Hp → Prop} {h : Hp} {t0 t2 t3 t5 t8 t10 : Value} (s : s_utf8_decodeRuneInStringSlow_11 K h t0 t2 t3 t5 t8 t10) : SV P Tryz.f209.ntmps (seqR (seqR (seqR (seqR (seqR (seqR (seqR (seqR (seqR (seqR (seqR (Tryz.f209.body.getD .skip)))))))))))) (retP P Tryz.f209.results.toList K) (headOf [0, 2, 3, 5, 8, 10] [t0, t2, t3, t5, t8, t10]) h :=
  cut_at mixed (by kernel_rfl) [0, 2, 3, 5, 8, 10] (fun vs h => s_utf8_decodeRuneInStringSlow_12 K h (vs.getD 0 undef) (vs.getD 1 undef) (vs.getD 2 undef) (vs.getD 3 undef) (vs.getD 4 undef) (vs.getD 5 undef)) (fun vs h _ x => Eq.mp (by kernel_rfl) (c_utf8_decodeRuneInStringSlow_12 x)) (by kernel_rfl) s
theorem c_utf8_decodeRuneInStringSlow_10 {K : Value → Hp → Prop} {h : Hp} {t0 t2 t3 t5 t8 t9 t10 : Value} (s : s_utf8_decodeRuneInStringSlow_10 K h t0 t2 t3 t5 t8 t9 t10) : SV P Tryz.f209.ntmps (seqR (seqR (seqR (seqR (seqR (seqR (seqR (seqR (seqR (seqR (Tryz.f209.body.getD .skip))))))))))) (retP P Tryz.f209.results.toList K) (headOf [0, 2, 3, 5, 8, 9, 10] [t0, t2, t3, t5, t8, t9, t10]) h :=
  cut_at mixed (by kernel_rfl) [0, 2, 3, 5, 8, 10] (fun vs h => s_utf8_decodeRuneInStringSlow_11 K h (vs.getD 0 undef) (vs.getD 1 undef) (vs.getD 2 undef) (vs.getD 3 undef) (vs.getD 4 undef) (vs.getD 5 undef)) (fun vs h _ x => Eq.mp (by kernel_rfl) (c_utf8_decodeRuneInStringSlow_11 x)) (by kernel_rfl) s
theorem c_utf8_decodeRuneInStringSlow_9 {K : Value → Hp → Prop} {h : Hp} {t0 t2 t3 t5 t8 t9 : Value} (s : s_utf8_decodeRuneInStringSlow_9 K h t0 t2 t3 t5 t8 t9) : SV P Tryz.f209.ntmps (seqR (seqR (seqR (seqR (seqR (seqR (seqR (seqR (seqR (Tryz.f209.body.getD .skip)))))))))) (retP P Tryz.f209.results.toList K) (headOf [0, 2, 3, 5, 8, 9] [t0, t2, t3, t5, t8, t9]) h :=
  cut_at mixed (by kernel_rfl) [0, 2, 3, 5, 8, 9, 10] (fun vs h => s_utf8_decodeRuneInStringSlow_10 K h (vs.getD 0 undef) (vs.getD 1 undef) (vs.getD 2 undef) (vs.getD 3 undef) (vs.getD 4 undef) (vs.getD 5 undef) (vs.getD 6 undef)) (fun vs h _ x => Eq.mp (by kernel_rfl) (c_utf8_decodeRuneInStringSlow_10 x)) (by kernel_rfl) s
theorem c_utf8_decodeRuneInStringSlow_8 {K : Value → Hp → Prop} {h : Hp} {t0 t2 t3 t4 t5 t8 t9 : Value} (s : s_utf8_decodeRuneInStringSlow_8 K h t0 t2 t3 t4 t5 t8 t9) : SV P Tryz.f209.ntmps (seqR (seqR (seqR (seqR (seqR (seqR (seqR (seqR (Tryz.f209.body.getD .skip))))))))) (retP P Tryz.f209.results.toList K) (headOf [0, 2, 3, 4, 5, 8, 9] [t0, t2, t3, t4, t5, t8, t9]) h :=
  cut_at mixed (by kernel_rfl) [0, 2, 3, 5, 8, 9] (fun vs h => s_utf8_decodeRuneInStringSlow_9 K h (vs.getD 0 undef) (vs.getD 1 undef) (vs.getD 2 undef) (vs.getD 3 undef) (vs.getD 4 undef) (vs.getD 5 undef)) (fun vs h _ x => Eq.mp (by kernel_rfl) (c_utf8_decodeRuneInStringSlow_9 x)) (by kernel_rfl) s
theorem c_utf8_decodeRuneInStringSlow_7 {K : Value → Hp → Prop} {h : Hp} {t0 t2 t3 t4 t5 t6 t8 : Value} (s : s_utf8_decodeRuneInStringSlow_7 K h t0 t2 t3 t4 t5 t6 t8) : SV P Tryz.f209.ntmps (seqR (seqR (seqR (seqR (seqR (seqR (seqR (Tryz.f209.body.getD .skip)))))))) (retP P Tryz.f209.results.toList K) (headOf [0, 2, 3, 4, 5, 6, 8] [t0, t2, t3, t4, t5, t6, t8]) h :=
  cut_at mixed (by kernel_rfl) [0, 2, 3, 4, 5, 8, 9] (fun vs h => s_utf8_decodeRuneInStringSlow_8 K h (vs.getD 0 undef) (vs.getD 1 undef) (vs.getD 2 undef) (vs.getD 3 undef) (vs.getD 4 undef) (vs.getD 5 undef) (vs.getD 6 undef)) (fun vs h _ x => Eq.mp (by kernel_rfl) (c_utf8_decodeRuneInStringSlow_8 x)) (by kernel_rfl) s
theorem c_utf8_decodeRuneInStringSlow_6 {K : Value → Hp → Prop} {h : Hp} {t0 t2 t3 t4 t5 t6 : Value} (s : s_utf8_decodeRuneInStringSlow_6 K h t0 t2 t3 t4 t5 t6) : SV P Tryz.f209.ntmps (seqR (seqR (seqR (seqR (seqR (seqR (Tryz.f209.body.getD .skip))))))) (retP P Tryz.f209.results.toList K) (headOf [0, 2, 3, 4, 5, 6] [t0, t2, t3, t4, t5, t6]) h :=
  cut_at mixed (by kernel_rfl) [0, 2, 3, 4, 5, 6, 8] (fun vs h => s_utf8_decodeRuneInStringSlow_7 K h (vs.getD 0 undef) (vs.getD 1 undef) (vs.getD 2 undef) (vs.getD 3 undef) (vs.getD 4 undef) (vs.getD 5 undef) (vs.getD 6 undef)) (fun vs h _ x => Eq.mp (by kernel_rfl) (c_utf8_decodeRuneInStringSlow_7 x)) (by kernel_rfl) s
theorem c_utf8_decodeRuneInStringSlow_5 {K : Value → Hp → Prop} {h : Hp} {t0 t2 t3 t4 t5 t6 : Value} (s : s_utf8_decodeRuneInStringSlow_5 K h t0 t2 t3 t4 t5 t6) : SV P Tryz.f209.ntmps (seqR (seqR (seqR (seqR (seqR (Tryz.f209.body.getD .skip)))))) (retP P Tryz.f209.results.toList K) (headOf [0, 2, 3, 4, 5, 6] [t0, t2, t3, t4, t5, t6]) h :=
  cut_at mixed (by kernel_rfl) [0, 2, 3, 4, 5, 6] (fun vs h => s_utf8_decodeRuneInStringSlow_6 K h (vs.getD 0 undef) (vs.getD 1 undef) (vs.getD 2 undef) (vs.getD 3 undef) (vs.getD 4 undef) (vs.getD 5 undef)) (fun vs h _ x => Eq.mp (by kernel_rfl) (c_utf8_decodeRuneInStringSlow_6 x)) (by kernel_rfl) s
theorem c_utf8_decodeRuneInStringSlow_4 {K : Value → Hp → Prop} {h : Hp} {t0 t2 t3 t4 t5 : Value} (s : s_utf8_decodeRuneInStringSlow_4 K h t0 t2 t3 t4 t5) : SV P Tryz.f209.ntmps (seqR (seqR (seqR (seqR (Tryz.f209.body.getD .skip))))) (retP P Tryz.f209.results.toList K) (headOf [0, 2, 3, 4, 5] [t0, t2, t3, t4, t5]) h :=
  cut_at mixed (by kernel_rfl) [0, 2, 3, 4, 5, 6] (fun vs h => s_utf8_decodeRuneInStringSlow_5 K h (vs.getD 0 undef) (vs.getD 1 undef) (vs.getD 2 undef) (vs.getD 3 undef) (vs.getD 4 undef) (vs.getD 5 undef)) (fun vs h _ x => Eq.mp (by kernel_rfl) (c_utf8_decodeRuneInStringSlow_5 x)) (by kernel_rfl) s
theorem c_utf8_decodeRuneInStringSlow_3 {K : Value → Hp → Prop} {h : Hp} {t0 t2 t3 t4 : Value} (s : s_utf8_decodeRuneInStringSlow_3 K h t0 t2 t3 t4) : SV P Tryz.f209.ntmps (seqR (seqR (seqR (Tryz.f209.body.getD .skip)))) (retP P Tryz.f209.results.toList K) (headOf [0, 2, 3, 4] [t0, t2, t3, t4]) h :=
  cut_at mixed (by kernel_rfl) [0, 2, 3, 4, 5] (fun vs h => s_utf8_decodeRuneInStringSlow_4 K h (vs.getD 0 undef) (vs.getD 1 undef) (vs.getD 2 undef) (vs.getD 3 undef) (vs.getD 4 undef)) (fun vs h _ x => Eq.mp (by kernel_rfl) (c_utf8_decodeRuneInStringSlow_4 x)) (by kernel_rfl) s
theorem c_utf8_decodeRuneInStringSlow_2 {K : Value → Hp → Prop} {h : Hp} {t0 t2 t3 t4 : Value} (s : s_utf8_decodeRuneInStringSlow_2 K h t0 t2 t3 t4) : SV P Tryz.f209.ntmps (seqR (seqR (Tryz.f209.body.getD .skip))) (retP P Tryz.f209.results.toList K) (headOf [0, 2, 3, 4] [t0, t2, t3, t4]) h :=
  cut_at mixed (by kernel_rfl) [0, 2, 3, 4] (fun vs h => s_utf8_decodeRuneInStringSlow_3 K h (vs.getD 0 undef) (vs.getD 1 undef) (vs.getD 2 undef) (vs.getD 3 undef)) (fun vs h _ x => Eq.mp (by kernel_rfl) (c_utf8_decodeRuneInStringSlow_3 x)) (by kernel_rfl) s
theorem c_utf8_decodeRuneInStringSlow_1 {K : Value → Hp → Prop} {h : Hp} {t0 t2 t3 : Value} (s : s_utf8_decodeRuneInStringSlow_1 K h t0 t2 t3) : SV P Tryz.f209.ntmps (seqR (Tryz.f209.body.getD .skip)) (retP P Tryz.f209.results.toList K) (headOf [0, 2, 3] [t0, t2, t3]) h :=
  cut_at mixed (by kernel_rfl) [0, 2, 3, 4] (fun vs h => s_utf8_decodeRuneInStringSlow_2 K h (vs.getD 0 undef) (vs.getD 1 undef) (vs.getD 2 undef) (vs.getD 3 undef)) (fun vs h _ x => Eq.mp (by kernel_rfl) (c_utf8_decodeRuneInStringSlow_2 x)) (by kernel_rfl) s
theorem c_utf8_decodeRuneInStringSlow_0 {K : Value → Hp → Prop} {h : Hp} {t0 : Value} (s : s_utf8_decodeRuneInStringSlow K h t0) : SV P Tryz.f209.ntmps (Tryz.f209.body.getD .skip) (retP P Tryz.f209.results.toList K) (env0 [t0]) h :=
  cut_at mixed (by kernel_rfl) [0, 2, 3] (fun vs h => s_utf8_decodeRuneInStringSlow_1 K h (vs.getD 0 undef) (vs.getD 1 undef) (vs.getD 2 undef)) (fun vs h _ x => Eq.mp (by kernel_rfl) (c_utf8_decodeRuneInStringSlow_1 x)) (by kernel_rfl) s
theorem F_utf8_decodeRuneInStringSlow {K : Value → Hp → Prop} {h : Hp} {t0 : Value} (s : s_utf8_decodeRuneInStringSlow K h t0) : Cn P 209 #[t0] h K :=
  Cn_sv Tryz.func209 (by kernel_rfl) (args := [t0]) (c_utf8_decodeRuneInStringSlow_0 s)
end Go.Proofs.YtolcmaipjpkidaaGreatDoor
set_option linter.unusedVariables false
set_option maxRecDepth 100000
namespace Go.Proofs.YtolcmaipjpkidaaGreatDoor
open Go Go.SL
/-- function 210: unicode.to -/
def s_unicode_to (K : Value → Hp → Prop) (h : Hp) (t0 t1 t2 : Value) : Prop := 
let J2 : Hp → Prop := fun h => Cn P 211 #[t1, t2] h fun t17 h => q P h (eqop .neq 229 (.tmp 18) (.const (Value.pointer none)) t17 (Value.pointer none)) fun t19 => cnd t19 (Cn P 212 #[t0, t1, t17] h fun t23 h => K (Value.tuple #[t23, (Value.bool true)]) h) (K (Value.tuple #[t1, (Value.bool false)]) h);
q P h (binOp .lss 3 t0 (Value.int .i64 0)) fun t10 => gd t10 false (q P h (binOp .leq 3 (Value.int .i64 3) t0) fun t13 => cnd t13 (K (Value.tuple #[(Value.int .i32 65533), (Value.bool false)]) h) (J2 h)) (cnd (Value.bool true) (K (Value.tuple #[(Value.int .i32 65533), (Value.bool false)]) h) (J2 h))
theorem F_unicode_to {K : Value → Hp → Prop} {h : Hp} {t0 t1 t2 : Value} (s : s_unicode_to K h t0 t1 t2) : Cn P 210 #[t0, t1, t2] h K :=
  Cn_ofs mixed Tryz.func210 (by kernel_rfl) (args := [t0, t1, t2]) (by kernel_rfl) s
/-- function 211: unicode.lookupCaseRange -/
def s_unicode_lookupCaseRange (K : Value → Hp → Prop) (h : Hp) (t0 t1 : Value) : Prop := q P h (Builtin.len_ #[228] 3 #[t1]) fun t10 => 
Lp [(Value.pointer none), t10, (Value.int .i64 0)] h fun nx5 vs5 h =>
q P h (binOp .lss 3 (vs5.getD 2 undef) (vs5.getD 1 undef)) fun t13 => cnd t13 (q P h (binOp .add 3 (vs5.getD 2 undef) (vs5.getD 1 undef)) fun t16 => q P h (convert 3 149 t16) fun t17 => q P h (binOp .shr 149 t17 (Value.int .u64 1)) fun t18 => q P h (convert 149 3 t18) fun t19 => q P h (Instr.indexAt 228 t1 t19) fun t22 => 
let J10 : Value → Hp → Prop := fun t4 h => q P h (nilCk t22) fun t42 => q P h (Instr.fieldAt 235 t42 0) fun t43 => q P h (Instr.loadAt 38 t43) fun t44 => q P h (convert 38 21 t44) fun t45 => q P h (binOp .lss 21 t0 t45) fun t46 => cnd t46 (nx5 [t4, t19, (vs5.getD 2 undef)] h) (q P h (binOp .add 3 t19 (Value.int .i64 1)) fun t49 => nx5 [t4, (vs5.getD 1 undef), t49] h);
q P h (nilCk t22) fun t24 => q P h (Instr.fieldAt 235 t24 0) fun t25 => q P h (Instr.loadAt 38 t25) fun t26 => q P h (convert 38 21 t26) fun t27 => q P h (binOp .leq 21 t27 t0) fun t29 => gd t29 true (q P h (nilCk t22) fun t33 => q P h (Instr.fieldAt 235 t33 1) fun t34 => q P h (Instr.loadAt 38 t34) fun t35 => q P h (convert 38 21 t35) fun t36 => q P h (binOp .leq 21 t0 t36) fun t37 => cnd t37 (K t22 h) (J10 (vs5.getD 0 undef) h)) (cnd (Value.bool false) (K t22 h) (J10 (vs5.getD 0 undef) h))) (K (Value.pointer none) h)
theorem F_unicode_lookupCaseRange {K : Value → Hp → Prop} {h : Hp} {t0 t1 : Value} (s : s_unicode_lookupCaseRange K h t0 t1) : Cn P 211 #[t0, t1] h K :=
  Cn_ofs mixed Tryz.func211 (by kernel_rfl) (args := [t0, t1]) (by kernel_rfl) s
/-- function 212: unicode.convertCase -/
def s_unicode_convertCase (K : Value → Hp → Prop) (h : Hp) (t0 t1 t2 : Value) : Prop := q P h (nilCk t2) fun t10 => q P h (Instr.fieldAt 235 t10 2) fun t11 => q P h (Instr.indexAt 233 t11 t0) fun t12 => q P h (Instr.loadAt 21 t12) fun t13 => q P h (binOp .gtr 21 t13 (Value.int .i32 1114111)) fun t15 => cnd t15 (q P emp (nilCk t2) fun t17 => q P h (Instr.fieldAt 235 t17 0) fun t18 => q P h (Instr.loadAt 38 t18) fun t19 => q P h (convert 38 21 t19) fun t20 => q P emp (nilCk t2) fun t23 => q P h (Instr.fieldAt 235 t23 0) fun t24 => q P h (Instr.loadAt 38 t24) fun t25 => q P h (convert 38 21 t25) fun t26 => q P emp (binOp .sub 21 t1 t26) fun t27 => q P emp (binOp .andNot 21 t27 (Value.int .i32 1)) fun t28 => q P emp (binOp .and 3 t0 (Value.int .i64 1)) fun t30 => q P h (convert 3 21 t30) fun t31 => q P emp (binOp .or 21 t28 t31) fun t32 => q P emp (binOp .add 21 t20 t32) fun t33 => K t33 h) (q P h (binOp .add 21 t1 t13) fun t36 => K t36 h)
theorem F_unicode_convertCase {K : Value → Hp → Prop} {h : Hp} {t0 t1 t2 : Value} (s : s_unicode_convertCase K h t0 t1 t2) : Cn P 212 #[t0, t1, t2] h K :=
  Cn_ofs mixed Tryz.func212 (by kernel_rfl) (args := [t0, t1, t2]) (by kernel_rfl) s
end Go.Proofs.YtolcmaipjpkidaaGreatDoor
namespace Go.Pure
def le : Nat → Nat → List Nat
  | 0, _ => []
  | n + 1, v => v % 256 :: le n (v / 256)
def Bytes (l : List Nat) : Prop := ∀ x ∈ l, x < 256
theorem Bytes.take {l : List Nat} (h : Bytes l) (n : Nat) : Bytes (l.take n) := fun x hx => h x (List.mem_of_mem_take hx)
theorem Bytes.drop {l : List Nat} (h : Bytes l) (n : Nat) : Bytes (l.drop n) := fun x hx => h x (List.mem_of_mem_drop hx)
theorem Bytes.append {a b : List Nat} (h : Bytes a) (g : Bytes b) : Bytes (a ++ b) := fun x hx => (List.mem_append.1 hx).elim (h x) (g x)
theorem Bytes.getD {l : List Nat} (h : Bytes l) (i : Nat) : l.getD i 0 < 256 := by
  rw [List.getD_eq_getElem?_getD]
  cases hg : l[i]? with
  | none => simp
  | some x => exact h x (List.mem_of_getElem? hg)
end Go.Pure
set_option linter.unusedSimpArgs false
set_option linter.unusedVariables false
namespace Go.SL
open Go
/-- All that is known stays known. -/
def Hp.ext (h h' : Hp) : Prop := ∀ b o, h b = some o → h' b = some o
theorem Hp.ext.refl (h : Hp) : Hp.ext h h := fun _ _ e => e
theorem Hp.ext.trans {a b c : Hp} (x : Hp.ext a b) (y : Hp.ext b c) : Hp.ext a c := fun i o e => y i o (x i o e)
theorem ext_set {h : Hp} {r : Nat} (o : AObj) (hr : h r = none) : Hp.ext h (h.set r o) := fun i x e => by
  have : i ≠ r := by rintro rfl; rw [hr] at e; cases e
  rw [Hp.set_ne _ _ this]; exact e
theorem Hp.ext.le {h h' : Hp} (x : Hp.ext h h') : Hp.le h h' := fun b o e => ⟨o, x b o e, .refl o⟩
theorem Hp.ext.cle {h h' : Hp} (x : Hp.ext h h') : Hp.cle h h' := fun a v e => by
  unfold Hp.cell at e ⊢
  split at e
  · cases e
  · rename_i hs
    rw [if_neg hs]
    cases hb : h a.block with
    | none => rw [hb] at e; cases e
    | some o => rw [x _ _ hb]; rw [hb] at e; exact e
theorem Hp.ext.none {h h' : Hp} (x : Hp.ext h h') {b : Nat} (e : h' b = none) : h b = none := by
  cases hb : h b with
  | none => rfl
  | some o => rw [x b o hb] at e; cases e
theorem New.ext {h : Hp} {e s : Nat} {v : Value} {h' : Hp} {xs : List Value} {n : Nat} (w : New h e s v h' xs n) : Hp.ext h h' := by
  rcases w.2 with ⟨_, _, rfl⟩ | ⟨b, c, f, hb, _, _, rfl, _⟩
  · exact .refl _
  · exact ext_set _ hb
theorem Nn.ext {h : Hp} {e : Nat} {k : IntKind} {v : Value} {h' : Hp} {l : List Nat} (w : Nn h e k v h' l) : Hp.ext h h' := New.ext w
theorem del_set (h : Hp) {b : Nat} {o : AObj} (e : h b = some o) : (h.del b).set b o = h := by
  funext i
  unfold Hp.set Hp.del
  by_cases hi : i = b
  · subst hi; simp [e]
  · simp [hi]
theorem del_at (h : Hp) (b : Nat) : (h.del b) b = none := by simp [Hp.del]
/-- A row of the call's own that stands somewhere, as a new one. -/
theorem New.at {h : Hp} {b : Nat} {e s n c : Nat} {xs : List Value} {f : Nat × Nat} (hb : h b = some (.row e xs (c * s) (some f))) (hl : xs.length = n * s) (hc : n ≤ c) (hf : ∀ i, i < c * s → ¬ (f.1 ≤ i ∧ i < f.2)) :
    New (h.del b) e s (.slice (some ⟨b, 0, none⟩) n c) h xs n := ⟨hl, .inr ⟨b, c, f, del_at h b, hc, rfl, (del_set h hb).symm, hf⟩⟩
section
variable {P : Program} {h : Hp}
/-! ### Methods -/
/-! ### Maps whose keys are strings -/
/-- The entries, by their keys. -/
def mget (es : List MapEntry) (k : ByteArray) : Option (Nat × Value) :=
  match es with
  | [] => none
  | e :: es => match e.key with
    | .string s => if (k == s) = true then some (0, e.val) else (mget es k).map fun p => (p.1 + 1, p.2)
    | _ => none
def strKeys (es : List MapEntry) : Prop := ∀ e ∈ es, ∃ s, e.key = .string s
theorem findNow_str {es : List MapEntry} (hs : strKeys es) (k : ByteArray) : ∀ i, Instr.findNow .string (.string k) es i = some ((mget es k).map fun p => (p.1 + i, p.2)) := by
  induction es with
  | nil => intro i; rfl
  | cons e es ih =>
    intro i
    obtain ⟨s, he⟩ := hs e (List.mem_cons_self ..)
    have ih := ih (fun x hx => hs x (List.mem_cons_of_mem _ hx)) (i + 1)
    simp only [Instr.findNow, Instr.sameNow, he, mget]
    cases hk : (k == s)
    · simp only [Bool.false_eq_true, if_false, ih, Option.map_map]
      congr 2
      funext p
      simp only [Function.comp]
      congr 1
      omega
    · simp
theorem pk_findKey {t : TypeId} (ht : P.underlying t = some .string) {es : List MapEntry} (hs : strKeys es) (k : ByteArray) : peek P h (Instr.findKey t (.string k) es) = some (mget es k) := by
  show peek P h (Sem.bind (underlying t) _) = _
  rw [peek_bind, pk_und ht, Option.bind_some, findNow_str hs k 0]
  show some ((mget es k).map fun p => (p.1 + 0, p.2)) = _
  congr 1
  cases mget es k <;> rfl
theorem pk_checkKey {t : TypeId} (ht : P.underlying t = some .string) (b : Bool) (k : ByteArray) : peek P h (Instr.checkKey b 10000 t (.string k)) = some () := by
  show peek P h (Sem.bind (underlying t) _) = _
  rw [peek_bind, pk_und ht, Option.bind_some]
  rfl
/-- A key that isn't there yet is put. -/
theorem aw_mapNew {t kt e : TypeId} {r c : Nat} {es : Array MapEntry} {K : Unit → Hp → Prop} (ht : P.underlying t = some (.map kt e)) (hk : P.underlying kt = some .string) (hr : h r = some (.obj (.map es c))) (hs : strKeys es.toList) (k : ByteArray) (v : Value)
    (hn : mget es.toList k = none) (kk : K () (h.set r (.obj (.map (es.push ⟨.string k, v, c⟩) (c + 1))))) : aw P (Instr.mapUpdate t (.map (some r)) (.string k) v) K h := by
  refine aw_of ?_
  show awp P (Sem.bind (underlying t) _) K h
  rw [awp_bind, peek_awp P _ _ _ (pk_und ht)]
  show awp P (Sem.bind (getObj r) _) K h
  have hg : peek P h (getObj r) = some (.map es c) := by
    unfold getObj
    simp only [peek, hr]
  rw [awp_bind, peek_awp P _ _ _ hg]
  show awp P (Sem.bind (Instr.checkKey false 10000 kt (.string k)) _) K h
  rw [awp_bind, peek_awp P _ _ _ (pk_checkKey hk false k)]
  show awp P (Sem.bind (Instr.findKey kt (.string k) es.toList) _) K h
  rw [awp_bind, peek_awp P _ _ _ (pk_findKey hk hs k), hn]
  show awp P (setObj r (.map (es.push ⟨.string k, v, c⟩) (c + 1))) K h
  show (match h r with | some (.obj _) => isCells _ = false ∧ awp P (.pure ()) K _ | _ => False)
  rw [hr]
  exact ⟨rfl, kk⟩
theorem aw_makeMap {t : TypeId} {K : Value → Hp → Prop} (k : ∀ r, h r = none → K (.map (some r)) (h.set r (.obj (.map #[] 0)))) : aw P (Instr.makeMap t none) K h := by
  refine aw_of ?_
  show awp P (Sem.bind (newObj (.map #[] 0)) fun r => Sem.pure (.map (some r))) K h
  rw [awp_bind]
  exact fun r hr => k r hr
theorem mget_push {es : Array MapEntry} (hs : strKeys es.toList) (k k' : ByteArray) (v : Value) (c : Nat) :
    mget (es.push ⟨.string k, v, c⟩).toList k' = (mget es.toList k').or (if (k' == k) = true then some (es.size, v) else none) := by
  have : ∀ l : List MapEntry, strKeys l → mget (l ++ [⟨.string k, v, c⟩]) k' = (mget l k').or (if (k' == k) = true then some (l.length, v) else none) := by
    intro l
    induction l with
    | nil => intro _; simp only [List.nil_append, mget]; split <;> rfl
    | cons e l ih =>
      intro hl
      obtain ⟨s, he⟩ := hl e (List.mem_cons_self ..)
      have ih := ih fun x hx => hl x (List.mem_cons_of_mem _ hx)
      simp only [List.cons_append, mget, he]
      split
      · rfl
      · rw [ih]
        cases mget l k' with
        | none => simp only [Option.none_or, Option.map_none]; split <;> rfl
        | some p => rfl
  simpa using this es.toList hs
theorem strKeys_push {es : Array MapEntry} (hs : strKeys es.toList) (k : ByteArray) (v : Value) (c : Nat) : strKeys (es.push ⟨.string k, v, c⟩).toList := by
  intro e he
  rw [Array.toList_push, List.mem_append, List.mem_singleton] at he
  rcases he with he | rfl
  · exact hs e he
  · exact ⟨k, rfl⟩
/-! ### Copies -/
def putL : List Value → Nat → List Value → List Value
  | xs, _, [] => xs
  | xs, j, y :: ys => putL (xs.set j y) (j + 1) ys
theorem putL_eq : ∀ (ys xs : List Value) (j : Nat), j + ys.length ≤ xs.length → putL xs j ys = xs.take j ++ ys ++ xs.drop (j + ys.length)
  | [], xs, j, _ => by simp [putL]
  | y :: ys, xs, j, h => by
    simp only [List.length_cons] at h
    rw [putL, putL_eq ys _ _ (by rw [List.length_set]; omega), List.take_succ_eq_append_getElem (by rw [List.length_set]; omega), List.getElem_set_self, List.take_set_of_le (Nat.le_refl _), List.drop_set_of_lt (by omega)]
    simp only [List.append_assoc, List.singleton_append, List.cons_append, List.nil_append, List.length_cons]
    rw [show j + 1 + ys.length = j + (ys.length + 1) by omega]
theorem awp_putCells {b e cap : Nat} {f : Nat × Nat} : ∀ (ys xs : List Value) (h : Hp) (K : Unit → Hp → Prop) (o i : Nat), h b = some (.row e xs cap (some f)) → (∀ y ∈ ys, flat y = true) → o + i + ys.length ≤ xs.length →
    (∀ i, i < xs.length → ¬ (f.1 ≤ i ∧ i < f.2)) → K () (h.set b (.row e (putL xs (o + i) ys) cap (some f))) → awp P (storeCells ⟨b, o, none⟩ ys i) K h := by
  intro ys
  induction ys with
  | nil =>
    intro xs h K o i hb _ hl _ k
    have : h.set b (.row e (putL xs (o + i) []) cap (some f)) = h := by
      funext j
      unfold Hp.set
      split
      · rename_i e1; subst e1; rw [hb]; rfl
      · rfl
    rw [this] at k
    exact k
  | cons y ys ih =>
    intro xs h K o i hb hfl hl hf k
    simp only [List.length_cons] at hl
    show awp P (Sem.bind (store ((⟨b, o, none⟩ : Addr).add i) y) fun _ => storeCells ⟨b, o, none⟩ ys (i + 1)) K h
    rw [awp_bind, add_off]
    refine ⟨hfl y (List.mem_cons_self ..), ?_⟩
    rw [put_row hb (by omega) (hf (o + i) (by omega))]
    refine ih (xs.set (o + i) y) _ K o (i + 1) (Hp.set_same ..) (fun z hz => hfl z (List.mem_cons_of_mem _ hz)) (by rw [List.length_set]; omega) (fun j hj => hf j (by rwa [List.length_set] at hj)) ?_
    rw [Hp.set_set]
    exact k
/-- A copy of a part: as much as there is room for. -/
theorem aw_copyMin {t t2 T e b o dl dc n : Nat} {cap : Nat} {f : Nat × Nat} {xs ys : List Value} {w : Value} {K : Value → Hp → Prop} (ht : P.underlying t = some (.slice e)) (hs : sz P e = some 1) (hb : h b = some (.row e xs cap (some f)))
    (hr : Rds h 1 w ys n) (hfl : ∀ y ∈ ys, flat y = true) (hl : o + dl ≤ xs.length) (hf : ∀ i, i < xs.length → ¬ (f.1 ≤ i ∧ i < f.2))
    (k : K (.int .i64 (Nat.min n dl : Nat)) (h.set b (.row e (putL xs o (ys.take dl)) cap (some f)))) : aw P (Builtin.copy_ #[t, t2] T #[.slice (some ⟨b, o, none⟩) dl dc, w]) K h := by
  refine aw_of ?_
  obtain ⟨hyl, wa, wc, rfl, hwc, hwr⟩ := hr
  have hr : Rds h 1 (.slice wa (Nat.min n dl) wc) (ys.take dl) (Nat.min n dl) := by
    refine ⟨by rw [List.length_take, hyl]; simp [Nat.min_comm, Nat.min_def], wa, wc, rfl, Nat.le_trans (Nat.min_le_left _ _) hwc, ?_⟩
    rcases hwr with h0 | ⟨b', o', ha, hy⟩
    · left; subst h0; exact Nat.zero_min _
    · right
      refine ⟨b', o', ha, fun i x ex => ?_⟩
      rw [List.getElem?_take] at ex
      split at ex
      · exact hy i x ex
      · cases ex
  show awp P (Sem.bind (underlying t) _) _ h
  rw [awp_bind, peek_awp P _ _ _ (pk_und ht)]
  show awp P (Sem.bind (sizeOf e) _) _ h
  rw [awp_bind, peek_awp P _ _ _ (pk_size hs)]
  show awp P (Sem.bind (Builtin.firstCells 1 (Nat.min n dl) (.slice wa n wc)) _) _ h
  have e1 : Builtin.firstCells 1 (Nat.min n dl) (.slice wa n wc) = Builtin.firstCells 1 (Nat.min n dl) (.slice wa (Nat.min n dl) wc) := by cases wa <;> rfl
  rw [e1, awp_bind]
  refine awp_firstCells hr ?_
  show awp P (Sem.bind (storeCells ⟨b, o, none⟩ (ys.take dl).toArray.toList 0) _) _ h
  rw [awp_bind]
  exact awp_putCells (ys.take dl) xs h _ o 0 hb (fun y hy => hfl y (List.mem_of_mem_take hy)) (by rw [List.length_take]; omega) hf (by rw [Nat.add_zero]; exact k)
/-! ### Slices of structs -/
/-- A slice's literal of one struct. -/
theorem aw_litA {t e s : Nat} {z : Value} {ys : List Value} {K : Value → Hp → Prop} (ht : P.underlying t = some (.slice e)) (hs : sz P e = some s) (hzr : zr P e = some z) (hz : z.cells.size = s) (hy : ys.length = s) (h0 : 0 < s) (hn : s ≤ 1000)
    (k : ∀ v h', New h e s v h' ys 1 → K v h') : aw P (Instr.buildSlice t 1 #[(0, .agg ys.toArray)]) K h := by
  refine aw_of ?_
  show awp P (Sem.bind (underlying t) _) _ h
  rw [awp_bind, peek_awp P _ _ _ (pk_und ht)]
  show awp P (Sem.bind (sizeOf e) _) _ h
  rw [awp_bind, peek_awp P _ _ _ (pk_size hs)]
  show awp P (if 1 * s > 2 ^ 24 then _ else _) _ h
  rw [if_neg (by omega)]
  show awp P (if 1 * s = 0 then _ else _) _ h
  rw [if_neg (by omega)]
  show awp P (Sem.bind (zeroValue e) _) _ h
  rw [awp_bind, peek_awp P _ _ _ (pk_zero hzr)]
  have hfill : Instr.fill (fun i => some (i * s, s)) ((Array.range (1 * s)).map (fun x => z.cells[x % z.cells.size]!)) [(0, .agg ys.toArray)] = some ys.toArray := by
    simp only [Instr.fill, Value.cells, List.size_toArray, hy, Nat.zero_mul, Nat.zero_add, Array.size_map, Array.size_range, Nat.one_mul]
    rw [if_neg (by simp)]
    congr 1
    have key : ∀ (l : List Value) (j : Nat) (cs : Array Value), j + l.length ≤ cs.size → (l.zipIdx j).foldl (fun cs (p : Value × Nat) => cs.setIfInBounds p.2 p.1) cs = (cs.toList.take j ++ l ++ cs.toList.drop (j + l.length)).toArray := by
      intro l
      induction l with
      | nil => intro j cs _; simp
      | cons y l ih =>
        intro j cs hj
        simp only [List.length_cons] at hj
        rw [List.zipIdx_cons, List.foldl_cons, ih (j + 1) _ (by simp; omega)]
        congr 1
        simp only [Array.toList_setIfInBounds]
        rw [List.take_succ_eq_append_getElem (by rw [List.length_set, Array.length_toList]; omega), List.getElem_set_self, List.take_set_of_le (Nat.le_refl _), List.drop_set_of_lt (by omega)]
        simp only [List.append_assoc, List.singleton_append, List.cons_append, List.nil_append, List.length_cons]
        rw [show j + 1 + l.length = j + (l.length + 1) by omega]
    have := key ys 0 ((Array.range s).map (fun x => z.cells[x % z.cells.size]!)) (by simp [hy])
    have e1 : ys.toArray.zipIdx.foldl (fun cs (p : Value × Nat) => cs.setIfInBounds p.2 p.1) ((Array.range s).map (fun x => z.cells[x % z.cells.size]!)) = (ys.zipIdx 0).foldl (fun cs (p : Value × Nat) => cs.setIfInBounds p.2 p.1) ((Array.range s).map (fun x => z.cells[x % z.cells.size]!)) := by
      simp
    refine e1.trans (this.trans ?_)
    rw [List.take_zero, List.nil_append, Nat.zero_add, List.drop_of_length_le (by simp [hy]), List.append_nil]
  show awp P (match Instr.fill (fun i => some (i * s, s)) ((Array.range (1 * s)).map (fun x => z.cells[x % z.cells.size]!)) [(0, .agg ys.toArray)] with
      | some cells => Sem.bind (newRow e cells) fun a => Sem.pure (.slice (some a) 1 1)
      | _ => stuck "buildSlice: a part of the wrong size") K h
  rw [hfill]
  show awp P (Sem.bind (newRow e _) _) K h
  rw [awp_bind]
  intro r hr
  refine k _ _ ⟨by rw [Nat.one_mul]; exact hy, .inr ⟨r, 1, (0, 0), hr, Nat.le_refl _, rfl, ?_, fun i _ => by simp⟩⟩
  simp [absOf, hy]
end
end Go.SL
set_option linter.unusedSimpArgs false
set_option linter.unusedVariables false
namespace Go.SL
open Go
/-- Shapes: numbers, truths, texts, slices, structs (parts in a row), arrays. -/
inductive Ty where
  | int (k : IntKind)
  | bool
  | str
  | sl (e : Ty)
  | arr (n : Nat) (e : Ty)
  | rcd (fs : Ty)
  | nil
  | cons (a b : Ty)
def Ty.size : Ty → Nat
  | .int _ => 1
  | .bool => 1
  | .str => 1
  | .sl _ => 1
  | .arr n e => n * e.size
  | .rcd fs => fs.size
  | .nil => 0
  | .cons a b => a.size + b.size
/-- Rows of cells, one behind the other, behind a slice. -/
def SlAt (R : Hp) (s : Nat) (v : Value) (items : List (List Value)) : Prop :=
  ∃ a c, v = .slice a items.length c ∧ items.length ≤ c ∧ (items = [] ∨ ∃ b o, a = some ⟨b, o, none⟩ ∧ ∀ (i : Nat) (x : List Value), items[i]? = some x → ∀ (j : Nat) (y : Value), x[j]? = some y → R.cell ⟨b, o + i * s + j, none⟩ = some y)
theorem SlAt.mono {R R' : Hp} {s : Nat} {v : Value} {items : List (List Value)} (a : SlAt R s v items) (c : Hp.cle R R') : SlAt R' s v items := by
  obtain ⟨x, n, h1, h2, h3⟩ := a
  refine ⟨x, n, h1, h2, ?_⟩
  rcases h3 with h3 | ⟨b, o, h4, h5⟩
  · exact .inl h3
  · exact .inr ⟨b, o, h4, fun i x e j y ey => c _ _ (h5 i x e j y ey)⟩
theorem SlAt.shape {R : Hp} {s : Nat} {v : Value} {items : List (List Value)} (a : SlAt R s v items) : ∃ x c, v = .slice x items.length c ∧ items.length ≤ c := let ⟨x, c, e, hc, _⟩ := a; ⟨x, c, e, hc⟩
/-- Cells that are a thing of that shape. -/
def Ty.Rd (R : Hp) : Ty → List Value → Prop
  | .int k, vs => ∃ n, vs = [.int k n] ∧ (Lit.int k n).wf = true
  | .bool, vs => ∃ b, vs = [.bool b]
  | .str, vs => ∃ s : ByteArray, vs = [.string s] ∧ s.size ≤ 9223372036854775807
  | .sl e, vs => ∃ (v : Value) (items : List (List Value)), vs = [v] ∧ SlAt R e.size v items ∧ items.length ≤ 9223372036854775807 ∧ ∀ x ∈ items, x.length = e.size ∧ e.Rd R x
  | .arr n e, vs => ∃ items : List (List Value), vs = items.flatten ∧ items.length = n ∧ ∀ x ∈ items, x.length = e.size ∧ e.Rd R x
  | .rcd fs, vs => fs.Rd R vs
  | .nil, vs => vs = []
  | .cons a b, vs => ∃ x y, vs = x ++ y ∧ x.length = a.size ∧ a.Rd R x ∧ b.Rd R y
theorem Ty.Rd.mono {R R' : Hp} (c : Hp.cle R R') : ∀ {ty : Ty} {vs : List Value}, ty.Rd R vs → ty.Rd R' vs
  | .int _, _, h => h
  | .bool, _, h => h
  | .str, _, h => h
  | .sl _, _, ⟨v, items, e, a, hl, h⟩ => ⟨v, items, e, a.mono c, hl, fun x hx => ⟨(h x hx).1, Ty.Rd.mono c (h x hx).2⟩⟩
  | .arr _ _, _, ⟨items, e, l, h⟩ => ⟨items, e, l, fun x hx => ⟨(h x hx).1, Ty.Rd.mono c (h x hx).2⟩⟩
  | .rcd fs, _, h => Ty.Rd.mono (ty := fs) c h
  | .nil, _, h => h
  | .cons _ _, _, ⟨x, y, e, l, h1, h2⟩ => ⟨x, y, e, l, Ty.Rd.mono c h1, Ty.Rd.mono c h2⟩
theorem flatten_len {s : Nat} : ∀ {items : List (List Value)}, (∀ x ∈ items, x.length = s) → items.flatten.length = items.length * s
  | [], _ => by simp
  | x :: l, h => by
    rw [List.flatten_cons, List.length_append, flatten_len fun y hy => h y (List.mem_cons_of_mem _ hy), h x (by simp), List.length_cons, Nat.succ_mul, Nat.add_comm]
theorem Ty.Rd.len {R : Hp} : ∀ {ty : Ty} {vs : List Value}, ty.Rd R vs → vs.length = ty.size
  | .int _, _, ⟨_, e, _⟩ => by rw [e]; rfl
  | .bool, _, ⟨_, e⟩ => by rw [e]; rfl
  | .str, _, ⟨_, e, _⟩ => by rw [e]; rfl
  | .sl _, _, ⟨_, _, e, _⟩ => by rw [e]; rfl
  | .arr n e, _, ⟨items, h1, h2, h3⟩ => by rw [h1, flatten_len fun x hx => (h3 x hx).1, h2]; rfl
  | .rcd fs, _, h => Ty.Rd.len (ty := fs) h
  | .nil, _, h => by rw [show _ = [] from h]; rfl
  | .cons a b, _, ⟨x, y, e, l, _, h2⟩ => by rw [e, List.length_append, l, Ty.Rd.len h2]; rfl
theorem Ty.Rd.flat {R : Hp} : ∀ {ty : Ty} {vs : List Value}, ty.Rd R vs → ∀ y ∈ vs, SL.flat y = true
  | .int _, _, ⟨_, e, _⟩, y, hy => by rw [e, List.mem_singleton] at hy; rw [hy]; rfl
  | .bool, _, ⟨_, e⟩, y, hy => by rw [e, List.mem_singleton] at hy; rw [hy]; rfl
  | .str, _, ⟨_, e, _⟩, y, hy => by rw [e, List.mem_singleton] at hy; rw [hy]; rfl
  | .sl _, _, ⟨_, _, e, a, _⟩, y, hy => by obtain ⟨_, _, ev, _⟩ := a; rw [e, List.mem_singleton] at hy; rw [hy, ev]; rfl
  | .arr n e, _, ⟨items, h1, h2, h3⟩, y, hy => by
    rw [h1] at hy
    obtain ⟨x, hx, hy⟩ := List.mem_flatten.1 hy
    exact Ty.Rd.flat (h3 x hx).2 y hy
  | .rcd fs, _, h, y, hy => Ty.Rd.flat (ty := fs) h y hy
  | .nil, _, h, y, hy => by rw [show _ = [] from h] at hy; cases hy
  | .cons a b, _, ⟨x, z, e, l, h1, h2⟩, y, hy => by
    rw [e] at hy
    rcases List.mem_append.1 hy with q | q
    · exact Ty.Rd.flat h1 y q
    · exact Ty.Rd.flat h2 y q
/-- Bytes. -/
abbrev Ty.bytes : Ty := .sl (.int .u8)
/-- A struct's first part, and the others. -/
theorem Ty.Rd.one {R : Hp} {a b : Ty} {vs : List Value} (h1 : a.size = 1) (h : (Ty.cons a b).Rd R vs) : ∃ v rest, vs = v :: rest ∧ a.Rd R [v] ∧ b.Rd R rest := by
  obtain ⟨x, y, rfl, l, ha, hb⟩ := h
  rw [h1] at l
  match x, l with
  | [v], _ => exact ⟨v, y, rfl, ha, hb⟩
section
variable {P : Program} {h : Hp}
/-- A thing out of a row is copied into a row of its own. -/
theorem aw_itemAt {R : Hp} {t e s : Nat} {v : Value} {items : List (List Value)} {i : Nat} {x zs : List Value} {d : TypeDesc} {F : Value → Hp → Prop} (ht : P.underlying t = some (.slice e)) (hs : sz P e = some s) (hd : P.underlying e = some d) (hg : aggB d = true)
    (hz : zr P e = some (.agg zs.toArray)) (lz : zs.length = s) (A : SlAt R s v items) (c : Hp.cle R h) (hi : items[i]? = some x) (lx : x.length = s) (fx : ∀ y ∈ x, flat y = true)
    (k : ∀ r, h r = none → F (.pointer (some ⟨r, 0, none⟩)) (h.set r (.row e x s (some (0, 0))))) :
    q P h (Instr.indexAt t v (.int .i64 (i : Int))) fun t31 => q P h (Instr.loadAt e t31) fun t32 => aw P (Instr.alloc e true (.tuple #[])) (fun t8 h => aw P (Instr.storeAt e t8 t32) (fun _ h => F t8 h) h) h := by
  obtain ⟨a, cc, rfl, hc, hA⟩ := A
  have hlt : i < items.length := (List.getElem?_eq_some_iff.1 hi).1
  rcases hA with h0 | ⟨b, o, rfl, hcl⟩
  · rw [h0] at hlt; cases hlt
  rw [q_idxS ht hs ⟨b, o, none⟩ items.length cc .i64 i (by omega) (by omega), Int.toNat_natCast, add_off]
  rw [q_ldAgg (ys := x) hd hg (by rw [lx]; exact hs) (b := b) (o := o + i * s) (fun j y e => c _ _ (hcl i x hi j y e))]
  refine aw_allocL zs hz rfl fun r hr => ?_
  refine aw_storeRow (ys := x) (by rw [lx]; exact hs) (Hp.set_same ..) (by rw [lz, lx]) fx (fun i _ => by simp) ?_
  rw [Hp.set_set, lz]
  exact k r hr
end
end Go.SL
set_option linter.unusedSimpArgs false
set_option linter.unusedVariables false
set_option maxRecDepth 100000
set_option maxHeartbeats 1000000
namespace Go.SL
open Go
section
variable {P : Program}
theorem lt_dec (i n : Nat) : decide ((i : Int) < (n : Int)) = decide (i < n) := by
  rw [decide_eq_decide]; omega
theorem ext0 {h : Hp} {K : Value → Prop} (a b : Value) : q P h (Instr.extract (.tuple #[a, b]) 0) K = K a := q_ext #[a, b] 0 a rfl
theorem ext1 {h : Hp} {K : Value → Prop} (a b : Value) : q P h (Instr.extract (.tuple #[a, b]) 1) K = K b := q_ext #[a, b] 1 b rfl
def strL (l : List Nat) : ByteArray := l.foldl (fun s x => s.push (UInt8.ofNat x)) ByteArray.empty
/-- What is to be read (R) is known, what is owned (S) is known and not among it. -/
structure Own (R h : Hp) (S : List Nat) : Prop where
  sub : Hp.ext R h
  dis : ∀ b, b ∈ S → R b = none
  kn : ∀ b, b ∈ S → ∃ o, h b = some o
/-- A step: what is to be read (R) grows, what is owned (S) changes, all else that is known (h) stays. -/
structure Stp (R h R' h' : Hp) (S S' : List Nat) : Prop where
  ext : Hp.ext R R'
  keep : ∀ b o, b ∉ S → h b = some o → h' b = some o
  frS : ∀ b o, b ∉ S → h b = some o → b ∉ S'
  frR : ∀ b o, b ∉ S → h b = some o → R b = none → R' b = none
  own : Own R' h' S'
theorem Stp.refl {R h : Hp} {S : List Nat} (w : Own R h S) : Stp R h R h S S := ⟨.refl _, fun _ _ _ e => e, fun _ _ n _ => n, fun _ _ _ _ e => e, w⟩
theorem Stp.trans {R h R1 h1 R2 h2 : Hp} {S S1 S2 : List Nat} (a : Stp R h R1 h1 S S1) (b : Stp R1 h1 R2 h2 S1 S2) : Stp R h R2 h2 S S2 where
  ext := a.ext.trans b.ext
  own := b.own
  keep := fun x o n e => b.keep x o (a.frS x o n e) (a.keep x o n e)
  frS := fun x o n e => b.frS x o (a.frS x o n e) (a.keep x o n e)
  frR := fun x o n e r => b.frR x o (a.frS x o n e) (a.keep x o n e) (a.frR x o n e r)
/-- What is owned beside stays so. -/
theorem Stp.frame {R h R' h' : Hp} {S S' S2 : List Nat} (a : Stp R h R' h' S S') (w : Own R h S2) (n : ∀ b, b ∈ S2 → b ∉ S) : Own R' h' S2 ∧ (∀ b, b ∈ S2 → b ∉ S') ∧ ∀ b, b ∈ S2 → h' b = h b := by
  refine ⟨⟨a.own.sub, fun b hb => ?_, fun b hb => ?_⟩, fun b hb => ?_, fun b hb => ?_⟩ <;> obtain ⟨o, e⟩ := w.kn b hb
  · exact a.frR b o (n b hb) e (w.dis b hb)
  · exact ⟨o, a.keep b o (n b hb) e⟩
  · exact a.frS b o (n b hb) e
  · rw [e]; exact a.keep b o (n b hb) e
/-- A step, with what is owned beside. -/
theorem Stp.wide {R h R' h' : Hp} {S S' S2 : List Nat} (a : Stp R h R' h' S S') (w : Own R h S2) (n : ∀ b, b ∈ S2 → b ∉ S) : Stp R h R' h' (S ++ S2) (S' ++ S2) where
  ext := a.ext
  keep := fun b o hn e => a.keep b o (fun q => hn (List.mem_append_left _ q)) e
  frS := fun b o hn e q => (List.mem_append.1 q).elim (a.frS b o (fun q => hn (List.mem_append_left _ q)) e) (fun q => hn (List.mem_append_right _ q))
  frR := fun b o hn e r => a.frR b o (fun q => hn (List.mem_append_left _ q)) e r
  own := by
    obtain ⟨w2, _, _⟩ := a.frame w n
    exact ⟨w2.sub, fun b hb => (List.mem_append.1 hb).elim (a.own.dis b) (w2.dis b), fun b hb => (List.mem_append.1 hb).elim (a.own.kn b) (w2.kn b)⟩
theorem Own.nil {R h : Hp} {S : List Nat} (w : Own R h S) : Own R h [] := ⟨w.sub, fun b hb => (by cases hb), fun b hb => (by cases hb)⟩
/-- A step that only makes what is to be read: a block. -/
theorem Stp.block {R h : Hp} {S : List Nat} {r : Nat} (o : AObj) (w : Own R h S) (hr : h r = none) : Stp R h (R.set r o) (h.set r o) S S := by
  have hRb : R r = none := w.sub.none hr
  refine ⟨ext_set _ hRb, fun x o' hn e => ?_, fun x o' hn e => hn, fun x o' hn e r' => ?_, ⟨fun x o' e => ?_, fun x hx => ?_, fun x hx => ?_⟩⟩
  · rw [Hp.set_ne _ _ (by rintro rfl; rw [hr] at e; cases e)]; exact e
  · rw [Hp.set_ne _ _ (by rintro rfl; rw [hr] at e; cases e)]; exact r'
  · by_cases q : x = r
    · subst q; rw [Hp.set_same] at e ⊢; exact e
    · rw [Hp.set_ne _ _ q] at e ⊢; exact w.sub x o' e
  · rw [Hp.set_ne _ _ (by rintro rfl; obtain ⟨o2, e⟩ := w.kn x hx; rw [hr] at e; cases e)]; exact w.dis x hx
  · obtain ⟨o2, e⟩ := w.kn x hx
    exact ⟨o2, by rw [Hp.set_ne _ _ (by rintro rfl; rw [hr] at e; cases e)]; exact e⟩
/-- A new row, to be read. -/
theorem Stp.new {R h : Hp} {S : List Nat} {t s n : Nat} {v : Value} {h' : Hp} {xs : List Value} (w : Own R h S) (nw : New h t s v h' xs n) : ∃ R', Stp R h R' h' S S ∧ Rds R' s v xs n := by
  rcases nw.2 with ⟨rfl, rfl, rfl⟩ | ⟨b, c, f, hb, hc, rfl, rfl, hf⟩
  · exact ⟨R, .refl w, nw.1, none, 0, rfl, Nat.le_refl _, .inl rfl⟩
  · exact ⟨_, Stp.block _ w hb, nw.1, _, c, rfl, hc, .inr ⟨b, 0, rfl, fun i x e => by rw [cell_row (Hp.set_same ..), Nat.zero_add]; exact e⟩⟩
theorem Own.rn {R h : Hp} {S : List Nat} {k : IntKind} {v : Value} {l : List Nat} (w : Own R h S) (r : Rn R k v l) : Rn h k v l := r.mono w.sub.cle
/-- A row of the call's own that may be appended to, or nil; the block that it lies in. -/
def OutAt (t s : Nat) (h : Hp) (v : Value) (xs : List Value) (n : Nat) (So : List Nat) : Prop :=
  (v = .slice none 0 0 ∧ n = 0 ∧ xs = [] ∧ So = []) ∨
  ∃ b c f, h b = some (.row t xs (c * s) (some f)) ∧ v = .slice (some ⟨b, 0, none⟩) n c ∧ n ≤ c ∧ (∀ i, i < c * s → ¬ (f.1 ≤ i ∧ i < f.2)) ∧ So = [b] ∧ xs.length = n * s
theorem OutAt.of {t s : Nat} {h h' : Hp} {v : Value} {xs : List Value} {n : Nat} (w : New h t s v h' xs n) : ∃ So, OutAt t s h' v xs n So ∧ (∀ x, x ∈ So → h x = none) := by
  rcases w.2 with ⟨rfl, rfl, rfl⟩ | ⟨b, c, f, hb, hc, rfl, rfl, hf⟩
  · exact ⟨[], .inl ⟨rfl, rfl, List.eq_nil_of_length_eq_zero (by have := w.1; omega), rfl⟩, fun x hx => by cases hx⟩
  · exact ⟨[b], .inr ⟨b, c, f, Hp.set_same .., rfl, hc, hf, rfl, w.1⟩, fun x hx => by rw [List.mem_singleton.1 hx]; exact hb⟩
theorem OutAt.new {t s : Nat} {h : Hp} {v : Value} {xs : List Value} {n : Nat} {So : List Nat} (a : OutAt t s h v xs n So) : ∃ X, New X t s v h xs n ∧ (∀ x, x ∉ So → X x = h x) ∧ (∀ x, x ∈ So → X x = none) := by
  rcases a with ⟨rfl, rfl, rfl, rfl⟩ | ⟨b, c, f, hb, rfl, hc, hf, rfl, hl⟩
  · exact ⟨h, ⟨by simp, .inl ⟨rfl, rfl, rfl⟩⟩, fun _ _ => rfl, fun x hx => by cases hx⟩
  · refine ⟨h.del b, New.at hb hl hc hf, fun x hx => Hp.del_ne _ (by simpa using hx), fun x hx => by rw [List.mem_singleton.1 hx]; exact del_at _ _⟩
theorem OutAt.keep {t s : Nat} {h h' : Hp} {v : Value} {xs : List Value} {n : Nat} {So : List Nat} (a : OutAt t s h v xs n So) (k : ∀ x, x ∈ So → h' x = h x) : OutAt t s h' v xs n So := by
  rcases a with a | ⟨b, c, f, hb, hv, hc, hf, hS, hl⟩
  · exact .inl a
  · exact .inr ⟨b, c, f, by rw [k b (by simp [hS])]; exact hb, hv, hc, hf, hS, hl⟩
theorem OutAt.rds {t s : Nat} {h : Hp} {v : Value} {xs : List Value} {n : Nat} {So : List Nat} (a : OutAt t s h v xs n So) : Rds h s v xs n := by
  obtain ⟨X, w, _⟩ := a.new
  exact w.rds
theorem aw_appendO {t2 T ts e e2 s B n m : Nat} {h : Hp} {v w : Value} {xs ys : List Value} {z : Value} {So : List Nat} {K : Value → Hp → Prop}
    (ht : P.underlying ts = some (.slice e)) (ht2 : P.underlying t2 = some (.slice e2)) (hi : (P.info? e).map (fun i => (i.zero, i.size, i.bytes)) = some (some z, s, B)) (hzs : z.cells.size = s) (hB1 : 1 ≤ B) (ho : OutAt e s h v xs n So) (hr : Rds h s w ys m) (hfl : ∀ y ∈ ys, flat y = true)
    (hB : (2 * (n + m) + 768) * B ≤ 2 ^ 48)
    (k : ∀ v' h' So', OutAt e s h' v' (xs ++ ys) (n + m) So' → (∀ x o, x ∉ So → h x = some o → h' x = some o) → (∀ x o, x ∉ So → h x = some o → x ∉ So') → K v' h') : aw P (Builtin.append_ #[ts, t2] T #[v, w]) K h := by
  obtain ⟨X, nX, X1, X2⟩ := ho.new
  refine aw_append ht ht2 hi hzs hB1 nX hr hfl hB (.refl _) fun v' h' n' => ?_
  obtain ⟨So', o', f'⟩ := OutAt.of n'
  refine k v' h' So' o' (fun x o hx e => ?_) (fun x o hx e q => ?_)
  · exact n'.ext _ _ (by rw [X1 x hx]; exact e)
  · have := f' x q
    rw [X1 x hx, e] at this
    cases this
/-- A step that only makes blocks that nobody asks for. -/
theorem Stp.ext0 {R h : Hp} {S : List Nat} {h' : Hp} (w : Own R h S) (x : Hp.ext h h') : Stp R h R h' S S :=
  ⟨.refl _, fun y oy _ ey => x y oy ey, fun y oy n _ => n, fun y oy _ _ r => r, ⟨fun y oy ey => x y oy (w.sub y oy ey), w.dis, fun y hy => let ⟨oy, ey⟩ := w.kn y hy; ⟨oy, x y oy ey⟩⟩⟩
theorem Own.sub' {R h : Hp} {S T : List Nat} (w : Own R h S) (m : ∀ x, x ∈ T → x ∈ S) : Own R h T := ⟨w.sub, fun b hb => w.dis b (m b hb), fun b hb => w.kn b (m b hb)⟩
theorem Own.app {R h : Hp} {S T : List Nat} (w : Own R h S) (v : Own R h T) : Own R h (S ++ T) := ⟨w.sub, fun b hb => (List.mem_append.1 hb).elim (w.dis b) (v.dis b), fun b hb => (List.mem_append.1 hb).elim (w.kn b) (v.kn b)⟩
/-- Less is owned behind a step. -/
theorem Stp.drop {R h R' h' : Hp} {S S' T' : List Nat} (a : Stp R h R' h' S S') (m : ∀ x, x ∈ T' → x ∈ S') : Stp R h R' h' S T' :=
  ⟨a.ext, a.keep, fun b o n e q => a.frS b o n e (m b q), a.frR, a.own.sub' m⟩
/-- A row that was owned is to be read from now on. -/
theorem Stp.fix {R h R' h' : Hp} {S S' T' : List Nat} {b : Nat} {o : AObj} (a : Stp R h R' h' S S') (hb : b ∈ S') (e : h' b = some o) (m : ∀ x, x ∈ T' → x ∈ S' ∧ x ≠ b) : Stp R h (R'.set b o) h' S T' := by
  have hR := a.own.dis b hb
  refine ⟨a.ext.trans (ext_set _ hR), a.keep, fun x ox n e q => a.frS x ox n e (m x q).1, fun x ox n ex r => ?_, ⟨fun x ox ex => ?_, fun x hx => ?_, fun x hx => a.own.kn x (m x hx).1⟩⟩
  · have := a.frS x ox n ex
    rw [Hp.set_ne _ _ (by rintro rfl; exact this hb)]
    exact a.frR x ox n ex r
  · by_cases q : x = b
    · subst q; rw [Hp.set_same] at ex; rw [← ex]; exact e
    · rw [Hp.set_ne _ _ q] at ex; exact a.own.sub x ox ex
  · rw [Hp.set_ne _ _ (m x hx).2]; exact a.own.dis x (m x hx).1
/-- A row that grows is owned. -/
theorem OutAt.step {t s n' : Nat} {R h h' : Hp} {v' : Value} {xs' : List Value} {So So' : List Nat} (w : Own R h So) (o' : OutAt t s h' v' xs' n' So') (kp : ∀ x o, x ∉ So → h x = some o → h' x = some o) (fr : ∀ x o, x ∉ So → h x = some o → x ∉ So') :
    Stp R h R h' So So' := by
  refine ⟨.refl _, kp, fr, fun x o _ _ r => r, ⟨fun x o e => ?_, fun x hx => ?_, fun x hx => ?_⟩⟩
  · refine kp x o (fun hx => ?_) (w.sub x o e)
    rw [w.dis x hx] at e; cases e
  · cases e : R x with
    | none => rfl
    | some o =>
      refine absurd hx (fr x o (fun hx => ?_) (w.sub x o e))
      rw [w.dis x hx] at e; cases e
  · rcases o' with ⟨_, _, _, rfl⟩ | ⟨b, c, f, hb, _, _, _, rfl, _⟩
    · cases hx
    · rw [List.mem_singleton.1 hx]; exact ⟨_, hb⟩
theorem pk_q {h : Hp} {m : Sem Value} {v : Value} (e : ∀ K : Value → Prop, q P h m K = K v) : peek P h m = some v := by
  obtain ⟨x, hx, e2⟩ := withVal_elim (K := fun x => x = v) ((e fun x => x = v).mpr rfl)
  rw [e2] at hx
  exact hx
/-- What was made since is owned, too. -/
theorem Stp.gain {R h R' h' : Hp} {S S' T : List Nat} (a : Stp R h R' h' S S') (w : Own R' h' T) (fr : ∀ x, x ∈ T → h x = none) : Stp R h R' h' S (S' ++ T) :=
  ⟨a.ext, a.keep, fun b o n e q => (List.mem_append.1 q).elim (a.frS b o n e) (fun q => by rw [fr b q] at e; cases e), a.frR, a.own.app w⟩
/-- A block of the call's own is made, to be owned. -/
theorem Own.mk1 {R h : Hp} {S : List Nat} {r : Nat} (o : AObj) (w : Own R h S) (hr : h r = none) : Own R (h.set r o) [r] ∧ Own R (h.set r o) S ∧ (∀ b, b ∈ S → b ∉ [r]) ∧ ∀ b, b ∈ S → (h.set r o) b = h b := by
  have hn : ∀ b, b ∈ S → b ≠ r := fun b hb q => by
    obtain ⟨x, e⟩ := w.kn b hb
    rw [q, hr] at e; cases e
  refine ⟨⟨w.sub.trans (ext_set _ hr), fun b hb => ?_, fun b hb => ?_⟩, ⟨w.sub.trans (ext_set _ hr), w.dis, fun b hb => ?_⟩, fun b hb q => hn b hb (List.mem_singleton.1 q), fun b hb => Hp.set_ne _ _ (hn b hb)⟩
  · rw [List.mem_singleton.1 hb]; exact w.sub.none hr
  · rw [List.mem_singleton.1 hb]; exact ⟨_, Hp.set_same ..⟩
  · rw [Hp.set_ne _ _ (hn b hb)]; exact w.kn b hb
theorem Hp.set_id {h : Hp} {b : Nat} {o : AObj} (e : h b = some o) : h.set b o = h := by
  funext i
  by_cases q : i = b
  · subst q; rw [Hp.set_same, e]
  · rw [Hp.set_ne _ _ q]
end
end Go.SL
set_option linter.unusedSimpArgs false
namespace Go.Pure
def W32 (l : List Nat) : Prop := ∀ x ∈ l, x < 4294967296
theorem W32.getD {l : List Nat} (h : W32 l) (i : Nat) : l.getD i 0 < 4294967296 := by
  rw [List.getD_eq_getElem?_getD]
  cases hg : l[i]? with
  | none => simp
  | some x => exact h x (List.mem_of_getElem? hg)
theorem W32.set {l : List Nat} (h : W32 l) (i : Nat) {x : Nat} (hx : x < 4294967296) : W32 (l.set i x) := by
  intro y hy
  rcases List.mem_or_eq_of_mem_set hy with q | rfl
  · exact h y q
  · exact hx
theorem W32.append {a b : List Nat} (h : W32 a) (g : W32 b) : W32 (a ++ b) := fun x hx => (List.mem_append.1 hx).elim (h x) (g x)
end Go.Pure
namespace Go.Pure
abbrev W : Nat := 18446744073709551616
def W64 (l : List Nat) : Prop := ∀ x ∈ l, x < 18446744073709551616
theorem W64.getD {l : List Nat} (h : W64 l) (i : Nat) : l.getD i 0 < 18446744073709551616 := by
  rw [List.getD_eq_getElem?_getD]
  cases hg : l[i]? with
  | none => simp
  | some x => exact h x (List.mem_of_getElem? hg)
theorem W64.set {l : List Nat} (h : W64 l) (i : Nat) {x : Nat} (hx : x < 18446744073709551616) : W64 (l.set i x) := fun y hy => by
  rcases List.mem_or_eq_of_mem_set hy with q | rfl
  · exact h y q
  · exact hx
theorem Bytes.set {l : List Nat} (h : Bytes l) (i : Nat) {x : Nat} (hx : x < 256) : Bytes (l.set i x) := fun y hy => by
  rcases List.mem_or_eq_of_mem_set hy with q | rfl
  · exact h y q
  · exact hx
end Go.Pure
set_option linter.unusedSimpArgs false
set_option linter.unusedVariables false
set_option maxRecDepth 100000
namespace Go.Proofs.YtolcmaipjpkidaaGreatDoor
open Go Go.SL Go.Pure
section
variable {h : Hp} {K : Value → Hp → Prop}
/-- One of one byte. -/
theorem aw_lit1 (x : Nat) (k : ∀ v h', Nn h t_uint8 .u8 v h' [x] → K v h') : aw P (Instr.buildSlice t_Sl_uint8 1 #[(0, .int .u8 (x : Int))]) K h :=
  aw_lit (ps := [(0, _)]) u_Sl_uint8 z_uint8 zr_uint8 rfl (by omega) (by intro p hp; rw [List.mem_singleton.1 hp]; exact ⟨rfl, by omega⟩) fun v h' n _ => k v h' n
/-- Appended to: a row that was made just ahead, and is forgotten. -/
theorem aw_appF {base h1 : Hp} {v w : Value} {xs ys : List Nat} (n : Nn base t_uint8 .u8 v h1 xs) (r : Nn h1 t_uint8 .u8 w h ys) (l : xs.length + ys.length ≤ 70368744177664) (k : ∀ v' h', Nn base t_uint8 .u8 v' h' (xs ++ ys) → K v' h') :
    aw P (Builtin.append_ #[t_Sl_uint8, t_Sl_uint8] t_Sl_uint8 #[v, w]) K h :=
  aw_appendN u_Sl_uint8 u_Sl_uint8 nfo_uint8 rfl (by omega) n r (nv_flat _ _) (by omega) fun v' h' n' => k v' h' (by
    show New base t_uint8 1 v' h' (nv .u8 (xs ++ ys)) (xs ++ ys).length
    rw [nv_app, List.length_append]
    exact n')
/-- A byte is appended to a row that grows. -/
theorem aw_app1O {v : Value} {xs : List Nat} {S : List Nat} (x : Nat) (o : OutAt t_uint8 1 h v (nv .u8 xs) xs.length S) (l : xs.length ≤ 70368744177663)
    (k : ∀ v' h' S', OutAt t_uint8 1 h' v' (nv .u8 (xs ++ [x])) (xs ++ [x]).length S' → (∀ b o, b ∉ S → h b = some o → h' b = some o) → (∀ b o, b ∉ S → h b = some o → b ∉ S') → K v' h') :
    aw P (Instr.buildSlice t_Sl_uint8 1 #[(0, .int .u8 (x : Int))]) (fun t h => aw P (Builtin.append_ #[t_Sl_uint8, t_Sl_uint8] t_Sl_uint8 #[v, t]) (fun w h => K w h) h) h := by
  refine aw_lit1 x fun w h1 n1 => ?_
  have e1 := n1.ext
  have o1 : OutAt t_uint8 1 h1 v (nv .u8 xs) xs.length S := o.keep fun b hb => by
    rcases o with ⟨_, _, _, rfl⟩ | ⟨b', c, f, hb', _, _, _, rfl, _⟩
    · cases hb
    · rw [List.mem_singleton.1 hb, hb', e1 _ _ hb']
  refine aw_appendO u_Sl_uint8 u_Sl_uint8 nfo_uint8 rfl (by omega) o1 n1.rn (nv_flat _ _) (by simp; omega) fun v' h' S' o' kp fr => ?_
  refine k v' h' S' ?_ (fun b o nb e => kp b o nb (e1 _ _ e)) fun b o nb e => fr b o nb (e1 _ _ e)
  rw [nv_app, List.length_append]
  exact o'
theorem aw_appO {v w : Value} {xs ys : List Nat} {S : List Nat} (o : OutAt t_uint8 1 h v (nv .u8 xs) xs.length S) (r : Rn h .u8 w ys) (l : xs.length + ys.length ≤ 70368744177664)
    (k : ∀ v' h' S', OutAt t_uint8 1 h' v' (nv .u8 (xs ++ ys)) (xs ++ ys).length S' → (∀ b o, b ∉ S → h b = some o → h' b = some o) → (∀ b o, b ∉ S → h b = some o → b ∉ S') → K v' h') :
    aw P (Builtin.append_ #[t_Sl_uint8, t_Sl_uint8] t_Sl_uint8 #[v, w]) K h :=
  aw_appendO u_Sl_uint8 u_Sl_uint8 nfo_uint8 rfl (by omega) o r (nv_flat _ _) (by omega) fun v' h' S' o' kp fr => k v' h' S' (by rw [nv_app, List.length_append]; exact o') kp fr
theorem out_rn {v : Value} {xs : List Nat} {S : List Nat} (o : OutAt t_uint8 1 h v (nv .u8 xs) xs.length S) : Rn h .u8 v xs := OutAt.rds o
theorem outNil : OutAt t_uint8 1 h (.slice none 0 0) (nv .u8 []) ([] : List Nat).length [] := .inl ⟨rfl, rfl, rfl, rfl⟩
/-- A base that stays, while a row beside it grows. -/
def Bs (base h : Hp) (S : List Nat) : Prop := Hp.ext base h ∧ ∀ b, b ∈ S → base b = none
theorem Bs.step {base h h' : Hp} {S S' : List Nat} (a : Bs base h S) (kp : ∀ b o, b ∉ S → h b = some o → h' b = some o) (fr : ∀ b o, b ∉ S → h b = some o → b ∉ S') : Bs base h' S' := by
  refine ⟨fun b o e => kp b o (fun hb => ?_) (a.1 _ _ e), fun b hb => ?_⟩
  · rw [a.2 b hb] at e; cases e
  · cases e : base b with
    | none => rfl
    | some o => exact absurd hb (fr b o (fun hs => by rw [a.2 b hs] at e; cases e) (a.1 _ _ e))
theorem Bs.ext {base h h' : Hp} {S : List Nat} (a : Bs base h S) (x : Hp.ext h h') : Bs base h' S := ⟨a.1.trans x, a.2⟩
theorem out_grown {h' : Hp} {v : Value} {xs : List Value} {n : Nat} {S : List Nat} (o : OutAt t_uint8 1 h v xs n S) (x : Hp.ext h h') : OutAt t_uint8 1 h' v xs n S := by
  rcases o with ⟨rfl, rfl, rfl, rfl⟩ | ⟨b', c, f, hb', rfl, a1, a2, rfl, a3⟩
  · exact .inl ⟨rfl, rfl, rfl, rfl⟩
  · exact .inr ⟨b', c, f, x _ _ hb', rfl, a1, a2, rfl, a3⟩
end
end Go.Proofs.YtolcmaipjpkidaaGreatDoor
set_option linter.unusedSimpArgs false
set_option linter.unusedVariables false
namespace Go.SL
open Go
theorem ba_beq (a b : ByteArray) : (a == b) = decide (a = b) := by
  obtain ⟨a⟩ := a
  obtain ⟨b⟩ := b
  show (a == b) = _
  rw [Bool.eq_iff_iff, beq_iff_eq, decide_eq_true_eq]
  exact ⟨fun h => by rw [h], fun h => by injection h⟩
/-- What stands behind a key. -/
def mval (es : List MapEntry) (k : ByteArray) : Option Value := (mget es k).map (·.2)
theorem mval_push {es : Array MapEntry} (hs : strKeys es.toList) {k : ByteArray} (n : mget es.toList k = none) (v : Value) (c : Nat) (x : ByteArray) : mval (es.push ⟨.string k, v, c⟩).toList x = if x = k then some v else mval es.toList x := by
  unfold mval
  rw [mget_push hs]
  by_cases q : x = k
  · subst q
    rw [n, if_pos (by rw [ba_beq, decide_eq_true_eq]), if_pos rfl]
    rfl
  · rw [if_neg (by rw [ba_beq, decide_eq_true_eq]; exact q), if_neg q]
    cases mget es.toList x <;> rfl
section
variable {P : Program} {h : Hp}
end
end Go.SL
set_option linter.unusedSimpArgs false
set_option linter.unusedVariables false
set_option maxRecDepth 100000
namespace Go.SL
open Go
theorem baToList (s : ByteArray) : s.toList = s.data.toList := by
  have key : ∀ (n i : Nat) (r : List UInt8), s.size - i = n → i ≤ s.size → ByteArray.toList.loop s i r = r.reverse ++ s.data.toList.drop i := by
    intro n
    induction n with
    | zero =>
      intro i r h h2
      rw [ByteArray.toList.loop.eq_def, if_neg (by omega), List.drop_of_length_le (by rw [Array.length_toList]; show s.size ≤ i; omega)]
      simp
    | succ n ih =>
      intro i r h h2
      have hlt : i < s.data.toList.length := by rw [Array.length_toList]; show i < s.size; omega
      rw [ByteArray.toList.loop.eq_def, if_pos (by omega), ih (i + 1) _ (by omega) (by omega), List.drop_eq_getElem_cons hlt]
      have : s.get! i = s.data.toList[i] := by
        show s.data[i]! = _
        rw [getElem!_pos s.data i (by show i < s.size; omega)]
        simp
      rw [this]
      simp
  have := key s.size 0 [] (by omega) (by omega)
  show ByteArray.toList.loop s 0 [] = _
  rw [this]
  simp
theorem strL_data (l : List Nat) : (strL l).data.toList = l.map UInt8.ofNat := by
  have key : ∀ (l : List Nat) (s : ByteArray), (l.foldl (fun s x => s.push (UInt8.ofNat x)) s).data.toList = s.data.toList ++ l.map UInt8.ofNat := by
    intro l
    induction l with
    | nil => intro s; simp
    | cons x l ih =>
      intro s
      rw [List.foldl_cons, ih]
      show (s.data.push (UInt8.ofNat x)).toList ++ _ = _
      simp
  have := key l ByteArray.empty
  simpa [strL] using this
theorem u8_inj {l m : List Nat} (hl : ∀ x ∈ l, x < 256) (hm : ∀ x ∈ m, x < 256) (e : l.map UInt8.ofNat = m.map UInt8.ofNat) : l = m := by
  induction l generalizing m with
  | nil => cases m with
    | nil => rfl
    | cons y m => cases e
  | cons x l ih => cases m with
    | nil => cases e
    | cons y m =>
      simp only [List.map_cons, List.cons.injEq] at e
      have hx := hl x (List.mem_cons_self ..)
      have hy := hm y (List.mem_cons_self ..)
      have : x = y := by
        have := congrArg UInt8.toNat e.1
        simpa [UInt8.toNat_ofNat', Nat.mod_eq_of_lt hx, Nat.mod_eq_of_lt hy] using this
      rw [this, ih (fun z hz => hl z (List.mem_cons_of_mem _ hz)) (fun z hz => hm z (List.mem_cons_of_mem _ hz)) e.2]
theorem strL_inj {l m : List Nat} (hl : ∀ x ∈ l, x < 256) (hm : ∀ x ∈ m, x < 256) (e : strL l = strL m) : l = m := by
  have := congrArg (fun s : ByteArray => s.data.toList) e
  simp only [strL_data] at this
  exact u8_inj hl hm this
theorem ba_listEq (a b : ByteArray) : (a.toList == b.toList) = decide (a = b) := by
  rw [baToList, baToList, Bool.eq_iff_iff, beq_iff_eq, decide_eq_true_eq]
  constructor
  · intro e
    cases a; cases b
    simp only [Array.toList_inj] at e
    rw [e]
  · intro e; rw [e]
section
variable {P : Program}
end
end Go.SL
