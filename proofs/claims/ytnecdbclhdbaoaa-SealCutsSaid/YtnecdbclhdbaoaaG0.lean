/- The conditions of each function that this seat reaches, and that they suffice for a call of it. Conditions: none. -/
import Derived.Test.YtnecdbclhdbaoaaSLh
import Derived.Test.YtnecdbclhdbaoaaProg
set_option linter.unusedVariables false
set_option maxRecDepth 100000
namespace Go.Proofs.Ytnecdbclhdbaoaa
open Go Go.SL
noncomputable abbrev P : Program := Try.prog
abbrev n_orloplaw17_SealCuts : Nat := 3
abbrev n_orloplaw17_SealLengths : Nat := 4
abbrev n_orloplaw17_SealSeals : Nat := 5
abbrev n_orloplaw17_SealOpens : Nat := 6
abbrev n_orloplaw17_SealBlind : Nat := 7
abbrev n_orloplaw17_SealSizes : Nat := 8
abbrev n_orloplaw12_CryptPlays : Nat := 9
abbrev n_orloplaw12_CryptBack : Nat := 10
abbrev n_orloplaw12_CryptBlind : Nat := 11
abbrev n_orloplaw12_CryptOthers : Nat := 12
abbrev n_orloplaw17_awake : Nat := 13
abbrev n_orloplaw17_small : Nat := 14
abbrev n_crypt_Book : Nat := 15
abbrev n_seal_Seal : Nat := 16
abbrev n_orloplaw17_cutChunks : Nat := 17
abbrev n_orlopref17_Cut : Nat := 18
abbrev n_seal_Open : Nat := 19
abbrev n_orlopref01_Equal : Nat := 20
abbrev n_seal_Length : Nat := 21
abbrev n_orloplaw17_of : Nat := 22
abbrev n_orlopref17_Seal : Nat := 23
abbrev n_orlopref17_Open : Nat := 24
abbrev n_crypt_Real : Nat := 25
abbrev n_orloplaw12_awake : Nat := 26
abbrev n_orloplaw12_small : Nat := 27
abbrev n_orloplaw12_of : Nat := 28
abbrev n_orlopref12_Crypt_Sum : Nat := 29
abbrev n_orlopref12_Crypt_Seal : Nat := 30
abbrev n_orlopref12_Crypt_Open : Nat := 31
abbrev n_seal_maySize : Nat := 32
abbrev n_seal_newHead : Nat := 33
abbrev n_seal_each : Nat := 34
abbrev n_seal_pieces : Nat := 35
abbrev n_seal_head_nonce : Nat := 36
abbrev n_seal_Seal_1 : Nat := 37
abbrev n_seal_head_beside : Nat := 38
abbrev n_slices_Concat_byte_byte : Nat := 39
abbrev n_seal_head_size : Nat := 40
abbrev n_seal_Open_1 : Nat := 41
abbrev n_orlopref17_Head : Nat := 42
abbrev n_orlopref17_Nonce : Nat := 43
abbrev n_orlopref01_GetBig : Nat := 44
abbrev n_orlopref02_Of : Nat := 45
abbrev n_orlopref12_big : Nat := 46
abbrev n_orlopref06_Seal : Nat := 47
abbrev n_orlopref06_Open : Nat := 48
abbrev n_word_Big32 : Nat := 49
abbrev n_slices_Collect_byte : Nat := 50
abbrev n_slices_Chunk_byte_byte : Nat := 51
abbrev n_slices_Grow_byte_byte : Nat := 52
abbrev n_word_GetBig32 : Nat := 53
abbrev n_orlopref17_big : Nat := 54
abbrev n_orlopref02_Pad : Nat := 55
abbrev n_orlopref02_H : Nat := 56
abbrev n_orlopref02_K : Nat := 57
abbrev n_orlopref02_Work : Nat := 58
abbrev n_orlopref01_Back : Nat := 59
abbrev n_orlopref01_Little : Nat := 60
abbrev n_orlopref04_Xor : Nat := 61
abbrev n_orlopref06_full : Nat := 62
abbrev n_orlopref05_Tag : Nat := 63
abbrev n_orlopref04_Block : Nat := 64
abbrev n_word_big : Nat := 65
abbrev n_slices_AppendSeq_byte_byte : Nat := 66
abbrev n_slices_Chunk_byte_byte_1 : Nat := 67
abbrev n_word_getBig : Nat := 68
abbrev n_orlopref02_ror : Nat := 69
abbrev n_orlopref05_rest : Nat := 70
abbrev n_orlopref05_times : Nat := 71
abbrev n_orlopref05_add : Nat := 72
abbrev n_orlopref01_Get : Nat := 73
abbrev n_orlopref04_quarter : Nat := 74
abbrev n_word_at : Nat := 75
abbrev n_orlopref05_prime : Nat := 76
abbrev n_orlopref05_less : Nat := 77
abbrev n_orlopref04_rol : Nat := 78
abbrev n_crypt_book_Open : Nat := 94
abbrev n_crypt_book_Seal : Nat := 95
abbrev n_crypt_book_Sum : Nat := 96
abbrev n_crypt_may : Nat := 97
abbrev n_word_GetBig64 : Nat := 98
abbrev n_bytes_Equal : Nat := 99
abbrev n_crypt_bytesOf : Nat := 100
abbrev n_bytes_Clone : Nat := 101
abbrev n_word_Big64 : Nat := 102
abbrev n_crypt_actual_Open : Nat := 103
abbrev n_crypt_actual_Seal : Nat := 104
abbrev n_crypt_actual_Sum : Nat := 105
abbrev n_aead_Open : Nat := 106
abbrev n_aead_Seal : Nat := 107
abbrev n_sha_Of : Nat := 108
abbrev n_chacha_Xor : Nat := 109
abbrev n_aead_tag : Nat := 110
abbrev n_word_Equal : Nat := 111
abbrev n_sha_New : Nat := 112
abbrev n_sha_Hash_Add : Nat := 113
abbrev n_sha_Hash_Sum : Nat := 114
abbrev n_chacha_may : Nat := 115
abbrev n_chacha_block : Nat := 116
abbrev n_chacha_Block : Nat := 117
abbrev n_word_Put64 : Nat := 118
abbrev n_poly_Tag : Nat := 119
abbrev n_aead_padded : Nat := 120
abbrev n_sha_beginning : Nat := 121
abbrev n_sha_constants : Nat := 122
abbrev n_sha_Hash_block : Nat := 123
abbrev n_chacha_begin : Nat := 124
abbrev n_chacha_quarters : Nat := 125
abbrev n_chacha_state_quarter : Nat := 126
abbrev n_word_Put32 : Nat := 127
abbrev n_word_little : Nat := 128
abbrev n_slices_Clone_byte_byte : Nat := 129
abbrev n_poly_load : Nat := 130
abbrev n_poly_number_add : Nat := 131
abbrev n_poly_number_times : Nat := 132
abbrev n_poly_number_reduce : Nat := 133
abbrev n_poly_number_bytes : Nat := 134
abbrev n_sha_schedule : Nat := 135
abbrev n_bits_RotateLeft32 : Nat := 136
abbrev n_word_Get32 : Nat := 137
abbrev n_chacha_state_half : Nat := 138
abbrev n_word_Get64 : Nat := 139
abbrev n_poly_number_carry : Nat := 140
abbrev n_word_get : Nat := 141
abbrev t_int : Nat := 3
abbrev t_bool : Nat := 4
abbrev t_uint8 : Nat := 5
abbrev t_string : Nat := 9
abbrev t_Sl_uint8 : Nat := 22
abbrev t_orloplaw17_Ask : Nat := 24
abbrev t_uint16 : Nat := 25
abbrev t_orloplaw17_Cut : Nat := 27
abbrev t_crypt_Crypt : Nat := 31
abbrev t_api_Code : Nat := 33
abbrev t_Sl_Sl_uint8 : Nat := 36
abbrev t_Sl_orlopref12_Sealed : Nat := 47
abbrev t_orlopref12_Crypt : Nat := 49
abbrev t_Sl_orloplaw12_Do : Nat := 55
abbrev t_orloplaw12_Do : Nat := 58
abbrev t_Sl_orloplaw12_Ask : Nat := 62
abbrev t_32_uint8 : Nat := 63
abbrev t_12_uint8 : Nat := 64
abbrev t_orloplaw12_Ask : Nat := 66
abbrev t_3_uint8 : Nat := 69
abbrev t_Pt_crypt_book : Nat := 71
abbrev t_map_string_int : Nat := 72
abbrev t_Sl_crypt_sealed : Nat := 73
abbrev t_crypt_book : Nat := 75
abbrev t_seal_head : Nat := 78
abbrev t_uint64 : Nat := 88
abbrev t_crypt_actual : Nat := 91
abbrev t_orlopref12_Sealed : Nat := 94
abbrev t_uint32 : Nat := 96
abbrev t_Sl_uint32 : Nat := 102
abbrev t_uint : Nat := 111
abbrev t_Sl_int : Nat := 112
abbrev t_crypt_sealed : Nat := 136
abbrev t_8_uint32 : Nat := 144
abbrev t_64_uint32 : Nat := 146
abbrev t_64_uint8 : Nat := 148
abbrev t_sha_Hash : Nat := 150
abbrev t_chacha_state : Nat := 152
abbrev t_4_int : Nat := 154
abbrev t_8_4_int : Nat := 155
abbrev t_3_int : Nat := 158
abbrev t_poly_number : Nat := 160
theorem mixed : P.follows .mixedOrders = true := by kernel_rfl
theorem u3 : P.underlying 3 = some (.int .i64) := by kernel_rfl
theorem z3 : sz P 3 = some 1 := by kernel_rfl
theorem u4 : P.underlying 4 = some .bool := by kernel_rfl
theorem z4 : sz P 4 = some 1 := by kernel_rfl
theorem u5 : P.underlying 5 = some (.int .u8) := by kernel_rfl
theorem z5 : sz P 5 = some 1 := by kernel_rfl
theorem u9 : P.underlying 9 = some .string := by kernel_rfl
theorem z9 : sz P 9 = some 1 := by kernel_rfl
theorem u22 : P.underlying 22 = some (.slice 5) := by kernel_rfl
theorem z22 : sz P 22 = some 1 := by kernel_rfl
theorem z24 : sz P 24 = some 5 := by kernel_rfl
theorem u24 : P.underlying 24 = some (.struct (match P.underlying 24 with | some (.struct fs) => fs | _ => #[])) := by kernel_rfl
theorem u25 : P.underlying 25 = some (.int .u16) := by kernel_rfl
theorem z25 : sz P 25 = some 1 := by kernel_rfl
theorem z27 : sz P 27 = some 3 := by kernel_rfl
theorem u27 : P.underlying 27 = some (.struct (match P.underlying 27 with | some (.struct fs) => fs | _ => #[])) := by kernel_rfl
theorem u31 : P.underlying 31 = some (.interface (match P.underlying 31 with | some (.interface ms) => ms | _ => #[])) := by kernel_rfl
theorem z31 : sz P 31 = some 1 := by kernel_rfl
theorem u33 : P.underlying 33 = some (.int .i64) := by kernel_rfl
theorem z33 : sz P 33 = some 1 := by kernel_rfl
theorem u36 : P.underlying 36 = some (.slice 22) := by kernel_rfl
theorem z36 : sz P 36 = some 1 := by kernel_rfl
theorem u47 : P.underlying 47 = some (.slice 94) := by kernel_rfl
theorem z47 : sz P 47 = some 1 := by kernel_rfl
theorem z49 : sz P 49 = some 3 := by kernel_rfl
theorem u49 : P.underlying 49 = some (.struct (match P.underlying 49 with | some (.struct fs) => fs | _ => #[])) := by kernel_rfl
theorem u55 : P.underlying 55 = some (.slice 58) := by kernel_rfl
theorem z55 : sz P 55 = some 1 := by kernel_rfl
theorem z58 : sz P 58 = some 6 := by kernel_rfl
theorem u58 : P.underlying 58 = some (.struct (match P.underlying 58 with | some (.struct fs) => fs | _ => #[])) := by kernel_rfl
theorem u62 : P.underlying 62 = some (.slice 66) := by kernel_rfl
theorem z62 : sz P 62 = some 1 := by kernel_rfl
theorem u63 : P.underlying 63 = some (.array 32 5) := by kernel_rfl
theorem z63 : sz P 63 = some 32 := by kernel_rfl
theorem u64 : P.underlying 64 = some (.array 12 5) := by kernel_rfl
theorem z64 : sz P 64 = some 12 := by kernel_rfl
theorem z66 : sz P 66 = some 46 := by kernel_rfl
theorem u66 : P.underlying 66 = some (.struct (match P.underlying 66 with | some (.struct fs) => fs | _ => #[])) := by kernel_rfl
theorem u69 : P.underlying 69 = some (.array 3 5) := by kernel_rfl
theorem z69 : sz P 69 = some 3 := by kernel_rfl
theorem u71 : P.underlying 71 = some (.pointer 75) := by kernel_rfl
theorem z71 : sz P 71 = some 1 := by kernel_rfl
theorem u72 : P.underlying 72 = some (.map 9 3) := by kernel_rfl
theorem z72 : sz P 72 = some 1 := by kernel_rfl
theorem u73 : P.underlying 73 = some (.slice 136) := by kernel_rfl
theorem z73 : sz P 73 = some 1 := by kernel_rfl
theorem z75 : sz P 75 = some 2 := by kernel_rfl
theorem u75 : P.underlying 75 = some (.struct (match P.underlying 75 with | some (.struct fs) => fs | _ => #[])) := by kernel_rfl
theorem z78 : sz P 78 = some 2 := by kernel_rfl
theorem u78 : P.underlying 78 = some (.struct (match P.underlying 78 with | some (.struct fs) => fs | _ => #[])) := by kernel_rfl
theorem u88 : P.underlying 88 = some (.int .u64) := by kernel_rfl
theorem z88 : sz P 88 = some 1 := by kernel_rfl
theorem z91 : sz P 91 = some 0 := by kernel_rfl
theorem u91 : P.underlying 91 = some (.struct (match P.underlying 91 with | some (.struct fs) => fs | _ => #[])) := by kernel_rfl
theorem z94 : sz P 94 = some 5 := by kernel_rfl
theorem u94 : P.underlying 94 = some (.struct (match P.underlying 94 with | some (.struct fs) => fs | _ => #[])) := by kernel_rfl
theorem u96 : P.underlying 96 = some (.int .u32) := by kernel_rfl
theorem z96 : sz P 96 = some 1 := by kernel_rfl
theorem u102 : P.underlying 102 = some (.slice 96) := by kernel_rfl
theorem z102 : sz P 102 = some 1 := by kernel_rfl
theorem u111 : P.underlying 111 = some (.int .u64) := by kernel_rfl
theorem z111 : sz P 111 = some 1 := by kernel_rfl
theorem u112 : P.underlying 112 = some (.slice 3) := by kernel_rfl
theorem z112 : sz P 112 = some 1 := by kernel_rfl
theorem z136 : sz P 136 = some 4 := by kernel_rfl
theorem u136 : P.underlying 136 = some (.struct (match P.underlying 136 with | some (.struct fs) => fs | _ => #[])) := by kernel_rfl
theorem u144 : P.underlying 144 = some (.array 8 96) := by kernel_rfl
theorem z144 : sz P 144 = some 8 := by kernel_rfl
theorem u146 : P.underlying 146 = some (.array 64 96) := by kernel_rfl
theorem z146 : sz P 146 = some 64 := by kernel_rfl
theorem u148 : P.underlying 148 = some (.array 64 5) := by kernel_rfl
theorem z148 : sz P 148 = some 64 := by kernel_rfl
theorem z150 : sz P 150 = some 138 := by kernel_rfl
theorem u150 : P.underlying 150 = some (.struct (match P.underlying 150 with | some (.struct fs) => fs | _ => #[])) := by kernel_rfl
theorem u152 : P.underlying 152 = some (.array 16 96) := by kernel_rfl
theorem z152 : sz P 152 = some 16 := by kernel_rfl
theorem u154 : P.underlying 154 = some (.array 4 3) := by kernel_rfl
theorem z154 : sz P 154 = some 4 := by kernel_rfl
theorem u155 : P.underlying 155 = some (.array 8 154) := by kernel_rfl
theorem z155 : sz P 155 = some 32 := by kernel_rfl
theorem u158 : P.underlying 158 = some (.array 3 3) := by kernel_rfl
theorem z158 : sz P 158 = some 3 := by kernel_rfl
theorem u160 : P.underlying 160 = some (.array 5 88) := by kernel_rfl
theorem z160 : sz P 160 = some 5 := by kernel_rfl
theorem nfo3 : (P.info? 3).map (fun i => (i.zero, i.size, i.bytes)) = some (some (.int .i64 0), 1, 8) := by kernel_rfl
theorem zr3 : zr P 3 = some (.int .i64 0) := by kernel_rfl
theorem nfo4 : (P.info? 4).map (fun i => (i.zero, i.size, i.bytes)) = some (some (.bool false), 1, 1) := by kernel_rfl
theorem zr4 : zr P 4 = some (.bool false) := by kernel_rfl
theorem nfo5 : (P.info? 5).map (fun i => (i.zero, i.size, i.bytes)) = some (some (.int .u8 0), 1, 1) := by kernel_rfl
theorem zr5 : zr P 5 = some (.int .u8 0) := by kernel_rfl
theorem nfo9 : (P.info? 9).map (fun i => (i.zero, i.size, i.bytes)) = some (some (.string ByteArray.empty), 1, 16) := by kernel_rfl
theorem zr9 : zr P 9 = some (.string ByteArray.empty) := by kernel_rfl
theorem nfo22 : (P.info? 22).map (fun i => (i.zero, i.size, i.bytes)) = some (some (.slice none 0 0), 1, 24) := by kernel_rfl
theorem zr22 : zr P 22 = some (.slice none 0 0) := by kernel_rfl
theorem nfo25 : (P.info? 25).map (fun i => (i.zero, i.size, i.bytes)) = some (some (.int .u16 0), 1, 2) := by kernel_rfl
theorem zr25 : zr P 25 = some (.int .u16 0) := by kernel_rfl
theorem nfo31 : (P.info? 31).map (fun i => (i.zero, i.size, i.bytes)) = some (some .nilIface, 1, 16) := by kernel_rfl
theorem zr31 : zr P 31 = some .nilIface := by kernel_rfl
theorem nfo33 : (P.info? 33).map (fun i => (i.zero, i.size, i.bytes)) = some (some (.int .i64 0), 1, 8) := by kernel_rfl
theorem zr33 : zr P 33 = some (.int .i64 0) := by kernel_rfl
theorem nfo36 : (P.info? 36).map (fun i => (i.zero, i.size, i.bytes)) = some (some (.slice none 0 0), 1, 24) := by kernel_rfl
theorem zr36 : zr P 36 = some (.slice none 0 0) := by kernel_rfl
theorem nfo47 : (P.info? 47).map (fun i => (i.zero, i.size, i.bytes)) = some (some (.slice none 0 0), 1, 24) := by kernel_rfl
theorem zr47 : zr P 47 = some (.slice none 0 0) := by kernel_rfl
theorem nfo55 : (P.info? 55).map (fun i => (i.zero, i.size, i.bytes)) = some (some (.slice none 0 0), 1, 24) := by kernel_rfl
theorem zr55 : zr P 55 = some (.slice none 0 0) := by kernel_rfl
theorem nfo62 : (P.info? 62).map (fun i => (i.zero, i.size, i.bytes)) = some (some (.slice none 0 0), 1, 24) := by kernel_rfl
theorem zr62 : zr P 62 = some (.slice none 0 0) := by kernel_rfl
theorem nfo71 : (P.info? 71).map (fun i => (i.zero, i.size, i.bytes)) = some (some (.pointer none), 1, 8) := by kernel_rfl
theorem zr71 : zr P 71 = some (.pointer none) := by kernel_rfl
theorem nfo72 : (P.info? 72).map (fun i => (i.zero, i.size, i.bytes)) = some (some (.map none), 1, 8) := by kernel_rfl
theorem zr72 : zr P 72 = some (.map none) := by kernel_rfl
theorem nfo73 : (P.info? 73).map (fun i => (i.zero, i.size, i.bytes)) = some (some (.slice none 0 0), 1, 24) := by kernel_rfl
theorem zr73 : zr P 73 = some (.slice none 0 0) := by kernel_rfl
theorem nfo88 : (P.info? 88).map (fun i => (i.zero, i.size, i.bytes)) = some (some (.int .u64 0), 1, 8) := by kernel_rfl
theorem zr88 : zr P 88 = some (.int .u64 0) := by kernel_rfl
theorem nfo96 : (P.info? 96).map (fun i => (i.zero, i.size, i.bytes)) = some (some (.int .u32 0), 1, 4) := by kernel_rfl
theorem zr96 : zr P 96 = some (.int .u32 0) := by kernel_rfl
theorem nfo102 : (P.info? 102).map (fun i => (i.zero, i.size, i.bytes)) = some (some (.slice none 0 0), 1, 24) := by kernel_rfl
theorem zr102 : zr P 102 = some (.slice none 0 0) := by kernel_rfl
theorem nfo111 : (P.info? 111).map (fun i => (i.zero, i.size, i.bytes)) = some (some (.int .u64 0), 1, 8) := by kernel_rfl
theorem zr111 : zr P 111 = some (.int .u64 0) := by kernel_rfl
theorem nfo112 : (P.info? 112).map (fun i => (i.zero, i.size, i.bytes)) = some (some (.slice none 0 0), 1, 24) := by kernel_rfl
theorem zr112 : zr P 112 = some (.slice none 0 0) := by kernel_rfl
theorem ld3 {h : Hp} {K : Value → Prop} (a : Addr) : q P h (Instr.loadAt 3 (.pointer (some a))) K = withVal (h.cell a) K := q_ld u3 rfl a
theorem ld4 {h : Hp} {K : Value → Prop} (a : Addr) : q P h (Instr.loadAt 4 (.pointer (some a))) K = withVal (h.cell a) K := q_ld u4 rfl a
theorem eb4 {h : Hp} {K : Value → Prop} (x y : Operand) (a b : Bool) : q P h (eqop .eql 4 x y (.bool a) (.bool b)) K = K (.bool (a == b)) := q_eqlB x y a b u4
theorem nb4 {h : Hp} {K : Value → Prop} (x y : Operand) (a b : Bool) : q P h (eqop .neq 4 x y (.bool a) (.bool b)) K = K (.bool (!(a == b))) := q_neqB x y a b u4
theorem ld5 {h : Hp} {K : Value → Prop} (a : Addr) : q P h (Instr.loadAt 5 (.pointer (some a))) K = withVal (h.cell a) K := q_ld u5 rfl a
theorem ld9 {h : Hp} {K : Value → Prop} (a : Addr) : q P h (Instr.loadAt 9 (.pointer (some a))) K = withVal (h.cell a) K := q_ld u9 rfl a
theorem ln9 {h : Hp} {K : Value → Prop} {T : TypeId} (s : ByteArray) : q P h (Builtin.len_ #[9] T #[.string s]) K = K (.int .i64 s.size) := q_lenStr u9 s
theorem ld22 {h : Hp} {K : Value → Prop} (a : Addr) : q P h (Instr.loadAt 22 (.pointer (some a))) K = withVal (h.cell a) K := q_ld u22 rfl a
theorem ix22 {h : Hp} {K : Value → Prop} (a : Addr) (n c : Nat) (k : IntKind) (i : Int) (h0 : 0 ≤ i) (h1 : i < n) : q P h (Instr.indexAt 22 (.slice (some a) n c) (.int k i)) K = K (.pointer (some (a.add i.toNat))) := by rw [q_idxS u22 z5 a n c k i h0 h1, Nat.mul_one]
theorem ln22 {h : Hp} {K : Value → Prop} {T : TypeId} (a : Option Addr) (n c : Nat) : q P h (Builtin.len_ #[22] T #[.slice a n c]) K = K (.int .i64 n) := q_lenS u22 a n c
theorem en22 {h : Hp} {K : Value → Prop} (x y : Operand) (a : Option Addr) (n c : Nat) : q P h (eqop .eql 22 x y (.slice a n c) (.slice none 0 0)) K = K (.bool a.isNone) := q_eqlNil x y a n c u22
theorem ld25 {h : Hp} {K : Value → Prop} (a : Addr) : q P h (Instr.loadAt 25 (.pointer (some a))) K = withVal (h.cell a) K := q_ld u25 rfl a
theorem ld31 {h : Hp} {K : Value → Prop} (a : Addr) : q P h (Instr.loadAt 31 (.pointer (some a))) K = withVal (h.cell a) K := q_ld u31 rfl a
theorem ld33 {h : Hp} {K : Value → Prop} (a : Addr) : q P h (Instr.loadAt 33 (.pointer (some a))) K = withVal (h.cell a) K := q_ld u33 rfl a
theorem ld36 {h : Hp} {K : Value → Prop} (a : Addr) : q P h (Instr.loadAt 36 (.pointer (some a))) K = withVal (h.cell a) K := q_ld u36 rfl a
theorem ix36 {h : Hp} {K : Value → Prop} (a : Addr) (n c : Nat) (k : IntKind) (i : Int) (h0 : 0 ≤ i) (h1 : i < n) : q P h (Instr.indexAt 36 (.slice (some a) n c) (.int k i)) K = K (.pointer (some (a.add i.toNat))) := by rw [q_idxS u36 z22 a n c k i h0 h1, Nat.mul_one]
theorem ln36 {h : Hp} {K : Value → Prop} {T : TypeId} (a : Option Addr) (n c : Nat) : q P h (Builtin.len_ #[36] T #[.slice a n c]) K = K (.int .i64 n) := q_lenS u36 a n c
theorem en36 {h : Hp} {K : Value → Prop} (x y : Operand) (a : Option Addr) (n c : Nat) : q P h (eqop .eql 36 x y (.slice a n c) (.slice none 0 0)) K = K (.bool a.isNone) := q_eqlNil x y a n c u36
theorem ld47 {h : Hp} {K : Value → Prop} (a : Addr) : q P h (Instr.loadAt 47 (.pointer (some a))) K = withVal (h.cell a) K := q_ld u47 rfl a
theorem ln47 {h : Hp} {K : Value → Prop} {T : TypeId} (a : Option Addr) (n c : Nat) : q P h (Builtin.len_ #[47] T #[.slice a n c]) K = K (.int .i64 n) := q_lenS u47 a n c
theorem en47 {h : Hp} {K : Value → Prop} (x y : Operand) (a : Option Addr) (n c : Nat) : q P h (eqop .eql 47 x y (.slice a n c) (.slice none 0 0)) K = K (.bool a.isNone) := q_eqlNil x y a n c u47
theorem ld55 {h : Hp} {K : Value → Prop} (a : Addr) : q P h (Instr.loadAt 55 (.pointer (some a))) K = withVal (h.cell a) K := q_ld u55 rfl a
theorem ln55 {h : Hp} {K : Value → Prop} {T : TypeId} (a : Option Addr) (n c : Nat) : q P h (Builtin.len_ #[55] T #[.slice a n c]) K = K (.int .i64 n) := q_lenS u55 a n c
theorem en55 {h : Hp} {K : Value → Prop} (x y : Operand) (a : Option Addr) (n c : Nat) : q P h (eqop .eql 55 x y (.slice a n c) (.slice none 0 0)) K = K (.bool a.isNone) := q_eqlNil x y a n c u55
theorem ld62 {h : Hp} {K : Value → Prop} (a : Addr) : q P h (Instr.loadAt 62 (.pointer (some a))) K = withVal (h.cell a) K := q_ld u62 rfl a
theorem ln62 {h : Hp} {K : Value → Prop} {T : TypeId} (a : Option Addr) (n c : Nat) : q P h (Builtin.len_ #[62] T #[.slice a n c]) K = K (.int .i64 n) := q_lenS u62 a n c
theorem en62 {h : Hp} {K : Value → Prop} (x y : Operand) (a : Option Addr) (n c : Nat) : q P h (eqop .eql 62 x y (.slice a n c) (.slice none 0 0)) K = K (.bool a.isNone) := q_eqlNil x y a n c u62
theorem ix63 {h : Hp} {K : Value → Prop} (a : Addr) (k : IntKind) (i : Int) (h0 : 0 ≤ i) (h1 : i < 32) : q P h (Instr.indexAt 63 (.pointer (some a)) (.int k i)) K = K (.pointer (some (a.add i.toNat))) := by rw [q_idxA u63 z5 a k i h0 h1, Nat.mul_one]
theorem ix64 {h : Hp} {K : Value → Prop} (a : Addr) (k : IntKind) (i : Int) (h0 : 0 ≤ i) (h1 : i < 12) : q P h (Instr.indexAt 64 (.pointer (some a)) (.int k i)) K = K (.pointer (some (a.add i.toNat))) := by rw [q_idxA u64 z5 a k i h0 h1, Nat.mul_one]
theorem ix69 {h : Hp} {K : Value → Prop} (a : Addr) (k : IntKind) (i : Int) (h0 : 0 ≤ i) (h1 : i < 3) : q P h (Instr.indexAt 69 (.pointer (some a)) (.int k i)) K = K (.pointer (some (a.add i.toNat))) := by rw [q_idxA u69 z5 a k i h0 h1, Nat.mul_one]
theorem ld71 {h : Hp} {K : Value → Prop} (a : Addr) : q P h (Instr.loadAt 71 (.pointer (some a))) K = withVal (h.cell a) K := q_ld u71 rfl a
theorem ld72 {h : Hp} {K : Value → Prop} (a : Addr) : q P h (Instr.loadAt 72 (.pointer (some a))) K = withVal (h.cell a) K := q_ld u72 rfl a
theorem ld73 {h : Hp} {K : Value → Prop} (a : Addr) : q P h (Instr.loadAt 73 (.pointer (some a))) K = withVal (h.cell a) K := q_ld u73 rfl a
theorem ln73 {h : Hp} {K : Value → Prop} {T : TypeId} (a : Option Addr) (n c : Nat) : q P h (Builtin.len_ #[73] T #[.slice a n c]) K = K (.int .i64 n) := q_lenS u73 a n c
theorem en73 {h : Hp} {K : Value → Prop} (x y : Operand) (a : Option Addr) (n c : Nat) : q P h (eqop .eql 73 x y (.slice a n c) (.slice none 0 0)) K = K (.bool a.isNone) := q_eqlNil x y a n c u73
theorem ld88 {h : Hp} {K : Value → Prop} (a : Addr) : q P h (Instr.loadAt 88 (.pointer (some a))) K = withVal (h.cell a) K := q_ld u88 rfl a
theorem ld96 {h : Hp} {K : Value → Prop} (a : Addr) : q P h (Instr.loadAt 96 (.pointer (some a))) K = withVal (h.cell a) K := q_ld u96 rfl a
theorem ld102 {h : Hp} {K : Value → Prop} (a : Addr) : q P h (Instr.loadAt 102 (.pointer (some a))) K = withVal (h.cell a) K := q_ld u102 rfl a
theorem ix102 {h : Hp} {K : Value → Prop} (a : Addr) (n c : Nat) (k : IntKind) (i : Int) (h0 : 0 ≤ i) (h1 : i < n) : q P h (Instr.indexAt 102 (.slice (some a) n c) (.int k i)) K = K (.pointer (some (a.add i.toNat))) := by rw [q_idxS u102 z96 a n c k i h0 h1, Nat.mul_one]
theorem ln102 {h : Hp} {K : Value → Prop} {T : TypeId} (a : Option Addr) (n c : Nat) : q P h (Builtin.len_ #[102] T #[.slice a n c]) K = K (.int .i64 n) := q_lenS u102 a n c
theorem en102 {h : Hp} {K : Value → Prop} (x y : Operand) (a : Option Addr) (n c : Nat) : q P h (eqop .eql 102 x y (.slice a n c) (.slice none 0 0)) K = K (.bool a.isNone) := q_eqlNil x y a n c u102
theorem ld111 {h : Hp} {K : Value → Prop} (a : Addr) : q P h (Instr.loadAt 111 (.pointer (some a))) K = withVal (h.cell a) K := q_ld u111 rfl a
theorem ld112 {h : Hp} {K : Value → Prop} (a : Addr) : q P h (Instr.loadAt 112 (.pointer (some a))) K = withVal (h.cell a) K := q_ld u112 rfl a
theorem ix112 {h : Hp} {K : Value → Prop} (a : Addr) (n c : Nat) (k : IntKind) (i : Int) (h0 : 0 ≤ i) (h1 : i < n) : q P h (Instr.indexAt 112 (.slice (some a) n c) (.int k i)) K = K (.pointer (some (a.add i.toNat))) := by rw [q_idxS u112 z3 a n c k i h0 h1, Nat.mul_one]
theorem ln112 {h : Hp} {K : Value → Prop} {T : TypeId} (a : Option Addr) (n c : Nat) : q P h (Builtin.len_ #[112] T #[.slice a n c]) K = K (.int .i64 n) := q_lenS u112 a n c
theorem en112 {h : Hp} {K : Value → Prop} (x y : Operand) (a : Option Addr) (n c : Nat) : q P h (eqop .eql 112 x y (.slice a n c) (.slice none 0 0)) K = K (.bool a.isNone) := q_eqlNil x y a n c u112
theorem ix144 {h : Hp} {K : Value → Prop} (a : Addr) (k : IntKind) (i : Int) (h0 : 0 ≤ i) (h1 : i < 8) : q P h (Instr.indexAt 144 (.pointer (some a)) (.int k i)) K = K (.pointer (some (a.add i.toNat))) := by rw [q_idxA u144 z96 a k i h0 h1, Nat.mul_one]
theorem ix146 {h : Hp} {K : Value → Prop} (a : Addr) (k : IntKind) (i : Int) (h0 : 0 ≤ i) (h1 : i < 64) : q P h (Instr.indexAt 146 (.pointer (some a)) (.int k i)) K = K (.pointer (some (a.add i.toNat))) := by rw [q_idxA u146 z96 a k i h0 h1, Nat.mul_one]
theorem ix148 {h : Hp} {K : Value → Prop} (a : Addr) (k : IntKind) (i : Int) (h0 : 0 ≤ i) (h1 : i < 64) : q P h (Instr.indexAt 148 (.pointer (some a)) (.int k i)) K = K (.pointer (some (a.add i.toNat))) := by rw [q_idxA u148 z5 a k i h0 h1, Nat.mul_one]
theorem ix152 {h : Hp} {K : Value → Prop} (a : Addr) (k : IntKind) (i : Int) (h0 : 0 ≤ i) (h1 : i < 16) : q P h (Instr.indexAt 152 (.pointer (some a)) (.int k i)) K = K (.pointer (some (a.add i.toNat))) := by rw [q_idxA u152 z96 a k i h0 h1, Nat.mul_one]
theorem ix154 {h : Hp} {K : Value → Prop} (a : Addr) (k : IntKind) (i : Int) (h0 : 0 ≤ i) (h1 : i < 4) : q P h (Instr.indexAt 154 (.pointer (some a)) (.int k i)) K = K (.pointer (some (a.add i.toNat))) := by rw [q_idxA u154 z3 a k i h0 h1, Nat.mul_one]
theorem ix158 {h : Hp} {K : Value → Prop} (a : Addr) (k : IntKind) (i : Int) (h0 : 0 ≤ i) (h1 : i < 3) : q P h (Instr.indexAt 158 (.pointer (some a)) (.int k i)) K = K (.pointer (some (a.add i.toNat))) := by rw [q_idxA u158 z3 a k i h0 h1, Nat.mul_one]
theorem ix160 {h : Hp} {K : Value → Prop} (a : Addr) (k : IntKind) (i : Int) (h0 : 0 ≤ i) (h1 : i < 5) : q P h (Instr.indexAt 160 (.pointer (some a)) (.int k i)) K = K (.pointer (some (a.add i.toNat))) := by rw [q_idxA u160 z88 a k i h0 h1, Nat.mul_one]
theorem cv3_5 {h : Hp} {K : Value → Prop} {k : IntKind} (a : Int) : q P h (convert 3 5 (.int k a)) K = K (.int .u8 (IntKind.u8.wrap a)) := q_conv a u3 u5
theorem cv3_88 {h : Hp} {K : Value → Prop} {k : IntKind} (a : Int) : q P h (convert 3 88 (.int k a)) K = K (.int .u64 (IntKind.u64.wrap a)) := q_conv a u3 u88
theorem cv3_96 {h : Hp} {K : Value → Prop} {k : IntKind} (a : Int) : q P h (convert 3 96 (.int k a)) K = K (.int .u32 (IntKind.u32.wrap a)) := q_conv a u3 u96
theorem cv3_111 {h : Hp} {K : Value → Prop} {k : IntKind} (a : Int) : q P h (convert 3 111 (.int k a)) K = K (.int .u64 (IntKind.u64.wrap a)) := q_conv a u3 u111
theorem cv5_3 {h : Hp} {K : Value → Prop} {k : IntKind} (a : Int) : q P h (convert 5 3 (.int k a)) K = K (.int .i64 (IntKind.i64.wrap a)) := q_conv a u5 u3
theorem cv5_88 {h : Hp} {K : Value → Prop} {k : IntKind} (a : Int) : q P h (convert 5 88 (.int k a)) K = K (.int .u64 (IntKind.u64.wrap a)) := q_conv a u5 u88
theorem cv25_3 {h : Hp} {K : Value → Prop} {k : IntKind} (a : Int) : q P h (convert 25 3 (.int k a)) K = K (.int .i64 (IntKind.i64.wrap a)) := q_conv a u25 u3
theorem cv88_3 {h : Hp} {K : Value → Prop} {k : IntKind} (a : Int) : q P h (convert 88 3 (.int k a)) K = K (.int .i64 (IntKind.i64.wrap a)) := q_conv a u88 u3
theorem cv88_5 {h : Hp} {K : Value → Prop} {k : IntKind} (a : Int) : q P h (convert 88 5 (.int k a)) K = K (.int .u8 (IntKind.u8.wrap a)) := q_conv a u88 u5
theorem cv88_96 {h : Hp} {K : Value → Prop} {k : IntKind} (a : Int) : q P h (convert 88 96 (.int k a)) K = K (.int .u32 (IntKind.u32.wrap a)) := q_conv a u88 u96
theorem cv96_3 {h : Hp} {K : Value → Prop} {k : IntKind} (a : Int) : q P h (convert 96 3 (.int k a)) K = K (.int .i64 (IntKind.i64.wrap a)) := q_conv a u96 u3
theorem cv96_88 {h : Hp} {K : Value → Prop} {k : IntKind} (a : Int) : q P h (convert 96 88 (.int k a)) K = K (.int .u64 (IntKind.u64.wrap a)) := q_conv a u96 u88
/-- The readings' rules at this seat's types. -/
theorem RL :
  (∀ {h : Hp} {K : Value → Prop} (a : Addr), q P h (Instr.loadAt 3 (.pointer (some a))) K = withVal (h.cell a) K) ∧
  (∀ {h : Hp} {K : Value → Prop} (a : Addr), q P h (Instr.loadAt 4 (.pointer (some a))) K = withVal (h.cell a) K) ∧
  (∀ {h : Hp} {K : Value → Prop} (x y : Operand) (a b : Bool), q P h (eqop .eql 4 x y (.bool a) (.bool b)) K = K (.bool (a == b))) ∧
  (∀ {h : Hp} {K : Value → Prop} (x y : Operand) (a b : Bool), q P h (eqop .neq 4 x y (.bool a) (.bool b)) K = K (.bool (!(a == b)))) ∧
  (∀ {h : Hp} {K : Value → Prop} (a : Addr), q P h (Instr.loadAt 5 (.pointer (some a))) K = withVal (h.cell a) K) ∧
  (∀ {h : Hp} {K : Value → Prop} (a : Addr), q P h (Instr.loadAt 9 (.pointer (some a))) K = withVal (h.cell a) K) ∧
  (∀ {h : Hp} {K : Value → Prop} {T : TypeId} (s : ByteArray), q P h (Builtin.len_ #[9] T #[.string s]) K = K (.int .i64 s.size)) ∧
  (∀ {h : Hp} {K : Value → Prop} (a : Addr), q P h (Instr.loadAt 22 (.pointer (some a))) K = withVal (h.cell a) K) ∧
  (∀ {h : Hp} {K : Value → Prop} (a : Addr) (n c : Nat) (k : IntKind) (i : Int) (h0 : 0 ≤ i) (h1 : i < n), q P h (Instr.indexAt 22 (.slice (some a) n c) (.int k i)) K = K (.pointer (some (a.add i.toNat)))) ∧
  (∀ {h : Hp} {K : Value → Prop} {T : TypeId} (a : Option Addr) (n c : Nat), q P h (Builtin.len_ #[22] T #[.slice a n c]) K = K (.int .i64 n)) ∧
  (∀ {h : Hp} {K : Value → Prop} (x y : Operand) (a : Option Addr) (n c : Nat), q P h (eqop .eql 22 x y (.slice a n c) (.slice none 0 0)) K = K (.bool a.isNone)) ∧
  (∀ {h : Hp} {K : Value → Prop} (a : Addr), q P h (Instr.loadAt 25 (.pointer (some a))) K = withVal (h.cell a) K) ∧
  (∀ {h : Hp} {K : Value → Prop} (a : Addr), q P h (Instr.loadAt 31 (.pointer (some a))) K = withVal (h.cell a) K) ∧
  (∀ {h : Hp} {K : Value → Prop} (a : Addr), q P h (Instr.loadAt 33 (.pointer (some a))) K = withVal (h.cell a) K) ∧
  (∀ {h : Hp} {K : Value → Prop} (a : Addr), q P h (Instr.loadAt 36 (.pointer (some a))) K = withVal (h.cell a) K) ∧
  (∀ {h : Hp} {K : Value → Prop} (a : Addr) (n c : Nat) (k : IntKind) (i : Int) (h0 : 0 ≤ i) (h1 : i < n), q P h (Instr.indexAt 36 (.slice (some a) n c) (.int k i)) K = K (.pointer (some (a.add i.toNat)))) ∧
  (∀ {h : Hp} {K : Value → Prop} {T : TypeId} (a : Option Addr) (n c : Nat), q P h (Builtin.len_ #[36] T #[.slice a n c]) K = K (.int .i64 n)) ∧
  (∀ {h : Hp} {K : Value → Prop} (x y : Operand) (a : Option Addr) (n c : Nat), q P h (eqop .eql 36 x y (.slice a n c) (.slice none 0 0)) K = K (.bool a.isNone)) ∧
  (∀ {h : Hp} {K : Value → Prop} (a : Addr), q P h (Instr.loadAt 47 (.pointer (some a))) K = withVal (h.cell a) K) ∧
  (∀ {h : Hp} {K : Value → Prop} {T : TypeId} (a : Option Addr) (n c : Nat), q P h (Builtin.len_ #[47] T #[.slice a n c]) K = K (.int .i64 n)) ∧
  (∀ {h : Hp} {K : Value → Prop} (x y : Operand) (a : Option Addr) (n c : Nat), q P h (eqop .eql 47 x y (.slice a n c) (.slice none 0 0)) K = K (.bool a.isNone)) ∧
  (∀ {h : Hp} {K : Value → Prop} (a : Addr), q P h (Instr.loadAt 55 (.pointer (some a))) K = withVal (h.cell a) K) ∧
  (∀ {h : Hp} {K : Value → Prop} {T : TypeId} (a : Option Addr) (n c : Nat), q P h (Builtin.len_ #[55] T #[.slice a n c]) K = K (.int .i64 n)) ∧
  (∀ {h : Hp} {K : Value → Prop} (x y : Operand) (a : Option Addr) (n c : Nat), q P h (eqop .eql 55 x y (.slice a n c) (.slice none 0 0)) K = K (.bool a.isNone)) ∧
  (∀ {h : Hp} {K : Value → Prop} (a : Addr), q P h (Instr.loadAt 62 (.pointer (some a))) K = withVal (h.cell a) K) ∧
  (∀ {h : Hp} {K : Value → Prop} {T : TypeId} (a : Option Addr) (n c : Nat), q P h (Builtin.len_ #[62] T #[.slice a n c]) K = K (.int .i64 n)) ∧
  (∀ {h : Hp} {K : Value → Prop} (x y : Operand) (a : Option Addr) (n c : Nat), q P h (eqop .eql 62 x y (.slice a n c) (.slice none 0 0)) K = K (.bool a.isNone)) ∧
  (∀ {h : Hp} {K : Value → Prop} (a : Addr) (k : IntKind) (i : Int) (h0 : 0 ≤ i) (h1 : i < 32), q P h (Instr.indexAt 63 (.pointer (some a)) (.int k i)) K = K (.pointer (some (a.add i.toNat)))) ∧
  (∀ {h : Hp} {K : Value → Prop} (a : Addr) (k : IntKind) (i : Int) (h0 : 0 ≤ i) (h1 : i < 12), q P h (Instr.indexAt 64 (.pointer (some a)) (.int k i)) K = K (.pointer (some (a.add i.toNat)))) ∧
  (∀ {h : Hp} {K : Value → Prop} (a : Addr) (k : IntKind) (i : Int) (h0 : 0 ≤ i) (h1 : i < 3), q P h (Instr.indexAt 69 (.pointer (some a)) (.int k i)) K = K (.pointer (some (a.add i.toNat)))) ∧
  (∀ {h : Hp} {K : Value → Prop} (a : Addr), q P h (Instr.loadAt 71 (.pointer (some a))) K = withVal (h.cell a) K) ∧
  (∀ {h : Hp} {K : Value → Prop} (a : Addr), q P h (Instr.loadAt 72 (.pointer (some a))) K = withVal (h.cell a) K) ∧
  (∀ {h : Hp} {K : Value → Prop} (a : Addr), q P h (Instr.loadAt 73 (.pointer (some a))) K = withVal (h.cell a) K) ∧
  (∀ {h : Hp} {K : Value → Prop} {T : TypeId} (a : Option Addr) (n c : Nat), q P h (Builtin.len_ #[73] T #[.slice a n c]) K = K (.int .i64 n)) ∧
  (∀ {h : Hp} {K : Value → Prop} (x y : Operand) (a : Option Addr) (n c : Nat), q P h (eqop .eql 73 x y (.slice a n c) (.slice none 0 0)) K = K (.bool a.isNone)) ∧
  (∀ {h : Hp} {K : Value → Prop} (a : Addr), q P h (Instr.loadAt 88 (.pointer (some a))) K = withVal (h.cell a) K) ∧
  (∀ {h : Hp} {K : Value → Prop} (a : Addr), q P h (Instr.loadAt 96 (.pointer (some a))) K = withVal (h.cell a) K) ∧
  (∀ {h : Hp} {K : Value → Prop} (a : Addr), q P h (Instr.loadAt 102 (.pointer (some a))) K = withVal (h.cell a) K) ∧
  (∀ {h : Hp} {K : Value → Prop} (a : Addr) (n c : Nat) (k : IntKind) (i : Int) (h0 : 0 ≤ i) (h1 : i < n), q P h (Instr.indexAt 102 (.slice (some a) n c) (.int k i)) K = K (.pointer (some (a.add i.toNat)))) ∧
  (∀ {h : Hp} {K : Value → Prop} {T : TypeId} (a : Option Addr) (n c : Nat), q P h (Builtin.len_ #[102] T #[.slice a n c]) K = K (.int .i64 n)) ∧
  (∀ {h : Hp} {K : Value → Prop} (x y : Operand) (a : Option Addr) (n c : Nat), q P h (eqop .eql 102 x y (.slice a n c) (.slice none 0 0)) K = K (.bool a.isNone)) ∧
  (∀ {h : Hp} {K : Value → Prop} (a : Addr), q P h (Instr.loadAt 111 (.pointer (some a))) K = withVal (h.cell a) K) ∧
  (∀ {h : Hp} {K : Value → Prop} (a : Addr), q P h (Instr.loadAt 112 (.pointer (some a))) K = withVal (h.cell a) K) ∧
  (∀ {h : Hp} {K : Value → Prop} (a : Addr) (n c : Nat) (k : IntKind) (i : Int) (h0 : 0 ≤ i) (h1 : i < n), q P h (Instr.indexAt 112 (.slice (some a) n c) (.int k i)) K = K (.pointer (some (a.add i.toNat)))) ∧
  (∀ {h : Hp} {K : Value → Prop} {T : TypeId} (a : Option Addr) (n c : Nat), q P h (Builtin.len_ #[112] T #[.slice a n c]) K = K (.int .i64 n)) ∧
  (∀ {h : Hp} {K : Value → Prop} (x y : Operand) (a : Option Addr) (n c : Nat), q P h (eqop .eql 112 x y (.slice a n c) (.slice none 0 0)) K = K (.bool a.isNone)) ∧
  (∀ {h : Hp} {K : Value → Prop} (a : Addr) (k : IntKind) (i : Int) (h0 : 0 ≤ i) (h1 : i < 8), q P h (Instr.indexAt 144 (.pointer (some a)) (.int k i)) K = K (.pointer (some (a.add i.toNat)))) ∧
  (∀ {h : Hp} {K : Value → Prop} (a : Addr) (k : IntKind) (i : Int) (h0 : 0 ≤ i) (h1 : i < 64), q P h (Instr.indexAt 146 (.pointer (some a)) (.int k i)) K = K (.pointer (some (a.add i.toNat)))) ∧
  (∀ {h : Hp} {K : Value → Prop} (a : Addr) (k : IntKind) (i : Int) (h0 : 0 ≤ i) (h1 : i < 64), q P h (Instr.indexAt 148 (.pointer (some a)) (.int k i)) K = K (.pointer (some (a.add i.toNat)))) ∧
  (∀ {h : Hp} {K : Value → Prop} (a : Addr) (k : IntKind) (i : Int) (h0 : 0 ≤ i) (h1 : i < 16), q P h (Instr.indexAt 152 (.pointer (some a)) (.int k i)) K = K (.pointer (some (a.add i.toNat)))) ∧
  (∀ {h : Hp} {K : Value → Prop} (a : Addr) (k : IntKind) (i : Int) (h0 : 0 ≤ i) (h1 : i < 4), q P h (Instr.indexAt 154 (.pointer (some a)) (.int k i)) K = K (.pointer (some (a.add i.toNat)))) ∧
  (∀ {h : Hp} {K : Value → Prop} (a : Addr) (k : IntKind) (i : Int) (h0 : 0 ≤ i) (h1 : i < 3), q P h (Instr.indexAt 158 (.pointer (some a)) (.int k i)) K = K (.pointer (some (a.add i.toNat)))) ∧
  (∀ {h : Hp} {K : Value → Prop} (a : Addr) (k : IntKind) (i : Int) (h0 : 0 ≤ i) (h1 : i < 5), q P h (Instr.indexAt 160 (.pointer (some a)) (.int k i)) K = K (.pointer (some (a.add i.toNat)))) ∧
  (∀ {h : Hp} {K : Value → Prop} {k : IntKind} (a : Int), q P h (convert 3 5 (.int k a)) K = K (.int .u8 (IntKind.u8.wrap a))) ∧
  (∀ {h : Hp} {K : Value → Prop} {k : IntKind} (a : Int), q P h (convert 3 88 (.int k a)) K = K (.int .u64 (IntKind.u64.wrap a))) ∧
  (∀ {h : Hp} {K : Value → Prop} {k : IntKind} (a : Int), q P h (convert 3 96 (.int k a)) K = K (.int .u32 (IntKind.u32.wrap a))) ∧
  (∀ {h : Hp} {K : Value → Prop} {k : IntKind} (a : Int), q P h (convert 3 111 (.int k a)) K = K (.int .u64 (IntKind.u64.wrap a))) ∧
  (∀ {h : Hp} {K : Value → Prop} {k : IntKind} (a : Int), q P h (convert 5 3 (.int k a)) K = K (.int .i64 (IntKind.i64.wrap a))) ∧
  (∀ {h : Hp} {K : Value → Prop} {k : IntKind} (a : Int), q P h (convert 5 88 (.int k a)) K = K (.int .u64 (IntKind.u64.wrap a))) ∧
  (∀ {h : Hp} {K : Value → Prop} {k : IntKind} (a : Int), q P h (convert 25 3 (.int k a)) K = K (.int .i64 (IntKind.i64.wrap a))) ∧
  (∀ {h : Hp} {K : Value → Prop} {k : IntKind} (a : Int), q P h (convert 88 3 (.int k a)) K = K (.int .i64 (IntKind.i64.wrap a))) ∧
  (∀ {h : Hp} {K : Value → Prop} {k : IntKind} (a : Int), q P h (convert 88 5 (.int k a)) K = K (.int .u8 (IntKind.u8.wrap a))) ∧
  (∀ {h : Hp} {K : Value → Prop} {k : IntKind} (a : Int), q P h (convert 88 96 (.int k a)) K = K (.int .u32 (IntKind.u32.wrap a))) ∧
  (∀ {h : Hp} {K : Value → Prop} {k : IntKind} (a : Int), q P h (convert 96 3 (.int k a)) K = K (.int .i64 (IntKind.i64.wrap a))) ∧
  (∀ {h : Hp} {K : Value → Prop} {k : IntKind} (a : Int), q P h (convert 96 88 (.int k a)) K = K (.int .u64 (IntKind.u64.wrap a))) :=
  ⟨@ld3, @ld4, @eb4, @nb4, @ld5, @ld9, @ln9, @ld22, @ix22, @ln22, @en22, @ld25, @ld31, @ld33, @ld36, @ix36, @ln36, @en36, @ld47, @ln47, @en47, @ld55, @ln55, @en55, @ld62, @ln62, @en62, @ix63, @ix64, @ix69, @ld71, @ld72, @ld73, @ln73, @en73, @ld88, @ld96, @ld102, @ix102, @ln102, @en102, @ld111, @ld112, @ix112, @ln112, @en112, @ix144, @ix146, @ix148, @ix152, @ix154, @ix158, @ix160, @cv3_5, @cv3_88, @cv3_96, @cv3_111, @cv5_3, @cv5_88, @cv25_3, @cv88_3, @cv88_5, @cv88_96, @cv96_3, @cv96_88⟩
theorem u_int : P.underlying 3 = some (.int .i64) := u3
theorem z_int : sz P 3 = some 1 := z3
theorem nfo_int : (P.info? 3).map (fun i => (i.zero, i.size, i.bytes)) = some (some (.int .i64 0), 1, 8) := nfo3
theorem zr_int : zr P 3 = some (.int .i64 0) := zr3
theorem u_bool : P.underlying 4 = some .bool := u4
theorem z_bool : sz P 4 = some 1 := z4
theorem nfo_bool : (P.info? 4).map (fun i => (i.zero, i.size, i.bytes)) = some (some (.bool false), 1, 1) := nfo4
theorem zr_bool : zr P 4 = some (.bool false) := zr4
theorem u_uint8 : P.underlying 5 = some (.int .u8) := u5
theorem z_uint8 : sz P 5 = some 1 := z5
theorem nfo_uint8 : (P.info? 5).map (fun i => (i.zero, i.size, i.bytes)) = some (some (.int .u8 0), 1, 1) := nfo5
theorem zr_uint8 : zr P 5 = some (.int .u8 0) := zr5
theorem u_string : P.underlying 9 = some .string := u9
theorem z_string : sz P 9 = some 1 := z9
theorem nfo_string : (P.info? 9).map (fun i => (i.zero, i.size, i.bytes)) = some (some (.string ByteArray.empty), 1, 16) := nfo9
theorem zr_string : zr P 9 = some (.string ByteArray.empty) := zr9
theorem u_Sl_uint8 : P.underlying 22 = some (.slice 5) := u22
theorem z_Sl_uint8 : sz P 22 = some 1 := z22
theorem nfo_Sl_uint8 : (P.info? 22).map (fun i => (i.zero, i.size, i.bytes)) = some (some (.slice none 0 0), 1, 24) := nfo22
theorem zr_Sl_uint8 : zr P 22 = some (.slice none 0 0) := zr22
theorem u_orloplaw17_Ask : P.underlying 24 = some (.struct (match P.underlying 24 with | some (.struct fs) => fs | _ => #[])) := u24
theorem z_orloplaw17_Ask : sz P 24 = some 5 := z24
theorem u_uint16 : P.underlying 25 = some (.int .u16) := u25
theorem z_uint16 : sz P 25 = some 1 := z25
theorem nfo_uint16 : (P.info? 25).map (fun i => (i.zero, i.size, i.bytes)) = some (some (.int .u16 0), 1, 2) := nfo25
theorem zr_uint16 : zr P 25 = some (.int .u16 0) := zr25
theorem u_orloplaw17_Cut : P.underlying 27 = some (.struct (match P.underlying 27 with | some (.struct fs) => fs | _ => #[])) := u27
theorem z_orloplaw17_Cut : sz P 27 = some 3 := z27
theorem u_crypt_Crypt : P.underlying 31 = some (.interface (match P.underlying 31 with | some (.interface ms) => ms | _ => #[])) := u31
theorem z_crypt_Crypt : sz P 31 = some 1 := z31
theorem nfo_crypt_Crypt : (P.info? 31).map (fun i => (i.zero, i.size, i.bytes)) = some (some .nilIface, 1, 16) := nfo31
theorem zr_crypt_Crypt : zr P 31 = some .nilIface := zr31
theorem u_api_Code : P.underlying 33 = some (.int .i64) := u33
theorem z_api_Code : sz P 33 = some 1 := z33
theorem nfo_api_Code : (P.info? 33).map (fun i => (i.zero, i.size, i.bytes)) = some (some (.int .i64 0), 1, 8) := nfo33
theorem zr_api_Code : zr P 33 = some (.int .i64 0) := zr33
theorem u_Sl_Sl_uint8 : P.underlying 36 = some (.slice 22) := u36
theorem z_Sl_Sl_uint8 : sz P 36 = some 1 := z36
theorem nfo_Sl_Sl_uint8 : (P.info? 36).map (fun i => (i.zero, i.size, i.bytes)) = some (some (.slice none 0 0), 1, 24) := nfo36
theorem zr_Sl_Sl_uint8 : zr P 36 = some (.slice none 0 0) := zr36
theorem u_Sl_orlopref12_Sealed : P.underlying 47 = some (.slice 94) := u47
theorem z_Sl_orlopref12_Sealed : sz P 47 = some 1 := z47
theorem nfo_Sl_orlopref12_Sealed : (P.info? 47).map (fun i => (i.zero, i.size, i.bytes)) = some (some (.slice none 0 0), 1, 24) := nfo47
theorem zr_Sl_orlopref12_Sealed : zr P 47 = some (.slice none 0 0) := zr47
theorem u_orlopref12_Crypt : P.underlying 49 = some (.struct (match P.underlying 49 with | some (.struct fs) => fs | _ => #[])) := u49
theorem z_orlopref12_Crypt : sz P 49 = some 3 := z49
theorem u_Sl_orloplaw12_Do : P.underlying 55 = some (.slice 58) := u55
theorem z_Sl_orloplaw12_Do : sz P 55 = some 1 := z55
theorem nfo_Sl_orloplaw12_Do : (P.info? 55).map (fun i => (i.zero, i.size, i.bytes)) = some (some (.slice none 0 0), 1, 24) := nfo55
theorem zr_Sl_orloplaw12_Do : zr P 55 = some (.slice none 0 0) := zr55
theorem u_orloplaw12_Do : P.underlying 58 = some (.struct (match P.underlying 58 with | some (.struct fs) => fs | _ => #[])) := u58
theorem z_orloplaw12_Do : sz P 58 = some 6 := z58
theorem u_Sl_orloplaw12_Ask : P.underlying 62 = some (.slice 66) := u62
theorem z_Sl_orloplaw12_Ask : sz P 62 = some 1 := z62
theorem nfo_Sl_orloplaw12_Ask : (P.info? 62).map (fun i => (i.zero, i.size, i.bytes)) = some (some (.slice none 0 0), 1, 24) := nfo62
theorem zr_Sl_orloplaw12_Ask : zr P 62 = some (.slice none 0 0) := zr62
theorem u_32_uint8 : P.underlying 63 = some (.array 32 5) := u63
theorem z_32_uint8 : sz P 63 = some 32 := z63
theorem u_12_uint8 : P.underlying 64 = some (.array 12 5) := u64
theorem z_12_uint8 : sz P 64 = some 12 := z64
theorem u_orloplaw12_Ask : P.underlying 66 = some (.struct (match P.underlying 66 with | some (.struct fs) => fs | _ => #[])) := u66
theorem z_orloplaw12_Ask : sz P 66 = some 46 := z66
theorem u_3_uint8 : P.underlying 69 = some (.array 3 5) := u69
theorem z_3_uint8 : sz P 69 = some 3 := z69
theorem u_Pt_crypt_book : P.underlying 71 = some (.pointer 75) := u71
theorem z_Pt_crypt_book : sz P 71 = some 1 := z71
theorem nfo_Pt_crypt_book : (P.info? 71).map (fun i => (i.zero, i.size, i.bytes)) = some (some (.pointer none), 1, 8) := nfo71
theorem zr_Pt_crypt_book : zr P 71 = some (.pointer none) := zr71
theorem u_map_string_int : P.underlying 72 = some (.map 9 3) := u72
theorem z_map_string_int : sz P 72 = some 1 := z72
theorem nfo_map_string_int : (P.info? 72).map (fun i => (i.zero, i.size, i.bytes)) = some (some (.map none), 1, 8) := nfo72
theorem zr_map_string_int : zr P 72 = some (.map none) := zr72
theorem u_Sl_crypt_sealed : P.underlying 73 = some (.slice 136) := u73
theorem z_Sl_crypt_sealed : sz P 73 = some 1 := z73
theorem nfo_Sl_crypt_sealed : (P.info? 73).map (fun i => (i.zero, i.size, i.bytes)) = some (some (.slice none 0 0), 1, 24) := nfo73
theorem zr_Sl_crypt_sealed : zr P 73 = some (.slice none 0 0) := zr73
theorem u_crypt_book : P.underlying 75 = some (.struct (match P.underlying 75 with | some (.struct fs) => fs | _ => #[])) := u75
theorem z_crypt_book : sz P 75 = some 2 := z75
theorem u_seal_head : P.underlying 78 = some (.struct (match P.underlying 78 with | some (.struct fs) => fs | _ => #[])) := u78
theorem z_seal_head : sz P 78 = some 2 := z78
theorem u_uint64 : P.underlying 88 = some (.int .u64) := u88
theorem z_uint64 : sz P 88 = some 1 := z88
theorem nfo_uint64 : (P.info? 88).map (fun i => (i.zero, i.size, i.bytes)) = some (some (.int .u64 0), 1, 8) := nfo88
theorem zr_uint64 : zr P 88 = some (.int .u64 0) := zr88
theorem u_crypt_actual : P.underlying 91 = some (.struct (match P.underlying 91 with | some (.struct fs) => fs | _ => #[])) := u91
theorem z_crypt_actual : sz P 91 = some 0 := z91
theorem u_orlopref12_Sealed : P.underlying 94 = some (.struct (match P.underlying 94 with | some (.struct fs) => fs | _ => #[])) := u94
theorem z_orlopref12_Sealed : sz P 94 = some 5 := z94
theorem u_uint32 : P.underlying 96 = some (.int .u32) := u96
theorem z_uint32 : sz P 96 = some 1 := z96
theorem nfo_uint32 : (P.info? 96).map (fun i => (i.zero, i.size, i.bytes)) = some (some (.int .u32 0), 1, 4) := nfo96
theorem zr_uint32 : zr P 96 = some (.int .u32 0) := zr96
theorem u_Sl_uint32 : P.underlying 102 = some (.slice 96) := u102
theorem z_Sl_uint32 : sz P 102 = some 1 := z102
theorem nfo_Sl_uint32 : (P.info? 102).map (fun i => (i.zero, i.size, i.bytes)) = some (some (.slice none 0 0), 1, 24) := nfo102
theorem zr_Sl_uint32 : zr P 102 = some (.slice none 0 0) := zr102
theorem u_uint : P.underlying 111 = some (.int .u64) := u111
theorem z_uint : sz P 111 = some 1 := z111
theorem nfo_uint : (P.info? 111).map (fun i => (i.zero, i.size, i.bytes)) = some (some (.int .u64 0), 1, 8) := nfo111
theorem zr_uint : zr P 111 = some (.int .u64 0) := zr111
theorem u_Sl_int : P.underlying 112 = some (.slice 3) := u112
theorem z_Sl_int : sz P 112 = some 1 := z112
theorem nfo_Sl_int : (P.info? 112).map (fun i => (i.zero, i.size, i.bytes)) = some (some (.slice none 0 0), 1, 24) := nfo112
theorem zr_Sl_int : zr P 112 = some (.slice none 0 0) := zr112
theorem u_crypt_sealed : P.underlying 136 = some (.struct (match P.underlying 136 with | some (.struct fs) => fs | _ => #[])) := u136
theorem z_crypt_sealed : sz P 136 = some 4 := z136
theorem u_8_uint32 : P.underlying 144 = some (.array 8 96) := u144
theorem z_8_uint32 : sz P 144 = some 8 := z144
theorem u_64_uint32 : P.underlying 146 = some (.array 64 96) := u146
theorem z_64_uint32 : sz P 146 = some 64 := z146
theorem u_64_uint8 : P.underlying 148 = some (.array 64 5) := u148
theorem z_64_uint8 : sz P 148 = some 64 := z148
theorem u_sha_Hash : P.underlying 150 = some (.struct (match P.underlying 150 with | some (.struct fs) => fs | _ => #[])) := u150
theorem z_sha_Hash : sz P 150 = some 138 := z150
theorem u_chacha_state : P.underlying 152 = some (.array 16 96) := u152
theorem z_chacha_state : sz P 152 = some 16 := z152
theorem u_4_int : P.underlying 154 = some (.array 4 3) := u154
theorem z_4_int : sz P 154 = some 4 := z154
theorem u_8_4_int : P.underlying 155 = some (.array 8 154) := u155
theorem z_8_4_int : sz P 155 = some 32 := z155
theorem u_3_int : P.underlying 158 = some (.array 3 3) := u158
theorem z_3_int : sz P 158 = some 3 := z158
theorem u_poly_number : P.underlying 160 = some (.array 5 88) := u160
theorem z_poly_number : sz P 160 = some 5 := z160
/-- function 3: orlop.orloplaw17.SealCuts -/
def s_orloplaw17_SealCuts (K : Value → Hp → Prop) (h : Hp) (t0 t1 : Value) : Prop := aw P (Instr.box 24 t0) (fun t2 h => aw P (Instr.box 27 t1) (fun t3 h => Cn P 13 #[] h fun t18 h => q P h (Op.unary .not t18) fun t19 => cnd t19 (K (Value.bool false) h) (
let J5 : Hp → Prop := fun h => Cn P 15 #[] h fun t45 h => q P h (Instr.fieldAt 24 t2 0) fun t48 => q P h (Instr.loadAt 22 t48) fun t49 => q P h (Instr.fieldAt 24 t2 1) fun t50 => q P h (Instr.loadAt 22 t50) fun t51 => q P h (Instr.fieldAt 24 t2 2) fun t52 => q P h (Instr.loadAt 22 t52) fun t53 => q P h (Instr.fieldAt 24 t2 3) fun t54 => q P h (Instr.loadAt 22 t54) fun t55 => q P h (Instr.fieldAt 24 t2 4) fun t56 => q P h (Instr.loadAt 3 t56) fun t57 => Cn P 16 #[t45, t49, t51, t53, t55, t57] h fun t58 h => q P h (Instr.extract t58 0) fun t59 => q P h (Instr.extract t58 1) fun t60 => aw P (Instr.buildSlice 22 0 #[]) (fun t61 h => q P h (Instr.fieldAt 24 t2 1) fun t62 => q P h (Instr.loadAt 22 t62) fun t63 => aw P (Builtin.append_ #[22, 22] 22 #[t61, t63]) (fun t64 h => q P h (Instr.indexAt 22 t64 (Value.int .i64 0)) fun t66 => q P h (Instr.loadAt 5 t66) fun t67 => q P h (binOp .add 5 t67 (Value.int .u8 1)) fun t68 => q P h (Instr.indexAt 22 t64 (Value.int .i64 0)) fun t69 => aw P (Instr.storeAt 5 t69 t68) (fun _ h => q P h (Instr.fieldAt 24 t2 0) fun t72 => q P h (Instr.loadAt 22 t72) fun t73 => q P h (Instr.fieldAt 24 t2 2) fun t75 => q P h (Instr.loadAt 22 t75) fun t76 => q P h (Instr.fieldAt 24 t2 3) fun t77 => q P h (Instr.loadAt 22 t77) fun t78 => q P h (Instr.fieldAt 24 t2 4) fun t79 => q P h (Instr.loadAt 3 t79) fun t80 => Cn P 16 #[t45, t73, t64, t76, t78, t80] h fun t81 h => q P h (Instr.extract t81 0) fun t82 => q P h (Instr.extract t81 1) fun t83 => 
let J18 : Hp → Prop := fun h => q P h (Instr.sliceAt 22 t59 (some (Value.int .i64 12)) none none) fun t101 => q P h (Instr.fieldAt 24 t2 4) fun t102 => q P h (Instr.loadAt 3 t102) fun t103 => q P emp (binOp .add 3 t103 (Value.int .i64 16)) fun t104 => q P h (Instr.sliceAt 22 t82 (some (Value.int .i64 12)) none none) fun t107 => q P h (Instr.fieldAt 24 t2 4) fun t108 => q P h (Instr.loadAt 3 t108) fun t109 => q P emp (binOp .add 3 t109 (Value.int .i64 16)) fun t110 => q P h (Instr.loadAt 27 t3) fun t112 => Cn P 18 #[t101, t104] h fun t105 h => peek P h (Instr.loadAt 27 t3) = some t112 ∧ peek P h (Instr.loadAt 3 t108) = some t109 ∧ peek P h (Instr.fieldAt 24 t2 4) = some t108 ∧ peek P h (Instr.sliceAt 22 t82 (some (Value.int .i64 12)) none none) = some t107 ∧ Cn P 18 #[t107, t110] h fun t111 h => peek P h (Instr.loadAt 27 t3) = some t112 ∧ Cn P 17 #[t105, t111, t112] h fun t113 h => aw P (Instr.buildSlice 22 0 #[]) (fun t114 h => q P h (Instr.sliceAt 22 t59 none (some (Value.int .i64 12)) none) fun t116 => aw P (Builtin.append_ #[22, 22] 22 #[t114, t116]) (fun t117 h => 
Lp [t117, (Value.int .i64 0)] h fun nx29 vs29 h =>
q P h (Builtin.len_ #[36] 3 #[t113]) fun t120 => q P h (binOp .lss 3 (vs29.getD 1 undef) t120) fun t121 => cnd t121 (q P h (Instr.indexAt 36 t113 (vs29.getD 1 undef)) fun t127 => q P h (Instr.loadAt 22 t127) fun t128 => aw P (Builtin.append_ #[22, 22] 22 #[(vs29.getD 0 undef), t128]) (fun t129 h => q P h (binOp .add 3 (vs29.getD 1 undef) (Value.int .i64 1)) fun t123 => nx29 [t129, t123] h) h) (aw P (Instr.buildSlice 22 0 #[]) (fun t130 h => q P h (Instr.fieldAt 24 t2 0) fun t131 => q P h (Instr.loadAt 22 t131) fun t132 => aw P (Builtin.append_ #[22, 22] 22 #[t130, t132]) (fun t133 h => aw P (Instr.buildSlice 22 0 #[]) (fun t134 h => q P h (Instr.fieldAt 24 t2 2) fun t135 => q P h (Instr.loadAt 22 t135) fun t136 => aw P (Builtin.append_ #[22, 22] 22 #[t134, t136]) (fun t137 h => 
let J35 : Value → Value → Hp → Prop := fun t12 t15 h => Cn P 19 #[t45, t133, t15, t12] h fun t194 h => q P h (Instr.extract t194 0) fun t195 => q P h (Instr.extract t194 1) fun t196 => 
let J43 : Value → Hp → Prop := fun t211 h => cnd t211 (q P h (eqop .eql 33 (.tmp 212) (.const (Value.int .i64 0)) t196 (Value.int .i64 0)) fun t213 => gd t213 true (q P h (Instr.fieldAt 24 t2 3) fun t216 => q P h (Instr.loadAt 22 t216) fun t217 => Cn P 20 #[t195, t217] h fun t218 h => K t218 h) (K (Value.bool false) h)) (q P h (Builtin.len_ #[22] 3 #[t195]) fun t221 => q P h (eqop .eql 3 (.tmp 221) (.const (Value.int .i64 0)) t221 (Value.int .i64 0)) fun t222 => gd t222 true (q P h (eqop .eql 33 (.tmp 224) (.const (Value.int .i64 7)) t196 (Value.int .i64 7)) fun t225 => gd t225 false (q P h (eqop .eql 33 (.tmp 227) (.const (Value.int .i64 8)) t196 (Value.int .i64 8)) fun t228 => K t228 h) (K (Value.bool true) h)) (K (Value.bool false) h));
Cn P 20 #[t12, t59] h fun t199 h => gd t199 true (q P h (Instr.fieldAt 24 t2 0) fun t202 => q P h (Instr.loadAt 22 t202) fun t203 => Cn P 20 #[t133, t203] h fun t204 h => gd t204 true (q P h (Instr.fieldAt 24 t2 2) fun t208 => q P h (Instr.loadAt 22 t208) fun t209 => Cn P 20 #[t15, t209] h fun t210 h => J43 t210 h) (J43 (Value.bool false) h)) (J43 (Value.bool false) h);
q P h (Instr.fieldAt 27 t3 0) fun t138 => q P h (Instr.loadAt 5 t138) fun t139 => q P h (binOp .rem 5 t139 (Value.int .u8 9)) fun t140 => q P h (eqop .eql 5 (.tmp 140) (.const (Value.int .u8 4)) t140 (Value.int .u8 4)) fun t142 => cnd t142 (q P h (Instr.fieldAt 27 t3 1) fun t144 => q P h (Instr.loadAt 25 t144) fun t145 => q P h (convert 25 3 t145) fun t146 => q P h (Builtin.len_ #[22] 3 #[(vs29.getD 0 undef)]) fun t148 => q P emp (binOp .rem 3 t146 t148) fun t149 => q P emp (Instr.indexAt 22 (vs29.getD 0 undef) t149) fun t150 => q P h (Instr.loadAt 5 t150) fun t151 => q P h (Instr.fieldAt 27 t3 2) fun t152 => q P h (Instr.loadAt 5 t152) fun t153 => q P emp (binOp .xor 5 t151 t153) fun t154 => q P emp (Instr.indexAt 22 (vs29.getD 0 undef) t149) fun t155 => aw P (Instr.storeAt 5 t155 t154) (fun _ h => J35 (vs29.getD 0 undef) t137 h) h) (q P h (eqop .eql 5 (.tmp 140) (.const (Value.int .u8 5)) t140 (Value.int .u8 5)) fun t157 => cnd t157 (q P h (Builtin.len_ #[22] 3 #[(vs29.getD 0 undef)]) fun t160 => q P h (Instr.fieldAt 27 t3 1) fun t161 => q P h (Instr.loadAt 25 t161) fun t162 => q P h (convert 25 3 t162) fun t163 => q P h (Builtin.len_ #[22] 3 #[(vs29.getD 0 undef)]) fun t165 => q P h (binOp .rem 3 t163 t165) fun t166 => q P h (binOp .sub 3 t160 t166) fun t167 => q P h (Instr.sliceAt 22 (vs29.getD 0 undef) none (some t167) none) fun t168 => J35 t168 t137 h) (q P h (eqop .eql 5 (.tmp 140) (.const (Value.int .u8 6)) t140 (Value.int .u8 6)) fun t170 => cnd t170 (q P h (Instr.fieldAt 27 t3 2) fun t172 => q P h (Instr.loadAt 5 t172) fun t173 => aw P (Instr.buildSlice 22 1 #[(0, t173)]) (fun t174 h => aw P (Builtin.append_ #[22, 22] 22 #[t137, t174]) (fun t175 h => J35 (vs29.getD 0 undef) t175 h) h) h) (q P h (eqop .eql 5 (.tmp 140) (.const (Value.int .u8 7)) t140 (Value.int .u8 7)) fun t177 => cnd t177 (q P h (Instr.fieldAt 27 t3 1) fun t179 => q P h (Instr.loadAt 25 t179) fun t180 => q P h (convert 25 3 t180) fun t181 => q P emp (binOp .rem 3 t181 (Value.int .i64 32)) fun t182 => q P emp (Instr.indexAt 22 t133 t182) fun t183 => q P h (Instr.loadAt 5 t183) fun t184 => q P h (Instr.fieldAt 27 t3 2) fun t185 => q P h (Instr.loadAt 5 t185) fun t186 => q P emp (binOp .xor 5 t184 t186) fun t187 => q P emp (Instr.indexAt 22 t133 t182) fun t188 => aw P (Instr.storeAt 5 t188 t187) (fun _ h => J35 (vs29.getD 0 undef) t137 h) h) (J35 (vs29.getD 0 undef) t137 h))))) h) h) h) h)) h) h;
q P h (eqop .neq 33 (.tmp 84) (.const (Value.int .i64 0)) t60 (Value.int .i64 0)) fun t85 => gd t85 false (q P h (eqop .neq 33 (.tmp 87) (.const (Value.int .i64 0)) t83 (Value.int .i64 0)) fun t88 => gd t88 false (q P h (Builtin.len_ #[22] 3 #[t59]) fun t92 => q P h (binOp .lss 3 t92 (Value.int .i64 28)) fun t93 => gd t93 false (q P h (Builtin.len_ #[22] 3 #[t82]) fun t97 => q P h (binOp .lss 3 t97 (Value.int .i64 28)) fun t98 => cnd t98 (K (Value.bool false) h) (J18 h)) (cnd (Value.bool true) (K (Value.bool false) h) (J18 h))) (cnd (Value.bool true) (K (Value.bool false) h) (J18 h))) (cnd (Value.bool true) (K (Value.bool false) h) (J18 h))) h) h) h;
q P h (Instr.loadAt 24 t2) fun t20 => Cn P 14 #[t20] h fun t21 h => q P h (Op.unary .not t21) fun t22 => gd t22 false (q P h (Instr.fieldAt 24 t2 0) fun t24 => q P h (Instr.loadAt 22 t24) fun t25 => q P h (Builtin.len_ #[22] 3 #[t25]) fun t26 => q P h (eqop .neq 3 (.tmp 26) (.const (Value.int .i64 32)) t26 (Value.int .i64 32)) fun t27 => gd t27 false (q P h (Instr.fieldAt 24 t2 1) fun t30 => q P h (Instr.loadAt 22 t30) fun t31 => q P h (Builtin.len_ #[22] 3 #[t31]) fun t32 => q P h (eqop .neq 3 (.tmp 32) (.const (Value.int .i64 7)) t32 (Value.int .i64 7)) fun t33 => gd t33 false (q P h (Instr.fieldAt 24 t2 4) fun t36 => q P h (Instr.loadAt 3 t36) fun t37 => q P h (binOp .lss 3 t37 (Value.int .i64 1)) fun t38 => gd t38 false (q P h (Instr.fieldAt 24 t2 4) fun t41 => q P h (Instr.loadAt 3 t41) fun t42 => q P h (binOp .gtr 3 t42 (Value.int .i64 65536)) fun t43 => cnd t43 (K (Value.bool true) h) (J5 h)) (cnd (Value.bool true) (K (Value.bool true) h) (J5 h))) (cnd (Value.bool true) (K (Value.bool true) h) (J5 h))) (cnd (Value.bool true) (K (Value.bool true) h) (J5 h))) (cnd (Value.bool true) (K (Value.bool true) h) (J5 h)))) h) h
theorem F_orloplaw17_SealCuts {K : Value → Hp → Prop} {h : Hp} {t0 t1 : Value} (s : s_orloplaw17_SealCuts K h t0 t1) : Cn P 3 #[t0, t1] h K :=
  Cn_ofs mixed Try.func3 (by kernel_rfl) (args := [t0, t1]) (by kernel_rfl) s

/-- function 4: orlop.orloplaw17.SealLengths -/
def s_orloplaw17_SealLengths (K : Value → Hp → Prop) (h : Hp) (t0 t1 : Value) : Prop := Cn P 13 #[] h fun t7 h => q P h (Op.unary .not t7) fun t8 => cnd t8 (K (Value.bool false) h) (Cn P 21 #[t0, t1] h fun t11 h => 
let J6 : Hp → Prop := fun h => q P h (binOp .quo 3 t0 t1) fun t30 => 
let J14 : Value → Hp → Prop := fun t6 h => q P h (binOp .add 3 (Value.int .i64 12) t0) fun t43 => q P h (binOp .mul 3 (Value.int .i64 16) t6) fun t45 => q P h (binOp .add 3 t43 t45) fun t46 => q P h (eqop .eql 3 (.tmp 41) (.tmp 46) t11 t46) fun t47 => K t47 h;
q P h (binOp .rem 3 t0 t1) fun t33 => q P h (binOp .gtr 3 t33 (Value.int .i64 0)) fun t34 => gd t34 false (q P h (eqop .eql 3 (.tmp 36) (.const (Value.int .i64 0)) t0 (Value.int .i64 0)) fun t37 => cnd t37 (q P h (binOp .add 3 t30 (Value.int .i64 1)) fun t40 => J14 t40 h) (J14 t30 h)) (cnd (Value.bool true) (q P h (binOp .add 3 t30 (Value.int .i64 1)) fun t40 => J14 t40 h) (J14 t30 h));
q P h (binOp .lss 3 t0 (Value.int .i64 0)) fun t13 => gd t13 false (q P h (binOp .gtr 3 t0 (Value.int .i64 2147483647)) fun t16 => gd t16 false (q P h (binOp .lss 3 t1 (Value.int .i64 1)) fun t20 => gd t20 false (q P h (binOp .gtr 3 t1 (Value.int .i64 65536)) fun t24 => cnd t24 (q P h (eqop .eql 3 (.tmp 26) (.const (Value.int .i64 0)) t11 (Value.int .i64 0)) fun t27 => K t27 h) (J6 h)) (cnd (Value.bool true) (q P h (eqop .eql 3 (.tmp 26) (.const (Value.int .i64 0)) t11 (Value.int .i64 0)) fun t27 => K t27 h) (J6 h))) (cnd (Value.bool true) (q P h (eqop .eql 3 (.tmp 26) (.const (Value.int .i64 0)) t11 (Value.int .i64 0)) fun t27 => K t27 h) (J6 h))) (cnd (Value.bool true) (q P h (eqop .eql 3 (.tmp 26) (.const (Value.int .i64 0)) t11 (Value.int .i64 0)) fun t27 => K t27 h) (J6 h)))
theorem F_orloplaw17_SealLengths {K : Value → Hp → Prop} {h : Hp} {t0 t1 : Value} (s : s_orloplaw17_SealLengths K h t0 t1) : Cn P 4 #[t0, t1] h K :=
  Cn_ofs mixed Try.func4 (by kernel_rfl) (args := [t0, t1]) (by kernel_rfl) s

/-- function 5: orlop.orloplaw17.SealSeals -/
def s_orloplaw17_SealSeals (K : Value → Hp → Prop) (h : Hp) (t0 t1 : Value) : Prop := aw P (Instr.box 24 t1) (fun t3 h => Cn P 13 #[] h fun t12 h => q P h (Op.unary .not t12) fun t13 => cnd t13 (K (Value.bool false) h) (q P h (Instr.loadAt 24 t3) fun t14 => Cn P 14 #[t14] h fun t15 h => q P h (Op.unary .not t15) fun t16 => cnd t16 (K (Value.bool true) h) (Cn P 22 #[t0] h fun t18 h => q P h (Instr.fieldAt 24 t3 0) fun t21 => q P h (Instr.loadAt 22 t21) fun t22 => q P h (Instr.fieldAt 24 t3 1) fun t23 => q P h (Instr.loadAt 22 t23) fun t24 => q P h (Instr.fieldAt 24 t3 2) fun t25 => q P h (Instr.loadAt 22 t25) fun t26 => q P h (Instr.fieldAt 24 t3 3) fun t27 => q P h (Instr.loadAt 22 t27) fun t28 => q P h (Instr.fieldAt 24 t3 4) fun t29 => q P h (Instr.loadAt 3 t29) fun t30 => Cn P 16 #[t18, t22, t24, t26, t28, t30] h fun t31 h => q P h (Instr.extract t31 0) fun t32 => q P h (Instr.extract t31 1) fun t33 => q P h (Instr.build 49 #[(0, t0)]) fun t36 => aw P (Instr.box 49 t36) (fun t37 h => q P h (Instr.fieldAt 24 t3 0) fun t38 => q P h (Instr.loadAt 22 t38) fun t39 => q P h (Instr.fieldAt 24 t3 1) fun t40 => q P h (Instr.loadAt 22 t40) fun t41 => q P h (Instr.fieldAt 24 t3 2) fun t42 => q P h (Instr.loadAt 22 t42) fun t43 => q P h (Instr.fieldAt 24 t3 3) fun t44 => q P h (Instr.loadAt 22 t44) fun t45 => q P h (Instr.fieldAt 24 t3 4) fun t46 => q P h (Instr.loadAt 3 t46) fun t47 => Cn P 23 #[t37, t39, t41, t43, t45, t47] h fun t48 h => q P h (Instr.extract t48 0) fun t49 => q P h (Instr.extract t48 1) fun t50 => 
let J11 : Hp → Prop := fun h => q P h (eqop .neq 33 (.tmp 60) (.const (Value.int .i64 0)) t33 (Value.int .i64 0)) fun t61 => cnd t61 (q P h (eqop .eql 33 (.tmp 62) (.const (Value.int .i64 1)) t33 (Value.int .i64 1)) fun t63 => K t63 h) (q P h (Instr.fieldAt 24 t3 0) fun t66 => q P h (Instr.loadAt 22 t66) fun t67 => q P h (Instr.fieldAt 24 t3 2) fun t68 => q P h (Instr.loadAt 22 t68) fun t69 => Cn P 19 #[t18, t67, t69, t32] h fun t71 h => q P h (Instr.extract t71 0) fun t72 => q P h (Instr.extract t71 1) fun t73 => q P h (eqop .eql 33 (.tmp 74) (.const (Value.int .i64 0)) t73 (Value.int .i64 0)) fun t75 => gd t75 true (q P h (Instr.fieldAt 24 t3 3) fun t78 => q P h (Instr.loadAt 22 t78) fun t79 => Cn P 20 #[t72, t79] h fun t80 h => gd t80 true (q P h (Builtin.len_ #[22] 3 #[t32]) fun t84 => q P h (Instr.fieldAt 24 t3 3) fun t85 => q P h (Instr.loadAt 22 t85) fun t86 => q P h (Builtin.len_ #[22] 3 #[t86]) fun t87 => q P h (Instr.fieldAt 24 t3 4) fun t88 => q P h (Instr.loadAt 3 t88) fun t89 => Cn P 21 #[t87, t89] h fun t90 h => q P h (eqop .eql 3 (.tmp 84) (.tmp 90) t84 t90) fun t91 => K t91 h) (K (Value.bool false) h)) (K (Value.bool false) h));
q P h (eqop .neq 33 (.tmp 51) (.tmp 52) t33 t50) fun t53 => gd t53 false (Cn P 20 #[t32, t49] h fun t57 h => q P h (Op.unary .not t57) fun t58 => cnd t58 (K (Value.bool false) h) (J11 h)) (cnd (Value.bool true) (K (Value.bool false) h) (J11 h))) h))) h
theorem F_orloplaw17_SealSeals {K : Value → Hp → Prop} {h : Hp} {t0 t1 : Value} (s : s_orloplaw17_SealSeals K h t0 t1) : Cn P 5 #[t0, t1] h K :=
  Cn_ofs mixed Try.func5 (by kernel_rfl) (args := [t0, t1]) (by kernel_rfl) s

/-- function 6: orlop.orloplaw17.SealOpens -/
def s_orloplaw17_SealOpens (K : Value → Hp → Prop) (h : Hp) (t0 t1 t2 : Value) : Prop := aw P (Instr.box 24 t1) (fun t4 h => Cn P 13 #[] h fun t13 h => q P h (Op.unary .not t13) fun t14 => cnd t14 (K (Value.bool false) h) (
let J5 : Hp → Prop := fun h => Cn P 22 #[t0] h fun t24 h => q P h (Instr.build 49 #[(0, t0)]) fun t26 => aw P (Instr.box 49 t26) (fun t27 h => q P h (Instr.fieldAt 24 t4 0) fun t29 => q P h (Instr.loadAt 22 t29) fun t30 => q P h (Instr.fieldAt 24 t4 1) fun t31 => q P h (Instr.loadAt 22 t31) fun t32 => q P h (Instr.fieldAt 24 t4 2) fun t33 => q P h (Instr.loadAt 22 t33) fun t34 => q P h (Instr.fieldAt 24 t4 3) fun t35 => q P h (Instr.loadAt 22 t35) fun t36 => q P h (Instr.fieldAt 24 t4 4) fun t37 => q P h (Instr.loadAt 3 t37) fun t38 => Cn P 16 #[t24, t30, t32, t34, t36, t38] h fun t39 h => q P h (Instr.fieldAt 24 t4 0) fun t41 => q P h (Instr.loadAt 22 t41) fun t42 => q P h (Instr.fieldAt 24 t4 1) fun t43 => q P h (Instr.loadAt 22 t43) fun t44 => q P h (Instr.fieldAt 24 t4 2) fun t45 => q P h (Instr.loadAt 22 t45) fun t46 => q P h (Instr.fieldAt 24 t4 3) fun t47 => q P h (Instr.loadAt 22 t47) fun t48 => q P h (Instr.fieldAt 24 t4 4) fun t49 => q P h (Instr.loadAt 3 t49) fun t50 => Cn P 23 #[t27, t42, t44, t46, t48, t50] h fun t51 h => 
let J14 : Hp → Prop := fun h => q P h (Instr.fieldAt 24 t4 0) fun t86 => q P h (Instr.loadAt 22 t86) fun t87 => q P h (Instr.fieldAt 24 t4 2) fun t88 => q P h (Instr.loadAt 22 t88) fun t89 => Cn P 19 #[t24, t87, t89, t2] h fun t91 h => q P h (Instr.extract t91 0) fun t92 => q P h (Instr.extract t91 1) fun t93 => q P h (Instr.fieldAt 24 t4 0) fun t96 => q P h (Instr.loadAt 22 t96) fun t97 => q P h (Instr.fieldAt 24 t4 2) fun t98 => q P h (Instr.loadAt 22 t98) fun t99 => Cn P 24 #[t27, t97, t99, t2] h fun t101 h => q P h (Instr.extract t101 0) fun t102 => q P h (Instr.extract t101 1) fun t103 => q P h (eqop .eql 33 (.tmp 104) (.tmp 105) t93 t103) fun t106 => gd t106 true (Cn P 20 #[t92, t102] h fun t110 h => K t110 h) (K (Value.bool false) h);
q P h (Builtin.len_ #[22] 3 #[t2]) fun t53 => q P h (binOp .gtr 3 t53 (Value.int .i64 12)) fun t54 => gd t54 true (q P h (Instr.indexAt 22 t2 (Value.int .i64 8)) fun t57 => q P h (Instr.loadAt 5 t57) fun t58 => q P h (eqop .eql 5 (.tmp 58) (.const (Value.int .u8 0)) t58 (Value.int .u8 0)) fun t59 => gd t59 true (q P h (Instr.indexAt 22 t2 (Value.int .i64 9)) fun t63 => q P h (Instr.loadAt 5 t63) fun t64 => q P h (eqop .eql 5 (.tmp 64) (.const (Value.int .u8 0)) t64 (Value.int .u8 0)) fun t65 => gd t65 true (q P h (Instr.indexAt 22 t2 (Value.int .i64 10)) fun t69 => q P h (Instr.loadAt 5 t69) fun t70 => q P h (eqop .eql 5 (.tmp 70) (.const (Value.int .u8 0)) t70 (Value.int .u8 0)) fun t71 => gd t71 true (q P h (Builtin.len_ #[22] 3 #[t2]) fun t75 => q P h (Instr.indexAt 22 t2 (Value.int .i64 11)) fun t77 => q P h (Instr.loadAt 5 t77) fun t78 => q P h (convert 5 3 t78) fun t79 => q P h (binOp .add 3 t79 (Value.int .i64 16)) fun t80 => q P h (binOp .quo 3 t75 t80) fun t81 => q P h (binOp .gtr 3 t81 (Value.int .i64 100)) fun t82 => cnd t82 (K (Value.bool true) h) (J14 h)) (cnd (Value.bool false) (K (Value.bool true) h) (J14 h))) (cnd (Value.bool false) (K (Value.bool true) h) (J14 h))) (cnd (Value.bool false) (K (Value.bool true) h) (J14 h))) (cnd (Value.bool false) (K (Value.bool true) h) (J14 h))) h;
q P h (Instr.loadAt 24 t4) fun t15 => Cn P 14 #[t15] h fun t16 h => q P h (Op.unary .not t16) fun t17 => gd t17 false (q P h (Builtin.len_ #[22] 3 #[t2]) fun t20 => q P h (binOp .gtr 3 t20 (Value.int .i64 3000)) fun t21 => cnd t21 (K (Value.bool true) h) (J5 h)) (cnd (Value.bool true) (K (Value.bool true) h) (J5 h)))) h
theorem F_orloplaw17_SealOpens {K : Value → Hp → Prop} {h : Hp} {t0 t1 t2 : Value} (s : s_orloplaw17_SealOpens K h t0 t1 t2) : Cn P 6 #[t0, t1, t2] h K :=
  Cn_ofs mixed Try.func6 (by kernel_rfl) (args := [t0, t1, t2]) (by kernel_rfl) s

/-- function 7: orlop.orloplaw17.SealBlind -/
def s_orloplaw17_SealBlind (K : Value → Hp → Prop) (h : Hp) (t0 t1 : Value) : Prop := aw P (Instr.box 24 t0) (fun t2 h => Cn P 13 #[] h fun t13 h => q P h (Op.unary .not t13) fun t14 => cnd t14 (K (Value.bool false) h) (q P h (Instr.loadAt 24 t2) fun t15 => Cn P 14 #[t15] h fun t16 h => q P h (Op.unary .not t16) fun t17 => cnd t17 (K (Value.bool true) h) (q P h (Instr.fieldAt 24 t2 3) fun t18 => q P h (Instr.loadAt 22 t18) fun t19 => q P h (Builtin.len_ #[22] 3 #[t19]) fun t20 => aw P (Instr.makeSlice 22 t20 t20) (fun t21 h => 
Lp [(Value.int .i64 0)] h fun nx11 vs11 h =>
q P h (Builtin.len_ #[22] 3 #[t21]) fun t24 => q P h (binOp .lss 3 (vs11.getD 0 undef) t24) fun t25 => cnd t25 (q P h (Instr.indexAt 22 t21 (vs11.getD 0 undef)) fun t31 => aw P (Instr.storeAt 5 t31 t1) (fun _ h => q P h (binOp .add 3 (vs11.getD 0 undef) (Value.int .i64 1)) fun t27 => nx11 [t27] h) h) (q P h (Instr.fieldAt 24 t2 0) fun t34 => q P h (Instr.loadAt 22 t34) fun t35 => q P h (Instr.fieldAt 24 t2 1) fun t36 => q P h (Instr.loadAt 22 t36) fun t37 => q P h (Instr.fieldAt 24 t2 2) fun t38 => q P h (Instr.loadAt 22 t38) fun t39 => q P h (Instr.fieldAt 24 t2 3) fun t40 => q P h (Instr.loadAt 22 t40) fun t41 => q P h (Instr.fieldAt 24 t2 4) fun t42 => q P h (Instr.loadAt 3 t42) fun t43 => Cn P 15 #[] h fun t33 h => peek P h (Instr.loadAt 3 t42) = some t43 ∧ peek P h (Instr.fieldAt 24 t2 4) = some t42 ∧ peek P h (Instr.loadAt 22 t40) = some t41 ∧ peek P h (Instr.fieldAt 24 t2 3) = some t40 ∧ peek P h (Instr.loadAt 22 t38) = some t39 ∧ peek P h (Instr.fieldAt 24 t2 2) = some t38 ∧ peek P h (Instr.loadAt 22 t36) = some t37 ∧ peek P h (Instr.fieldAt 24 t2 1) = some t36 ∧ peek P h (Instr.loadAt 22 t34) = some t35 ∧ peek P h (Instr.fieldAt 24 t2 0) = some t34 ∧ Cn P 16 #[t33, t35, t37, t39, t41, t43] h fun t44 h => q P emp (Instr.extract t44 0) fun t45 => q P emp (Instr.extract t44 1) fun t46 => q P h (Instr.fieldAt 24 t2 0) fun t49 => q P h (Instr.loadAt 22 t49) fun t50 => q P h (Instr.fieldAt 24 t2 1) fun t51 => q P h (Instr.loadAt 22 t51) fun t52 => q P h (Instr.fieldAt 24 t2 2) fun t53 => q P h (Instr.loadAt 22 t53) fun t54 => q P h (Instr.fieldAt 24 t2 4) fun t56 => q P h (Instr.loadAt 3 t56) fun t57 => Cn P 15 #[] h fun t48 h => peek P h (Instr.loadAt 3 t56) = some t57 ∧ peek P h (Instr.fieldAt 24 t2 4) = some t56 ∧ peek P h (Instr.loadAt 22 t53) = some t54 ∧ peek P h (Instr.fieldAt 24 t2 2) = some t53 ∧ peek P h (Instr.loadAt 22 t51) = some t52 ∧ peek P h (Instr.fieldAt 24 t2 1) = some t51 ∧ peek P h (Instr.loadAt 22 t49) = some t50 ∧ peek P h (Instr.fieldAt 24 t2 0) = some t49 ∧ Cn P 16 #[t48, t50, t52, t54, t21, t57] h fun t58 h => q P emp (Instr.extract t58 0) fun t59 => q P emp (Instr.extract t58 1) fun t60 => q P h (Instr.fieldAt 24 t2 0) fun t63 => q P h (Instr.loadAt 22 t63) fun t64 => q P h (Instr.fieldAt 24 t2 1) fun t65 => q P h (Instr.loadAt 22 t65) fun t66 => q P h (Instr.fieldAt 24 t2 2) fun t67 => q P h (Instr.loadAt 22 t67) fun t68 => q P h (Instr.fieldAt 24 t2 4) fun t70 => q P h (Instr.loadAt 3 t70) fun t71 => Cn P 25 #[] h fun t62 h => peek P h (Instr.loadAt 3 t70) = some t71 ∧ peek P h (Instr.fieldAt 24 t2 4) = some t70 ∧ peek P h (Instr.loadAt 22 t67) = some t68 ∧ peek P h (Instr.fieldAt 24 t2 2) = some t67 ∧ peek P h (Instr.loadAt 22 t65) = some t66 ∧ peek P h (Instr.fieldAt 24 t2 1) = some t65 ∧ peek P h (Instr.loadAt 22 t63) = some t64 ∧ peek P h (Instr.fieldAt 24 t2 0) = some t63 ∧ Cn P 16 #[t62, t64, t66, t68, t21, t71] h fun t72 h => q P emp (Instr.extract t72 0) fun t73 => q P emp (Instr.extract t72 1) fun t74 => q P h (eqop .eql 33 (.tmp 75) (.tmp 76) t46 t60) fun t77 => gd t77 true (q P h (eqop .eql 33 (.tmp 79) (.tmp 80) t60 t74) fun t81 => gd t81 true (Cn P 20 #[t45, t59] h fun t86 h => gd t86 true (q P h (Builtin.len_ #[22] 3 #[t73]) fun t90 => q P h (Builtin.len_ #[22] 3 #[t45]) fun t92 => q P h (eqop .eql 3 (.tmp 90) (.tmp 92) t90 t92) fun t93 => K t93 h) (K (Value.bool false) h)) (K (Value.bool false) h)) (K (Value.bool false) h))) h))) h
theorem F_orloplaw17_SealBlind {K : Value → Hp → Prop} {h : Hp} {t0 t1 : Value} (s : s_orloplaw17_SealBlind K h t0 t1) : Cn P 7 #[t0, t1] h K :=
  Cn_ofs mixed Try.func7 (by kernel_rfl) (args := [t0, t1]) (by kernel_rfl) s

/-- function 8: orlop.orloplaw17.SealSizes -/
def s_orloplaw17_SealSizes (K : Value → Hp → Prop) (h : Hp) (t0 t1 : Value) : Prop := aw P (Instr.box 24 t0) (fun t2 h => Cn P 13 #[] h fun t15 h => q P h (Op.unary .not t15) fun t16 => cnd t16 (K (Value.bool false) h) (q P h (convert 25 3 t1) fun t18 => q P h (binOp .add 3 (Value.int .i64 1) t18) fun t19 => 
let J6 : Hp → Prop := fun h => Cn P 25 #[] h fun t59 h => q P h (Instr.fieldAt 24 t2 0) fun t62 => q P h (Instr.loadAt 22 t62) fun t63 => q P h (Instr.fieldAt 24 t2 1) fun t64 => q P h (Instr.loadAt 22 t64) fun t65 => q P h (Instr.fieldAt 24 t2 2) fun t66 => q P h (Instr.loadAt 22 t66) fun t67 => q P h (Instr.fieldAt 24 t2 3) fun t68 => q P h (Instr.loadAt 22 t68) fun t69 => q P h (Instr.fieldAt 24 t2 4) fun t70 => q P h (Instr.loadAt 3 t70) fun t71 => Cn P 16 #[t59, t63, t65, t67, t69, t71] h fun t72 h => q P h (Instr.extract t72 0) fun t73 => q P h (Instr.extract t72 1) fun t74 => q P h (Instr.fieldAt 24 t2 0) fun t77 => q P h (Instr.loadAt 22 t77) fun t78 => q P h (Instr.fieldAt 24 t2 1) fun t79 => q P h (Instr.loadAt 22 t79) fun t80 => q P h (Instr.fieldAt 24 t2 2) fun t81 => q P h (Instr.loadAt 22 t81) fun t82 => q P h (Instr.fieldAt 24 t2 3) fun t83 => q P h (Instr.loadAt 22 t83) fun t84 => Cn P 16 #[t59, t78, t80, t82, t84, t19] h fun t86 h => q P h (Instr.extract t86 0) fun t87 => q P h (Instr.extract t86 1) fun t88 => q P h (Instr.fieldAt 24 t2 0) fun t91 => q P h (Instr.loadAt 22 t91) fun t92 => q P h (Instr.fieldAt 24 t2 2) fun t93 => q P h (Instr.loadAt 22 t93) fun t94 => Cn P 19 #[t59, t92, t94, t73] h fun t96 h => q P h (Instr.extract t96 0) fun t97 => q P h (Instr.extract t96 1) fun t98 => q P h (Instr.fieldAt 24 t2 0) fun t101 => q P h (Instr.loadAt 22 t101) fun t102 => q P h (Instr.fieldAt 24 t2 2) fun t103 => q P h (Instr.loadAt 22 t103) fun t104 => Cn P 19 #[t59, t102, t104, t87] h fun t106 h => q P h (Instr.extract t106 0) fun t107 => q P h (Instr.extract t106 1) fun t108 => q P h (eqop .eql 33 (.tmp 109) (.const (Value.int .i64 0)) t74 (Value.int .i64 0)) fun t110 => gd t110 true (q P h (eqop .eql 33 (.tmp 112) (.const (Value.int .i64 0)) t88 (Value.int .i64 0)) fun t113 => gd t113 true (q P h (eqop .eql 33 (.tmp 116) (.const (Value.int .i64 0)) t98 (Value.int .i64 0)) fun t117 => gd t117 true (q P h (eqop .eql 33 (.tmp 120) (.const (Value.int .i64 0)) t108 (Value.int .i64 0)) fun t121 => gd t121 true (q P h (Instr.fieldAt 24 t2 3) fun t125 => q P h (Instr.loadAt 22 t125) fun t126 => Cn P 20 #[t97, t126] h fun t127 h => gd t127 true (q P h (Instr.fieldAt 24 t2 3) fun t131 => q P h (Instr.loadAt 22 t131) fun t132 => Cn P 20 #[t107, t132] h fun t133 h => gd t133 true (q P h (Builtin.len_ #[22] 3 #[t87]) fun t137 => q P h (Instr.fieldAt 24 t2 3) fun t138 => q P h (Instr.loadAt 22 t138) fun t139 => q P h (Builtin.len_ #[22] 3 #[t139]) fun t140 => Cn P 21 #[t140, t19] h fun t142 h => q P h (eqop .eql 3 (.tmp 137) (.tmp 142) t137 t142) fun t143 => K t143 h) (K (Value.bool false) h)) (K (Value.bool false) h)) (K (Value.bool false) h)) (K (Value.bool false) h)) (K (Value.bool false) h)) (K (Value.bool false) h);
q P h (Instr.loadAt 24 t2) fun t20 => Cn P 14 #[t20] h fun t21 h => q P h (Op.unary .not t21) fun t22 => gd t22 false (q P h (Instr.fieldAt 24 t2 3) fun t24 => q P h (Instr.loadAt 22 t24) fun t25 => q P h (Builtin.len_ #[22] 3 #[t25]) fun t26 => q P h (binOp .gtr 3 t26 (Value.int .i64 1000)) fun t27 => gd t27 false (q P h (Instr.fieldAt 24 t2 3) fun t30 => q P h (Instr.loadAt 22 t30) fun t31 => q P h (Builtin.len_ #[22] 3 #[t31]) fun t32 => q P h (binOp .quo 3 t32 t19) fun t34 => q P h (binOp .gtr 3 t34 (Value.int .i64 60)) fun t35 => gd t35 false (q P h (Instr.fieldAt 24 t2 0) fun t38 => q P h (Instr.loadAt 22 t38) fun t39 => q P h (Builtin.len_ #[22] 3 #[t39]) fun t40 => q P h (eqop .neq 3 (.tmp 40) (.const (Value.int .i64 32)) t40 (Value.int .i64 32)) fun t41 => gd t41 false (q P h (Instr.fieldAt 24 t2 1) fun t44 => q P h (Instr.loadAt 22 t44) fun t45 => q P h (Builtin.len_ #[22] 3 #[t45]) fun t46 => q P h (eqop .neq 3 (.tmp 46) (.const (Value.int .i64 7)) t46 (Value.int .i64 7)) fun t47 => gd t47 false (q P h (Instr.fieldAt 24 t2 4) fun t50 => q P h (Instr.loadAt 3 t50) fun t51 => q P h (binOp .lss 3 t51 (Value.int .i64 1)) fun t52 => gd t52 false (q P h (Instr.fieldAt 24 t2 4) fun t55 => q P h (Instr.loadAt 3 t55) fun t56 => q P h (binOp .gtr 3 t56 (Value.int .i64 65536)) fun t57 => cnd t57 (K (Value.bool true) h) (J6 h)) (cnd (Value.bool true) (K (Value.bool true) h) (J6 h))) (cnd (Value.bool true) (K (Value.bool true) h) (J6 h))) (cnd (Value.bool true) (K (Value.bool true) h) (J6 h))) (cnd (Value.bool true) (K (Value.bool true) h) (J6 h))) (cnd (Value.bool true) (K (Value.bool true) h) (J6 h))) (cnd (Value.bool true) (K (Value.bool true) h) (J6 h)))) h
theorem F_orloplaw17_SealSizes {K : Value → Hp → Prop} {h : Hp} {t0 t1 : Value} (s : s_orloplaw17_SealSizes K h t0 t1) : Cn P 8 #[t0, t1] h K :=
  Cn_ofs mixed Try.func8 (by kernel_rfl) (args := [t0, t1]) (by kernel_rfl) s

/-- function 9: orlop.orloplaw12.CryptPlays -/
def s_orloplaw12_CryptPlays (K : Value → Hp → Prop) (h : Hp) (t0 t1 : Value) : Prop := Cn P 26 #[] h fun t19 h => q P h (Op.unary .not t19) fun t20 => cnd t20 (K (Value.bool false) h) (Cn P 27 #[t1] h fun t22 h => q P h (Op.unary .not t22) fun t23 => cnd t23 (K (Value.bool true) h) (Cn P 28 #[t0] h fun t25 h => q P h (Instr.build 49 #[(0, t0)]) fun t27 => aw P (Instr.box 49 t27) (fun t28 h => 
Lp [(Value.bool false), (Value.slice none 0 0), (Value.int .i64 0)] h fun nx13 vs13 h =>

let J14 : Hp → Prop := fun h => q P h (Instr.indexAt 55 t1 (vs13.getD 2 undef)) fun t41 => q P h (Instr.loadAt 58 t41) fun t42 => aw P (Instr.alloc 58 true (.tuple #[])) (fun t9 h => aw P (Instr.storeAt 58 t9 t42) (fun _ h => q P h (Instr.fieldAt 58 t9 0) fun t43 => q P h (Instr.loadAt 3 t43) fun t44 => q P h (eqop .eql 3 (.tmp 44) (.const (Value.int .i64 0)) t44 (Value.int .i64 0)) fun t98 => cnd t98 (q P h (Instr.fieldAt 58 t9 4) fun t100 => q P h (Instr.loadAt 22 t100) fun t101 => q P h (Instr.fieldAt 58 t9 4) fun t104 => q P h (Instr.loadAt 22 t104) fun t105 => aw P (callMethod t25 "Sum" #[t101]) (nextP P fun t102 h => peek P h (Instr.loadAt 22 t104) = some t105 ∧ peek P h (Instr.fieldAt 58 t9 4) = some t104 ∧ Cn P 29 #[t28, t105] h fun t106 h => Cn P 20 #[t102, t106] h fun t107 h => q P emp (Op.unary .not t107) fun t108 => cnd t108 (K (Value.bool false) h) (q P h (binOp .add 3 (vs13.getD 2 undef) (Value.int .i64 1)) fun t38 => nx13 [(vs13.getD 0 undef), (vs13.getD 1 undef), t38] h)) h) (q P h (eqop .eql 3 (.tmp 44) (.const (Value.int .i64 1)) t44 (Value.int .i64 1)) fun t110 => cnd t110 (q P h (Instr.fieldAt 58 t9 1) fun t113 => q P h (Instr.loadAt 22 t113) fun t114 => q P h (Instr.fieldAt 58 t9 2) fun t115 => q P h (Instr.loadAt 22 t115) fun t116 => q P h (Instr.fieldAt 58 t9 3) fun t117 => q P h (Instr.loadAt 22 t117) fun t118 => q P h (Instr.fieldAt 58 t9 4) fun t119 => q P h (Instr.loadAt 22 t119) fun t120 => aw P (callMethod t25 "Seal" #[t114, t116, t118, t120]) (nextP P fun t121 h => q P h (Instr.extract t121 0) fun t122 => q P h (Instr.extract t121 1) fun t123 => q P h (Instr.fieldAt 58 t9 1) fun t126 => q P h (Instr.loadAt 22 t126) fun t127 => q P h (Instr.fieldAt 58 t9 2) fun t128 => q P h (Instr.loadAt 22 t128) fun t129 => q P h (Instr.fieldAt 58 t9 3) fun t130 => q P h (Instr.loadAt 22 t130) fun t131 => q P h (Instr.fieldAt 58 t9 4) fun t132 => q P h (Instr.loadAt 22 t132) fun t133 => Cn P 30 #[t28, t127, t129, t131, t133] h fun t134 h => q P h (Instr.extract t134 0) fun t135 => q P h (Instr.extract t134 1) fun t136 => 
let J25 : Value → Hp → Prop := fun t4 h => aw P (Instr.buildSlice 36 1 #[(0, t135)]) (fun t148 h => aw P (Builtin.append_ #[36, 36] 36 #[(vs13.getD 1 undef), t148]) (fun t149 h => q P h (binOp .add 3 (vs13.getD 2 undef) (Value.int .i64 1)) fun t38 => nx13 [t4, t149, t38] h) h) h;
q P h (eqop .neq 33 (.tmp 137) (.tmp 138) t123 t136) fun t139 => gd t139 false (Cn P 20 #[t122, t135] h fun t143 h => q P h (Op.unary .not t143) fun t144 => cnd t144 (K (Value.bool false) h) (J25 (vs13.getD 0 undef) h)) (cnd (Value.bool true) (K (Value.bool false) h) (J25 (vs13.getD 0 undef) h))) h) (q P h (Instr.fieldAt 58 t9 4) fun t45 => q P h (Instr.loadAt 22 t45) fun t46 => 
let J31 : Value → Hp → Prop := fun t14 h => q P h (Instr.fieldAt 58 t9 1) fun t66 => q P h (Instr.loadAt 22 t66) fun t67 => q P h (Instr.fieldAt 58 t9 2) fun t68 => q P h (Instr.loadAt 22 t68) fun t69 => q P h (Instr.fieldAt 58 t9 3) fun t70 => q P h (Instr.loadAt 22 t70) fun t71 => aw P (callMethod t25 "Open" #[t67, t69, t71, t14]) (nextP P fun t73 h => q P h (Instr.extract t73 0) fun t74 => q P h (Instr.extract t73 1) fun t75 => q P h (Instr.fieldAt 58 t9 1) fun t78 => q P h (Instr.loadAt 22 t78) fun t79 => q P h (Instr.fieldAt 58 t9 2) fun t80 => q P h (Instr.loadAt 22 t80) fun t81 => q P h (Instr.fieldAt 58 t9 3) fun t82 => q P h (Instr.loadAt 22 t82) fun t83 => Cn P 31 #[t28, t79, t81, t83, t14] h fun t85 h => q P h (Instr.extract t85 0) fun t86 => q P h (Instr.extract t85 1) fun t87 => q P h (eqop .neq 33 (.tmp 88) (.tmp 89) t75 t87) fun t90 => gd t90 false (Cn P 20 #[t74, t86] h fun t94 h => q P h (Op.unary .not t94) fun t95 => cnd t95 (K (Value.bool false) h) (q P h (binOp .add 3 (vs13.getD 2 undef) (Value.int .i64 1)) fun t38 => nx13 [(vs13.getD 0 undef), (vs13.getD 1 undef), t38] h)) (cnd (Value.bool true) (K (Value.bool false) h) (q P h (binOp .add 3 (vs13.getD 2 undef) (Value.int .i64 1)) fun t38 => nx13 [(vs13.getD 0 undef), (vs13.getD 1 undef), t38] h))) h;

let J32 : Value → Hp → Prop := fun t54 h => cnd t54 (q P h (Instr.fieldAt 58 t9 5) fun t56 => q P h (Instr.loadAt 5 t56) fun t57 => q P h (convert 5 3 t57) fun t58 => q P h (Builtin.len_ #[36] 3 #[(vs13.getD 1 undef)]) fun t60 => q P h (binOp .rem 3 t58 t60) fun t61 => q P h (Instr.indexAt 36 (vs13.getD 1 undef) t61) fun t62 => q P h (Instr.loadAt 22 t62) fun t63 => J31 t63 h) (J31 t46 h);
q P h (Instr.fieldAt 58 t9 0) fun t47 => q P h (Instr.loadAt 3 t47) fun t48 => q P h (eqop .eql 3 (.tmp 48) (.const (Value.int .i64 3)) t48 (Value.int .i64 3)) fun t49 => gd t49 true (q P h (Builtin.len_ #[36] 3 #[(vs13.getD 1 undef)]) fun t52 => q P h (binOp .gtr 3 t52 (Value.int .i64 0)) fun t53 => J32 t53 h) (J32 (Value.bool false) h)))) h) h;
q P h (Builtin.len_ #[55] 3 #[t1]) fun t31 => q P h (binOp .lss 3 (vs13.getD 2 undef) t31) fun t32 => gd t32 true (q P h (binOp .lss 3 (vs13.getD 2 undef) (Value.int .i64 30)) fun t35 => cnd t35 (J14 h) (K (Value.bool true) h)) (cnd (Value.bool false) (J14 h) (K (Value.bool true) h))) h))
theorem F_orloplaw12_CryptPlays {K : Value → Hp → Prop} {h : Hp} {t0 t1 : Value} (s : s_orloplaw12_CryptPlays K h t0 t1) : Cn P 9 #[t0, t1] h K :=
  Cn_ofs mixed Try.func9 (by kernel_rfl) (args := [t0, t1]) (by kernel_rfl) s

/-- function 10: orlop.orloplaw12.CryptBack -/
def s_orloplaw12_CryptBack (K : Value → Hp → Prop) (h : Hp) (t0 t1 : Value) : Prop := Cn P 26 #[] h fun t15 h => q P h (Op.unary .not t15) fun t16 => cnd t16 (K (Value.bool false) h) (Cn P 28 #[t0] h fun t18 h => 
let J7 : Value → Value → Hp → Prop := fun t4 t6 h => 
Lp [t4, (Value.int .i64 0)] h fun nx27 vs27 h =>
q P h (Builtin.len_ #[36] 3 #[t6]) fun t76 => q P h (binOp .lss 3 (vs27.getD 1 undef) t76) fun t77 => cnd t77 (q P h (Instr.indexAt 62 t1 (vs27.getD 1 undef)) fun t82 => q P h (Instr.loadAt 66 t82) fun t83 => aw P (Instr.alloc 66 true (.tuple #[])) (fun t12 h => aw P (Instr.storeAt 66 t12 t83) (fun _ h => q P h (Instr.fieldAt 66 t12 0) fun t86 => q P h (Instr.sliceAt 63 t86 none none none) fun t87 => q P h (Instr.fieldAt 66 t12 1) fun t88 => q P h (Instr.sliceAt 64 t88 none none none) fun t89 => q P h (Instr.fieldAt 66 t12 2) fun t90 => q P h (Instr.loadAt 22 t90) fun t91 => q P emp (Instr.indexAt 36 t6 (vs27.getD 1 undef)) fun t94 => q P h (Instr.loadAt 22 t94) fun t95 => q P emp (nilCk (Value.func (.method "Open") #[t18] #[])) fun t97 => aw P (callMethod t18 "Open" #[t87, t89, t91, t95]) (nextP P fun t99 h => q P emp (Instr.extract t99 0) fun t100 => q P emp (Instr.extract t99 1) fun t101 => q P h (eqop .neq 33 (.tmp 102) (.const (Value.int .i64 0)) t101 (Value.int .i64 0)) fun t103 => gd t103 false (q P h (Instr.fieldAt 66 t12 3) fun t106 => q P h (Instr.loadAt 22 t106) fun t107 => Cn P 20 #[t100, t107] h fun t108 h => q P h (Op.unary .not t108) fun t109 => cnd t109 (K (Value.bool false) h) (q P h (binOp .add 3 (vs27.getD 1 undef) (Value.int .i64 1)) fun t79 => nx27 [(vs27.getD 0 undef), t79] h)) (cnd (Value.bool true) (K (Value.bool false) h) (q P h (binOp .add 3 (vs27.getD 1 undef) (Value.int .i64 1)) fun t79 => nx27 [(vs27.getD 0 undef), t79] h))) h) h) h) (K (Value.bool true) h);

Lp [(Value.bool false), (Value.slice none 0 0), (Value.int .i64 0)] h fun nx9 vs9 h =>

let J10 : Hp → Prop := fun h => q P h (Instr.indexAt 62 t1 (vs9.getD 2 undef)) fun t31 => q P h (Instr.loadAt 66 t31) fun t32 => aw P (Instr.alloc 66 true (.tuple #[])) (fun t8 h => aw P (Instr.storeAt 66 t8 t32) (fun _ h => 
let J14 : Value → Hp → Prop := fun t4 h => q P h (Instr.fieldAt 66 t8 0) fun t45 => q P h (Instr.sliceAt 63 t45 none none none) fun t46 => q P h (Instr.fieldAt 66 t8 1) fun t47 => q P h (Instr.sliceAt 64 t47 none none none) fun t48 => q P h (Instr.fieldAt 66 t8 2) fun t49 => q P h (Instr.loadAt 22 t49) fun t50 => q P h (Instr.fieldAt 66 t8 3) fun t51 => q P h (Instr.loadAt 22 t51) fun t52 => q P emp (nilCk (Value.func (.method "Seal") #[t18] #[])) fun t54 => aw P (callMethod t18 "Seal" #[t46, t48, t50, t52]) (nextP P fun t56 h => q P emp (Instr.extract t56 0) fun t57 => q P emp (Instr.extract t56 1) fun t58 => q P h (eqop .neq 33 (.tmp 59) (.const (Value.int .i64 0)) t58 (Value.int .i64 0)) fun t60 => gd t60 false (q P h (Builtin.len_ #[22] 3 #[t57]) fun t63 => q P h (Instr.fieldAt 66 t8 3) fun t64 => q P h (Instr.loadAt 22 t64) fun t65 => q P h (Builtin.len_ #[22] 3 #[t65]) fun t66 => q P h (binOp .add 3 t66 (Value.int .i64 16)) fun t67 => q P h (eqop .neq 3 (.tmp 63) (.tmp 67) t63 t67) fun t68 => cnd t68 (K (Value.bool false) h) (aw P (Instr.buildSlice 36 1 #[(0, t57)]) (fun t72 h => aw P (Builtin.append_ #[36, 36] 36 #[(vs9.getD 1 undef), t72]) (fun t73 h => q P h (binOp .add 3 (vs9.getD 2 undef) (Value.int .i64 1)) fun t28 => nx9 [t4, t73, t28] h) h) h)) (cnd (Value.bool true) (K (Value.bool false) h) (aw P (Instr.buildSlice 36 1 #[(0, t57)]) (fun t72 h => aw P (Builtin.append_ #[36, 36] 36 #[(vs9.getD 1 undef), t72]) (fun t73 h => q P h (binOp .add 3 (vs9.getD 2 undef) (Value.int .i64 1)) fun t28 => nx9 [t4, t73, t28] h) h) h))) h;
q P h (Instr.fieldAt 66 t8 2) fun t33 => q P h (Instr.loadAt 22 t33) fun t34 => q P h (Builtin.len_ #[22] 3 #[t34]) fun t35 => q P h (binOp .gtr 3 t35 (Value.int .i64 300)) fun t36 => gd t36 false (q P h (Instr.fieldAt 66 t8 3) fun t38 => q P h (Instr.loadAt 22 t38) fun t39 => q P h (Builtin.len_ #[22] 3 #[t39]) fun t40 => q P h (binOp .gtr 3 t40 (Value.int .i64 300)) fun t41 => cnd t41 (K (Value.bool true) h) (J14 (vs9.getD 0 undef) h)) (cnd (Value.bool true) (K (Value.bool true) h) (J14 (vs9.getD 0 undef) h))) h) h;
q P h (Builtin.len_ #[62] 3 #[t1]) fun t21 => q P h (binOp .lss 3 (vs9.getD 2 undef) t21) fun t22 => gd t22 true (q P h (binOp .lss 3 (vs9.getD 2 undef) (Value.int .i64 30)) fun t25 => cnd t25 (J10 h) (J7 (vs9.getD 0 undef) (vs9.getD 1 undef) h)) (cnd (Value.bool false) (J10 h) (J7 (vs9.getD 0 undef) (vs9.getD 1 undef) h)))
theorem F_orloplaw12_CryptBack {K : Value → Hp → Prop} {h : Hp} {t0 t1 : Value} (s : s_orloplaw12_CryptBack K h t0 t1) : Cn P 10 #[t0, t1] h K :=
  Cn_ofs mixed Try.func10 (by kernel_rfl) (args := [t0, t1]) (by kernel_rfl) s

/-- function 11: orlop.orloplaw12.CryptBlind -/
def s_orloplaw12_CryptBlind (K : Value → Hp → Prop) (h : Hp) (t0 t1 : Value) : Prop := Cn P 26 #[] h fun t15 h => q P h (Op.unary .not t15) fun t16 => cnd t16 (K (Value.bool false) h) (Cn P 15 #[] h fun t17 h => Cn P 15 #[] h fun t18 h => 
Lp [(Value.bool false), (Value.int .i64 0)] h fun nx9 vs9 h =>

let J10 : Hp → Prop := fun h => q P h (Instr.indexAt 62 t0 (vs9.getD 1 undef)) fun t31 => q P h (Instr.loadAt 66 t31) fun t32 => aw P (Instr.alloc 66 true (.tuple #[])) (fun t8 h => aw P (Instr.storeAt 66 t8 t32) (fun _ h => 
let J14 : Value → Hp → Prop := fun t4 h => q P h (Instr.fieldAt 66 t8 3) fun t43 => q P h (Instr.loadAt 22 t43) fun t44 => q P h (Builtin.len_ #[22] 3 #[t44]) fun t45 => aw P (Instr.makeSlice 22 t45 t45) (fun t46 h => 
let J20 : Hp → Prop := fun h => q P h (Instr.fieldAt 66 t8 0) fun t80 => q P h (Instr.sliceAt 63 t80 none none none) fun t81 => q P h (Instr.fieldAt 66 t8 1) fun t82 => q P h (Instr.sliceAt 64 t82 none none none) fun t83 => q P h (Instr.fieldAt 66 t8 2) fun t84 => q P h (Instr.loadAt 22 t84) fun t85 => q P h (Instr.fieldAt 66 t8 3) fun t86 => q P h (Instr.loadAt 22 t86) fun t87 => q P emp (nilCk (Value.func (.method "Seal") #[t17] #[])) fun t89 => aw P (callMethod t17 "Seal" #[t81, t83, t85, t87]) (nextP P fun t91 h => q P emp (Instr.extract t91 0) fun t92 => q P emp (Instr.extract t91 1) fun t93 => q P h (Instr.fieldAt 66 t8 0) fun t96 => q P h (Instr.sliceAt 63 t96 none none none) fun t97 => q P h (Instr.fieldAt 66 t8 1) fun t98 => q P h (Instr.sliceAt 64 t98 none none none) fun t99 => q P h (Instr.fieldAt 66 t8 2) fun t100 => q P h (Instr.loadAt 22 t100) fun t101 => q P emp (nilCk (Value.func (.method "Seal") #[t18] #[])) fun t104 => aw P (callMethod t18 "Seal" #[t97, t99, t101, t46]) (nextP P fun t106 h => q P emp (Instr.extract t106 0) fun t107 => q P emp (Instr.extract t106 1) fun t108 => 
let J28 : Value → Hp → Prop := fun t4 h => q P h (Instr.fieldAt 66 t8 3) fun t119 => q P h (Instr.loadAt 22 t119) fun t120 => q P h (Instr.fieldAt 66 t8 3) fun t126 => q P h (Instr.loadAt 22 t126) fun t127 => aw P (callMethod t17 "Sum" #[t120]) (nextP P fun t121 h => peek P h (Instr.loadAt 22 t126) = some t127 ∧ peek P h (Instr.fieldAt 66 t8 3) = some t126 ∧ aw P (callMethod t17 "Sum" #[t46]) (nextP P fun t124 h => peek P h (Instr.loadAt 22 t126) = some t127 ∧ peek P h (Instr.fieldAt 66 t8 3) = some t126 ∧ Cn P 20 #[t121, t124] h fun t125 h => peek P h (Instr.loadAt 22 t126) = some t127 ∧ peek P h (Instr.fieldAt 66 t8 3) = some t126 ∧ Cn P 20 #[t127, t46] h fun t129 h => q P h (eqop .neq 4 (.tmp 125) (.tmp 129) t125 t129) fun t130 => cnd t130 (K (Value.bool false) h) (q P h (binOp .add 3 (vs9.getD 1 undef) (Value.int .i64 1)) fun t28 => nx9 [t4, t28] h)) h) h;
q P h (eqop .neq 33 (.tmp 109) (.tmp 110) t93 t108) fun t111 => gd t111 false (Cn P 20 #[t92, t107] h fun t115 h => q P h (Op.unary .not t115) fun t116 => cnd t116 (K (Value.bool false) h) (J28 t4 h)) (cnd (Value.bool true) (K (Value.bool false) h) (J28 t4 h))) h) h;

Lp [(Value.int .i64 0)] h fun nx22 vs22 h =>

let J23 : Hp → Prop := fun h => q P h (Instr.indexAt 36 t1 (vs9.getD 1 undef)) fun t72 => q P h (Instr.loadAt 22 t72) fun t73 => q P h (Instr.indexAt 22 t73 (vs22.getD 0 undef)) fun t75 => q P h (Instr.loadAt 5 t75) fun t76 => q P h (Instr.indexAt 22 t46 (vs22.getD 0 undef)) fun t77 => aw P (Instr.storeAt 5 t77 t76) (fun _ h => q P h (binOp .add 3 (vs22.getD 0 undef) (Value.int .i64 1)) fun t67 => nx22 [t67] h) h;
q P h (Builtin.len_ #[22] 3 #[t46]) fun t49 => q P h (binOp .lss 3 (vs22.getD 0 undef) t49) fun t50 => gd t50 true (q P h (Builtin.len_ #[36] 3 #[t1]) fun t54 => q P h (binOp .lss 3 (vs9.getD 1 undef) t54) fun t55 => gd t55 true (q P h (Instr.indexAt 36 t1 (vs9.getD 1 undef)) fun t61 => q P h (Instr.loadAt 22 t61) fun t62 => q P h (Builtin.len_ #[22] 3 #[t62]) fun t63 => q P h (binOp .lss 3 (vs22.getD 0 undef) t63) fun t64 => cnd t64 (J23 h) (J20 h)) (cnd (Value.bool false) (J23 h) (J20 h))) (cnd (Value.bool false) (J23 h) (J20 h))) h;
q P h (Instr.fieldAt 66 t8 2) fun t33 => q P h (Instr.loadAt 22 t33) fun t34 => q P h (Builtin.len_ #[22] 3 #[t34]) fun t35 => q P h (binOp .gtr 3 t35 (Value.int .i64 300)) fun t36 => gd t36 false (q P h (Instr.fieldAt 66 t8 3) fun t38 => q P h (Instr.loadAt 22 t38) fun t39 => q P h (Builtin.len_ #[22] 3 #[t39]) fun t40 => q P h (binOp .gtr 3 t40 (Value.int .i64 300)) fun t41 => cnd t41 (K (Value.bool true) h) (J14 (vs9.getD 0 undef) h)) (cnd (Value.bool true) (K (Value.bool true) h) (J14 (vs9.getD 0 undef) h))) h) h;
q P h (Builtin.len_ #[62] 3 #[t0]) fun t21 => q P h (binOp .lss 3 (vs9.getD 1 undef) t21) fun t22 => gd t22 true (q P h (binOp .lss 3 (vs9.getD 1 undef) (Value.int .i64 30)) fun t25 => cnd t25 (J10 h) (K (Value.bool true) h)) (cnd (Value.bool false) (J10 h) (K (Value.bool true) h)))
theorem F_orloplaw12_CryptBlind {K : Value → Hp → Prop} {h : Hp} {t0 t1 : Value} (s : s_orloplaw12_CryptBlind K h t0 t1) : Cn P 11 #[t0, t1] h K :=
  Cn_ofs mixed Try.func11 (by kernel_rfl) (args := [t0, t1]) (by kernel_rfl) s

/-- function 12: orlop.orloplaw12.CryptOthers -/
def s_orloplaw12_CryptOthers (K : Value → Hp → Prop) (h : Hp) (t0 t1 : Value) : Prop := aw P (Instr.box 66 t0) (fun t2 h => aw P (Instr.box 69 t1) (fun t3 h => Cn P 26 #[] h fun t16 h => q P h (Op.unary .not t16) fun t17 => cnd t17 (K (Value.bool false) h) (
let J5 : Hp → Prop := fun h => Cn P 15 #[] h fun t28 h => Cn P 15 #[] h fun t29 h => q P h (Instr.fieldAt 66 t2 0) fun t32 => q P h (Instr.sliceAt 63 t32 none none none) fun t33 => q P h (Instr.fieldAt 66 t2 1) fun t34 => q P h (Instr.sliceAt 64 t34 none none none) fun t35 => q P h (Instr.fieldAt 66 t2 2) fun t36 => q P h (Instr.loadAt 22 t36) fun t37 => q P h (Instr.fieldAt 66 t2 3) fun t38 => q P h (Instr.loadAt 22 t38) fun t39 => q P emp (nilCk (Value.func (.method "Seal") #[t28] #[])) fun t41 => aw P (callMethod t28 "Seal" #[t33, t35, t37, t39]) (nextP P fun t43 h => q P emp (Instr.extract t43 0) fun t44 => q P emp (Instr.extract t43 1) fun t45 => q P h (Instr.fieldAt 66 t2 0) fun t48 => q P h (Instr.sliceAt 63 t48 none none none) fun t49 => q P h (Instr.fieldAt 66 t2 1) fun t50 => q P h (Instr.sliceAt 64 t50 none none none) fun t51 => q P h (Instr.fieldAt 66 t2 2) fun t52 => q P h (Instr.loadAt 22 t52) fun t53 => q P emp (nilCk (Value.func (.method "Open") #[t29] #[])) fun t56 => aw P (callMethod t29 "Open" #[t49, t51, t53, t44]) (nextP P fun t58 h => q P emp (Instr.extract t58 0) fun t59 => q P emp (Instr.extract t58 1) fun t60 => q P h (Instr.fieldAt 66 t2 0) fun t61 => q P h (Instr.loadAt 63 t61) fun t62 => aw P (Instr.alloc 63 true (.tuple #[])) (fun t11 h => aw P (Instr.storeAt 63 t11 t62) (fun _ h => q P h (Instr.fieldAt 66 t2 1) fun t63 => q P h (Instr.loadAt 64 t63) fun t64 => aw P (Instr.alloc 64 true (.tuple #[])) (fun t12 h => aw P (Instr.storeAt 64 t12 t64) (fun _ h => q P h (Instr.indexAt 63 t11 (Value.int .i64 3)) fun t65 => q P h (Instr.loadAt 5 t65) fun t66 => q P h (Instr.indexAt 69 t3 (Value.int .i64 0)) fun t67 => q P h (Instr.loadAt 5 t67) fun t68 => q P h (binOp .xor 5 t66 t68) fun t69 => q P h (Instr.indexAt 63 t11 (Value.int .i64 3)) fun t70 => aw P (Instr.storeAt 5 t70 t69) (fun _ h => q P h (Instr.indexAt 64 t12 (Value.int .i64 3)) fun t71 => q P h (Instr.loadAt 5 t71) fun t72 => q P h (Instr.indexAt 69 t3 (Value.int .i64 1)) fun t73 => q P h (Instr.loadAt 5 t73) fun t74 => q P h (binOp .xor 5 t72 t74) fun t75 => q P h (Instr.indexAt 64 t12 (Value.int .i64 3)) fun t76 => aw P (Instr.storeAt 5 t76 t75) (fun _ h => aw P (Instr.buildSlice 22 0 #[]) (fun t77 h => q P h (Instr.fieldAt 66 t2 2) fun t78 => q P h (Instr.loadAt 22 t78) fun t79 => aw P (Builtin.append_ #[22, 22] 22 #[t77, t79]) (fun t80 h => 
let J19 : Value → Hp → Prop := fun t13 h => q P h (Instr.sliceAt 63 t11 none none none) fun t91 => q P h (Instr.sliceAt 64 t12 none none none) fun t92 => q P emp (nilCk (Value.func (.method "Open") #[t28] #[])) fun t96 => aw P (callMethod t28 "Open" #[t91, t92, t13, t44]) (nextP P fun t98 h => q P emp (Instr.extract t98 0) fun t99 => q P emp (Instr.extract t98 1) fun t100 => q P h (Instr.loadAt 69 t3) fun t101 => q P h (Instr.build 69 #[]) fun t102 => q P h (eqop .eql 69 (.tmp 101) (.tmp 102) t101 t102) fun t103 => cnd t103 (q P h (eqop .eql 33 (.tmp 104) (.const (Value.int .i64 0)) t45 (Value.int .i64 0)) fun t105 => gd t105 true (q P h (eqop .eql 33 (.tmp 107) (.const (Value.int .i64 7)) t60 (Value.int .i64 7)) fun t108 => gd t108 true (q P h (eqop .eql 33 (.tmp 111) (.const (Value.int .i64 0)) t100 (Value.int .i64 0)) fun t112 => gd t112 true (q P h (Instr.fieldAt 66 t2 3) fun t116 => q P h (Instr.loadAt 22 t116) fun t117 => Cn P 20 #[t99, t117] h fun t118 h => K t118 h) (K (Value.bool false) h)) (K (Value.bool false) h)) (K (Value.bool false) h)) (q P h (eqop .eql 33 (.tmp 120) (.const (Value.int .i64 0)) t45 (Value.int .i64 0)) fun t121 => gd t121 true (q P h (eqop .eql 33 (.tmp 123) (.const (Value.int .i64 7)) t60 (Value.int .i64 7)) fun t124 => gd t124 true (q P h (eqop .eql 33 (.tmp 127) (.const (Value.int .i64 7)) t100 (Value.int .i64 7)) fun t128 => gd t128 true (q P h (Builtin.len_ #[22] 3 #[t99]) fun t132 => q P h (eqop .eql 3 (.tmp 132) (.const (Value.int .i64 0)) t132 (Value.int .i64 0)) fun t133 => K t133 h) (K (Value.bool false) h)) (K (Value.bool false) h)) (K (Value.bool false) h))) h;
q P h (Instr.indexAt 69 t3 (Value.int .i64 2)) fun t81 => q P h (Instr.loadAt 5 t81) fun t82 => q P h (binOp .gtr 5 t82 (Value.int .u8 0)) fun t83 => cnd t83 (q P h (Instr.indexAt 69 t3 (Value.int .i64 2)) fun t85 => q P h (Instr.loadAt 5 t85) fun t86 => aw P (Instr.buildSlice 22 1 #[(0, t86)]) (fun t87 h => aw P (Builtin.append_ #[22, 22] 22 #[t80, t87]) (fun t88 h => J19 t88 h) h) h) (J19 t80 h)) h) h) h) h) h) h) h) h) h) h;
q P h (Instr.fieldAt 66 t2 2) fun t18 => q P h (Instr.loadAt 22 t18) fun t19 => q P h (Builtin.len_ #[22] 3 #[t19]) fun t20 => q P h (binOp .gtr 3 t20 (Value.int .i64 300)) fun t21 => gd t21 false (q P h (Instr.fieldAt 66 t2 3) fun t23 => q P h (Instr.loadAt 22 t23) fun t24 => q P h (Builtin.len_ #[22] 3 #[t24]) fun t25 => q P h (binOp .gtr 3 t25 (Value.int .i64 300)) fun t26 => cnd t26 (K (Value.bool true) h) (J5 h)) (cnd (Value.bool true) (K (Value.bool true) h) (J5 h)))) h) h
theorem F_orloplaw12_CryptOthers {K : Value → Hp → Prop} {h : Hp} {t0 t1 : Value} (s : s_orloplaw12_CryptOthers K h t0 t1) : Cn P 12 #[t0, t1] h K :=
  Cn_ofs mixed Try.func12 (by kernel_rfl) (args := [t0, t1]) (by kernel_rfl) s

/-- function 13: orlop.orloplaw17.awake -/
def s_orloplaw17_awake (K : Value → Hp → Prop) (h : Hp) : Prop := Cn P 15 #[] h fun t9 h => q P h (eqop .eql 31 (.tmp 10) (.const Value.nilIface) t9 Value.nilIface) fun t11 => cnd t11 (K (Value.bool false) h) (aw P (Instr.makeSlice 22 (Value.int .i64 32) (Value.int .i64 32)) (fun t12 h => q P h (Instr.sliceAt 22 t12 none (some (Value.int .i64 7)) none) fun t17 => aw P (Instr.buildSlice 22 10 #[(0, (Value.int .u8 48)), (1, (Value.int .u8 49)), (2, (Value.int .u8 50)), (3, (Value.int .u8 51)), (4, (Value.int .u8 52)), (5, (Value.int .u8 53)), (6, (Value.int .u8 54)), (7, (Value.int .u8 55)), (8, (Value.int .u8 56)), (9, (Value.int .u8 57))]) (fun t18 h => aw P (convert 22 22 t18) (fun t19 h => Cn P 16 #[t9, t12, t17, (Value.slice none 0 0), t19, (Value.int .i64 4)] h fun t20 h => q P h (Instr.extract t20 0) fun t21 => q P h (Instr.extract t20 1) fun t22 => Cn P 19 #[t9, t12, (Value.slice none 0 0), t21] h fun t27 h => q P h (Instr.extract t27 0) fun t28 => q P h (Instr.extract t27 1) fun t29 => Cn P 19 #[t9, t12, (Value.slice none 0 0), (Value.slice none 0 0)] h fun t33 h => q P h (Instr.extract t33 0) fun t34 => q P h (Instr.extract t33 1) fun t35 => q P h (eqop .eql 33 (.tmp 36) (.const (Value.int .i64 0)) t22 (Value.int .i64 0)) fun t37 => gd t37 true (q P h (eqop .eql 33 (.tmp 39) (.const (Value.int .i64 0)) t29 (Value.int .i64 0)) fun t40 => gd t40 true (q P h (convert 22 9 t28) fun t44 => q P h (eqop .eql 9 (.tmp 44) (.const (Value.string ⟨#[48, 49, 50, 51, 52, 53, 54, 55, 56, 57]⟩)) t44 (Value.string ⟨#[48, 49, 50, 51, 52, 53, 54, 55, 56, 57]⟩)) fun t45 => gd t45 true (q P h (eqop .eql 33 (.tmp 48) (.const (Value.int .i64 8)) t35 (Value.int .i64 8)) fun t49 => gd t49 true (Cn P 21 #[(Value.int .i64 0), (Value.int .i64 10)] h fun t52 h => q P h (eqop .eql 3 (.tmp 52) (.const (Value.int .i64 28)) t52 (Value.int .i64 28)) fun t53 => gd t53 true (Cn P 21 #[(Value.int .i64 25), (Value.int .i64 10)] h fun t56 h => q P h (eqop .eql 3 (.tmp 56) (.const (Value.int .i64 85)) t56 (Value.int .i64 85)) fun t57 => K t57 h) (K (Value.bool false) h)) (K (Value.bool false) h)) (K (Value.bool false) h)) (K (Value.bool false) h)) (K (Value.bool false) h)) h) h) h)
theorem F_orloplaw17_awake {K : Value → Hp → Prop} {h : Hp} (s : s_orloplaw17_awake K h) : Cn P 13 #[] h K :=
  Cn_ofs mixed Try.func13 (by kernel_rfl) (args := []) (by kernel_rfl) s

/-- function 14: orlop.orloplaw17.small -/
def s_orloplaw17_small (K : Value → Hp → Prop) (h : Hp) (t0 : Value) : Prop := aw P (Instr.box 24 t0) (fun t1 h => q P h (Instr.fieldAt 24 t1 2) fun t3 => q P h (Instr.loadAt 22 t3) fun t4 => q P h (Builtin.len_ #[22] 3 #[t4]) fun t5 => q P h (binOp .leq 3 t5 (Value.int .i64 300)) fun t6 => gd t6 true (q P h (Instr.fieldAt 24 t1 3) fun t8 => q P h (Instr.loadAt 22 t8) fun t9 => q P h (Builtin.len_ #[22] 3 #[t9]) fun t10 => q P h (binOp .leq 3 t10 (Value.int .i64 1500)) fun t11 => gd t11 true (q P h (Instr.fieldAt 24 t1 4) fun t14 => q P h (Instr.loadAt 3 t14) fun t15 => q P h (binOp .lss 3 t15 (Value.int .i64 1)) fun t16 => gd t16 false (q P h (Instr.fieldAt 24 t1 3) fun t18 => q P h (Instr.loadAt 22 t18) fun t19 => q P h (Builtin.len_ #[22] 3 #[t19]) fun t20 => q P h (Instr.fieldAt 24 t1 4) fun t21 => q P h (Instr.loadAt 3 t21) fun t22 => q P h (binOp .quo 3 t20 t22) fun t23 => q P h (binOp .leq 3 t23 (Value.int .i64 60)) fun t24 => K t24 h) (K (Value.bool true) h)) (K (Value.bool false) h)) (K (Value.bool false) h)) h
theorem F_orloplaw17_small {K : Value → Hp → Prop} {h : Hp} {t0 : Value} (s : s_orloplaw17_small K h t0) : Cn P 14 #[t0] h K :=
  Cn_ofs mixed Try.func14 (by kernel_rfl) (args := [t0]) (by kernel_rfl) s

/-- function 15: orlop.crypt.Book -/
def s_crypt_Book (K : Value → Hp → Prop) (h : Hp) : Prop := aw P (Instr.makeMap 72 none) (fun t1 h => q P h (Instr.build 75 #[(0, t1)]) fun t2 => aw P (Instr.box 75 t2) (fun t3 h => q P h (Instr.makeInterface 71 t3) fun t4 => K t4 h) h) h
theorem F_crypt_Book {K : Value → Hp → Prop} {h : Hp} (s : s_crypt_Book K h) : Cn P 15 #[] h K :=
  Cn_ofs mixed Try.func15 (by kernel_rfl) (args := []) (by kernel_rfl) s

/-- function 16: orlop.seal.Seal -/
def s_seal_Seal (K : Value → Hp → Prop) (h : Hp) (t0 t1 t2 t3 t4 t5 : Value) : Prop := aw P (Instr.box 31 t0) (fun t6 h => aw P (Instr.box 22 t1) (fun t7 h => 
let J2 : Hp → Prop := fun h => Cn P 33 #[t2, t3, t5] h fun t33 h => aw P (Instr.alloc 78 true (.tuple #[])) (fun t14 h => aw P (Instr.storeAt 78 t14 t33) (fun _ h => q P h (Instr.loadAt 78 t14) fun t38 => Cn P 35 #[t4, t5] h fun t37 h => peek P h (Instr.loadAt 78 t14) = some t38 ∧ Cn P 34 #[t37, (Value.func (.func 36) #[t38] #[]), (Value.func (.func 37) #[] #[t6, t7, t14])] h fun t41 h => q P emp (Instr.extract t41 0) fun t42 => q P emp (Instr.extract t41 1) fun t43 => q P h (eqop .neq 33 (.tmp 44) (.const (Value.int .i64 0)) t43 (Value.int .i64 0)) fun t45 => cnd t45 (K (Value.tuple #[(Value.slice none 0 0), t43]) h) (q P h (Instr.fieldAt 78 t14 0) fun t47 => q P h (Instr.loadAt 22 t47) fun t48 => aw P (Instr.buildSlice 36 2 #[(0, t48), (1, t42)]) (fun t50 h => Cn P 39 #[t50] h fun t51 h => K (Value.tuple #[t51, (Value.int .i64 0)]) h) h)) h) h;
q P h (Instr.loadAt 22 t7) fun t17 => q P h (Builtin.len_ #[22] 3 #[t17]) fun t18 => q P h (eqop .neq 3 (.tmp 18) (.const (Value.int .i64 32)) t18 (Value.int .i64 32)) fun t19 => gd t19 false (q P h (Builtin.len_ #[22] 3 #[t2]) fun t22 => q P h (eqop .neq 3 (.tmp 22) (.const (Value.int .i64 7)) t22 (Value.int .i64 7)) fun t23 => gd t23 false (Cn P 32 #[t5] h fun t27 h => q P h (Op.unary .not t27) fun t28 => cnd t28 (K (Value.tuple #[(Value.slice none 0 0), (Value.int .i64 1)]) h) (J2 h)) (cnd (Value.bool true) (K (Value.tuple #[(Value.slice none 0 0), (Value.int .i64 1)]) h) (J2 h))) (cnd (Value.bool true) (K (Value.tuple #[(Value.slice none 0 0), (Value.int .i64 1)]) h) (J2 h))) h) h
theorem F_seal_Seal {K : Value → Hp → Prop} {h : Hp} {t0 t1 t2 t3 t4 t5 : Value} (s : s_seal_Seal K h t0 t1 t2 t3 t4 t5) : Cn P 16 #[t0, t1, t2, t3, t4, t5] h K :=
  Cn_ofs mixed Try.func16 (by kernel_rfl) (args := [t0, t1, t2, t3, t4, t5]) (by kernel_rfl) s

/-- function 17: orlop.orloplaw17.cutChunks -/
def s_orloplaw17_cutChunks (K : Value → Hp → Prop) (h : Hp) (t0 t1 t2 : Value) : Prop := aw P (Instr.box 27 t2) (fun t5 h => q P h (Instr.fieldAt 27 t5 1) fun t12 => q P h (Instr.loadAt 25 t12) fun t13 => q P h (convert 25 3 t13) fun t14 => q P h (Builtin.len_ #[36] 3 #[t0]) fun t16 => q P h (binOp .rem 3 t14 t16) fun t17 => q P h (Instr.fieldAt 27 t5 2) fun t18 => q P h (Instr.loadAt 5 t18) fun t19 => q P h (convert 5 3 t19) fun t20 => q P h (Builtin.len_ #[36] 3 #[t0]) fun t22 => q P h (binOp .rem 3 t20 t22) fun t23 => q P h (Instr.fieldAt 27 t5 0) fun t24 => q P h (Instr.loadAt 5 t24) fun t25 => q P h (binOp .rem 5 t25 (Value.int .u8 9)) fun t26 => q P h (eqop .eql 5 (.tmp 26) (.const (Value.int .u8 0)) t26 (Value.int .u8 0)) fun t28 => cnd t28 (q P h (Instr.sliceAt 36 t0 none (some t17) none) fun t32 => q P emp (binOp .add 3 t17 (Value.int .i64 1)) fun t36 => q P h (Instr.sliceAt 36 t0 (some t36) none none) fun t37 => aw P (Instr.buildSlice 36 0 #[]) (fun t29 h => peek P h (Instr.sliceAt 36 t0 (some t36) none none) = some t37 ∧ peek P h (Instr.sliceAt 36 t0 none (some t17) none) = some t32 ∧ aw P (Builtin.append_ #[36, 36] 36 #[t29, t32]) (fun t33 h => peek P h (Instr.sliceAt 36 t0 (some t36) none none) = some t37 ∧ aw P (Builtin.append_ #[36, 36] 36 #[t33, t37]) (fun t38 h => K t38 h) h) h) h) (q P h (eqop .eql 5 (.tmp 26) (.const (Value.int .u8 1)) t26 (Value.int .u8 1)) fun t40 => cnd t40 (q P h (Instr.sliceAt 36 t0 none (some t17) none) fun t44 => q P emp (Instr.indexAt 36 t0 t17) fun t48 => q P h (Instr.loadAt 22 t48) fun t49 => q P h (Instr.sliceAt 36 t0 (some t17) none none) fun t54 => (aw P (Instr.buildSlice 36 0 #[]) (fun t41 h => peek P h (Instr.sliceAt 36 t0 (some t17) none none) = some t54 ∧ peek P h (Instr.loadAt 22 t48) = some t49 ∧ peek P h (Instr.sliceAt 36 t0 none (some t17) none) = some t44 ∧ (aw P (Builtin.append_ #[36, 36] 36 #[t41, t44]) (fun t45 h => peek P h (Instr.sliceAt 36 t0 (some t17) none none) = some t54 ∧ peek P h (Instr.loadAt 22 t48) = some t49 ∧ aw P (Instr.buildSlice 36 1 #[(0, t49)]) (fun t50 h => peek P h (Instr.sliceAt 36 t0 (some t17) none none) = some t54 ∧ aw P (Builtin.append_ #[36, 36] 36 #[t45, t50]) (fun t51 h => peek P h (Instr.sliceAt 36 t0 (some t17) none none) = some t54 ∧ aw P (Builtin.append_ #[36, 36] 36 #[t51, t54]) (fun t55 h => K t55 h) h) h) h) h) ∧ (aw P (Instr.buildSlice 36 1 #[(0, t49)]) (fun t50 h => peek P h (Instr.sliceAt 36 t0 (some t17) none none) = some t54 ∧ peek P h (Instr.sliceAt 36 t0 none (some t17) none) = some t44 ∧ aw P (Builtin.append_ #[36, 36] 36 #[t41, t44]) (fun t45 h => peek P h (Instr.sliceAt 36 t0 (some t17) none none) = some t54 ∧ aw P (Builtin.append_ #[36, 36] 36 #[t45, t50]) (fun t51 h => peek P h (Instr.sliceAt 36 t0 (some t17) none none) = some t54 ∧ aw P (Builtin.append_ #[36, 36] 36 #[t51, t54]) (fun t55 h => K t55 h) h) h) h) h)) h) ∧ (aw P (Instr.buildSlice 36 1 #[(0, t49)]) (fun t50 h => peek P h (Instr.sliceAt 36 t0 (some t17) none none) = some t54 ∧ peek P h (Instr.sliceAt 36 t0 none (some t17) none) = some t44 ∧ aw P (Instr.buildSlice 36 0 #[]) (fun t41 h => peek P h (Instr.sliceAt 36 t0 (some t17) none none) = some t54 ∧ peek P h (Instr.sliceAt 36 t0 none (some t17) none) = some t44 ∧ aw P (Builtin.append_ #[36, 36] 36 #[t41, t44]) (fun t45 h => peek P h (Instr.sliceAt 36 t0 (some t17) none none) = some t54 ∧ aw P (Builtin.append_ #[36, 36] 36 #[t45, t50]) (fun t51 h => peek P h (Instr.sliceAt 36 t0 (some t17) none none) = some t54 ∧ aw P (Builtin.append_ #[36, 36] 36 #[t51, t54]) (fun t55 h => K t55 h) h) h) h) h) h)) (q P h (eqop .eql 5 (.tmp 26) (.const (Value.int .u8 2)) t26 (Value.int .u8 2)) fun t57 => cnd t57 (aw P (Instr.buildSlice 36 0 #[]) (fun t58 h => aw P (Builtin.append_ #[36, 36] 36 #[t58, t0]) (fun t60 h => q P emp (Instr.indexAt 36 t60 t23) fun t67 => q P h (Instr.loadAt 22 t67) fun t68 => q P emp (Instr.indexAt 36 t60 t17) fun t71 => q P h (Instr.loadAt 22 t71) fun t72 => q P emp (Instr.indexAt 36 t60 t17) fun t73 => aw P (Instr.storeAt 22 t73 t68) (fun _ h => q P emp (Instr.indexAt 36 t60 t23) fun t74 => aw P (Instr.storeAt 22 t74 t72) (fun _ h => K t60 h) h) h) h) h) (q P h (eqop .eql 5 (.tmp 26) (.const (Value.int .u8 3)) t26 (Value.int .u8 3)) fun t77 => cnd t77 (aw P (Instr.buildSlice 36 0 #[]) (fun t78 h => aw P (Builtin.append_ #[36, 36] 36 #[t78, t0]) (fun t80 h => q P h (Instr.indexAt 36 t80 t17) fun t85 => q P h (Instr.loadAt 22 t85) fun t86 => q P h (Instr.indexAt 36 t80 t23) fun t87 => aw P (Instr.storeAt 22 t87 t86) (fun _ h => K t80 h) h) h) h) (q P h (eqop .eql 5 (.tmp 26) (.const (Value.int .u8 8)) t26 (Value.int .u8 8)) fun t90 => cnd t90 (aw P (Instr.buildSlice 36 0 #[]) (fun t91 h => aw P (Builtin.append_ #[36, 36] 36 #[t91, t0]) (fun t93 h => q P h (Builtin.len_ #[36] 3 #[t1]) fun t96 => q P h (binOp .lss 3 t17 t96) fun t97 => cnd t97 (q P h (Instr.indexAt 36 t1 t17) fun t102 => q P h (Instr.loadAt 22 t102) fun t103 => q P h (Instr.indexAt 36 t93 t17) fun t104 => aw P (Instr.storeAt 22 t104 t103) (fun _ h => K t93 h) h) (K t93 h)) h) h) (K t0 h)))))) h
theorem F_orloplaw17_cutChunks {K : Value → Hp → Prop} {h : Hp} {t0 t1 t2 : Value} (s : s_orloplaw17_cutChunks K h t0 t1 t2) : Cn P 17 #[t0, t1, t2] h K :=
  Cn_ofs mixed Try.func17 (by kernel_rfl) (args := [t0, t1, t2]) (by kernel_rfl) s

/-- function 18: orlop.orlopref17.Cut -/
def s_orlopref17_Cut (K : Value → Hp → Prop) (h : Hp) (t0 t1 : Value) : Prop := 
Lp [(Value.slice none 0 0), t0] h fun nx4 vs4 h =>
q P h (Builtin.len_ #[22] 3 #[(vs4.getD 1 undef)]) fun t7 => q P h (binOp .gtr 3 t7 t1) fun t9 => cnd t9 (q P h (Instr.sliceAt 22 (vs4.getD 1 undef) none (some t1) none) fun t13 => aw P (Instr.buildSlice 36 1 #[(0, t13)]) (fun t14 h => aw P (Builtin.append_ #[36, 36] 36 #[(vs4.getD 0 undef), t14]) (fun t15 h => q P h (Instr.sliceAt 22 (vs4.getD 1 undef) (some t1) none none) fun t18 => nx4 [t15, t18] h) h) h) (aw P (Instr.buildSlice 36 1 #[(0, (vs4.getD 1 undef))]) (fun t21 h => aw P (Builtin.append_ #[36, 36] 36 #[(vs4.getD 0 undef), t21]) (fun t22 h => K t22 h) h) h)
theorem F_orlopref17_Cut {K : Value → Hp → Prop} {h : Hp} {t0 t1 : Value} (s : s_orlopref17_Cut K h t0 t1) : Cn P 18 #[t0, t1] h K :=
  Cn_ofs mixed Try.func18 (by kernel_rfl) (args := [t0, t1]) (by kernel_rfl) s

/-- function 19: orlop.seal.Open -/
def s_seal_Open (K : Value → Hp → Prop) (h : Hp) (t0 t1 t2 t3 : Value) : Prop := aw P (Instr.box 31 t0) (fun t4 h => aw P (Instr.box 22 t1) (fun t5 h => q P h (Instr.loadAt 22 t5) fun t13 => q P h (Builtin.len_ #[22] 3 #[t13]) fun t14 => q P h (eqop .neq 3 (.tmp 14) (.const (Value.int .i64 32)) t14 (Value.int .i64 32)) fun t15 => cnd t15 (K (Value.tuple #[(Value.slice none 0 0), (Value.int .i64 1)]) h) (
let J5 : Hp → Prop := fun h => q P h (Instr.sliceAt 22 t3 none (some (Value.int .i64 12)) none) fun t26 => q P h (Instr.build 78 #[(0, t26), (1, t2)]) fun t28 => aw P (Instr.alloc 78 true (.tuple #[])) (fun t10 h => aw P (Instr.storeAt 78 t10 t28) (fun _ h => q P h (Instr.loadAt 78 t10) fun t29 => Cn P 40 #[t29] h fun t30 h => Cn P 32 #[t30] h fun t31 h => q P h (Op.unary .not t31) fun t32 => cnd t32 (K (Value.tuple #[(Value.slice none 0 0), (Value.int .i64 8)]) h) (q P h (Instr.sliceAt 22 t3 (some (Value.int .i64 12)) none none) fun t34 => q P h (Instr.loadAt 78 t10) fun t35 => Cn P 40 #[t35] h fun t36 h => peek P h (Instr.sliceAt 22 t3 (some (Value.int .i64 12)) none none) = some t34 ∧ q P emp (binOp .add 3 t36 (Value.int .i64 16)) fun t37 => Cn P 35 #[t34, t37] h fun t38 h => 
let J15 : Hp → Prop := fun h => q P h (Instr.loadAt 78 t10) fun t58 => Cn P 34 #[t38, (Value.func (.func 36) #[t58] #[]), (Value.func (.func 41) #[] #[t4, t5, t10])] h fun t61 h => q P h (Instr.extract t61 0) fun t62 => q P h (Instr.extract t61 1) fun t63 => K (Value.tuple #[t62, t63]) h;
q P h (Builtin.len_ #[36] 3 #[t38]) fun t41 => q P h (binOp .sub 3 t41 (Value.int .i64 1)) fun t42 => q P h (Instr.indexAt 36 t38 t42) fun t43 => q P h (Instr.loadAt 22 t43) fun t44 => q P h (Builtin.len_ #[22] 3 #[t44]) fun t45 => q P h (binOp .lss 3 t45 (Value.int .i64 16)) fun t47 => gd t47 false (q P h (eqop .eql 3 (.tmp 49) (.const (Value.int .i64 16)) t45 (Value.int .i64 16)) fun t50 => gd t50 true (q P h (Builtin.len_ #[36] 3 #[t38]) fun t53 => q P h (binOp .gtr 3 t53 (Value.int .i64 1)) fun t54 => cnd t54 (K (Value.tuple #[(Value.slice none 0 0), (Value.int .i64 8)]) h) (J15 h)) (cnd (Value.bool false) (K (Value.tuple #[(Value.slice none 0 0), (Value.int .i64 8)]) h) (J15 h))) (cnd (Value.bool true) (K (Value.tuple #[(Value.slice none 0 0), (Value.int .i64 8)]) h) (J15 h)))) h) h;
q P h (Builtin.len_ #[22] 3 #[t3]) fun t17 => q P h (binOp .lss 3 t17 (Value.int .i64 12)) fun t18 => gd t18 false (q P h (Instr.indexAt 22 t3 (Value.int .i64 0)) fun t21 => q P h (Instr.loadAt 5 t21) fun t22 => q P h (eqop .neq 5 (.tmp 22) (.const (Value.int .u8 1)) t22 (Value.int .u8 1)) fun t23 => cnd t23 (K (Value.tuple #[(Value.slice none 0 0), (Value.int .i64 8)]) h) (J5 h)) (cnd (Value.bool true) (K (Value.tuple #[(Value.slice none 0 0), (Value.int .i64 8)]) h) (J5 h)))) h) h
theorem F_seal_Open {K : Value → Hp → Prop} {h : Hp} {t0 t1 t2 t3 : Value} (s : s_seal_Open K h t0 t1 t2 t3) : Cn P 19 #[t0, t1, t2, t3] h K :=
  Cn_ofs mixed Try.func19 (by kernel_rfl) (args := [t0, t1, t2, t3]) (by kernel_rfl) s

/-- function 20: orlop.orlopref01.Equal -/
def s_orlopref01_Equal (K : Value → Hp → Prop) (h : Hp) (t0 t1 : Value) : Prop := q P h (Builtin.len_ #[22] 3 #[t0]) fun t7 => q P h (Builtin.len_ #[22] 3 #[t1]) fun t9 => q P h (eqop .neq 3 (.tmp 7) (.tmp 9) t7 t9) fun t10 => cnd t10 (K (Value.bool false) h) (
Lp [(Value.bool false), (Value.int .i64 0)] h fun nx7 vs7 h =>
q P h (Builtin.len_ #[22] 3 #[t0]) fun t13 => q P h (binOp .lss 3 (vs7.getD 1 undef) t13) fun t14 => cnd t14 (q P emp (Instr.indexAt 22 t0 (vs7.getD 1 undef)) fun t19 => q P h (Instr.loadAt 5 t19) fun t20 => q P emp (Instr.indexAt 22 t1 (vs7.getD 1 undef)) fun t23 => q P h (Instr.loadAt 5 t23) fun t24 => q P h (eqop .neq 5 (.tmp 20) (.tmp 24) t20 t24) fun t25 => cnd t25 (K (Value.bool false) h) (q P h (binOp .add 3 (vs7.getD 1 undef) (Value.int .i64 1)) fun t16 => nx7 [(vs7.getD 0 undef), t16] h)) (K (Value.bool true) h))
theorem F_orlopref01_Equal {K : Value → Hp → Prop} {h : Hp} {t0 t1 : Value} (s : s_orlopref01_Equal K h t0 t1) : Cn P 20 #[t0, t1] h K :=
  Cn_ofs mixed Try.func20 (by kernel_rfl) (args := [t0, t1]) (by kernel_rfl) s

/-- function 21: orlop.seal.Length -/
def s_seal_Length (K : Value → Hp → Prop) (h : Hp) (t0 t1 : Value) : Prop := 
let J2 : Hp → Prop := fun h => q P h (binOp .add 3 t0 t1) fun t19 => q P h (binOp .sub 3 t19 (Value.int .i64 1)) fun t20 => q P h (binOp .quo 3 t20 t1) fun t22 => q P h (Builtin.max_ #[3, 3] 3 #[(Value.int .i64 1), t22]) fun t23 => q P h (binOp .add 3 (Value.int .i64 12) t0) fun t25 => q P h (binOp .mul 3 (Value.int .i64 16) t23) fun t27 => q P h (binOp .add 3 t25 t27) fun t28 => K t28 h;
q P h (binOp .lss 3 t0 (Value.int .i64 0)) fun t7 => gd t7 false (q P h (binOp .gtr 3 t0 (Value.int .i64 2147483647)) fun t10 => gd t10 false (Cn P 32 #[t1] h fun t14 h => q P h (Op.unary .not t14) fun t15 => cnd t15 (K (Value.int .i64 0) h) (J2 h)) (cnd (Value.bool true) (K (Value.int .i64 0) h) (J2 h))) (cnd (Value.bool true) (K (Value.int .i64 0) h) (J2 h))
theorem F_seal_Length {K : Value → Hp → Prop} {h : Hp} {t0 t1 : Value} (s : s_seal_Length K h t0 t1) : Cn P 21 #[t0, t1] h K :=
  Cn_ofs mixed Try.func21 (by kernel_rfl) (args := [t0, t1]) (by kernel_rfl) s

/-- function 22: orlop.orloplaw17.of -/
def s_orloplaw17_of (K : Value → Hp → Prop) (h : Hp) (t0 : Value) : Prop := cnd t0 (Cn P 15 #[] h fun t4 h => K t4 h) (Cn P 25 #[] h fun t5 h => K t5 h)
theorem F_orloplaw17_of {K : Value → Hp → Prop} {h : Hp} {t0 : Value} (s : s_orloplaw17_of K h t0) : Cn P 22 #[t0] h K :=
  Cn_ofs mixed Try.func22 (by kernel_rfl) (args := [t0]) (by kernel_rfl) s

/-- function 23: orlop.orlopref17.Seal -/
def s_orlopref17_Seal (K : Value → Hp → Prop) (h : Hp) (t0 t1 t2 t3 t4 t5 : Value) : Prop := 
let J2 : Hp → Prop := fun h => Cn P 42 #[t2, t5] h fun t38 h => aw P (Instr.buildSlice 22 0 #[]) (fun t39 h => aw P (Builtin.append_ #[22, 22] 22 #[t39, t38]) (fun t41 h => Cn P 18 #[t4, t5] h fun t44 h => 
Lp [(Value.slice none 0 0), (Value.int .i64 0), t41, (Value.int .i64 0)] h fun nx14 vs14 h =>
q P h (Builtin.len_ #[36] 3 #[t44]) fun t47 => q P h (binOp .lss 3 (vs14.getD 3 undef) t47) fun t48 => cnd t48 (
let J18 : Value → Value → Hp → Prop := fun t18 t19 h => q P h (eqop .neq 33 (.tmp 74) (.const (Value.int .i64 0)) t19 (Value.int .i64 0)) fun t75 => cnd t75 (K (Value.tuple #[(Value.slice none 0 0), t19]) h) (aw P (Builtin.append_ #[22, 22] 22 #[(vs14.getD 2 undef), t18]) (fun t79 h => q P h (binOp .add 3 (vs14.getD 3 undef) (Value.int .i64 1)) fun t50 => nx14 [(vs14.getD 0 undef), (vs14.getD 1 undef), t79, t50] h) h);
q P h (Builtin.len_ #[36] 3 #[t44]) fun t58 => q P emp (binOp .sub 3 t58 (Value.int .i64 1)) fun t59 => q P h (eqop .eql 3 (.tmp 56) (.tmp 59) (vs14.getD 3 undef) t59) fun t60 => q P emp (Instr.indexAt 36 t44 (vs14.getD 3 undef)) fun t69 => q P h (Instr.loadAt 22 t69) fun t70 => (Cn P 43 #[t2, (vs14.getD 3 undef), t60] h fun t61 h => peek P h (Instr.loadAt 22 t69) = some t70 ∧ aw P (Instr.buildSlice 22 0 #[]) (fun t62 h => peek P h (Instr.loadAt 22 t69) = some t70 ∧ aw P (Builtin.append_ #[22, 22] 22 #[t62, t38]) (fun t64 h => peek P h (Instr.loadAt 22 t69) = some t70 ∧ aw P (Builtin.append_ #[22, 22] 22 #[t64, t3]) (fun t66 h => peek P h (Instr.loadAt 22 t69) = some t70 ∧ Cn P 30 #[t0, t1, t61, t66, t70] h fun t71 h => q P emp (Instr.extract t71 0) fun t72 => q P emp (Instr.extract t71 1) fun t73 => J18 t72 t73 h) h) h) h) ∧ (aw P (Instr.buildSlice 22 0 #[]) (fun t62 h => peek P h (Instr.loadAt 22 t69) = some t70 ∧ peek P h (eqop .eql 3 (.tmp 56) (.tmp 59) (vs14.getD 3 undef) t59) = some t60 ∧ peek P h (Builtin.len_ #[36] 3 #[t44]) = some t58 ∧ Cn P 43 #[t2, (vs14.getD 3 undef), t60] h fun t61 h => peek P h (Instr.loadAt 22 t69) = some t70 ∧ aw P (Builtin.append_ #[22, 22] 22 #[t62, t38]) (fun t64 h => peek P h (Instr.loadAt 22 t69) = some t70 ∧ aw P (Builtin.append_ #[22, 22] 22 #[t64, t3]) (fun t66 h => peek P h (Instr.loadAt 22 t69) = some t70 ∧ Cn P 30 #[t0, t1, t61, t66, t70] h fun t71 h => q P emp (Instr.extract t71 0) fun t72 => q P emp (Instr.extract t71 1) fun t73 => J18 t72 t73 h) h) h) h)) (K (Value.tuple #[(vs14.getD 2 undef), (Value.int .i64 0)]) h)) h) h;
q P h (Builtin.len_ #[22] 3 #[t1]) fun t21 => q P h (eqop .neq 3 (.tmp 21) (.const (Value.int .i64 32)) t21 (Value.int .i64 32)) fun t22 => gd t22 false (q P h (Builtin.len_ #[22] 3 #[t2]) fun t25 => q P h (eqop .neq 3 (.tmp 25) (.const (Value.int .i64 7)) t25 (Value.int .i64 7)) fun t26 => gd t26 false (q P h (binOp .lss 3 t5 (Value.int .i64 1)) fun t30 => gd t30 false (q P h (binOp .gtr 3 t5 (Value.int .i64 65536)) fun t34 => cnd t34 (K (Value.tuple #[(Value.slice none 0 0), (Value.int .i64 1)]) h) (J2 h)) (cnd (Value.bool true) (K (Value.tuple #[(Value.slice none 0 0), (Value.int .i64 1)]) h) (J2 h))) (cnd (Value.bool true) (K (Value.tuple #[(Value.slice none 0 0), (Value.int .i64 1)]) h) (J2 h))) (cnd (Value.bool true) (K (Value.tuple #[(Value.slice none 0 0), (Value.int .i64 1)]) h) (J2 h))
theorem F_orlopref17_Seal {K : Value → Hp → Prop} {h : Hp} {t0 t1 t2 t3 t4 t5 : Value} (s : s_orlopref17_Seal K h t0 t1 t2 t3 t4 t5) : Cn P 23 #[t0, t1, t2, t3, t4, t5] h K :=
  Cn_ofs mixed Try.func23 (by kernel_rfl) (args := [t0, t1, t2, t3, t4, t5]) (by kernel_rfl) s

/-- function 24: orlop.orlopref17.Open -/
def s_orlopref17_Open (K : Value → Hp → Prop) (h : Hp) (t0 t1 t2 t3 : Value) : Prop := q P h (Builtin.len_ #[22] 3 #[t1]) fun t18 => q P h (eqop .neq 3 (.tmp 18) (.const (Value.int .i64 32)) t18 (Value.int .i64 32)) fun t19 => cnd t19 (K (Value.tuple #[(Value.slice none 0 0), (Value.int .i64 1)]) h) (
let J5 : Hp → Prop := fun h => q P h (Instr.sliceAt 22 t3 (some (Value.int .i64 8)) none none) fun t30 => Cn P 44 #[t30, (Value.int .i64 4)] h fun t31 h => q P h (convert 88 3 t31) fun t32 => 
let J11 : Hp → Prop := fun h => q P h (Instr.sliceAt 22 t3 (some (Value.int .i64 12)) none none) fun t40 => q P h (binOp .add 3 t32 (Value.int .i64 16)) fun t42 => Cn P 18 #[t40, t42] h fun t43 h => q P h (Builtin.len_ #[36] 3 #[t43]) fun t46 => q P h (binOp .sub 3 t46 (Value.int .i64 1)) fun t47 => q P h (Instr.indexAt 36 t43 t47) fun t48 => q P h (Instr.loadAt 22 t48) fun t49 => q P h (Builtin.len_ #[22] 3 #[t49]) fun t50 => 
let J18 : Hp → Prop := fun h => 
Lp [(Value.slice none 0 0), (Value.int .i64 0), (Value.slice none 0 0), (Value.int .i64 0)] h fun nx27 vs27 h =>
q P h (Builtin.len_ #[36] 3 #[t43]) fun t64 => q P h (binOp .lss 3 (vs27.getD 3 undef) t64) fun t65 => cnd t65 (
let J31 : Value → Value → Hp → Prop := fun t15 t16 h => q P h (eqop .neq 33 (.tmp 93) (.const (Value.int .i64 0)) t16 (Value.int .i64 0)) fun t94 => cnd t94 (K (Value.tuple #[(Value.slice none 0 0), t16]) h) (aw P (Builtin.append_ #[22, 22] 22 #[(vs27.getD 2 undef), t15]) (fun t98 h => q P h (binOp .add 3 (vs27.getD 3 undef) (Value.int .i64 1)) fun t67 => nx27 [(vs27.getD 0 undef), (vs27.getD 1 undef), t98, t67] h) h);
q P h (Instr.sliceAt 22 t3 (some (Value.int .i64 1)) (some (Value.int .i64 8)) none) fun t72 => q P h (Builtin.len_ #[36] 3 #[t43]) fun t76 => q P emp (binOp .sub 3 t76 (Value.int .i64 1)) fun t77 => q P h (eqop .eql 3 (.tmp 74) (.tmp 77) (vs27.getD 3 undef) t77) fun t78 => q P h (Instr.sliceAt 22 t3 none (some (Value.int .i64 12)) none) fun t82 => q P emp (Instr.indexAt 36 t43 (vs27.getD 3 undef)) fun t88 => q P h (Instr.loadAt 22 t88) fun t89 => (Cn P 43 #[t72, (vs27.getD 3 undef), t78] h fun t79 h => peek P h (Instr.loadAt 22 t88) = some t89 ∧ peek P h (Instr.sliceAt 22 t3 none (some (Value.int .i64 12)) none) = some t82 ∧ aw P (Instr.buildSlice 22 0 #[]) (fun t80 h => peek P h (Instr.loadAt 22 t88) = some t89 ∧ peek P h (Instr.sliceAt 22 t3 none (some (Value.int .i64 12)) none) = some t82 ∧ aw P (Builtin.append_ #[22, 22] 22 #[t80, t82]) (fun t83 h => peek P h (Instr.loadAt 22 t88) = some t89 ∧ aw P (Builtin.append_ #[22, 22] 22 #[t83, t2]) (fun t85 h => peek P h (Instr.loadAt 22 t88) = some t89 ∧ Cn P 31 #[t0, t1, t79, t85, t89] h fun t90 h => q P emp (Instr.extract t90 0) fun t91 => q P emp (Instr.extract t90 1) fun t92 => J31 t91 t92 h) h) h) h) ∧ (aw P (Instr.buildSlice 22 0 #[]) (fun t80 h => peek P h (Instr.loadAt 22 t88) = some t89 ∧ peek P h (Instr.sliceAt 22 t3 none (some (Value.int .i64 12)) none) = some t82 ∧ peek P h (eqop .eql 3 (.tmp 74) (.tmp 77) (vs27.getD 3 undef) t77) = some t78 ∧ peek P h (Builtin.len_ #[36] 3 #[t43]) = some t76 ∧ peek P h (Instr.sliceAt 22 t3 (some (Value.int .i64 1)) (some (Value.int .i64 8)) none) = some t72 ∧ Cn P 43 #[t72, (vs27.getD 3 undef), t78] h fun t79 h => peek P h (Instr.loadAt 22 t88) = some t89 ∧ peek P h (Instr.sliceAt 22 t3 none (some (Value.int .i64 12)) none) = some t82 ∧ aw P (Builtin.append_ #[22, 22] 22 #[t80, t82]) (fun t83 h => peek P h (Instr.loadAt 22 t88) = some t89 ∧ aw P (Builtin.append_ #[22, 22] 22 #[t83, t2]) (fun t85 h => peek P h (Instr.loadAt 22 t88) = some t89 ∧ Cn P 31 #[t0, t1, t79, t85, t89] h fun t90 h => q P emp (Instr.extract t90 0) fun t91 => q P emp (Instr.extract t90 1) fun t92 => J31 t91 t92 h) h) h) h)) (K (Value.tuple #[(vs27.getD 2 undef), (Value.int .i64 0)]) h);
q P h (binOp .lss 3 t50 (Value.int .i64 16)) fun t52 => gd t52 false (q P h (eqop .eql 3 (.tmp 54) (.const (Value.int .i64 16)) t50 (Value.int .i64 16)) fun t55 => gd t55 true (q P h (Builtin.len_ #[36] 3 #[t43]) fun t58 => q P h (binOp .gtr 3 t58 (Value.int .i64 1)) fun t59 => cnd t59 (K (Value.tuple #[(Value.slice none 0 0), (Value.int .i64 8)]) h) (J18 h)) (cnd (Value.bool false) (K (Value.tuple #[(Value.slice none 0 0), (Value.int .i64 8)]) h) (J18 h))) (cnd (Value.bool true) (K (Value.tuple #[(Value.slice none 0 0), (Value.int .i64 8)]) h) (J18 h));
q P h (binOp .lss 3 t32 (Value.int .i64 1)) fun t34 => gd t34 false (q P h (binOp .gtr 3 t32 (Value.int .i64 65536)) fun t37 => cnd t37 (K (Value.tuple #[(Value.slice none 0 0), (Value.int .i64 8)]) h) (J11 h)) (cnd (Value.bool true) (K (Value.tuple #[(Value.slice none 0 0), (Value.int .i64 8)]) h) (J11 h));
q P h (Builtin.len_ #[22] 3 #[t3]) fun t21 => q P h (binOp .lss 3 t21 (Value.int .i64 12)) fun t22 => gd t22 false (q P h (Instr.indexAt 22 t3 (Value.int .i64 0)) fun t25 => q P h (Instr.loadAt 5 t25) fun t26 => q P h (eqop .neq 5 (.tmp 26) (.const (Value.int .u8 1)) t26 (Value.int .u8 1)) fun t27 => cnd t27 (K (Value.tuple #[(Value.slice none 0 0), (Value.int .i64 8)]) h) (J5 h)) (cnd (Value.bool true) (K (Value.tuple #[(Value.slice none 0 0), (Value.int .i64 8)]) h) (J5 h)))
theorem F_orlopref17_Open {K : Value → Hp → Prop} {h : Hp} {t0 t1 t2 t3 : Value} (s : s_orlopref17_Open K h t0 t1 t2 t3) : Cn P 24 #[t0, t1, t2, t3] h K :=
  Cn_ofs mixed Try.func24 (by kernel_rfl) (args := [t0, t1, t2, t3]) (by kernel_rfl) s

/-- function 25: orlop.crypt.Real -/
def s_crypt_Real (K : Value → Hp → Prop) (h : Hp) : Prop := q P h (Instr.build 91 #[]) fun t1 => q P h (Instr.makeInterface 91 t1) fun t2 => K t2 h
theorem F_crypt_Real {K : Value → Hp → Prop} {h : Hp} (s : s_crypt_Real K h) : Cn P 25 #[] h K :=
  Cn_ofs mixed Try.func25 (by kernel_rfl) (args := []) (by kernel_rfl) s

/-- function 26: orlop.orloplaw12.awake -/
def s_orloplaw12_awake (K : Value → Hp → Prop) (h : Hp) : Prop := Cn P 15 #[] h fun t11 h => Cn P 25 #[] h fun t12 h => 
let J4 : Hp → Prop := fun h => aw P (Instr.buildSlice 22 1 #[(0, (Value.int .u8 97))]) (fun t20 h => aw P (convert 22 22 t20) (fun t21 h => aw P (callMethod t11 "Sum" #[t21]) (nextP P fun t22 h => aw P (Instr.buildSlice 22 1 #[(0, (Value.int .u8 98))]) (fun t24 h => aw P (convert 22 22 t24) (fun t25 h => aw P (callMethod t11 "Sum" #[t25]) (nextP P fun t26 h => aw P (Instr.makeSlice 22 (Value.int .i64 32) (Value.int .i64 32)) (fun t27 h => q P h (Instr.sliceAt 22 t27 none (some (Value.int .i64 12)) none) fun t32 => q P emp (nilCk (Value.func (.method "Seal") #[t11] #[])) fun t34 => aw P (callMethod t11 "Seal" #[t27, t32, (Value.slice none 0 0), (Value.slice none 0 0)]) (nextP P fun t36 h => q P emp (Instr.extract t36 0) fun t37 => q P emp (Instr.extract t36 1) fun t38 => q P h (Instr.sliceAt 22 t27 none (some (Value.int .i64 12)) none) fun t43 => q P emp (nilCk (Value.func (.method "Seal") #[t12] #[])) fun t47 => aw P (Instr.buildSlice 22 1 #[(0, (Value.int .u8 116))]) (fun t44 h => peek P h (Instr.sliceAt 22 t27 none (some (Value.int .i64 12)) none) = some t43 ∧ aw P (convert 22 22 t44) (fun t45 h => peek P h (Instr.sliceAt 22 t27 none (some (Value.int .i64 12)) none) = some t43 ∧ aw P (callMethod t12 "Seal" #[t27, t43, (Value.slice none 0 0), t45]) (nextP P fun t49 h => q P emp (Instr.extract t49 0) fun t50 => q P emp (Instr.extract t49 1) fun t51 => q P h (Instr.sliceAt 22 t27 none (some (Value.int .i64 12)) none) fun t56 => q P emp (nilCk (Value.func (.method "Open") #[t12] #[])) fun t59 => aw P (callMethod t12 "Open" #[t27, t56, (Value.slice none 0 0), t50]) (nextP P fun t61 h => q P emp (Instr.extract t61 0) fun t62 => q P emp (Instr.extract t61 1) fun t63 => q P h (Builtin.len_ #[22] 3 #[t26]) fun t65 => q P h (eqop .eql 3 (.tmp 65) (.const (Value.int .i64 32)) t65 (Value.int .i64 32)) fun t66 => gd t66 true (q P h (Instr.indexAt 22 t26 (Value.int .i64 31)) fun t69 => q P h (Instr.loadAt 5 t69) fun t70 => q P h (eqop .eql 5 (.tmp 70) (.const (Value.int .u8 1)) t70 (Value.int .u8 1)) fun t71 => gd t71 true (q P h (Instr.indexAt 22 t26 (Value.int .i64 0)) fun t75 => q P h (Instr.loadAt 5 t75) fun t76 => q P h (eqop .eql 5 (.tmp 76) (.const (Value.int .u8 83)) t76 (Value.int .u8 83)) fun t77 => gd t77 true (q P h (eqop .eql 33 (.tmp 80) (.const (Value.int .i64 0)) t38 (Value.int .i64 0)) fun t81 => gd t81 true (q P h (Builtin.len_ #[22] 3 #[t37]) fun t85 => q P h (eqop .eql 3 (.tmp 85) (.const (Value.int .i64 16)) t85 (Value.int .i64 16)) fun t86 => gd t86 true (q P h (Instr.indexAt 22 t37 (Value.int .i64 0)) fun t90 => q P h (Instr.loadAt 5 t90) fun t91 => q P h (eqop .eql 5 (.tmp 91) (.const (Value.int .u8 0)) t91 (Value.int .u8 0)) fun t92 => gd t92 true (q P h (eqop .eql 33 (.tmp 95) (.const (Value.int .i64 0)) t51 (Value.int .i64 0)) fun t96 => gd t96 true (q P h (eqop .eql 33 (.tmp 99) (.const (Value.int .i64 0)) t63 (Value.int .i64 0)) fun t100 => gd t100 true (q P h (convert 22 9 t62) fun t104 => q P h (eqop .eql 9 (.tmp 104) (.const (Value.string ⟨#[116]⟩)) t104 (Value.string ⟨#[116]⟩)) fun t105 => K t105 h) (K (Value.bool false) h)) (K (Value.bool false) h)) (K (Value.bool false) h)) (K (Value.bool false) h)) (K (Value.bool false) h)) (K (Value.bool false) h)) (K (Value.bool false) h)) (K (Value.bool false) h)) h) h) h) h) h) h) h) h) h) h) h) h;
q P h (eqop .eql 31 (.tmp 13) (.const Value.nilIface) t11 Value.nilIface) fun t14 => gd t14 false (q P h (eqop .eql 31 (.tmp 16) (.const Value.nilIface) t12 Value.nilIface) fun t17 => cnd t17 (K (Value.bool false) h) (J4 h)) (cnd (Value.bool true) (K (Value.bool false) h) (J4 h))
theorem F_orloplaw12_awake {K : Value → Hp → Prop} {h : Hp} (s : s_orloplaw12_awake K h) : Cn P 26 #[] h K :=
  Cn_ofs mixed Try.func26 (by kernel_rfl) (args := []) (by kernel_rfl) s

/-- function 27: orlop.orloplaw12.small -/
def s_orloplaw12_small (K : Value → Hp → Prop) (h : Hp) (t0 : Value) : Prop := 
Lp [(Value.bool false), (Value.int .i64 0)] h fun nx4 vs4 h =>

let J5 : Hp → Prop := fun h => q P h (Instr.indexAt 55 t0 (vs4.getD 1 undef)) fun t16 => q P h (Instr.fieldAt 58 t16 1) fun t17 => q P h (Instr.loadAt 22 t17) fun t18 => q P h (Builtin.len_ #[22] 3 #[t18]) fun t19 => q P h (binOp .gtr 3 t19 (Value.int .i64 100)) fun t20 => gd t20 false (q P h (Instr.indexAt 55 t0 (vs4.getD 1 undef)) fun t24 => q P h (Instr.fieldAt 58 t24 2) fun t25 => q P h (Instr.loadAt 22 t25) fun t26 => q P h (Builtin.len_ #[22] 3 #[t26]) fun t27 => q P h (binOp .gtr 3 t27 (Value.int .i64 100)) fun t28 => gd t28 false (q P h (Instr.indexAt 55 t0 (vs4.getD 1 undef)) fun t33 => q P h (Instr.fieldAt 58 t33 3) fun t34 => q P h (Instr.loadAt 22 t34) fun t35 => q P h (Builtin.len_ #[22] 3 #[t35]) fun t36 => q P h (binOp .gtr 3 t36 (Value.int .i64 300)) fun t37 => gd t37 false (q P h (Instr.indexAt 55 t0 (vs4.getD 1 undef)) fun t42 => q P h (Instr.fieldAt 58 t42 4) fun t43 => q P h (Instr.loadAt 22 t43) fun t44 => q P h (Builtin.len_ #[22] 3 #[t44]) fun t45 => q P h (binOp .gtr 3 t45 (Value.int .i64 300)) fun t46 => cnd t46 (K (Value.bool false) h) (q P h (binOp .add 3 (vs4.getD 1 undef) (Value.int .i64 1)) fun t13 => nx4 [(vs4.getD 0 undef), t13] h)) (cnd (Value.bool true) (K (Value.bool false) h) (q P h (binOp .add 3 (vs4.getD 1 undef) (Value.int .i64 1)) fun t13 => nx4 [(vs4.getD 0 undef), t13] h))) (cnd (Value.bool true) (K (Value.bool false) h) (q P h (binOp .add 3 (vs4.getD 1 undef) (Value.int .i64 1)) fun t13 => nx4 [(vs4.getD 0 undef), t13] h))) (cnd (Value.bool true) (K (Value.bool false) h) (q P h (binOp .add 3 (vs4.getD 1 undef) (Value.int .i64 1)) fun t13 => nx4 [(vs4.getD 0 undef), t13] h));
q P h (Builtin.len_ #[55] 3 #[t0]) fun t6 => q P h (binOp .lss 3 (vs4.getD 1 undef) t6) fun t7 => gd t7 true (q P h (binOp .lss 3 (vs4.getD 1 undef) (Value.int .i64 30)) fun t10 => cnd t10 (J5 h) (K (Value.bool true) h)) (cnd (Value.bool false) (J5 h) (K (Value.bool true) h))
theorem F_orloplaw12_small {K : Value → Hp → Prop} {h : Hp} {t0 : Value} (s : s_orloplaw12_small K h t0) : Cn P 27 #[t0] h K :=
  Cn_ofs mixed Try.func27 (by kernel_rfl) (args := [t0]) (by kernel_rfl) s

/-- function 28: orlop.orloplaw12.of -/
def s_orloplaw12_of (K : Value → Hp → Prop) (h : Hp) (t0 : Value) : Prop := cnd t0 (Cn P 15 #[] h fun t4 h => K t4 h) (Cn P 25 #[] h fun t5 h => K t5 h)
theorem F_orloplaw12_of {K : Value → Hp → Prop} {h : Hp} {t0 : Value} (s : s_orloplaw12_of K h t0) : Cn P 28 #[t0] h K :=
  Cn_ofs mixed Try.func28 (by kernel_rfl) (args := [t0]) (by kernel_rfl) s

/-- function 29: (*orlop.orlopref12.Crypt).Sum -/
def s_orlopref12_Crypt_Sum (K : Value → Hp → Prop) (h : Hp) (t0 t1 : Value) : Prop := q P h (nilCk t0) fun t7 => q P h (Instr.fieldAt 49 t7 0) fun t8 => q P h (Instr.loadAt 4 t8) fun t9 => q P h (Op.unary .not t9) fun t10 => cnd t10 (Cn P 45 #[t1] h fun t12 h => K t12 h) (
let J6 : Value → Hp → Prop := fun t5 h => 
let J10 : Hp → Prop := fun h => aw P (Instr.buildSlice 22 4 #[(0, (Value.int .u8 83)), (1, (Value.int .u8 85)), (2, (Value.int .u8 77)), (3, (Value.int .u8 33))]) (fun t53 h => aw P (convert 22 22 t53) (fun t54 h => aw P (Builtin.append_ #[22, 3] 22 #[t54, (Value.int .i64 20)]) (fun t55 h => Cn P 46 #[t5] h fun t57 h => aw P (Builtin.append_ #[22, 22] 22 #[t55, t57]) (fun t58 h => K t58 h) h) h) h) h;
q P h (nilCk t0) fun t36 => q P h (Instr.fieldAt 49 t36 1) fun t37 => q P h (Instr.loadAt 36 t37) fun t38 => q P h (Builtin.len_ #[36] 3 #[t38]) fun t39 => q P h (eqop .eql 3 (.tmp 34) (.tmp 39) t5 t39) fun t40 => cnd t40 (q P emp (nilCk t0) fun t43 => q P h (Instr.fieldAt 49 t43 1) fun t44 => q P h (Instr.loadAt 36 t44) fun t45 => aw P (Instr.buildSlice 22 0 #[]) (fun t46 h => peek P h (Instr.loadAt 36 t44) = some t45 ∧ peek P h (Instr.fieldAt 49 t43 1) = some t44 ∧ aw P (Builtin.append_ #[22, 22] 22 #[t46, t1]) (fun t48 h => peek P h (Instr.loadAt 36 t44) = some t45 ∧ peek P h (Instr.fieldAt 49 t43 1) = some t44 ∧ aw P (Instr.buildSlice 36 1 #[(0, t48)]) (fun t49 h => peek P h (Instr.loadAt 36 t44) = some t45 ∧ peek P h (Instr.fieldAt 49 t43 1) = some t44 ∧ aw P (Builtin.append_ #[36, 36] 36 #[t45, t49]) (fun t50 h => q P emp (nilCk t0) fun t51 => q P h (Instr.fieldAt 49 t51 1) fun t52 => aw P (Instr.storeAt 36 t52 t50) (fun _ h => J10 h) h) h) h) h) h) (J10 h);

Lp [(Value.int .i64 0)] h fun nx7 vs7 h =>
q P h (nilCk t0) fun t15 => q P h (Instr.fieldAt 49 t15 1) fun t16 => q P h (Instr.loadAt 36 t16) fun t17 => q P h (Builtin.len_ #[36] 3 #[t17]) fun t18 => q P h (binOp .lss 3 (vs7.getD 0 undef) t18) fun t19 => gd t19 true (q P h (nilCk t0) fun t22 => q P h (Instr.fieldAt 49 t22 1) fun t23 => q P h (Instr.loadAt 36 t23) fun t24 => q P h (Instr.indexAt 36 t24 (vs7.getD 0 undef)) fun t26 => q P h (Instr.loadAt 22 t26) fun t27 => Cn P 20 #[t27, t1] h fun t29 h => q P h (Op.unary .not t29) fun t30 => cnd t30 (q P h (binOp .add 3 (vs7.getD 0 undef) (Value.int .i64 1)) fun t33 => nx7 [t33] h) (J6 (vs7.getD 0 undef) h)) (cnd (Value.bool false) (q P h (binOp .add 3 (vs7.getD 0 undef) (Value.int .i64 1)) fun t33 => nx7 [t33] h) (J6 (vs7.getD 0 undef) h)))
theorem F_orlopref12_Crypt_Sum {K : Value → Hp → Prop} {h : Hp} {t0 t1 : Value} (s : s_orlopref12_Crypt_Sum K h t0 t1) : Cn P 29 #[t0, t1] h K :=
  Cn_ofs mixed Try.func29 (by kernel_rfl) (args := [t0, t1]) (by kernel_rfl) s

end Go.Proofs.Ytnecdbclhdbaoaa
