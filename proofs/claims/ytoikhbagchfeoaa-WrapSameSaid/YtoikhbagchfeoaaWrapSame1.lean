/- wrapSame_holds wrapSame proved lifted over: part 1 of its proof; each part's own remarks stand with its declarations. Conditions: each lemma names its own. -/
import Derived.Test.YtoikhbagchfeoaaWrapSame0
import Derived.Test.YtoikhbagchfeoaaProg
set_option linter.unusedSimpArgs false
set_option linter.unusedVariables false
set_option linter.unusedVariables false
set_option maxRecDepth 100000
namespace Go.Proofs.Ytoikhbagchfeoaa
open Go Go.SL
noncomputable abbrev P : Program := Try.prog
abbrev n_orloplaw18_WrapSame : Nat := 3
abbrev n_orloplaw18_awake : Nat := 5
abbrev n_crypt_Real : Nat := 6
abbrev n_curve_Public : Nat := 7
abbrev n_wrap_Wrap : Nat := 8
abbrev n_orlopref01_Equal : Nat := 9
abbrev n_wrap_Unwrap : Nat := 11
abbrev n_crypt_Book : Nat := 13
abbrev n_curve_Clamp : Nat := 14
abbrev n_curve_climb : Nat := 15
abbrev n_field_From : Nat := 16
abbrev n_curve_Shared : Nat := 17
abbrev n_wrap_parts_key : Nat := 18
abbrev n_wrap_nonce : Nat := 19
abbrev n_slices_Concat_byte_byte : Nat := 20
abbrev n_wrap_cut : Nat := 21
abbrev n_word_Equal : Nat := 22
abbrev n_slices_Clone_byte_byte : Nat := 23
abbrev n_curve_ladder_swap : Nat := 24
abbrev n_curve_ladder_step : Nat := 25
abbrev n_field_Elem_Mul : Nat := 26
abbrev n_field_Elem_Invert : Nat := 27
abbrev n_field_Elem_Bytes : Nat := 28
abbrev n_word_Get64 : Nat := 29
abbrev n_mac_Derive : Nat := 30
abbrev n_slices_Grow_byte_byte : Nat := 31
abbrev n_field_Swap : Nat := 32
abbrev n_field_Elem_Add : Nat := 33
abbrev n_field_Elem_Sub : Nat := 34
abbrev n_field_Elem_Square : Nat := 35
abbrev n_field_Elem_Times : Nat := 36
abbrev n_field_wide_plus : Nat := 37
abbrev n_bits_Add64 : Nat := 38
abbrev n_bits_Mul64 : Nat := 39
abbrev n_field_Elem_carried : Nat := 40
abbrev n_field_Elem_squares : Nat := 41
abbrev n_field_Elem_reduced : Nat := 42
abbrev n_word_Put64 : Nat := 43
abbrev n_word_get : Nat := 44
abbrev n_word_little : Nat := 47
abbrev n_word_at : Nat := 48
abbrev n_mac_code : Nat := 49
abbrev n_sha_Of : Nat := 50
abbrev n_mac_code_1 : Nat := 51
abbrev n_mac_digest : Nat := 52
abbrev n_sha_New : Nat := 53
abbrev n_sha_Hash_Add : Nat := 54
abbrev n_sha_Hash_Sum : Nat := 55
abbrev n_sha_beginning : Nat := 56
abbrev n_sha_constants : Nat := 57
abbrev n_sha_Hash_block : Nat := 58
abbrev n_word_Big64 : Nat := 59
abbrev n_word_Big32 : Nat := 60
abbrev n_sha_schedule : Nat := 61
abbrev n_bits_RotateLeft32 : Nat := 62
abbrev n_word_big : Nat := 63
abbrev n_word_GetBig32 : Nat := 64
abbrev n_word_getBig : Nat := 65
abbrev n_crypt_actual_Open : Nat := 81
abbrev n_crypt_actual_Seal : Nat := 82
abbrev n_aead_Open : Nat := 84
abbrev n_aead_Seal : Nat := 85
abbrev n_chacha_Xor : Nat := 86
abbrev n_aead_tag : Nat := 87
abbrev n_chacha_may : Nat := 88
abbrev n_chacha_block : Nat := 89
abbrev n_chacha_Block : Nat := 90
abbrev n_poly_Tag : Nat := 91
abbrev n_aead_padded : Nat := 92
abbrev n_chacha_begin : Nat := 93
abbrev n_chacha_quarters : Nat := 94
abbrev n_chacha_state_quarter : Nat := 95
abbrev n_word_Put32 : Nat := 96
abbrev n_poly_load : Nat := 97
abbrev n_slices_Chunk_byte_byte : Nat := 98
abbrev n_poly_number_add : Nat := 99
abbrev n_poly_number_times : Nat := 100
abbrev n_poly_number_reduce : Nat := 101
abbrev n_poly_number_bytes : Nat := 102
abbrev n_word_Get32 : Nat := 103
abbrev n_chacha_state_half : Nat := 104
abbrev n_slices_Chunk_byte_byte_1 : Nat := 105
abbrev n_poly_number_carry : Nat := 106
abbrev n_crypt_book_Open : Nat := 107
abbrev n_crypt_book_Seal : Nat := 108
abbrev n_crypt_may : Nat := 110
abbrev n_word_GetBig64 : Nat := 111
abbrev n_bytes_Equal : Nat := 112
abbrev n_crypt_bytesOf : Nat := 113
abbrev n_bytes_Clone : Nat := 114
abbrev t_int : Nat := 3
abbrev t_uint8 : Nat := 5
abbrev t_string : Nat := 9
abbrev t_32_uint8 : Nat := 22
abbrev t_Sl_uint8 : Nat := 23
abbrev t_orloplaw18_Ask : Nat := 25
abbrev t_crypt_Crypt : Nat := 28
abbrev t_crypt_actual : Nat := 40
abbrev t_uint64 : Nat := 42
abbrev t_5_uint64 : Nat := 43
abbrev t_field_Elem : Nat := 45
abbrev t_wrap_parts : Nat := 49
abbrev t_Pt_crypt_book : Nat := 56
abbrev t_Sl_crypt_sealed : Nat := 58
abbrev t_crypt_book : Nat := 60
abbrev t_curve_ladder : Nat := 63
abbrev t_40_uint8 : Nat := 67
abbrev t_Sl_Sl_uint8 : Nat := 70
abbrev t_uint32 : Nat := 75
abbrev t_field_wide : Nat := 77
abbrev t_5_field_wide : Nat := 78
abbrev t_4_uint64 : Nat := 85
abbrev t_8_uint32 : Nat := 96
abbrev t_64_uint32 : Nat := 98
abbrev t_64_uint8 : Nat := 100
abbrev t_sha_Hash : Nat := 102
abbrev t_Sl_uint32 : Nat := 106
abbrev t_chacha_state : Nat := 127
abbrev t_4_int : Nat := 129
abbrev t_8_4_int : Nat := 130
abbrev t_3_int : Nat := 133
abbrev t_poly_number : Nat := 134
abbrev t_crypt_sealed : Nat := 145
theorem mixed : P.follows .mixedOrders = true := by kernel_rfl
theorem u3 : P.underlying 3 = some (.int .i64) := by kernel_rfl
theorem z3 : sz P 3 = some 1 := by kernel_rfl
theorem u4 : P.underlying 4 = some .bool := by kernel_rfl
theorem z4 : sz P 4 = some 1 := by kernel_rfl
theorem u5 : P.underlying 5 = some (.int .u8) := by kernel_rfl
theorem z5 : sz P 5 = some 1 := by kernel_rfl
theorem u9 : P.underlying 9 = some .string := by kernel_rfl
theorem u22 : P.underlying 22 = some (.array 32 5) := by kernel_rfl
theorem u23 : P.underlying 23 = some (.slice 5) := by kernel_rfl
theorem z23 : sz P 23 = some 1 := by kernel_rfl
theorem u28 : P.underlying 28 = some (.interface (match P.underlying 28 with | some (.interface ms) => ms | _ => #[])) := by kernel_rfl
theorem u30 : P.underlying 30 = some (.int .i64) := by kernel_rfl
theorem u40 : P.underlying 40 = some (.struct (match P.underlying 40 with | some (.struct fs) => fs | _ => #[])) := by kernel_rfl
theorem u42 : P.underlying 42 = some (.int .u64) := by kernel_rfl
theorem z42 : sz P 42 = some 1 := by kernel_rfl
theorem u43 : P.underlying 43 = some (.array 5 42) := by kernel_rfl
theorem z43 : sz P 43 = some 5 := by kernel_rfl
theorem u45 : P.underlying 45 = some (.struct (match P.underlying 45 with | some (.struct fs) => fs | _ => #[])) := by kernel_rfl
theorem u49 : P.underlying 49 = some (.struct (match P.underlying 49 with | some (.struct fs) => fs | _ => #[])) := by kernel_rfl
theorem u56 : P.underlying 56 = some (.pointer 60) := by kernel_rfl
theorem u57 : P.underlying 57 = some (.map 9 3) := by kernel_rfl
theorem u58 : P.underlying 58 = some (.slice 145) := by kernel_rfl
theorem z58 : sz P 58 = some 1 := by kernel_rfl
theorem u67 : P.underlying 67 = some (.array 40 5) := by kernel_rfl
theorem u70 : P.underlying 70 = some (.slice 23) := by kernel_rfl
theorem u75 : P.underlying 75 = some (.int .u32) := by kernel_rfl
theorem z75 : sz P 75 = some 1 := by kernel_rfl
theorem u77 : P.underlying 77 = some (.struct (match P.underlying 77 with | some (.struct fs) => fs | _ => #[])) := by kernel_rfl
theorem u78 : P.underlying 78 = some (.array 5 77) := by kernel_rfl
theorem u82 : P.underlying 82 = some (.int .u64) := by kernel_rfl
theorem u85 : P.underlying 85 = some (.array 4 42) := by kernel_rfl
theorem z85 : sz P 85 = some 4 := by kernel_rfl
theorem u96 : P.underlying 96 = some (.array 8 75) := by kernel_rfl
theorem z96 : sz P 96 = some 8 := by kernel_rfl
theorem u98 : P.underlying 98 = some (.array 64 75) := by kernel_rfl
theorem z98 : sz P 98 = some 64 := by kernel_rfl
theorem u100 : P.underlying 100 = some (.array 64 5) := by kernel_rfl
theorem u102 : P.underlying 102 = some (.struct (match P.underlying 102 with | some (.struct fs) => fs | _ => #[])) := by kernel_rfl
theorem u106 : P.underlying 106 = some (.slice 75) := by kernel_rfl
theorem u127 : P.underlying 127 = some (.array 16 75) := by kernel_rfl
theorem z127 : sz P 127 = some 16 := by kernel_rfl
theorem u129 : P.underlying 129 = some (.array 4 3) := by kernel_rfl
theorem z129 : sz P 129 = some 4 := by kernel_rfl
theorem u130 : P.underlying 130 = some (.array 8 129) := by kernel_rfl
theorem z130 : sz P 130 = some 32 := by kernel_rfl
theorem u133 : P.underlying 133 = some (.array 3 3) := by kernel_rfl
theorem u134 : P.underlying 134 = some (.array 5 42) := by kernel_rfl
theorem z134 : sz P 134 = some 5 := by kernel_rfl
theorem u145 : P.underlying 145 = some (.struct (match P.underlying 145 with | some (.struct fs) => fs | _ => #[])) := by kernel_rfl
theorem nfo5 : (P.info? 5).map (fun i => (i.zero, i.size, i.bytes)) = some (some (.int .u8 0), 1, 1) := by kernel_rfl
theorem zr5 : zr P 5 = some (.int .u8 0) := by kernel_rfl
theorem nfo23 : (P.info? 23).map (fun i => (i.zero, i.size, i.bytes)) = some (some (.slice none 0 0), 1, 24) := by kernel_rfl
theorem zr23 : zr P 23 = some (.slice none 0 0) := by kernel_rfl
theorem ld3 {h : Hp} {K : Value → Prop} (a : Addr) : q P h (Instr.loadAt 3 (.pointer (some a))) K = withVal (h.cell a) K := q_ld u3 rfl a
theorem ld4 {h : Hp} {K : Value → Prop} (a : Addr) : q P h (Instr.loadAt 4 (.pointer (some a))) K = withVal (h.cell a) K := q_ld u4 rfl a
theorem eb4 {h : Hp} {K : Value → Prop} (x y : Operand) (a b : Bool) : q P h (eqop .eql 4 x y (.bool a) (.bool b)) K = K (.bool (a == b)) := q_eqlB x y a b u4
theorem nb4 {h : Hp} {K : Value → Prop} (x y : Operand) (a b : Bool) : q P h (eqop .neq 4 x y (.bool a) (.bool b)) K = K (.bool (!(a == b))) := q_neqB x y a b u4
theorem ld5 {h : Hp} {K : Value → Prop} (a : Addr) : q P h (Instr.loadAt 5 (.pointer (some a))) K = withVal (h.cell a) K := q_ld u5 rfl a
theorem ld9 {h : Hp} {K : Value → Prop} (a : Addr) : q P h (Instr.loadAt 9 (.pointer (some a))) K = withVal (h.cell a) K := q_ld u9 rfl a
theorem ln9 {h : Hp} {K : Value → Prop} {T : TypeId} (s : ByteArray) : q P h (Builtin.len_ #[9] T #[.string s]) K = K (.int .i64 s.size) := q_lenStr u9 s
theorem ix22 {h : Hp} {K : Value → Prop} (a : Addr) (k : IntKind) (i : Int) (h0 : 0 ≤ i) (h1 : i < 32) : q P h (Instr.indexAt 22 (.pointer (some a)) (.int k i)) K = K (.pointer (some (a.add i.toNat))) := by rw [q_idxA u22 z5 a k i h0 h1, Nat.mul_one]
theorem ld23 {h : Hp} {K : Value → Prop} (a : Addr) : q P h (Instr.loadAt 23 (.pointer (some a))) K = withVal (h.cell a) K := q_ld u23 rfl a
theorem ix23 {h : Hp} {K : Value → Prop} (a : Addr) (n c : Nat) (k : IntKind) (i : Int) (h0 : 0 ≤ i) (h1 : i < n) : q P h (Instr.indexAt 23 (.slice (some a) n c) (.int k i)) K = K (.pointer (some (a.add i.toNat))) := by rw [q_idxS u23 z5 a n c k i h0 h1, Nat.mul_one]
theorem ln23 {h : Hp} {K : Value → Prop} {T : TypeId} (a : Option Addr) (n c : Nat) : q P h (Builtin.len_ #[23] T #[.slice a n c]) K = K (.int .i64 n) := q_lenS u23 a n c
theorem en23 {h : Hp} {K : Value → Prop} (x y : Operand) (a : Option Addr) (n c : Nat) : q P h (eqop .eql 23 x y (.slice a n c) (.slice none 0 0)) K = K (.bool a.isNone) := q_eqlNil x y a n c u23
theorem ld28 {h : Hp} {K : Value → Prop} (a : Addr) : q P h (Instr.loadAt 28 (.pointer (some a))) K = withVal (h.cell a) K := q_ld u28 rfl a
theorem ld30 {h : Hp} {K : Value → Prop} (a : Addr) : q P h (Instr.loadAt 30 (.pointer (some a))) K = withVal (h.cell a) K := q_ld u30 rfl a
theorem ld42 {h : Hp} {K : Value → Prop} (a : Addr) : q P h (Instr.loadAt 42 (.pointer (some a))) K = withVal (h.cell a) K := q_ld u42 rfl a
theorem ix43 {h : Hp} {K : Value → Prop} (a : Addr) (k : IntKind) (i : Int) (h0 : 0 ≤ i) (h1 : i < 5) : q P h (Instr.indexAt 43 (.pointer (some a)) (.int k i)) K = K (.pointer (some (a.add i.toNat))) := by rw [q_idxA u43 z42 a k i h0 h1, Nat.mul_one]
theorem ld56 {h : Hp} {K : Value → Prop} (a : Addr) : q P h (Instr.loadAt 56 (.pointer (some a))) K = withVal (h.cell a) K := q_ld u56 rfl a
theorem ld57 {h : Hp} {K : Value → Prop} (a : Addr) : q P h (Instr.loadAt 57 (.pointer (some a))) K = withVal (h.cell a) K := q_ld u57 rfl a
theorem ld58 {h : Hp} {K : Value → Prop} (a : Addr) : q P h (Instr.loadAt 58 (.pointer (some a))) K = withVal (h.cell a) K := q_ld u58 rfl a
theorem ln58 {h : Hp} {K : Value → Prop} {T : TypeId} (a : Option Addr) (n c : Nat) : q P h (Builtin.len_ #[58] T #[.slice a n c]) K = K (.int .i64 n) := q_lenS u58 a n c
theorem en58 {h : Hp} {K : Value → Prop} (x y : Operand) (a : Option Addr) (n c : Nat) : q P h (eqop .eql 58 x y (.slice a n c) (.slice none 0 0)) K = K (.bool a.isNone) := q_eqlNil x y a n c u58
theorem ix67 {h : Hp} {K : Value → Prop} (a : Addr) (k : IntKind) (i : Int) (h0 : 0 ≤ i) (h1 : i < 40) : q P h (Instr.indexAt 67 (.pointer (some a)) (.int k i)) K = K (.pointer (some (a.add i.toNat))) := by rw [q_idxA u67 z5 a k i h0 h1, Nat.mul_one]
theorem ld70 {h : Hp} {K : Value → Prop} (a : Addr) : q P h (Instr.loadAt 70 (.pointer (some a))) K = withVal (h.cell a) K := q_ld u70 rfl a
theorem ix70 {h : Hp} {K : Value → Prop} (a : Addr) (n c : Nat) (k : IntKind) (i : Int) (h0 : 0 ≤ i) (h1 : i < n) : q P h (Instr.indexAt 70 (.slice (some a) n c) (.int k i)) K = K (.pointer (some (a.add i.toNat))) := by rw [q_idxS u70 z23 a n c k i h0 h1, Nat.mul_one]
theorem ln70 {h : Hp} {K : Value → Prop} {T : TypeId} (a : Option Addr) (n c : Nat) : q P h (Builtin.len_ #[70] T #[.slice a n c]) K = K (.int .i64 n) := q_lenS u70 a n c
theorem en70 {h : Hp} {K : Value → Prop} (x y : Operand) (a : Option Addr) (n c : Nat) : q P h (eqop .eql 70 x y (.slice a n c) (.slice none 0 0)) K = K (.bool a.isNone) := q_eqlNil x y a n c u70
theorem ld75 {h : Hp} {K : Value → Prop} (a : Addr) : q P h (Instr.loadAt 75 (.pointer (some a))) K = withVal (h.cell a) K := q_ld u75 rfl a
theorem ld82 {h : Hp} {K : Value → Prop} (a : Addr) : q P h (Instr.loadAt 82 (.pointer (some a))) K = withVal (h.cell a) K := q_ld u82 rfl a
theorem ix85 {h : Hp} {K : Value → Prop} (a : Addr) (k : IntKind) (i : Int) (h0 : 0 ≤ i) (h1 : i < 4) : q P h (Instr.indexAt 85 (.pointer (some a)) (.int k i)) K = K (.pointer (some (a.add i.toNat))) := by rw [q_idxA u85 z42 a k i h0 h1, Nat.mul_one]
theorem ix96 {h : Hp} {K : Value → Prop} (a : Addr) (k : IntKind) (i : Int) (h0 : 0 ≤ i) (h1 : i < 8) : q P h (Instr.indexAt 96 (.pointer (some a)) (.int k i)) K = K (.pointer (some (a.add i.toNat))) := by rw [q_idxA u96 z75 a k i h0 h1, Nat.mul_one]
theorem ix98 {h : Hp} {K : Value → Prop} (a : Addr) (k : IntKind) (i : Int) (h0 : 0 ≤ i) (h1 : i < 64) : q P h (Instr.indexAt 98 (.pointer (some a)) (.int k i)) K = K (.pointer (some (a.add i.toNat))) := by rw [q_idxA u98 z75 a k i h0 h1, Nat.mul_one]
theorem ix100 {h : Hp} {K : Value → Prop} (a : Addr) (k : IntKind) (i : Int) (h0 : 0 ≤ i) (h1 : i < 64) : q P h (Instr.indexAt 100 (.pointer (some a)) (.int k i)) K = K (.pointer (some (a.add i.toNat))) := by rw [q_idxA u100 z5 a k i h0 h1, Nat.mul_one]
theorem ld106 {h : Hp} {K : Value → Prop} (a : Addr) : q P h (Instr.loadAt 106 (.pointer (some a))) K = withVal (h.cell a) K := q_ld u106 rfl a
theorem ix106 {h : Hp} {K : Value → Prop} (a : Addr) (n c : Nat) (k : IntKind) (i : Int) (h0 : 0 ≤ i) (h1 : i < n) : q P h (Instr.indexAt 106 (.slice (some a) n c) (.int k i)) K = K (.pointer (some (a.add i.toNat))) := by rw [q_idxS u106 z75 a n c k i h0 h1, Nat.mul_one]
theorem ln106 {h : Hp} {K : Value → Prop} {T : TypeId} (a : Option Addr) (n c : Nat) : q P h (Builtin.len_ #[106] T #[.slice a n c]) K = K (.int .i64 n) := q_lenS u106 a n c
theorem en106 {h : Hp} {K : Value → Prop} (x y : Operand) (a : Option Addr) (n c : Nat) : q P h (eqop .eql 106 x y (.slice a n c) (.slice none 0 0)) K = K (.bool a.isNone) := q_eqlNil x y a n c u106
theorem ix127 {h : Hp} {K : Value → Prop} (a : Addr) (k : IntKind) (i : Int) (h0 : 0 ≤ i) (h1 : i < 16) : q P h (Instr.indexAt 127 (.pointer (some a)) (.int k i)) K = K (.pointer (some (a.add i.toNat))) := by rw [q_idxA u127 z75 a k i h0 h1, Nat.mul_one]
theorem ix129 {h : Hp} {K : Value → Prop} (a : Addr) (k : IntKind) (i : Int) (h0 : 0 ≤ i) (h1 : i < 4) : q P h (Instr.indexAt 129 (.pointer (some a)) (.int k i)) K = K (.pointer (some (a.add i.toNat))) := by rw [q_idxA u129 z3 a k i h0 h1, Nat.mul_one]
theorem ix133 {h : Hp} {K : Value → Prop} (a : Addr) (k : IntKind) (i : Int) (h0 : 0 ≤ i) (h1 : i < 3) : q P h (Instr.indexAt 133 (.pointer (some a)) (.int k i)) K = K (.pointer (some (a.add i.toNat))) := by rw [q_idxA u133 z3 a k i h0 h1, Nat.mul_one]
theorem ix134 {h : Hp} {K : Value → Prop} (a : Addr) (k : IntKind) (i : Int) (h0 : 0 ≤ i) (h1 : i < 5) : q P h (Instr.indexAt 134 (.pointer (some a)) (.int k i)) K = K (.pointer (some (a.add i.toNat))) := by rw [q_idxA u134 z42 a k i h0 h1, Nat.mul_one]
theorem cv3_5 {h : Hp} {K : Value → Prop} {k : IntKind} (a : Int) : q P h (convert 3 5 (.int k a)) K = K (.int .u8 (IntKind.u8.wrap a)) := q_conv a u3 u5
theorem cv3_42 {h : Hp} {K : Value → Prop} {k : IntKind} (a : Int) : q P h (convert 3 42 (.int k a)) K = K (.int .u64 (IntKind.u64.wrap a)) := q_conv a u3 u42
theorem cv3_82 {h : Hp} {K : Value → Prop} {k : IntKind} (a : Int) : q P h (convert 3 82 (.int k a)) K = K (.int .u64 (IntKind.u64.wrap a)) := q_conv a u3 u82
theorem cv5_42 {h : Hp} {K : Value → Prop} {k : IntKind} (a : Int) : q P h (convert 5 42 (.int k a)) K = K (.int .u64 (IntKind.u64.wrap a)) := q_conv a u5 u42
theorem cv42_3 {h : Hp} {K : Value → Prop} {k : IntKind} (a : Int) : q P h (convert 42 3 (.int k a)) K = K (.int .i64 (IntKind.i64.wrap a)) := q_conv a u42 u3
theorem cv42_5 {h : Hp} {K : Value → Prop} {k : IntKind} (a : Int) : q P h (convert 42 5 (.int k a)) K = K (.int .u8 (IntKind.u8.wrap a)) := q_conv a u42 u5
theorem cv42_75 {h : Hp} {K : Value → Prop} {k : IntKind} (a : Int) : q P h (convert 42 75 (.int k a)) K = K (.int .u32 (IntKind.u32.wrap a)) := q_conv a u42 u75
theorem cv75_42 {h : Hp} {K : Value → Prop} {k : IntKind} (a : Int) : q P h (convert 75 42 (.int k a)) K = K (.int .u64 (IntKind.u64.wrap a)) := q_conv a u75 u42
/-- The readings' rules at this seat's types. -/
theorem RL :
  (∀ {h : Hp} {K : Value → Prop} (a : Addr), q P h (Instr.loadAt 3 (.pointer (some a))) K = withVal (h.cell a) K) ∧
  (∀ {h : Hp} {K : Value → Prop} (a : Addr), q P h (Instr.loadAt 4 (.pointer (some a))) K = withVal (h.cell a) K) ∧
  (∀ {h : Hp} {K : Value → Prop} (x y : Operand) (a b : Bool), q P h (eqop .eql 4 x y (.bool a) (.bool b)) K = K (.bool (a == b))) ∧
  (∀ {h : Hp} {K : Value → Prop} (x y : Operand) (a b : Bool), q P h (eqop .neq 4 x y (.bool a) (.bool b)) K = K (.bool (!(a == b)))) ∧
  (∀ {h : Hp} {K : Value → Prop} (a : Addr), q P h (Instr.loadAt 5 (.pointer (some a))) K = withVal (h.cell a) K) ∧
  (∀ {h : Hp} {K : Value → Prop} (a : Addr), q P h (Instr.loadAt 9 (.pointer (some a))) K = withVal (h.cell a) K) ∧
  (∀ {h : Hp} {K : Value → Prop} {T : TypeId} (s : ByteArray), q P h (Builtin.len_ #[9] T #[.string s]) K = K (.int .i64 s.size)) ∧
  (∀ {h : Hp} {K : Value → Prop} (a : Addr) (k : IntKind) (i : Int) (h0 : 0 ≤ i) (h1 : i < 32), q P h (Instr.indexAt 22 (.pointer (some a)) (.int k i)) K = K (.pointer (some (a.add i.toNat)))) ∧
  (∀ {h : Hp} {K : Value → Prop} (a : Addr), q P h (Instr.loadAt 23 (.pointer (some a))) K = withVal (h.cell a) K) ∧
  (∀ {h : Hp} {K : Value → Prop} (a : Addr) (n c : Nat) (k : IntKind) (i : Int) (h0 : 0 ≤ i) (h1 : i < n), q P h (Instr.indexAt 23 (.slice (some a) n c) (.int k i)) K = K (.pointer (some (a.add i.toNat)))) ∧
  (∀ {h : Hp} {K : Value → Prop} {T : TypeId} (a : Option Addr) (n c : Nat), q P h (Builtin.len_ #[23] T #[.slice a n c]) K = K (.int .i64 n)) ∧
  (∀ {h : Hp} {K : Value → Prop} (x y : Operand) (a : Option Addr) (n c : Nat), q P h (eqop .eql 23 x y (.slice a n c) (.slice none 0 0)) K = K (.bool a.isNone)) ∧
  (∀ {h : Hp} {K : Value → Prop} (a : Addr), q P h (Instr.loadAt 28 (.pointer (some a))) K = withVal (h.cell a) K) ∧
  (∀ {h : Hp} {K : Value → Prop} (a : Addr), q P h (Instr.loadAt 30 (.pointer (some a))) K = withVal (h.cell a) K) ∧
  (∀ {h : Hp} {K : Value → Prop} (a : Addr), q P h (Instr.loadAt 42 (.pointer (some a))) K = withVal (h.cell a) K) ∧
  (∀ {h : Hp} {K : Value → Prop} (a : Addr) (k : IntKind) (i : Int) (h0 : 0 ≤ i) (h1 : i < 5), q P h (Instr.indexAt 43 (.pointer (some a)) (.int k i)) K = K (.pointer (some (a.add i.toNat)))) ∧
  (∀ {h : Hp} {K : Value → Prop} (a : Addr), q P h (Instr.loadAt 56 (.pointer (some a))) K = withVal (h.cell a) K) ∧
  (∀ {h : Hp} {K : Value → Prop} (a : Addr), q P h (Instr.loadAt 57 (.pointer (some a))) K = withVal (h.cell a) K) ∧
  (∀ {h : Hp} {K : Value → Prop} (a : Addr), q P h (Instr.loadAt 58 (.pointer (some a))) K = withVal (h.cell a) K) ∧
  (∀ {h : Hp} {K : Value → Prop} {T : TypeId} (a : Option Addr) (n c : Nat), q P h (Builtin.len_ #[58] T #[.slice a n c]) K = K (.int .i64 n)) ∧
  (∀ {h : Hp} {K : Value → Prop} (x y : Operand) (a : Option Addr) (n c : Nat), q P h (eqop .eql 58 x y (.slice a n c) (.slice none 0 0)) K = K (.bool a.isNone)) ∧
  (∀ {h : Hp} {K : Value → Prop} (a : Addr) (k : IntKind) (i : Int) (h0 : 0 ≤ i) (h1 : i < 40), q P h (Instr.indexAt 67 (.pointer (some a)) (.int k i)) K = K (.pointer (some (a.add i.toNat)))) ∧
  (∀ {h : Hp} {K : Value → Prop} (a : Addr), q P h (Instr.loadAt 70 (.pointer (some a))) K = withVal (h.cell a) K) ∧
  (∀ {h : Hp} {K : Value → Prop} (a : Addr) (n c : Nat) (k : IntKind) (i : Int) (h0 : 0 ≤ i) (h1 : i < n), q P h (Instr.indexAt 70 (.slice (some a) n c) (.int k i)) K = K (.pointer (some (a.add i.toNat)))) ∧
  (∀ {h : Hp} {K : Value → Prop} {T : TypeId} (a : Option Addr) (n c : Nat), q P h (Builtin.len_ #[70] T #[.slice a n c]) K = K (.int .i64 n)) ∧
  (∀ {h : Hp} {K : Value → Prop} (x y : Operand) (a : Option Addr) (n c : Nat), q P h (eqop .eql 70 x y (.slice a n c) (.slice none 0 0)) K = K (.bool a.isNone)) ∧
  (∀ {h : Hp} {K : Value → Prop} (a : Addr), q P h (Instr.loadAt 75 (.pointer (some a))) K = withVal (h.cell a) K) ∧
  (∀ {h : Hp} {K : Value → Prop} (a : Addr), q P h (Instr.loadAt 82 (.pointer (some a))) K = withVal (h.cell a) K) ∧
  (∀ {h : Hp} {K : Value → Prop} (a : Addr) (k : IntKind) (i : Int) (h0 : 0 ≤ i) (h1 : i < 4), q P h (Instr.indexAt 85 (.pointer (some a)) (.int k i)) K = K (.pointer (some (a.add i.toNat)))) ∧
  (∀ {h : Hp} {K : Value → Prop} (a : Addr) (k : IntKind) (i : Int) (h0 : 0 ≤ i) (h1 : i < 8), q P h (Instr.indexAt 96 (.pointer (some a)) (.int k i)) K = K (.pointer (some (a.add i.toNat)))) ∧
  (∀ {h : Hp} {K : Value → Prop} (a : Addr) (k : IntKind) (i : Int) (h0 : 0 ≤ i) (h1 : i < 64), q P h (Instr.indexAt 98 (.pointer (some a)) (.int k i)) K = K (.pointer (some (a.add i.toNat)))) ∧
  (∀ {h : Hp} {K : Value → Prop} (a : Addr) (k : IntKind) (i : Int) (h0 : 0 ≤ i) (h1 : i < 64), q P h (Instr.indexAt 100 (.pointer (some a)) (.int k i)) K = K (.pointer (some (a.add i.toNat)))) ∧
  (∀ {h : Hp} {K : Value → Prop} (a : Addr), q P h (Instr.loadAt 106 (.pointer (some a))) K = withVal (h.cell a) K) ∧
  (∀ {h : Hp} {K : Value → Prop} (a : Addr) (n c : Nat) (k : IntKind) (i : Int) (h0 : 0 ≤ i) (h1 : i < n), q P h (Instr.indexAt 106 (.slice (some a) n c) (.int k i)) K = K (.pointer (some (a.add i.toNat)))) ∧
  (∀ {h : Hp} {K : Value → Prop} {T : TypeId} (a : Option Addr) (n c : Nat), q P h (Builtin.len_ #[106] T #[.slice a n c]) K = K (.int .i64 n)) ∧
  (∀ {h : Hp} {K : Value → Prop} (x y : Operand) (a : Option Addr) (n c : Nat), q P h (eqop .eql 106 x y (.slice a n c) (.slice none 0 0)) K = K (.bool a.isNone)) ∧
  (∀ {h : Hp} {K : Value → Prop} (a : Addr) (k : IntKind) (i : Int) (h0 : 0 ≤ i) (h1 : i < 16), q P h (Instr.indexAt 127 (.pointer (some a)) (.int k i)) K = K (.pointer (some (a.add i.toNat)))) ∧
  (∀ {h : Hp} {K : Value → Prop} (a : Addr) (k : IntKind) (i : Int) (h0 : 0 ≤ i) (h1 : i < 4), q P h (Instr.indexAt 129 (.pointer (some a)) (.int k i)) K = K (.pointer (some (a.add i.toNat)))) ∧
  (∀ {h : Hp} {K : Value → Prop} (a : Addr) (k : IntKind) (i : Int) (h0 : 0 ≤ i) (h1 : i < 3), q P h (Instr.indexAt 133 (.pointer (some a)) (.int k i)) K = K (.pointer (some (a.add i.toNat)))) ∧
  (∀ {h : Hp} {K : Value → Prop} (a : Addr) (k : IntKind) (i : Int) (h0 : 0 ≤ i) (h1 : i < 5), q P h (Instr.indexAt 134 (.pointer (some a)) (.int k i)) K = K (.pointer (some (a.add i.toNat)))) ∧
  (∀ {h : Hp} {K : Value → Prop} {k : IntKind} (a : Int), q P h (convert 3 5 (.int k a)) K = K (.int .u8 (IntKind.u8.wrap a))) ∧
  (∀ {h : Hp} {K : Value → Prop} {k : IntKind} (a : Int), q P h (convert 3 42 (.int k a)) K = K (.int .u64 (IntKind.u64.wrap a))) ∧
  (∀ {h : Hp} {K : Value → Prop} {k : IntKind} (a : Int), q P h (convert 3 82 (.int k a)) K = K (.int .u64 (IntKind.u64.wrap a))) ∧
  (∀ {h : Hp} {K : Value → Prop} {k : IntKind} (a : Int), q P h (convert 5 42 (.int k a)) K = K (.int .u64 (IntKind.u64.wrap a))) ∧
  (∀ {h : Hp} {K : Value → Prop} {k : IntKind} (a : Int), q P h (convert 42 3 (.int k a)) K = K (.int .i64 (IntKind.i64.wrap a))) ∧
  (∀ {h : Hp} {K : Value → Prop} {k : IntKind} (a : Int), q P h (convert 42 5 (.int k a)) K = K (.int .u8 (IntKind.u8.wrap a))) ∧
  (∀ {h : Hp} {K : Value → Prop} {k : IntKind} (a : Int), q P h (convert 42 75 (.int k a)) K = K (.int .u32 (IntKind.u32.wrap a))) ∧
  (∀ {h : Hp} {K : Value → Prop} {k : IntKind} (a : Int), q P h (convert 75 42 (.int k a)) K = K (.int .u64 (IntKind.u64.wrap a))) :=
  ⟨@ld3, @ld4, @eb4, @nb4, @ld5, @ld9, @ln9, @ix22, @ld23, @ix23, @ln23, @en23, @ld28, @ld30, @ld42, @ix43, @ld56, @ld57, @ld58, @ln58, @en58, @ix67, @ld70, @ix70, @ln70, @en70, @ld75, @ld82, @ix85, @ix96, @ix98, @ix100, @ld106, @ix106, @ln106, @en106, @ix127, @ix129, @ix133, @ix134, @cv3_5, @cv3_42, @cv3_82, @cv5_42, @cv42_3, @cv42_5, @cv42_75, @cv75_42⟩
theorem u_int : P.underlying 3 = some (.int .i64) := u3
theorem z_int : sz P 3 = some 1 := z3
theorem u_bool : P.underlying 4 = some .bool := u4
theorem u_uint8 : P.underlying 5 = some (.int .u8) := u5
theorem z_uint8 : sz P 5 = some 1 := z5
theorem nfo_uint8 : (P.info? 5).map (fun i => (i.zero, i.size, i.bytes)) = some (some (.int .u8 0), 1, 1) := nfo5
theorem zr_uint8 : zr P 5 = some (.int .u8 0) := zr5
theorem u_string : P.underlying 9 = some .string := u9
theorem u_Sl_uint8 : P.underlying 23 = some (.slice 5) := u23
theorem z_Sl_uint8 : sz P 23 = some 1 := z23
theorem nfo_Sl_uint8 : (P.info? 23).map (fun i => (i.zero, i.size, i.bytes)) = some (some (.slice none 0 0), 1, 24) := nfo23
theorem zr_Sl_uint8 : zr P 23 = some (.slice none 0 0) := zr23
theorem u_crypt_Crypt : P.underlying 28 = some (.interface (match P.underlying 28 with | some (.interface ms) => ms | _ => #[])) := u28
theorem u_crypt_actual : P.underlying 40 = some (.struct (match P.underlying 40 with | some (.struct fs) => fs | _ => #[])) := u40
theorem z_uint64 : sz P 42 = some 1 := z42
theorem u_5_uint64 : P.underlying 43 = some (.array 5 42) := u43
theorem z_5_uint64 : sz P 43 = some 5 := z43
theorem u_field_Elem : P.underlying 45 = some (.struct (match P.underlying 45 with | some (.struct fs) => fs | _ => #[])) := u45
theorem u_wrap_parts : P.underlying 49 = some (.struct (match P.underlying 49 with | some (.struct fs) => fs | _ => #[])) := u49
theorem u_Pt_crypt_book : P.underlying 56 = some (.pointer 60) := u56
theorem u_Sl_crypt_sealed : P.underlying 58 = some (.slice 145) := u58
theorem z_Sl_crypt_sealed : sz P 58 = some 1 := z58
theorem u_40_uint8 : P.underlying 67 = some (.array 40 5) := u67
theorem u_Sl_Sl_uint8 : P.underlying 70 = some (.slice 23) := u70
theorem z_uint32 : sz P 75 = some 1 := z75
theorem u_field_wide : P.underlying 77 = some (.struct (match P.underlying 77 with | some (.struct fs) => fs | _ => #[])) := u77
theorem u_5_field_wide : P.underlying 78 = some (.array 5 77) := u78
theorem u_4_uint64 : P.underlying 85 = some (.array 4 42) := u85
theorem z_4_uint64 : sz P 85 = some 4 := z85
theorem u_8_uint32 : P.underlying 96 = some (.array 8 75) := u96
theorem z_8_uint32 : sz P 96 = some 8 := z96
theorem u_64_uint32 : P.underlying 98 = some (.array 64 75) := u98
theorem z_64_uint32 : sz P 98 = some 64 := z98
theorem u_64_uint8 : P.underlying 100 = some (.array 64 5) := u100
theorem u_sha_Hash : P.underlying 102 = some (.struct (match P.underlying 102 with | some (.struct fs) => fs | _ => #[])) := u102
theorem u_Sl_uint32 : P.underlying 106 = some (.slice 75) := u106
theorem u_chacha_state : P.underlying 127 = some (.array 16 75) := u127
theorem z_chacha_state : sz P 127 = some 16 := z127
theorem u_4_int : P.underlying 129 = some (.array 4 3) := u129
theorem z_4_int : sz P 129 = some 4 := z129
theorem u_8_4_int : P.underlying 130 = some (.array 8 129) := u130
theorem z_8_4_int : sz P 130 = some 32 := z130
theorem u_poly_number : P.underlying 134 = some (.array 5 42) := u134
theorem z_poly_number : sz P 134 = some 5 := z134
theorem u_crypt_sealed : P.underlying 145 = some (.struct (match P.underlying 145 with | some (.struct fs) => fs | _ => #[])) := u145
/-- function 3: orlop.orloplaw18.WrapSame -/
def s_orloplaw18_WrapSame (K : Value → Hp → Prop) (h : Hp) (t0 t1 : Value) : Prop := aw P (Instr.box 25 t0) (fun t2 h => aw P (Instr.box 22 t1) (fun t3 h => Cn P 5 #[] h fun t20 h => q P h (Op.unary .not t20) fun t21 => cnd t21 (K (Value.bool false) h) (q P h (Instr.fieldAt 25 t2 3) fun t22 => q P h (Instr.loadAt 23 t22) fun t23 => q P h (Builtin.len_ #[23] 3 #[t23]) fun t24 => q P h (binOp .gtr 3 t24 (Value.int .i64 300)) fun t25 => cnd t25 (K (Value.bool true) h) (Cn P 6 #[] h fun t26 h => q P h (Instr.fieldAt 25 t2 1) fun t28 => q P h (Instr.sliceAt 22 t28 none none none) fun t29 => Cn P 7 #[t29] h fun t30 h => q P h (Instr.extract t30 0) fun t31 => q P h (Instr.extract t30 1) fun t32 => q P h (Instr.sliceAt 22 t3 none none none) fun t34 => Cn P 7 #[t34] h fun t35 h => q P h (Instr.extract t35 0) fun t36 => q P h (Instr.extract t35 1) fun t37 => q P h (Instr.fieldAt 25 t2 0) fun t39 => q P h (Instr.sliceAt 22 t39 none none none) fun t40 => Cn P 7 #[t40] h fun t41 h => q P h (Instr.extract t41 0) fun t42 => q P h (Instr.extract t41 1) fun t43 => q P h (Instr.fieldAt 25 t2 0) fun t46 => q P h (Instr.sliceAt 22 t46 none none none) fun t47 => q P h (Instr.fieldAt 25 t2 2) fun t49 => q P h (Instr.sliceAt 22 t49 none none none) fun t50 => q P h (Instr.fieldAt 25 t2 3) fun t51 => q P h (Instr.loadAt 23 t51) fun t52 => Cn P 8 #[t26, t47, t31, t50, t52] h fun t53 h => q P emp (Instr.extract t53 0) fun t54 => q P emp (Instr.extract t53 1) fun t55 => q P h (Instr.fieldAt 25 t2 0) fun t58 => q P h (Instr.sliceAt 22 t58 none none none) fun t59 => q P h (Instr.fieldAt 25 t2 2) fun t61 => q P h (Instr.sliceAt 22 t61 none none none) fun t62 => q P h (Instr.fieldAt 25 t2 3) fun t63 => q P h (Instr.loadAt 23 t63) fun t64 => Cn P 8 #[t26, t59, t31, t62, t64] h fun t65 h => q P emp (Instr.extract t65 0) fun t66 => q P emp (Instr.extract t65 1) fun t67 => q P h (Instr.fieldAt 25 t2 0) fun t70 => q P h (Instr.sliceAt 22 t70 none none none) fun t71 => q P h (Instr.fieldAt 25 t2 2) fun t73 => q P h (Instr.sliceAt 22 t73 none none none) fun t74 => q P h (Instr.fieldAt 25 t2 3) fun t75 => q P h (Instr.loadAt 23 t75) fun t76 => Cn P 8 #[t26, t71, t36, t74, t76] h fun t77 h => q P emp (Instr.extract t77 0) fun t78 => q P emp (Instr.extract t77 1) fun t79 => q P h (Instr.sliceAt 22 t3 none none none) fun t82 => q P h (Instr.fieldAt 25 t2 2) fun t84 => q P h (Instr.sliceAt 22 t84 none none none) fun t85 => q P h (Instr.fieldAt 25 t2 3) fun t86 => q P h (Instr.loadAt 23 t86) fun t87 => Cn P 8 #[t26, t82, t31, t85, t87] h fun t88 h => q P emp (Instr.extract t88 0) fun t89 => q P emp (Instr.extract t88 1) fun t90 => 
let J16 : Hp → Prop := fun h => q P h (Instr.sliceAt 23 t54 (some (Value.int .i64 1)) (some (Value.int .i64 33)) none) fun t112 => q P h (Instr.sliceAt 23 t78 (some (Value.int .i64 1)) (some (Value.int .i64 33)) none) fun t114 => Cn P 9 #[t112, t114] h fun t115 h => Cn P 9 #[t31, t36] h fun t118 h => q P h (eqop .eql 4 (.tmp 115) (.tmp 118) t115 t118) fun t119 => gd t119 true (q P h (Instr.sliceAt 23 t54 (some (Value.int .i64 33)) (some (Value.int .i64 65)) none) fun t122 => q P h (Instr.sliceAt 23 t89 (some (Value.int .i64 33)) (some (Value.int .i64 65)) none) fun t124 => Cn P 9 #[t122, t124] h fun t125 h => Cn P 9 #[t42, t36] h fun t128 h => q P h (eqop .eql 4 (.tmp 125) (.tmp 128) t125 t128) fun t129 => K t129 h) (K (Value.bool false) h);
q P h (eqop .neq 30 (.tmp 91) (.const (Value.int .i64 0)) t55 (Value.int .i64 0)) fun t92 => gd t92 false (q P h (eqop .neq 30 (.tmp 94) (.const (Value.int .i64 0)) t67 (Value.int .i64 0)) fun t95 => gd t95 false (q P h (eqop .neq 30 (.tmp 98) (.const (Value.int .i64 0)) t79 (Value.int .i64 0)) fun t99 => gd t99 false (q P h (eqop .neq 30 (.tmp 102) (.const (Value.int .i64 0)) t90 (Value.int .i64 0)) fun t103 => gd t103 false (Cn P 9 #[t54, t66] h fun t108 h => q P h (Op.unary .not t108) fun t109 => cnd t109 (K (Value.bool false) h) (J16 h)) (cnd (Value.bool true) (K (Value.bool false) h) (J16 h))) (cnd (Value.bool true) (K (Value.bool false) h) (J16 h))) (cnd (Value.bool true) (K (Value.bool false) h) (J16 h))) (cnd (Value.bool true) (K (Value.bool false) h) (J16 h))))) h) h
theorem F_orloplaw18_WrapSame {K : Value → Hp → Prop} {h : Hp} {t0 t1 : Value} (s : s_orloplaw18_WrapSame K h t0 t1) : Cn P 3 #[t0, t1] h K :=
  Cn_ofs mixed Try.func3 (by kernel_rfl) (args := [t0, t1]) (by kernel_rfl) s
/-- function 5: orlop.orloplaw18.awake -/
def s_orloplaw18_awake (K : Value → Hp → Prop) (h : Hp) : Prop := Cn P 13 #[] h fun t13 h => q P h (eqop .eql 28 (.tmp 14) (.const Value.nilIface) t13 Value.nilIface) fun t15 => cnd t15 (K (Value.bool false) h) (aw P (Instr.makeSlice 23 (Value.int .i64 32) (Value.int .i64 32)) (fun t16 h => Cn P 8 #[t13, t16, t16, t16, (Value.slice none 0 0)] h fun t22 h => q P h (Instr.extract t22 0) fun t23 => q P h (Instr.extract t22 1) fun t24 => Cn P 11 #[t13, t16, (Value.slice none 0 0), (Value.slice none 0 0)] h fun t28 h => q P h (Instr.extract t28 0) fun t29 => q P h (Instr.extract t28 1) fun t30 => Cn P 7 #[t16] h fun t33 h => q P h (Instr.extract t33 0) fun t34 => q P h (Instr.extract t33 1) fun t35 => Cn P 8 #[t13, t16, t34, t16, (Value.slice none 0 0)] h fun t41 h => q P h (Instr.extract t41 0) fun t42 => q P h (Instr.extract t41 1) fun t43 => Cn P 11 #[t13, t16, t42, (Value.slice none 0 0)] h fun t48 h => q P h (Instr.extract t48 0) fun t49 => q P h (Instr.extract t48 1) fun t50 => q P h (eqop .eql 30 (.tmp 51) (.const (Value.int .i64 10)) t24 (Value.int .i64 10)) fun t52 => gd t52 true (q P h (eqop .eql 30 (.tmp 54) (.const (Value.int .i64 8)) t30 (Value.int .i64 8)) fun t55 => gd t55 true (q P h (eqop .eql 30 (.tmp 58) (.const (Value.int .i64 0)) t43 (Value.int .i64 0)) fun t59 => gd t59 true (q P h (Builtin.len_ #[23] 3 #[t42]) fun t63 => q P h (eqop .eql 3 (.tmp 63) (.const (Value.int .i64 113)) t63 (Value.int .i64 113)) fun t64 => gd t64 true (q P h (eqop .eql 30 (.tmp 67) (.const (Value.int .i64 0)) t50 (Value.int .i64 0)) fun t68 => gd t68 true (Cn P 9 #[t49, t16] h fun t73 h => K t73 h) (K (Value.bool false) h)) (K (Value.bool false) h)) (K (Value.bool false) h)) (K (Value.bool false) h)) (K (Value.bool false) h)) h)
theorem F_orloplaw18_awake {K : Value → Hp → Prop} {h : Hp} (s : s_orloplaw18_awake K h) : Cn P 5 #[] h K :=
  Cn_ofs mixed Try.func5 (by kernel_rfl) (args := []) (by kernel_rfl) s
/-- function 6: orlop.crypt.Real -/
def s_crypt_Real (K : Value → Hp → Prop) (h : Hp) : Prop := q P h (Instr.build 40 #[]) fun t1 => q P h (Instr.makeInterface 40 t1) fun t2 => K t2 h
theorem F_crypt_Real {K : Value → Hp → Prop} {h : Hp} (s : s_crypt_Real K h) : Cn P 6 #[] h K :=
  Cn_ofs mixed Try.func6 (by kernel_rfl) (args := []) (by kernel_rfl) s
/-- function 7: orlop.curve.Public -/
def s_curve_Public (K : Value → Hp → Prop) (h : Hp) (t0 : Value) : Prop := Cn P 14 #[t0] h fun t8 h => q P h (Instr.extract t8 0) fun t9 => q P h (Instr.extract t8 1) fun t10 => q P h (eqop .neq 30 (.tmp 11) (.const (Value.int .i64 0)) t10 (Value.int .i64 0)) fun t12 => cnd t12 (K (Value.tuple #[(Value.slice none 0 0), t10]) h) (aw P (Instr.buildSlice 23 1 #[(0, (Value.int .u8 9))]) (fun t15 h => Cn P 16 #[t15] h fun t16 h => Cn P 15 #[t9, t16] h fun t17 h => K (Value.tuple #[t17, (Value.int .i64 0)]) h) h)
theorem F_curve_Public {K : Value → Hp → Prop} {h : Hp} {t0 : Value} (s : s_curve_Public K h t0) : Cn P 7 #[t0] h K :=
  Cn_ofs mixed Try.func7 (by kernel_rfl) (args := [t0]) (by kernel_rfl) s
/-- function 8: orlop.wrap.Wrap -/
def s_wrap_Wrap (K : Value → Hp → Prop) (h : Hp) (t0 t1 t2 t3 t4 : Value) : Prop := q P h (Builtin.len_ #[23] 3 #[t3]) fun t19 => q P h (eqop .neq 3 (.tmp 19) (.const (Value.int .i64 32)) t19 (Value.int .i64 32)) fun t20 => cnd t20 (K (Value.tuple #[(Value.slice none 0 0), (Value.int .i64 1)]) h) (Cn P 17 #[t1, t2] h fun t24 h => q P h (Instr.extract t24 0) fun t25 => q P h (Instr.extract t24 1) fun t26 => q P h (eqop .neq 30 (.tmp 27) (.const (Value.int .i64 0)) t26 (Value.int .i64 0)) fun t28 => cnd t28 (K (Value.tuple #[(Value.slice none 0 0), t26]) h) (Cn P 7 #[t1] h fun t32 h => q P h (Instr.extract t32 0) fun t33 => q P h (Instr.extract t32 1) fun t34 => q P h (Instr.build 49 #[(0, t2), (1, t33)]) fun t37 => aw P (Instr.alloc 49 true (.tuple #[])) (fun t16 h => aw P (Instr.storeAt 49 t16 t37) (fun _ h => q P h (Instr.loadAt 49 t16) fun t40 => q P emp (nilCk (Value.func (.method "Seal") #[t0] #[])) fun t47 => Cn P 18 #[t40, t25] h fun t42 h => Cn P 19 #[] h fun t43 h => aw P (callMethod t0 "Seal" #[t42, t43, t4, t3]) (nextP P fun t49 h => q P emp (Instr.extract t49 0) fun t50 => q P emp (Instr.extract t49 1) fun t51 => q P h (eqop .neq 30 (.tmp 52) (.const (Value.int .i64 0)) t51 (Value.int .i64 0)) fun t53 => cnd t53 (K (Value.tuple #[(Value.slice none 0 0), t51]) h) (aw P (Instr.buildSlice 23 1 #[(0, (Value.int .u8 1))]) (fun t55 h => aw P (Instr.buildSlice 70 4 #[(0, t55), (1, t2), (2, t33), (3, t50)]) (fun t59 h => Cn P 20 #[t59] h fun t60 h => K (Value.tuple #[t60, (Value.int .i64 0)]) h) h) h)) h) h) h))
theorem F_wrap_Wrap {K : Value → Hp → Prop} {h : Hp} {t0 t1 t2 t3 t4 : Value} (s : s_wrap_Wrap K h t0 t1 t2 t3 t4) : Cn P 8 #[t0, t1, t2, t3, t4] h K :=
  Cn_ofs mixed Try.func8 (by kernel_rfl) (args := [t0, t1, t2, t3, t4]) (by kernel_rfl) s
/-- function 9: orlop.orlopref01.Equal -/
def s_orlopref01_Equal (K : Value → Hp → Prop) (h : Hp) (t0 t1 : Value) : Prop := q P h (Builtin.len_ #[23] 3 #[t0]) fun t7 => q P h (Builtin.len_ #[23] 3 #[t1]) fun t9 => q P h (eqop .neq 3 (.tmp 7) (.tmp 9) t7 t9) fun t10 => cnd t10 (K (Value.bool false) h) (
Lp [(Value.bool false), (Value.int .i64 0)] h fun nx7 vs7 h =>
q P h (Builtin.len_ #[23] 3 #[t0]) fun t13 => q P h (binOp .lss 3 (vs7.getD 1 undef) t13) fun t14 => cnd t14 (q P emp (Instr.indexAt 23 t0 (vs7.getD 1 undef)) fun t19 => q P h (Instr.loadAt 5 t19) fun t20 => q P emp (Instr.indexAt 23 t1 (vs7.getD 1 undef)) fun t23 => q P h (Instr.loadAt 5 t23) fun t24 => q P h (eqop .neq 5 (.tmp 20) (.tmp 24) t20 t24) fun t25 => cnd t25 (K (Value.bool false) h) (q P h (binOp .add 3 (vs7.getD 1 undef) (Value.int .i64 1)) fun t16 => nx7 [(vs7.getD 0 undef), t16] h)) (K (Value.bool true) h))
theorem F_orlopref01_Equal {K : Value → Hp → Prop} {h : Hp} {t0 t1 : Value} (s : s_orlopref01_Equal K h t0 t1) : Cn P 9 #[t0, t1] h K :=
  Cn_ofs mixed Try.func9 (by kernel_rfl) (args := [t0, t1]) (by kernel_rfl) s
/-- function 11: orlop.wrap.Unwrap -/
def s_wrap_Unwrap (K : Value → Hp → Prop) (h : Hp) (t0 t1 t2 t3 : Value) : Prop := Cn P 7 #[t1] h fun t17 h => q P h (Instr.extract t17 0) fun t18 => q P h (Instr.extract t17 1) fun t19 => q P h (eqop .neq 30 (.tmp 20) (.const (Value.int .i64 0)) t19 (Value.int .i64 0)) fun t21 => cnd t21 (K (Value.tuple #[(Value.slice none 0 0), t19]) h) (Cn P 21 #[t2] h fun t25 h => q P h (Instr.extract t25 0) fun t26 => q P h (Instr.extract t25 1) fun t27 => aw P (Instr.alloc 49 true (.tuple #[])) (fun t12 h => aw P (Instr.storeAt 49 t12 t26) (fun _ h => q P h (Op.unary .not t27) fun t30 => cnd t30 (K (Value.tuple #[(Value.slice none 0 0), (Value.int .i64 8)]) h) (q P h (Instr.fieldAt 49 t12 0) fun t32 => q P h (Instr.loadAt 23 t32) fun t33 => Cn P 22 #[t33, t18] h fun t35 h => q P h (Op.unary .not t35) fun t36 => cnd t36 (K (Value.tuple #[(Value.slice none 0 0), (Value.int .i64 9)]) h) (q P h (Instr.fieldAt 49 t12 1) fun t39 => q P h (Instr.loadAt 23 t39) fun t40 => Cn P 17 #[t1, t40] h fun t41 h => q P h (Instr.extract t41 0) fun t42 => q P h (Instr.extract t41 1) fun t43 => q P h (eqop .neq 30 (.tmp 44) (.const (Value.int .i64 0)) t43 (Value.int .i64 0)) fun t45 => cnd t45 (K (Value.tuple #[(Value.slice none 0 0), t43]) h) (q P h (Instr.loadAt 49 t12) fun t48 => q P h (Instr.fieldAt 49 t12 2) fun t53 => q P h (Instr.loadAt 23 t53) fun t54 => q P emp (nilCk (Value.func (.method "Open") #[t0] #[])) fun t56 => Cn P 18 #[t48, t42] h fun t50 h => peek P h (Instr.loadAt 23 t53) = some t54 ∧ peek P h (Instr.fieldAt 49 t12 2) = some t53 ∧ Cn P 19 #[] h fun t51 h => peek P h (Instr.loadAt 23 t53) = some t54 ∧ peek P h (Instr.fieldAt 49 t12 2) = some t53 ∧ aw P (callMethod t0 "Open" #[t50, t51, t3, t54]) (nextP P fun t58 h => q P emp (Instr.extract t58 0) fun t59 => q P emp (Instr.extract t58 1) fun t60 => K (Value.tuple #[t59, t60]) h) h)))) h) h)
theorem F_wrap_Unwrap {K : Value → Hp → Prop} {h : Hp} {t0 t1 t2 t3 : Value} (s : s_wrap_Unwrap K h t0 t1 t2 t3) : Cn P 11 #[t0, t1, t2, t3] h K :=
  Cn_ofs mixed Try.func11 (by kernel_rfl) (args := [t0, t1, t2, t3]) (by kernel_rfl) s
/-- function 13: orlop.crypt.Book -/
def s_crypt_Book (K : Value → Hp → Prop) (h : Hp) : Prop := aw P (Instr.makeMap 57 none) (fun t1 h => q P h (Instr.build 60 #[(0, t1)]) fun t2 => aw P (Instr.box 60 t2) (fun t3 h => q P h (Instr.makeInterface 56 t3) fun t4 => K t4 h) h) h
theorem F_crypt_Book {K : Value → Hp → Prop} {h : Hp} (s : s_crypt_Book K h) : Cn P 13 #[] h K :=
  Cn_ofs mixed Try.func13 (by kernel_rfl) (args := []) (by kernel_rfl) s
/-- function 14: orlop.curve.Clamp -/
def s_curve_Clamp (K : Value → Hp → Prop) (h : Hp) (t0 : Value) : Prop := q P h (Builtin.len_ #[23] 3 #[t0]) fun t6 => q P h (eqop .neq 3 (.tmp 6) (.const (Value.int .i64 32)) t6 (Value.int .i64 32)) fun t7 => cnd t7 (K (Value.tuple #[(Value.slice none 0 0), (Value.int .i64 1)]) h) (Cn P 23 #[t0] h fun t9 h => q P h (Instr.indexAt 23 t9 (Value.int .i64 0)) fun t11 => q P h (Instr.loadAt 5 t11) fun t12 => q P h (binOp .and 5 t12 (Value.int .u8 248)) fun t13 => q P h (Instr.indexAt 23 t9 (Value.int .i64 0)) fun t14 => aw P (Instr.storeAt 5 t14 t13) (fun _ h => q P h (Instr.indexAt 23 t9 (Value.int .i64 31)) fun t17 => q P h (Instr.loadAt 5 t17) fun t18 => q P h (binOp .and 5 t18 (Value.int .u8 127)) fun t19 => q P h (binOp .or 5 t19 (Value.int .u8 64)) fun t20 => q P h (Instr.indexAt 23 t9 (Value.int .i64 31)) fun t21 => aw P (Instr.storeAt 5 t21 t20) (fun _ h => K (Value.tuple #[t9, (Value.int .i64 0)]) h) h) h)
theorem F_curve_Clamp {K : Value → Hp → Prop} {h : Hp} {t0 : Value} (s : s_curve_Clamp K h t0) : Cn P 14 #[t0] h K :=
  Cn_ofs mixed Try.func14 (by kernel_rfl) (args := [t0]) (by kernel_rfl) s
/-- function 15: orlop.curve.climb -/
def s_curve_climb (K : Value → Hp → Prop) (h : Hp) (t0 t1 : Value) : Prop := aw P (Instr.box 45 t1) (fun t3 h => aw P (Instr.buildSlice 23 1 #[(0, (Value.int .u8 1))]) (fun t11 h => Cn P 16 #[t11] h fun t12 h => aw P (Instr.alloc 45 true (.tuple #[])) (fun t5 h => aw P (Instr.storeAt 45 t5 t12) (fun _ h => q P h (Instr.loadAt 45 t3) fun t13 => q P h (Instr.loadAt 45 t5) fun t14 => q P h (Instr.loadAt 45 t3) fun t15 => q P h (Instr.loadAt 45 t5) fun t16 => q P h (Instr.build 63 #[(0, t13), (1, t14), (3, t15), (4, t16)]) fun t17 => aw P (Instr.box 63 t17) (fun t18 h => 
Lp [(Value.int .u64 0), (Value.int .i64 0)] h fun nx7 vs7 h =>
q P h (binOp .lss 3 (vs7.getD 1 undef) (Value.int .i64 255)) fun t20 => cnd t20 (q P h (binOp .sub 3 (Value.int .i64 254) (vs7.getD 1 undef)) fun t23 => q P h (binOp .quo 3 t23 (Value.int .i64 8)) fun t26 => q P h (Instr.indexAt 23 t0 t26) fun t27 => q P h (Instr.loadAt 5 t27) fun t28 => q P h (binOp .rem 3 t23 (Value.int .i64 8)) fun t30 => q P h (binOp .shr 5 t28 t30) fun t31 => q P h (convert 5 42 t31) fun t32 => q P h (binOp .and 42 t32 (Value.int .u64 1)) fun t33 => q P h (binOp .xor 42 (vs7.getD 0 undef) t33) fun t37 => Cn P 24 #[t18, t37] h fun t38 h => Cn P 25 #[t18] h fun t40 h => q P h (binOp .add 3 (vs7.getD 1 undef) (Value.int .i64 1)) fun t42 => nx7 [t33, t42] h) (Cn P 24 #[t18, (vs7.getD 0 undef)] h fun t45 h => q P emp (nilCk t18) fun t47 => q P h (Instr.fieldAt 63 t47 1) fun t48 => q P h (Instr.loadAt 45 t48) fun t49 => q P emp (nilCk t18) fun t51 => q P h (Instr.fieldAt 63 t51 2) fun t52 => q P h (Instr.loadAt 45 t52) fun t53 => Cn P 27 #[t53] h fun t54 h => peek P h (Instr.loadAt 45 t48) = some t49 ∧ peek P h (Instr.fieldAt 63 t47 1) = some t48 ∧ Cn P 26 #[t49, t54] h fun t55 h => Cn P 28 #[t55] h fun t56 h => K t56 h)) h) h) h) h) h
theorem F_curve_climb {K : Value → Hp → Prop} {h : Hp} {t0 t1 : Value} (s : s_curve_climb K h t0 t1) : Cn P 15 #[t0, t1] h K :=
  Cn_ofs mixed Try.func15 (by kernel_rfl) (args := [t0, t1]) (by kernel_rfl) s
/-- function 16: orlop.field.From -/
def s_field_From (K : Value → Hp → Prop) (h : Hp) (t0 : Value) : Prop := aw P (Instr.alloc 45 true (.tuple #[])) (fun t2 h => aw P (Instr.alloc 67 true (.tuple #[])) (fun t3 h => q P h (Instr.sliceAt 67 t3 none (some (Value.int .i64 32)) none) fun t9 => aw P (Builtin.copy_ #[23, 23] 3 #[t9, t0]) (fun t11 h => q P h (Instr.indexAt 67 t3 (Value.int .i64 31)) fun t12 => q P h (Instr.loadAt 5 t12) fun t13 => q P h (binOp .and 5 t13 (Value.int .u8 127)) fun t14 => q P h (Instr.indexAt 67 t3 (Value.int .i64 31)) fun t15 => aw P (Instr.storeAt 5 t15 t14) (fun _ h => aw P (Instr.alloc 45 true (.tuple #[])) (fun t4 h => 
Lp [(Value.int .i64 0)] h fun nx8 vs8 h =>
q P h (binOp .lss 3 (vs8.getD 0 undef) (Value.int .i64 5)) fun t17 => cnd t17 (q P h (binOp .mul 3 (Value.int .i64 51) (vs8.getD 0 undef)) fun t20 => q P emp (binOp .quo 3 t20 (Value.int .i64 8)) fun t22 => q P h (Instr.sliceAt 67 t3 (some t22) none none) fun t23 => q P emp (binOp .quo 3 t20 (Value.int .i64 8)) fun t26 => q P emp (binOp .add 3 t26 (Value.int .i64 8)) fun t27 => q P emp (Instr.indexAt 67 t3 t27) fun t28 => q P h (Instr.loadAt 5 t28) fun t29 => q P h (convert 5 42 t29) fun t30 => Cn P 29 #[t23] h fun t24 h => peek P h (convert 5 42 t29) = some t30 ∧ peek P h (Instr.loadAt 5 t28) = some t29 ∧ q P emp (binOp .rem 3 t20 (Value.int .i64 8)) fun t34 => q P emp (binOp .shr 42 t24 t34) fun t35 => q P emp (binOp .rem 3 t20 (Value.int .i64 8)) fun t38 => q P emp (binOp .sub 3 (Value.int .i64 64) t38) fun t39 => q P emp (binOp .shl 42 t30 t39) fun t40 => q P emp (binOp .or 42 t35 t40) fun t41 => q P emp (binOp .and 42 t41 (Value.int .u64 2251799813685247)) fun t42 => q P h (Instr.fieldAt 45 t4 0) fun t43 => q P emp (Instr.indexAt 43 t43 (vs8.getD 0 undef)) fun t44 => aw P (Instr.storeAt 42 t44 t42) (fun _ h => q P h (binOp .rem 3 t20 (Value.int .i64 8)) fun t46 => q P h (eqop .eql 3 (.tmp 46) (.const (Value.int .i64 0)) t46 (Value.int .i64 0)) fun t47 => cnd t47 (q P h (binOp .and 42 t24 (Value.int .u64 2251799813685247)) fun t50 => q P h (Instr.fieldAt 45 t4 0) fun t51 => q P h (Instr.indexAt 43 t51 (vs8.getD 0 undef)) fun t52 => aw P (Instr.storeAt 42 t52 t50) (fun _ h => q P h (binOp .add 3 (vs8.getD 0 undef) (Value.int .i64 1)) fun t53 => nx8 [t53] h) h) (q P h (binOp .add 3 (vs8.getD 0 undef) (Value.int .i64 1)) fun t53 => nx8 [t53] h)) h) (q P h (Instr.loadAt 45 t4) fun t54 => aw P (Instr.storeAt 45 t2 t54) (fun _ h => q P h ((asAddr t2).bind (loadVar 45)) fun r0 => K r0 h) h)) h) h) h) h) h
theorem F_field_From {K : Value → Hp → Prop} {h : Hp} {t0 : Value} (s : s_field_From K h t0) : Cn P 16 #[t0] h K :=
  Cn_ofs mixed Try.func16 (by kernel_rfl) (args := [t0]) (by kernel_rfl) s
/-- function 17: orlop.curve.Shared -/
def s_curve_Shared (K : Value → Hp → Prop) (h : Hp) (t0 t1 : Value) : Prop := Cn P 14 #[t0] h fun t11 h => q P h (Instr.extract t11 0) fun t12 => q P h (Instr.extract t11 1) fun t13 => 
let J3 : Hp → Prop := fun h => Cn P 16 #[t1] h fun t23 h => Cn P 15 #[t12, t23] h fun t24 h => q P h (Builtin.len_ #[23] 3 #[t24]) fun t27 => aw P (Instr.makeSlice 23 t27 t27) (fun t28 h => Cn P 22 #[t24, t28] h fun t29 h => cnd t29 (K (Value.tuple #[(Value.slice none 0 0), (Value.int .i64 10)]) h) (K (Value.tuple #[t24, (Value.int .i64 0)]) h)) h;
q P h (eqop .neq 30 (.tmp 14) (.const (Value.int .i64 0)) t13 (Value.int .i64 0)) fun t15 => gd t15 false (q P h (Builtin.len_ #[23] 3 #[t1]) fun t18 => q P h (eqop .neq 3 (.tmp 18) (.const (Value.int .i64 32)) t18 (Value.int .i64 32)) fun t19 => cnd t19 (K (Value.tuple #[(Value.slice none 0 0), (Value.int .i64 1)]) h) (J3 h)) (cnd (Value.bool true) (K (Value.tuple #[(Value.slice none 0 0), (Value.int .i64 1)]) h) (J3 h))
theorem F_curve_Shared {K : Value → Hp → Prop} {h : Hp} {t0 t1 : Value} (s : s_curve_Shared K h t0 t1) : Cn P 17 #[t0, t1] h K :=
  Cn_ofs mixed Try.func17 (by kernel_rfl) (args := [t0, t1]) (by kernel_rfl) s
/-- function 18: (orlop.wrap.parts).key -/
def s_wrap_parts_key (K : Value → Hp → Prop) (h : Hp) (t0 t1 : Value) : Prop := aw P (Instr.box 49 t0) (fun t2 h => q P h (Instr.fieldAt 49 t2 1) fun t9 => q P h (Instr.loadAt 23 t9) fun t10 => q P h (Instr.fieldAt 49 t2 0) fun t11 => q P h (Instr.loadAt 23 t11) fun t12 => aw P (Instr.buildSlice 70 2 #[(0, t10), (1, t12)]) (fun t13 h => Cn P 20 #[t13] h fun t14 h => aw P (Instr.buildSlice 23 10 #[(0, (Value.int .u8 111)), (1, (Value.int .u8 114)), (2, (Value.int .u8 108)), (3, (Value.int .u8 111)), (4, (Value.int .u8 112)), (5, (Value.int .u8 32)), (6, (Value.int .u8 119)), (7, (Value.int .u8 114)), (8, (Value.int .u8 97)), (9, (Value.int .u8 112))]) (fun t15 h => aw P (convert 23 23 t15) (fun t16 h => Cn P 30 #[t1, t14, t16, (Value.int .i64 32)] h fun t17 h => q P h (Instr.extract t17 0) fun t18 => q P h (Instr.extract t17 1) fun t19 => K t18 h) h) h) h) h
theorem F_wrap_parts_key {K : Value → Hp → Prop} {h : Hp} {t0 t1 : Value} (s : s_wrap_parts_key K h t0 t1) : Cn P 18 #[t0, t1] h K :=
  Cn_ofs mixed Try.func18 (by kernel_rfl) (args := [t0, t1]) (by kernel_rfl) s
/-- function 19: orlop.wrap.nonce -/
def s_wrap_nonce (K : Value → Hp → Prop) (h : Hp) : Prop := aw P (Instr.makeSlice 23 (Value.int .i64 12) (Value.int .i64 12)) (fun t1 h => K t1 h) h
theorem F_wrap_nonce {K : Value → Hp → Prop} {h : Hp} (s : s_wrap_nonce K h) : Cn P 19 #[] h K :=
  Cn_ofs mixed Try.func19 (by kernel_rfl) (args := []) (by kernel_rfl) s
/-- function 20: slices.Concat[[]byte,byte] -/
def s_slices_Concat_byte_byte (K : Value → Hp → Prop) (h : Hp) (t0 : Value) : Prop := q P h (Builtin.len_ #[70] 3 #[t0]) fun t10 => 
Lp [(Value.int .i64 0), (Value.int .i64 0)] h fun nx5 vs5 h =>
q P h (binOp .lss 3 (vs5.getD 1 undef) t10) fun t12 => cnd t12 (q P h (Instr.indexAt 70 t0 (vs5.getD 1 undef)) fun t13 => q P h (Instr.loadAt 23 t13) fun t14 => q P h (Builtin.len_ #[23] 3 #[t14]) fun t17 => q P h (binOp .add 3 (vs5.getD 0 undef) t17) fun t18 => q P h (binOp .lss 3 t18 (Value.int .i64 0)) fun t20 => cnd t20 (q P h (Instr.makeInterface 9 (Value.string ⟨#[108, 101, 110, 32, 111, 117, 116, 32, 111, 102, 32, 114, 97, 110, 103, 101]⟩)) fun t21 => False) (q P h (binOp .add 3 (vs5.getD 1 undef) (Value.int .i64 1)) fun t22 => nx5 [t18, t22] h)) (Cn P 31 #[(Value.slice none 0 0), (vs5.getD 0 undef)] h fun t24 h => q P h (Builtin.len_ #[70] 3 #[t0]) fun t26 => 
Lp [t24, (Value.int .i64 0)] h fun nx15 vs15 h =>
q P h (binOp .lss 3 (vs15.getD 1 undef) t26) fun t28 => cnd t28 (q P h (Instr.indexAt 70 t0 (vs15.getD 1 undef)) fun t29 => q P h (Instr.loadAt 23 t29) fun t30 => aw P (Builtin.append_ #[23, 23] 23 #[(vs15.getD 0 undef), t30]) (fun t33 h => q P h (binOp .add 3 (vs15.getD 1 undef) (Value.int .i64 1)) fun t34 => nx15 [t33, t34] h) h) (K (vs15.getD 0 undef) h))
theorem F_slices_Concat_byte_byte {K : Value → Hp → Prop} {h : Hp} {t0 : Value} (s : s_slices_Concat_byte_byte K h t0) : Cn P 20 #[t0] h K :=
  Cn_ofs mixed Try.func20 (by kernel_rfl) (args := [t0]) (by kernel_rfl) s
/-- function 21: orlop.wrap.cut -/
def s_wrap_cut (K : Value → Hp → Prop) (h : Hp) (t0 : Value) : Prop := aw P (Instr.alloc 49 true (.tuple #[])) (fun t2 h => 
let J3 : Value → Hp → Prop := fun t12 h => cnd t12 (q P h (Instr.build 49 #[]) fun t13 => aw P (Instr.storeAt 49 t2 t13) (fun _ h => q P h ((asAddr t2).bind (loadVar 49)) fun r0 => K (Value.tuple #[r0, (Value.bool false)]) h) h) (q P h (Instr.sliceAt 23 t0 (some (Value.int .i64 1)) (some (Value.int .i64 33)) (some (Value.int .i64 33))) fun t15 => q P h (Instr.sliceAt 23 t0 (some (Value.int .i64 33)) (some (Value.int .i64 65)) (some (Value.int .i64 65))) fun t17 => q P h (Builtin.len_ #[23] 3 #[t0]) fun t20 => q P h (Builtin.len_ #[23] 3 #[t0]) fun t22 => q P h (Instr.sliceAt 23 t0 (some (Value.int .i64 65)) (some t20) (some t22)) fun t23 => q P emp (Instr.build 49 #[(0, t15), (1, t17), (2, t23)]) fun t24 => aw P (Instr.storeAt 49 t2 t24) (fun _ h => q P h ((asAddr t2).bind (loadVar 49)) fun r0 => K (Value.tuple #[r0, (Value.bool true)]) h) h);
q P h (Builtin.len_ #[23] 3 #[t0]) fun t5 => q P h (eqop .neq 3 (.tmp 5) (.const (Value.int .i64 113)) t5 (Value.int .i64 113)) fun t6 => gd t6 false (q P h (Instr.indexAt 23 t0 (Value.int .i64 0)) fun t9 => q P h (Instr.loadAt 5 t9) fun t10 => q P h (eqop .neq 5 (.tmp 10) (.const (Value.int .u8 1)) t10 (Value.int .u8 1)) fun t11 => J3 t11 h) (J3 (Value.bool true) h)) h
theorem F_wrap_cut {K : Value → Hp → Prop} {h : Hp} {t0 : Value} (s : s_wrap_cut K h t0) : Cn P 21 #[t0] h K :=
  Cn_ofs mixed Try.func21 (by kernel_rfl) (args := [t0]) (by kernel_rfl) s
/-- function 22: orlop.word.Equal -/
def s_word_Equal (K : Value → Hp → Prop) (h : Hp) (t0 t1 : Value) : Prop := q P h (Builtin.len_ #[23] 3 #[t0]) fun t8 => q P h (Builtin.len_ #[23] 3 #[t1]) fun t10 => q P h (eqop .neq 3 (.tmp 8) (.tmp 10) t8 t10) fun t11 => cnd t11 (K (Value.bool false) h) (q P h (Builtin.len_ #[23] 3 #[t0]) fun t13 => 
Lp [(Value.int .u8 0), (Value.int .i64 0)] h fun nx8 vs8 h =>
q P h (binOp .lss 3 (vs8.getD 1 undef) t13) fun t15 => cnd t15 (q P emp (Instr.indexAt 23 t0 (vs8.getD 1 undef)) fun t20 => q P h (Instr.loadAt 5 t20) fun t21 => q P emp (Instr.indexAt 23 t1 (vs8.getD 1 undef)) fun t24 => q P h (Instr.loadAt 5 t24) fun t25 => q P emp (binOp .xor 5 t21 t25) fun t26 => q P emp (binOp .or 5 (vs8.getD 0 undef) t26) fun t27 => q P h (binOp .add 3 (vs8.getD 1 undef) (Value.int .i64 1)) fun t28 => nx8 [t27, t28] h) (q P h (eqop .eql 5 (.tmp 29) (.const (Value.int .u8 0)) (vs8.getD 0 undef) (Value.int .u8 0)) fun t30 => K t30 h))
theorem F_word_Equal {K : Value → Hp → Prop} {h : Hp} {t0 t1 : Value} (s : s_word_Equal K h t0 t1) : Cn P 22 #[t0, t1] h K :=
  Cn_ofs mixed Try.func22 (by kernel_rfl) (args := [t0, t1]) (by kernel_rfl) s
/-- function 23: slices.Clone[[]byte,byte] -/
def s_slices_Clone_byte_byte (K : Value → Hp → Prop) (h : Hp) (t0 : Value) : Prop := q P h (eqop .eql 23 (.tmp 3) (.const (Value.slice none 0 0)) t0 (Value.slice none 0 0)) fun t4 => cnd t4 (K (Value.slice none 0 0) h) (aw P (Instr.buildSlice 23 0 #[]) (fun t5 h => aw P (Builtin.append_ #[23, 23] 23 #[t5, t0]) (fun t7 h => K t7 h) h) h)
theorem F_slices_Clone_byte_byte {K : Value → Hp → Prop} {h : Hp} {t0 : Value} (s : s_slices_Clone_byte_byte K h t0) : Cn P 23 #[t0] h K :=
  Cn_ofs mixed Try.func23 (by kernel_rfl) (args := [t0]) (by kernel_rfl) s
/-- function 24: (*orlop.curve.ladder).swap -/
def s_curve_ladder_swap (K : Value → Hp → Prop) (h : Hp) (t0 t1 : Value) : Prop := q P emp (nilCk t0) fun t9 => q P h (Instr.fieldAt 63 t9 1) fun t10 => q P h (Instr.loadAt 45 t10) fun t11 => q P emp (nilCk t0) fun t13 => q P h (Instr.fieldAt 63 t13 3) fun t14 => q P h (Instr.loadAt 45 t14) fun t15 => Cn P 32 #[t1, t11, t15] h fun t16 h => q P emp (Instr.extract t16 0) fun t17 => q P emp (Instr.extract t16 1) fun t18 => q P emp (nilCk t0) fun t19 => q P h (Instr.fieldAt 63 t19 1) fun t20 => aw P (Instr.storeAt 45 t20 t17) (fun _ h => q P emp (nilCk t0) fun t21 => q P h (Instr.fieldAt 63 t21 3) fun t22 => aw P (Instr.storeAt 45 t22 t18) (fun _ h => q P emp (nilCk t0) fun t28 => q P h (Instr.fieldAt 63 t28 2) fun t29 => q P h (Instr.loadAt 45 t29) fun t30 => q P emp (nilCk t0) fun t32 => q P h (Instr.fieldAt 63 t32 4) fun t33 => q P h (Instr.loadAt 45 t33) fun t34 => Cn P 32 #[t1, t30, t34] h fun t35 h => q P emp (Instr.extract t35 0) fun t36 => q P emp (Instr.extract t35 1) fun t37 => q P emp (nilCk t0) fun t38 => q P h (Instr.fieldAt 63 t38 2) fun t39 => aw P (Instr.storeAt 45 t39 t36) (fun _ h => q P emp (nilCk t0) fun t40 => q P h (Instr.fieldAt 63 t40 4) fun t41 => aw P (Instr.storeAt 45 t41 t37) (fun _ h => K (Value.tuple #[]) h) h) h) h) h
theorem F_curve_ladder_swap {K : Value → Hp → Prop} {h : Hp} {t0 t1 : Value} (s : s_curve_ladder_swap K h t0 t1) : Cn P 24 #[t0, t1] h K :=
  Cn_ofs mixed Try.func24 (by kernel_rfl) (args := [t0, t1]) (by kernel_rfl) s
/-- function 25: (*orlop.curve.ladder).step -/
def s_curve_ladder_step_7 (K : Value → Hp → Prop) (h : Hp) (t0 t4 t6 : Value) : Prop := q P h (Instr.loadAt 45 t6) fun t82 => q P h (Instr.loadAt 45 t4) fun t83 => q P h (Instr.loadAt 45 t6) fun t84 => Cn P 36 #[t84, (Value.int .u32 121665)] h fun t85 h => peek P h (Instr.loadAt 45 t4) = some t83 ∧ peek P h (Instr.loadAt 45 t6) = some t82 ∧ Cn P 33 #[t83, t85] h fun t86 h => peek P h (Instr.loadAt 45 t6) = some t82 ∧ Cn P 26 #[t82, t86] h fun t87 h => q P emp (nilCk t0) fun t88 => q P h (Instr.fieldAt 63 t88 2) fun t89 => aw P (Instr.storeAt 45 t89 t87) (fun _ h => K (Value.tuple #[]) h) h
def s_curve_ladder_step_6 (K : Value → Hp → Prop) (h : Hp) (t0 t4 t5 t6 : Value) : Prop := q P h (Instr.loadAt 45 t4) fun t76 => q P h (Instr.loadAt 45 t5) fun t77 => Cn P 26 #[t76, t77] h fun t78 h => q P h (nilCk t0) fun t79 => q P h (Instr.fieldAt 63 t79 1) fun t80 => aw P (Instr.storeAt 45 t80 t78) (fun _ h => s_curve_ladder_step_7 K h t0 t4 t6) h
def s_curve_ladder_step_5 (K : Value → Hp → Prop) (h : Hp) (t0 t4 t5 t6 t7 t8 : Value) : Prop := q P emp (nilCk t0) fun t65 => q P h (Instr.fieldAt 63 t65 0) fun t66 => q P h (Instr.loadAt 45 t66) fun t67 => q P h (Instr.loadAt 45 t7) fun t68 => q P h (Instr.loadAt 45 t8) fun t69 => Cn P 34 #[t68, t69] h fun t70 h => peek P h (Instr.loadAt 45 t66) = some t67 ∧ peek P h (Instr.fieldAt 63 t65 0) = some t66 ∧ Cn P 35 #[t70] h fun t71 h => peek P h (Instr.loadAt 45 t66) = some t67 ∧ peek P h (Instr.fieldAt 63 t65 0) = some t66 ∧ Cn P 26 #[t67, t71] h fun t72 h => q P emp (nilCk t0) fun t73 => q P h (Instr.fieldAt 63 t73 4) fun t74 => aw P (Instr.storeAt 45 t74 t72) (fun _ h => s_curve_ladder_step_6 K h t0 t4 t5 t6) h
def s_curve_ladder_step_4 (K : Value → Hp → Prop) (h : Hp) (t0 t4 t5 t6 t7 t8 : Value) : Prop := q P h (Instr.loadAt 45 t7) fun t57 => q P h (Instr.loadAt 45 t8) fun t58 => Cn P 33 #[t57, t58] h fun t59 h => Cn P 35 #[t59] h fun t60 h => q P h (nilCk t0) fun t61 => q P h (Instr.fieldAt 63 t61 3) fun t62 => aw P (Instr.storeAt 45 t62 t60) (fun _ h => s_curve_ladder_step_5 K h t0 t4 t5 t6 t7 t8) h
def s_curve_ladder_step_3 (K : Value → Hp → Prop) (h : Hp) (t0 t2 t3 t4 t5 t6 : Value) : Prop := q P emp (nilCk t0) fun t35 => q P h (Instr.fieldAt 63 t35 3) fun t36 => q P h (Instr.loadAt 45 t36) fun t37 => q P emp (nilCk t0) fun t39 => q P h (Instr.fieldAt 63 t39 4) fun t40 => q P h (Instr.loadAt 45 t40) fun t41 => q P h (Instr.loadAt 45 t2) fun t43 => q P emp (nilCk t0) fun t46 => q P h (Instr.fieldAt 63 t46 3) fun t47 => q P h (Instr.loadAt 45 t47) fun t48 => q P emp (nilCk t0) fun t50 => q P h (Instr.fieldAt 63 t50 4) fun t51 => q P h (Instr.loadAt 45 t51) fun t52 => q P h (Instr.loadAt 45 t3) fun t54 => (Cn P 34 #[t37, t41] h fun t42 h => peek P h (Instr.loadAt 45 t3) = some t54 ∧ peek P h (Instr.loadAt 45 t51) = some t52 ∧ peek P h (Instr.fieldAt 63 t50 4) = some t51 ∧ peek P h (Instr.loadAt 45 t47) = some t48 ∧ peek P h (Instr.fieldAt 63 t46 3) = some t47 ∧ peek P h (Instr.loadAt 45 t2) = some t43 ∧ (Cn P 26 #[t42, t43] h fun t44 h => peek P h (Instr.loadAt 45 t3) = some t54 ∧ peek P h (Instr.loadAt 45 t51) = some t52 ∧ peek P h (Instr.fieldAt 63 t50 4) = some t51 ∧ peek P h (Instr.loadAt 45 t47) = some t48 ∧ peek P h (Instr.fieldAt 63 t46 3) = some t47 ∧ (Cn P 33 #[t48, t52] h fun t53 h => peek P h (Instr.loadAt 45 t3) = some t54 ∧ (Cn P 26 #[t53, t54] h fun t55 h => (aw P (Instr.alloc 45 true (.tuple #[])) (fun t7 h => aw P (Instr.alloc 45 true (.tuple #[])) (fun t8 h => aw P (Instr.storeAt 45 t7 t44) (fun _ h => aw P (Instr.storeAt 45 t8 t55) (fun _ h => s_curve_ladder_step_4 K h t0 t4 t5 t6 t7 t8) h) h) h) h) ∧ (aw P (Instr.alloc 45 true (.tuple #[])) (fun t8 h => aw P (Instr.alloc 45 true (.tuple #[])) (fun t7 h => aw P (Instr.storeAt 45 t7 t44) (fun _ h => aw P (Instr.storeAt 45 t8 t55) (fun _ h => s_curve_ladder_step_4 K h t0 t4 t5 t6 t7 t8) h) h) h) h)) ∧ (aw P (Instr.alloc 45 true (.tuple #[])) (fun t7 h => peek P h (Instr.loadAt 45 t3) = some t54 ∧ (Cn P 26 #[t53, t54] h fun t55 h => aw P (Instr.alloc 45 true (.tuple #[])) (fun t8 h => aw P (Instr.storeAt 45 t7 t44) (fun _ h => aw P (Instr.storeAt 45 t8 t55) (fun _ h => s_curve_ladder_step_4 K h t0 t4 t5 t6 t7 t8) h) h) h) ∧ (aw P (Instr.alloc 45 true (.tuple #[])) (fun t8 h => peek P h (Instr.loadAt 45 t3) = some t54 ∧ Cn P 26 #[t53, t54] h fun t55 h => aw P (Instr.storeAt 45 t7 t44) (fun _ h => aw P (Instr.storeAt 45 t8 t55) (fun _ h => s_curve_ladder_step_4 K h t0 t4 t5 t6 t7 t8) h) h) h)) h) ∧ (aw P (Instr.alloc 45 true (.tuple #[])) (fun t8 h => peek P h (Instr.loadAt 45 t3) = some t54 ∧ (Cn P 26 #[t53, t54] h fun t55 h => aw P (Instr.alloc 45 true (.tuple #[])) (fun t7 h => aw P (Instr.storeAt 45 t7 t44) (fun _ h => aw P (Instr.storeAt 45 t8 t55) (fun _ h => s_curve_ladder_step_4 K h t0 t4 t5 t6 t7 t8) h) h) h) ∧ (aw P (Instr.alloc 45 true (.tuple #[])) (fun t7 h => peek P h (Instr.loadAt 45 t3) = some t54 ∧ Cn P 26 #[t53, t54] h fun t55 h => aw P (Instr.storeAt 45 t7 t44) (fun _ h => aw P (Instr.storeAt 45 t8 t55) (fun _ h => s_curve_ladder_step_4 K h t0 t4 t5 t6 t7 t8) h) h) h)) h)) ∧ (aw P (Instr.alloc 45 true (.tuple #[])) (fun t7 h => peek P h (Instr.loadAt 45 t3) = some t54 ∧ peek P h (Instr.loadAt 45 t51) = some t52 ∧ peek P h (Instr.fieldAt 63 t50 4) = some t51 ∧ peek P h (Instr.loadAt 45 t47) = some t48 ∧ peek P h (Instr.fieldAt 63 t46 3) = some t47 ∧ (Cn P 33 #[t48, t52] h fun t53 h => peek P h (Instr.loadAt 45 t3) = some t54 ∧ (Cn P 26 #[t53, t54] h fun t55 h => aw P (Instr.alloc 45 true (.tuple #[])) (fun t8 h => aw P (Instr.storeAt 45 t7 t44) (fun _ h => aw P (Instr.storeAt 45 t8 t55) (fun _ h => s_curve_ladder_step_4 K h t0 t4 t5 t6 t7 t8) h) h) h) ∧ (aw P (Instr.alloc 45 true (.tuple #[])) (fun t8 h => peek P h (Instr.loadAt 45 t3) = some t54 ∧ Cn P 26 #[t53, t54] h fun t55 h => aw P (Instr.storeAt 45 t7 t44) (fun _ h => aw P (Instr.storeAt 45 t8 t55) (fun _ h => s_curve_ladder_step_4 K h t0 t4 t5 t6 t7 t8) h) h) h)) ∧ (aw P (Instr.alloc 45 true (.tuple #[])) (fun t8 h => peek P h (Instr.loadAt 45 t3) = some t54 ∧ peek P h (Instr.loadAt 45 t51) = some t52 ∧ peek P h (Instr.fieldAt 63 t50 4) = some t51 ∧ peek P h (Instr.loadAt 45 t47) = some t48 ∧ peek P h (Instr.fieldAt 63 t46 3) = some t47 ∧ Cn P 33 #[t48, t52] h fun t53 h => peek P h (Instr.loadAt 45 t3) = some t54 ∧ Cn P 26 #[t53, t54] h fun t55 h => aw P (Instr.storeAt 45 t7 t44) (fun _ h => aw P (Instr.storeAt 45 t8 t55) (fun _ h => s_curve_ladder_step_4 K h t0 t4 t5 t6 t7 t8) h) h) h)) h) ∧ (aw P (Instr.alloc 45 true (.tuple #[])) (fun t8 h => peek P h (Instr.loadAt 45 t3) = some t54 ∧ peek P h (Instr.loadAt 45 t51) = some t52 ∧ peek P h (Instr.fieldAt 63 t50 4) = some t51 ∧ peek P h (Instr.loadAt 45 t47) = some t48 ∧ peek P h (Instr.fieldAt 63 t46 3) = some t47 ∧ (Cn P 33 #[t48, t52] h fun t53 h => peek P h (Instr.loadAt 45 t3) = some t54 ∧ (Cn P 26 #[t53, t54] h fun t55 h => aw P (Instr.alloc 45 true (.tuple #[])) (fun t7 h => aw P (Instr.storeAt 45 t7 t44) (fun _ h => aw P (Instr.storeAt 45 t8 t55) (fun _ h => s_curve_ladder_step_4 K h t0 t4 t5 t6 t7 t8) h) h) h) ∧ (aw P (Instr.alloc 45 true (.tuple #[])) (fun t7 h => peek P h (Instr.loadAt 45 t3) = some t54 ∧ Cn P 26 #[t53, t54] h fun t55 h => aw P (Instr.storeAt 45 t7 t44) (fun _ h => aw P (Instr.storeAt 45 t8 t55) (fun _ h => s_curve_ladder_step_4 K h t0 t4 t5 t6 t7 t8) h) h) h)) ∧ (aw P (Instr.alloc 45 true (.tuple #[])) (fun t7 h => peek P h (Instr.loadAt 45 t3) = some t54 ∧ peek P h (Instr.loadAt 45 t51) = some t52 ∧ peek P h (Instr.fieldAt 63 t50 4) = some t51 ∧ peek P h (Instr.loadAt 45 t47) = some t48 ∧ peek P h (Instr.fieldAt 63 t46 3) = some t47 ∧ Cn P 33 #[t48, t52] h fun t53 h => peek P h (Instr.loadAt 45 t3) = some t54 ∧ Cn P 26 #[t53, t54] h fun t55 h => aw P (Instr.storeAt 45 t7 t44) (fun _ h => aw P (Instr.storeAt 45 t8 t55) (fun _ h => s_curve_ladder_step_4 K h t0 t4 t5 t6 t7 t8) h) h) h)) h)) ∧ (aw P (Instr.alloc 45 true (.tuple #[])) (fun t7 h => peek P h (Instr.loadAt 45 t3) = some t54 ∧ peek P h (Instr.loadAt 45 t51) = some t52 ∧ peek P h (Instr.fieldAt 63 t50 4) = some t51 ∧ peek P h (Instr.loadAt 45 t47) = some t48 ∧ peek P h (Instr.fieldAt 63 t46 3) = some t47 ∧ peek P h (Instr.loadAt 45 t2) = some t43 ∧ (Cn P 26 #[t42, t43] h fun t44 h => peek P h (Instr.loadAt 45 t3) = some t54 ∧ peek P h (Instr.loadAt 45 t51) = some t52 ∧ peek P h (Instr.fieldAt 63 t50 4) = some t51 ∧ peek P h (Instr.loadAt 45 t47) = some t48 ∧ peek P h (Instr.fieldAt 63 t46 3) = some t47 ∧ (Cn P 33 #[t48, t52] h fun t53 h => peek P h (Instr.loadAt 45 t3) = some t54 ∧ (Cn P 26 #[t53, t54] h fun t55 h => aw P (Instr.alloc 45 true (.tuple #[])) (fun t8 h => aw P (Instr.storeAt 45 t7 t44) (fun _ h => aw P (Instr.storeAt 45 t8 t55) (fun _ h => s_curve_ladder_step_4 K h t0 t4 t5 t6 t7 t8) h) h) h) ∧ (aw P (Instr.alloc 45 true (.tuple #[])) (fun t8 h => peek P h (Instr.loadAt 45 t3) = some t54 ∧ Cn P 26 #[t53, t54] h fun t55 h => aw P (Instr.storeAt 45 t7 t44) (fun _ h => aw P (Instr.storeAt 45 t8 t55) (fun _ h => s_curve_ladder_step_4 K h t0 t4 t5 t6 t7 t8) h) h) h)) ∧ (aw P (Instr.alloc 45 true (.tuple #[])) (fun t8 h => peek P h (Instr.loadAt 45 t3) = some t54 ∧ peek P h (Instr.loadAt 45 t51) = some t52 ∧ peek P h (Instr.fieldAt 63 t50 4) = some t51 ∧ peek P h (Instr.loadAt 45 t47) = some t48 ∧ peek P h (Instr.fieldAt 63 t46 3) = some t47 ∧ Cn P 33 #[t48, t52] h fun t53 h => peek P h (Instr.loadAt 45 t3) = some t54 ∧ Cn P 26 #[t53, t54] h fun t55 h => aw P (Instr.storeAt 45 t7 t44) (fun _ h => aw P (Instr.storeAt 45 t8 t55) (fun _ h => s_curve_ladder_step_4 K h t0 t4 t5 t6 t7 t8) h) h) h)) ∧ (aw P (Instr.alloc 45 true (.tuple #[])) (fun t8 h => peek P h (Instr.loadAt 45 t3) = some t54 ∧ peek P h (Instr.loadAt 45 t51) = some t52 ∧ peek P h (Instr.fieldAt 63 t50 4) = some t51 ∧ peek P h (Instr.loadAt 45 t47) = some t48 ∧ peek P h (Instr.fieldAt 63 t46 3) = some t47 ∧ peek P h (Instr.loadAt 45 t2) = some t43 ∧ Cn P 26 #[t42, t43] h fun t44 h => peek P h (Instr.loadAt 45 t3) = some t54 ∧ peek P h (Instr.loadAt 45 t51) = some t52 ∧ peek P h (Instr.fieldAt 63 t50 4) = some t51 ∧ peek P h (Instr.loadAt 45 t47) = some t48 ∧ peek P h (Instr.fieldAt 63 t46 3) = some t47 ∧ Cn P 33 #[t48, t52] h fun t53 h => peek P h (Instr.loadAt 45 t3) = some t54 ∧ Cn P 26 #[t53, t54] h fun t55 h => aw P (Instr.storeAt 45 t7 t44) (fun _ h => aw P (Instr.storeAt 45 t8 t55) (fun _ h => s_curve_ladder_step_4 K h t0 t4 t5 t6 t7 t8) h) h) h)) h) ∧ (aw P (Instr.alloc 45 true (.tuple #[])) (fun t8 h => peek P h (Instr.loadAt 45 t3) = some t54 ∧ peek P h (Instr.loadAt 45 t51) = some t52 ∧ peek P h (Instr.fieldAt 63 t50 4) = some t51 ∧ peek P h (Instr.loadAt 45 t47) = some t48 ∧ peek P h (Instr.fieldAt 63 t46 3) = some t47 ∧ peek P h (Instr.loadAt 45 t2) = some t43 ∧ (Cn P 26 #[t42, t43] h fun t44 h => peek P h (Instr.loadAt 45 t3) = some t54 ∧ peek P h (Instr.loadAt 45 t51) = some t52 ∧ peek P h (Instr.fieldAt 63 t50 4) = some t51 ∧ peek P h (Instr.loadAt 45 t47) = some t48 ∧ peek P h (Instr.fieldAt 63 t46 3) = some t47 ∧ (Cn P 33 #[t48, t52] h fun t53 h => peek P h (Instr.loadAt 45 t3) = some t54 ∧ (Cn P 26 #[t53, t54] h fun t55 h => aw P (Instr.alloc 45 true (.tuple #[])) (fun t7 h => aw P (Instr.storeAt 45 t7 t44) (fun _ h => aw P (Instr.storeAt 45 t8 t55) (fun _ h => s_curve_ladder_step_4 K h t0 t4 t5 t6 t7 t8) h) h) h) ∧ (aw P (Instr.alloc 45 true (.tuple #[])) (fun t7 h => peek P h (Instr.loadAt 45 t3) = some t54 ∧ Cn P 26 #[t53, t54] h fun t55 h => aw P (Instr.storeAt 45 t7 t44) (fun _ h => aw P (Instr.storeAt 45 t8 t55) (fun _ h => s_curve_ladder_step_4 K h t0 t4 t5 t6 t7 t8) h) h) h)) ∧ (aw P (Instr.alloc 45 true (.tuple #[])) (fun t7 h => peek P h (Instr.loadAt 45 t3) = some t54 ∧ peek P h (Instr.loadAt 45 t51) = some t52 ∧ peek P h (Instr.fieldAt 63 t50 4) = some t51 ∧ peek P h (Instr.loadAt 45 t47) = some t48 ∧ peek P h (Instr.fieldAt 63 t46 3) = some t47 ∧ Cn P 33 #[t48, t52] h fun t53 h => peek P h (Instr.loadAt 45 t3) = some t54 ∧ Cn P 26 #[t53, t54] h fun t55 h => aw P (Instr.storeAt 45 t7 t44) (fun _ h => aw P (Instr.storeAt 45 t8 t55) (fun _ h => s_curve_ladder_step_4 K h t0 t4 t5 t6 t7 t8) h) h) h)) ∧ (aw P (Instr.alloc 45 true (.tuple #[])) (fun t7 h => peek P h (Instr.loadAt 45 t3) = some t54 ∧ peek P h (Instr.loadAt 45 t51) = some t52 ∧ peek P h (Instr.fieldAt 63 t50 4) = some t51 ∧ peek P h (Instr.loadAt 45 t47) = some t48 ∧ peek P h (Instr.fieldAt 63 t46 3) = some t47 ∧ peek P h (Instr.loadAt 45 t2) = some t43 ∧ Cn P 26 #[t42, t43] h fun t44 h => peek P h (Instr.loadAt 45 t3) = some t54 ∧ peek P h (Instr.loadAt 45 t51) = some t52 ∧ peek P h (Instr.fieldAt 63 t50 4) = some t51 ∧ peek P h (Instr.loadAt 45 t47) = some t48 ∧ peek P h (Instr.fieldAt 63 t46 3) = some t47 ∧ Cn P 33 #[t48, t52] h fun t53 h => peek P h (Instr.loadAt 45 t3) = some t54 ∧ Cn P 26 #[t53, t54] h fun t55 h => aw P (Instr.storeAt 45 t7 t44) (fun _ h => aw P (Instr.storeAt 45 t8 t55) (fun _ h => s_curve_ladder_step_4 K h t0 t4 t5 t6 t7 t8) h) h) h)) h)) ∧ (aw P (Instr.alloc 45 true (.tuple #[])) (fun t7 h => peek P h (Instr.loadAt 45 t3) = some t54 ∧ peek P h (Instr.loadAt 45 t51) = some t52 ∧ peek P h (Instr.fieldAt 63 t50 4) = some t51 ∧ peek P h (Instr.loadAt 45 t47) = some t48 ∧ peek P h (Instr.fieldAt 63 t46 3) = some t47 ∧ peek P h (Instr.loadAt 45 t2) = some t43 ∧ peek P h (Instr.loadAt 45 t40) = some t41 ∧ peek P h (Instr.fieldAt 63 t39 4) = some t40 ∧ peek P h (Instr.loadAt 45 t36) = some t37 ∧ peek P h (Instr.fieldAt 63 t35 3) = some t36 ∧ (Cn P 34 #[t37, t41] h fun t42 h => peek P h (Instr.loadAt 45 t3) = some t54 ∧ peek P h (Instr.loadAt 45 t51) = some t52 ∧ peek P h (Instr.fieldAt 63 t50 4) = some t51 ∧ peek P h (Instr.loadAt 45 t47) = some t48 ∧ peek P h (Instr.fieldAt 63 t46 3) = some t47 ∧ peek P h (Instr.loadAt 45 t2) = some t43 ∧ (Cn P 26 #[t42, t43] h fun t44 h => peek P h (Instr.loadAt 45 t3) = some t54 ∧ peek P h (Instr.loadAt 45 t51) = some t52 ∧ peek P h (Instr.fieldAt 63 t50 4) = some t51 ∧ peek P h (Instr.loadAt 45 t47) = some t48 ∧ peek P h (Instr.fieldAt 63 t46 3) = some t47 ∧ (Cn P 33 #[t48, t52] h fun t53 h => peek P h (Instr.loadAt 45 t3) = some t54 ∧ (Cn P 26 #[t53, t54] h fun t55 h => aw P (Instr.alloc 45 true (.tuple #[])) (fun t8 h => aw P (Instr.storeAt 45 t7 t44) (fun _ h => aw P (Instr.storeAt 45 t8 t55) (fun _ h => s_curve_ladder_step_4 K h t0 t4 t5 t6 t7 t8) h) h) h) ∧ (aw P (Instr.alloc 45 true (.tuple #[])) (fun t8 h => peek P h (Instr.loadAt 45 t3) = some t54 ∧ Cn P 26 #[t53, t54] h fun t55 h => aw P (Instr.storeAt 45 t7 t44) (fun _ h => aw P (Instr.storeAt 45 t8 t55) (fun _ h => s_curve_ladder_step_4 K h t0 t4 t5 t6 t7 t8) h) h) h)) ∧ (aw P (Instr.alloc 45 true (.tuple #[])) (fun t8 h => peek P h (Instr.loadAt 45 t3) = some t54 ∧ peek P h (Instr.loadAt 45 t51) = some t52 ∧ peek P h (Instr.fieldAt 63 t50 4) = some t51 ∧ peek P h (Instr.loadAt 45 t47) = some t48 ∧ peek P h (Instr.fieldAt 63 t46 3) = some t47 ∧ Cn P 33 #[t48, t52] h fun t53 h => peek P h (Instr.loadAt 45 t3) = some t54 ∧ Cn P 26 #[t53, t54] h fun t55 h => aw P (Instr.storeAt 45 t7 t44) (fun _ h => aw P (Instr.storeAt 45 t8 t55) (fun _ h => s_curve_ladder_step_4 K h t0 t4 t5 t6 t7 t8) h) h) h)) ∧ (aw P (Instr.alloc 45 true (.tuple #[])) (fun t8 h => peek P h (Instr.loadAt 45 t3) = some t54 ∧ peek P h (Instr.loadAt 45 t51) = some t52 ∧ peek P h (Instr.fieldAt 63 t50 4) = some t51 ∧ peek P h (Instr.loadAt 45 t47) = some t48 ∧ peek P h (Instr.fieldAt 63 t46 3) = some t47 ∧ peek P h (Instr.loadAt 45 t2) = some t43 ∧ Cn P 26 #[t42, t43] h fun t44 h => peek P h (Instr.loadAt 45 t3) = some t54 ∧ peek P h (Instr.loadAt 45 t51) = some t52 ∧ peek P h (Instr.fieldAt 63 t50 4) = some t51 ∧ peek P h (Instr.loadAt 45 t47) = some t48 ∧ peek P h (Instr.fieldAt 63 t46 3) = some t47 ∧ Cn P 33 #[t48, t52] h fun t53 h => peek P h (Instr.loadAt 45 t3) = some t54 ∧ Cn P 26 #[t53, t54] h fun t55 h => aw P (Instr.storeAt 45 t7 t44) (fun _ h => aw P (Instr.storeAt 45 t8 t55) (fun _ h => s_curve_ladder_step_4 K h t0 t4 t5 t6 t7 t8) h) h) h)) ∧ (aw P (Instr.alloc 45 true (.tuple #[])) (fun t8 h => peek P h (Instr.loadAt 45 t3) = some t54 ∧ peek P h (Instr.loadAt 45 t51) = some t52 ∧ peek P h (Instr.fieldAt 63 t50 4) = some t51 ∧ peek P h (Instr.loadAt 45 t47) = some t48 ∧ peek P h (Instr.fieldAt 63 t46 3) = some t47 ∧ peek P h (Instr.loadAt 45 t2) = some t43 ∧ peek P h (Instr.loadAt 45 t40) = some t41 ∧ peek P h (Instr.fieldAt 63 t39 4) = some t40 ∧ peek P h (Instr.loadAt 45 t36) = some t37 ∧ peek P h (Instr.fieldAt 63 t35 3) = some t36 ∧ Cn P 34 #[t37, t41] h fun t42 h => peek P h (Instr.loadAt 45 t3) = some t54 ∧ peek P h (Instr.loadAt 45 t51) = some t52 ∧ peek P h (Instr.fieldAt 63 t50 4) = some t51 ∧ peek P h (Instr.loadAt 45 t47) = some t48 ∧ peek P h (Instr.fieldAt 63 t46 3) = some t47 ∧ peek P h (Instr.loadAt 45 t2) = some t43 ∧ Cn P 26 #[t42, t43] h fun t44 h => peek P h (Instr.loadAt 45 t3) = some t54 ∧ peek P h (Instr.loadAt 45 t51) = some t52 ∧ peek P h (Instr.fieldAt 63 t50 4) = some t51 ∧ peek P h (Instr.loadAt 45 t47) = some t48 ∧ peek P h (Instr.fieldAt 63 t46 3) = some t47 ∧ Cn P 33 #[t48, t52] h fun t53 h => peek P h (Instr.loadAt 45 t3) = some t54 ∧ Cn P 26 #[t53, t54] h fun t55 h => aw P (Instr.storeAt 45 t7 t44) (fun _ h => aw P (Instr.storeAt 45 t8 t55) (fun _ h => s_curve_ladder_step_4 K h t0 t4 t5 t6 t7 t8) h) h) h)) h) ∧ (aw P (Instr.alloc 45 true (.tuple #[])) (fun t8 h => peek P h (Instr.loadAt 45 t3) = some t54 ∧ peek P h (Instr.loadAt 45 t51) = some t52 ∧ peek P h (Instr.fieldAt 63 t50 4) = some t51 ∧ peek P h (Instr.loadAt 45 t47) = some t48 ∧ peek P h (Instr.fieldAt 63 t46 3) = some t47 ∧ peek P h (Instr.loadAt 45 t2) = some t43 ∧ peek P h (Instr.loadAt 45 t40) = some t41 ∧ peek P h (Instr.fieldAt 63 t39 4) = some t40 ∧ peek P h (Instr.loadAt 45 t36) = some t37 ∧ peek P h (Instr.fieldAt 63 t35 3) = some t36 ∧ (Cn P 34 #[t37, t41] h fun t42 h => peek P h (Instr.loadAt 45 t3) = some t54 ∧ peek P h (Instr.loadAt 45 t51) = some t52 ∧ peek P h (Instr.fieldAt 63 t50 4) = some t51 ∧ peek P h (Instr.loadAt 45 t47) = some t48 ∧ peek P h (Instr.fieldAt 63 t46 3) = some t47 ∧ peek P h (Instr.loadAt 45 t2) = some t43 ∧ (Cn P 26 #[t42, t43] h fun t44 h => peek P h (Instr.loadAt 45 t3) = some t54 ∧ peek P h (Instr.loadAt 45 t51) = some t52 ∧ peek P h (Instr.fieldAt 63 t50 4) = some t51 ∧ peek P h (Instr.loadAt 45 t47) = some t48 ∧ peek P h (Instr.fieldAt 63 t46 3) = some t47 ∧ (Cn P 33 #[t48, t52] h fun t53 h => peek P h (Instr.loadAt 45 t3) = some t54 ∧ (Cn P 26 #[t53, t54] h fun t55 h => aw P (Instr.alloc 45 true (.tuple #[])) (fun t7 h => aw P (Instr.storeAt 45 t7 t44) (fun _ h => aw P (Instr.storeAt 45 t8 t55) (fun _ h => s_curve_ladder_step_4 K h t0 t4 t5 t6 t7 t8) h) h) h) ∧ (aw P (Instr.alloc 45 true (.tuple #[])) (fun t7 h => peek P h (Instr.loadAt 45 t3) = some t54 ∧ Cn P 26 #[t53, t54] h fun t55 h => aw P (Instr.storeAt 45 t7 t44) (fun _ h => aw P (Instr.storeAt 45 t8 t55) (fun _ h => s_curve_ladder_step_4 K h t0 t4 t5 t6 t7 t8) h) h) h)) ∧ (aw P (Instr.alloc 45 true (.tuple #[])) (fun t7 h => peek P h (Instr.loadAt 45 t3) = some t54 ∧ peek P h (Instr.loadAt 45 t51) = some t52 ∧ peek P h (Instr.fieldAt 63 t50 4) = some t51 ∧ peek P h (Instr.loadAt 45 t47) = some t48 ∧ peek P h (Instr.fieldAt 63 t46 3) = some t47 ∧ Cn P 33 #[t48, t52] h fun t53 h => peek P h (Instr.loadAt 45 t3) = some t54 ∧ Cn P 26 #[t53, t54] h fun t55 h => aw P (Instr.storeAt 45 t7 t44) (fun _ h => aw P (Instr.storeAt 45 t8 t55) (fun _ h => s_curve_ladder_step_4 K h t0 t4 t5 t6 t7 t8) h) h) h)) ∧ (aw P (Instr.alloc 45 true (.tuple #[])) (fun t7 h => peek P h (Instr.loadAt 45 t3) = some t54 ∧ peek P h (Instr.loadAt 45 t51) = some t52 ∧ peek P h (Instr.fieldAt 63 t50 4) = some t51 ∧ peek P h (Instr.loadAt 45 t47) = some t48 ∧ peek P h (Instr.fieldAt 63 t46 3) = some t47 ∧ peek P h (Instr.loadAt 45 t2) = some t43 ∧ Cn P 26 #[t42, t43] h fun t44 h => peek P h (Instr.loadAt 45 t3) = some t54 ∧ peek P h (Instr.loadAt 45 t51) = some t52 ∧ peek P h (Instr.fieldAt 63 t50 4) = some t51 ∧ peek P h (Instr.loadAt 45 t47) = some t48 ∧ peek P h (Instr.fieldAt 63 t46 3) = some t47 ∧ Cn P 33 #[t48, t52] h fun t53 h => peek P h (Instr.loadAt 45 t3) = some t54 ∧ Cn P 26 #[t53, t54] h fun t55 h => aw P (Instr.storeAt 45 t7 t44) (fun _ h => aw P (Instr.storeAt 45 t8 t55) (fun _ h => s_curve_ladder_step_4 K h t0 t4 t5 t6 t7 t8) h) h) h)) ∧ (aw P (Instr.alloc 45 true (.tuple #[])) (fun t7 h => peek P h (Instr.loadAt 45 t3) = some t54 ∧ peek P h (Instr.loadAt 45 t51) = some t52 ∧ peek P h (Instr.fieldAt 63 t50 4) = some t51 ∧ peek P h (Instr.loadAt 45 t47) = some t48 ∧ peek P h (Instr.fieldAt 63 t46 3) = some t47 ∧ peek P h (Instr.loadAt 45 t2) = some t43 ∧ peek P h (Instr.loadAt 45 t40) = some t41 ∧ peek P h (Instr.fieldAt 63 t39 4) = some t40 ∧ peek P h (Instr.loadAt 45 t36) = some t37 ∧ peek P h (Instr.fieldAt 63 t35 3) = some t36 ∧ Cn P 34 #[t37, t41] h fun t42 h => peek P h (Instr.loadAt 45 t3) = some t54 ∧ peek P h (Instr.loadAt 45 t51) = some t52 ∧ peek P h (Instr.fieldAt 63 t50 4) = some t51 ∧ peek P h (Instr.loadAt 45 t47) = some t48 ∧ peek P h (Instr.fieldAt 63 t46 3) = some t47 ∧ peek P h (Instr.loadAt 45 t2) = some t43 ∧ Cn P 26 #[t42, t43] h fun t44 h => peek P h (Instr.loadAt 45 t3) = some t54 ∧ peek P h (Instr.loadAt 45 t51) = some t52 ∧ peek P h (Instr.fieldAt 63 t50 4) = some t51 ∧ peek P h (Instr.loadAt 45 t47) = some t48 ∧ peek P h (Instr.fieldAt 63 t46 3) = some t47 ∧ Cn P 33 #[t48, t52] h fun t53 h => peek P h (Instr.loadAt 45 t3) = some t54 ∧ Cn P 26 #[t53, t54] h fun t55 h => aw P (Instr.storeAt 45 t7 t44) (fun _ h => aw P (Instr.storeAt 45 t8 t55) (fun _ h => s_curve_ladder_step_4 K h t0 t4 t5 t6 t7 t8) h) h) h)) h)
def s_curve_ladder_step_2 (K : Value → Hp → Prop) (h : Hp) (t0 t2 t3 t4 t5 : Value) : Prop := q P h (Instr.loadAt 45 t4) fun t31 => q P h (Instr.loadAt 45 t5) fun t32 => Cn P 34 #[t31, t32] h fun t33 h => aw P (Instr.alloc 45 true (.tuple #[])) (fun t6 h => aw P (Instr.storeAt 45 t6 t33) (fun _ h => s_curve_ladder_step_3 K h t0 t2 t3 t4 t5 t6) h) h
def s_curve_ladder_step_1 (K : Value → Hp → Prop) (h : Hp) (t0 t2 t3 : Value) : Prop := q P h (Instr.loadAt 45 t2) fun t27 => q P h (Instr.loadAt 45 t3) fun t29 => (Cn P 35 #[t27] h fun t28 h => peek P h (Instr.loadAt 45 t3) = some t29 ∧ (Cn P 35 #[t29] h fun t30 h => (aw P (Instr.alloc 45 true (.tuple #[])) (fun t4 h => aw P (Instr.alloc 45 true (.tuple #[])) (fun t5 h => aw P (Instr.storeAt 45 t4 t28) (fun _ h => aw P (Instr.storeAt 45 t5 t30) (fun _ h => s_curve_ladder_step_2 K h t0 t2 t3 t4 t5) h) h) h) h) ∧ (aw P (Instr.alloc 45 true (.tuple #[])) (fun t5 h => aw P (Instr.alloc 45 true (.tuple #[])) (fun t4 h => aw P (Instr.storeAt 45 t4 t28) (fun _ h => aw P (Instr.storeAt 45 t5 t30) (fun _ h => s_curve_ladder_step_2 K h t0 t2 t3 t4 t5) h) h) h) h)) ∧ (aw P (Instr.alloc 45 true (.tuple #[])) (fun t4 h => peek P h (Instr.loadAt 45 t3) = some t29 ∧ (Cn P 35 #[t29] h fun t30 h => aw P (Instr.alloc 45 true (.tuple #[])) (fun t5 h => aw P (Instr.storeAt 45 t4 t28) (fun _ h => aw P (Instr.storeAt 45 t5 t30) (fun _ h => s_curve_ladder_step_2 K h t0 t2 t3 t4 t5) h) h) h) ∧ (aw P (Instr.alloc 45 true (.tuple #[])) (fun t5 h => peek P h (Instr.loadAt 45 t3) = some t29 ∧ Cn P 35 #[t29] h fun t30 h => aw P (Instr.storeAt 45 t4 t28) (fun _ h => aw P (Instr.storeAt 45 t5 t30) (fun _ h => s_curve_ladder_step_2 K h t0 t2 t3 t4 t5) h) h) h)) h) ∧ (aw P (Instr.alloc 45 true (.tuple #[])) (fun t5 h => peek P h (Instr.loadAt 45 t3) = some t29 ∧ (Cn P 35 #[t29] h fun t30 h => aw P (Instr.alloc 45 true (.tuple #[])) (fun t4 h => aw P (Instr.storeAt 45 t4 t28) (fun _ h => aw P (Instr.storeAt 45 t5 t30) (fun _ h => s_curve_ladder_step_2 K h t0 t2 t3 t4 t5) h) h) h) ∧ (aw P (Instr.alloc 45 true (.tuple #[])) (fun t4 h => peek P h (Instr.loadAt 45 t3) = some t29 ∧ Cn P 35 #[t29] h fun t30 h => aw P (Instr.storeAt 45 t4 t28) (fun _ h => aw P (Instr.storeAt 45 t5 t30) (fun _ h => s_curve_ladder_step_2 K h t0 t2 t3 t4 t5) h) h) h)) h)) ∧ (aw P (Instr.alloc 45 true (.tuple #[])) (fun t4 h => peek P h (Instr.loadAt 45 t3) = some t29 ∧ peek P h (Instr.loadAt 45 t2) = some t27 ∧ (Cn P 35 #[t27] h fun t28 h => peek P h (Instr.loadAt 45 t3) = some t29 ∧ (Cn P 35 #[t29] h fun t30 h => aw P (Instr.alloc 45 true (.tuple #[])) (fun t5 h => aw P (Instr.storeAt 45 t4 t28) (fun _ h => aw P (Instr.storeAt 45 t5 t30) (fun _ h => s_curve_ladder_step_2 K h t0 t2 t3 t4 t5) h) h) h) ∧ (aw P (Instr.alloc 45 true (.tuple #[])) (fun t5 h => peek P h (Instr.loadAt 45 t3) = some t29 ∧ Cn P 35 #[t29] h fun t30 h => aw P (Instr.storeAt 45 t4 t28) (fun _ h => aw P (Instr.storeAt 45 t5 t30) (fun _ h => s_curve_ladder_step_2 K h t0 t2 t3 t4 t5) h) h) h)) ∧ (aw P (Instr.alloc 45 true (.tuple #[])) (fun t5 h => peek P h (Instr.loadAt 45 t3) = some t29 ∧ peek P h (Instr.loadAt 45 t2) = some t27 ∧ Cn P 35 #[t27] h fun t28 h => peek P h (Instr.loadAt 45 t3) = some t29 ∧ Cn P 35 #[t29] h fun t30 h => aw P (Instr.storeAt 45 t4 t28) (fun _ h => aw P (Instr.storeAt 45 t5 t30) (fun _ h => s_curve_ladder_step_2 K h t0 t2 t3 t4 t5) h) h) h)) h) ∧ (aw P (Instr.alloc 45 true (.tuple #[])) (fun t5 h => peek P h (Instr.loadAt 45 t3) = some t29 ∧ peek P h (Instr.loadAt 45 t2) = some t27 ∧ (Cn P 35 #[t27] h fun t28 h => peek P h (Instr.loadAt 45 t3) = some t29 ∧ (Cn P 35 #[t29] h fun t30 h => aw P (Instr.alloc 45 true (.tuple #[])) (fun t4 h => aw P (Instr.storeAt 45 t4 t28) (fun _ h => aw P (Instr.storeAt 45 t5 t30) (fun _ h => s_curve_ladder_step_2 K h t0 t2 t3 t4 t5) h) h) h) ∧ (aw P (Instr.alloc 45 true (.tuple #[])) (fun t4 h => peek P h (Instr.loadAt 45 t3) = some t29 ∧ Cn P 35 #[t29] h fun t30 h => aw P (Instr.storeAt 45 t4 t28) (fun _ h => aw P (Instr.storeAt 45 t5 t30) (fun _ h => s_curve_ladder_step_2 K h t0 t2 t3 t4 t5) h) h) h)) ∧ (aw P (Instr.alloc 45 true (.tuple #[])) (fun t4 h => peek P h (Instr.loadAt 45 t3) = some t29 ∧ peek P h (Instr.loadAt 45 t2) = some t27 ∧ Cn P 35 #[t27] h fun t28 h => peek P h (Instr.loadAt 45 t3) = some t29 ∧ Cn P 35 #[t29] h fun t30 h => aw P (Instr.storeAt 45 t4 t28) (fun _ h => aw P (Instr.storeAt 45 t5 t30) (fun _ h => s_curve_ladder_step_2 K h t0 t2 t3 t4 t5) h) h) h)) h)
def s_curve_ladder_step (K : Value → Hp → Prop) (h : Hp) (t0 : Value) : Prop := q P emp (nilCk t0) fun t10 => q P h (Instr.fieldAt 63 t10 1) fun t11 => q P h (Instr.loadAt 45 t11) fun t12 => q P emp (nilCk t0) fun t14 => q P h (Instr.fieldAt 63 t14 2) fun t15 => q P h (Instr.loadAt 45 t15) fun t16 => q P emp (nilCk t0) fun t19 => q P h (Instr.fieldAt 63 t19 1) fun t20 => q P h (Instr.loadAt 45 t20) fun t21 => q P emp (nilCk t0) fun t23 => q P h (Instr.fieldAt 63 t23 2) fun t24 => q P h (Instr.loadAt 45 t24) fun t25 => (Cn P 33 #[t12, t16] h fun t17 h => peek P h (Instr.loadAt 45 t24) = some t25 ∧ peek P h (Instr.fieldAt 63 t23 2) = some t24 ∧ peek P h (Instr.loadAt 45 t20) = some t21 ∧ peek P h (Instr.fieldAt 63 t19 1) = some t20 ∧ (Cn P 34 #[t21, t25] h fun t26 h => (aw P (Instr.alloc 45 true (.tuple #[])) (fun t2 h => aw P (Instr.alloc 45 true (.tuple #[])) (fun t3 h => aw P (Instr.storeAt 45 t2 t17) (fun _ h => aw P (Instr.storeAt 45 t3 t26) (fun _ h => s_curve_ladder_step_1 K h t0 t2 t3) h) h) h) h) ∧ (aw P (Instr.alloc 45 true (.tuple #[])) (fun t3 h => aw P (Instr.alloc 45 true (.tuple #[])) (fun t2 h => aw P (Instr.storeAt 45 t2 t17) (fun _ h => aw P (Instr.storeAt 45 t3 t26) (fun _ h => s_curve_ladder_step_1 K h t0 t2 t3) h) h) h) h)) ∧ (aw P (Instr.alloc 45 true (.tuple #[])) (fun t2 h => peek P h (Instr.loadAt 45 t24) = some t25 ∧ peek P h (Instr.fieldAt 63 t23 2) = some t24 ∧ peek P h (Instr.loadAt 45 t20) = some t21 ∧ peek P h (Instr.fieldAt 63 t19 1) = some t20 ∧ (Cn P 34 #[t21, t25] h fun t26 h => aw P (Instr.alloc 45 true (.tuple #[])) (fun t3 h => aw P (Instr.storeAt 45 t2 t17) (fun _ h => aw P (Instr.storeAt 45 t3 t26) (fun _ h => s_curve_ladder_step_1 K h t0 t2 t3) h) h) h) ∧ (aw P (Instr.alloc 45 true (.tuple #[])) (fun t3 h => peek P h (Instr.loadAt 45 t24) = some t25 ∧ peek P h (Instr.fieldAt 63 t23 2) = some t24 ∧ peek P h (Instr.loadAt 45 t20) = some t21 ∧ peek P h (Instr.fieldAt 63 t19 1) = some t20 ∧ Cn P 34 #[t21, t25] h fun t26 h => aw P (Instr.storeAt 45 t2 t17) (fun _ h => aw P (Instr.storeAt 45 t3 t26) (fun _ h => s_curve_ladder_step_1 K h t0 t2 t3) h) h) h)) h) ∧ (aw P (Instr.alloc 45 true (.tuple #[])) (fun t3 h => peek P h (Instr.loadAt 45 t24) = some t25 ∧ peek P h (Instr.fieldAt 63 t23 2) = some t24 ∧ peek P h (Instr.loadAt 45 t20) = some t21 ∧ peek P h (Instr.fieldAt 63 t19 1) = some t20 ∧ (Cn P 34 #[t21, t25] h fun t26 h => aw P (Instr.alloc 45 true (.tuple #[])) (fun t2 h => aw P (Instr.storeAt 45 t2 t17) (fun _ h => aw P (Instr.storeAt 45 t3 t26) (fun _ h => s_curve_ladder_step_1 K h t0 t2 t3) h) h) h) ∧ (aw P (Instr.alloc 45 true (.tuple #[])) (fun t2 h => peek P h (Instr.loadAt 45 t24) = some t25 ∧ peek P h (Instr.fieldAt 63 t23 2) = some t24 ∧ peek P h (Instr.loadAt 45 t20) = some t21 ∧ peek P h (Instr.fieldAt 63 t19 1) = some t20 ∧ Cn P 34 #[t21, t25] h fun t26 h => aw P (Instr.storeAt 45 t2 t17) (fun _ h => aw P (Instr.storeAt 45 t3 t26) (fun _ h => s_curve_ladder_step_1 K h t0 t2 t3) h) h) h)) h)) ∧ (aw P (Instr.alloc 45 true (.tuple #[])) (fun t2 h => peek P h (Instr.loadAt 45 t24) = some t25 ∧ peek P h (Instr.fieldAt 63 t23 2) = some t24 ∧ peek P h (Instr.loadAt 45 t20) = some t21 ∧ peek P h (Instr.fieldAt 63 t19 1) = some t20 ∧ peek P h (Instr.loadAt 45 t15) = some t16 ∧ peek P h (Instr.fieldAt 63 t14 2) = some t15 ∧ peek P h (Instr.loadAt 45 t11) = some t12 ∧ peek P h (Instr.fieldAt 63 t10 1) = some t11 ∧ (Cn P 33 #[t12, t16] h fun t17 h => peek P h (Instr.loadAt 45 t24) = some t25 ∧ peek P h (Instr.fieldAt 63 t23 2) = some t24 ∧ peek P h (Instr.loadAt 45 t20) = some t21 ∧ peek P h (Instr.fieldAt 63 t19 1) = some t20 ∧ (Cn P 34 #[t21, t25] h fun t26 h => aw P (Instr.alloc 45 true (.tuple #[])) (fun t3 h => aw P (Instr.storeAt 45 t2 t17) (fun _ h => aw P (Instr.storeAt 45 t3 t26) (fun _ h => s_curve_ladder_step_1 K h t0 t2 t3) h) h) h) ∧ (aw P (Instr.alloc 45 true (.tuple #[])) (fun t3 h => peek P h (Instr.loadAt 45 t24) = some t25 ∧ peek P h (Instr.fieldAt 63 t23 2) = some t24 ∧ peek P h (Instr.loadAt 45 t20) = some t21 ∧ peek P h (Instr.fieldAt 63 t19 1) = some t20 ∧ Cn P 34 #[t21, t25] h fun t26 h => aw P (Instr.storeAt 45 t2 t17) (fun _ h => aw P (Instr.storeAt 45 t3 t26) (fun _ h => s_curve_ladder_step_1 K h t0 t2 t3) h) h) h)) ∧ (aw P (Instr.alloc 45 true (.tuple #[])) (fun t3 h => peek P h (Instr.loadAt 45 t24) = some t25 ∧ peek P h (Instr.fieldAt 63 t23 2) = some t24 ∧ peek P h (Instr.loadAt 45 t20) = some t21 ∧ peek P h (Instr.fieldAt 63 t19 1) = some t20 ∧ peek P h (Instr.loadAt 45 t15) = some t16 ∧ peek P h (Instr.fieldAt 63 t14 2) = some t15 ∧ peek P h (Instr.loadAt 45 t11) = some t12 ∧ peek P h (Instr.fieldAt 63 t10 1) = some t11 ∧ Cn P 33 #[t12, t16] h fun t17 h => peek P h (Instr.loadAt 45 t24) = some t25 ∧ peek P h (Instr.fieldAt 63 t23 2) = some t24 ∧ peek P h (Instr.loadAt 45 t20) = some t21 ∧ peek P h (Instr.fieldAt 63 t19 1) = some t20 ∧ Cn P 34 #[t21, t25] h fun t26 h => aw P (Instr.storeAt 45 t2 t17) (fun _ h => aw P (Instr.storeAt 45 t3 t26) (fun _ h => s_curve_ladder_step_1 K h t0 t2 t3) h) h) h)) h) ∧ (aw P (Instr.alloc 45 true (.tuple #[])) (fun t3 h => peek P h (Instr.loadAt 45 t24) = some t25 ∧ peek P h (Instr.fieldAt 63 t23 2) = some t24 ∧ peek P h (Instr.loadAt 45 t20) = some t21 ∧ peek P h (Instr.fieldAt 63 t19 1) = some t20 ∧ peek P h (Instr.loadAt 45 t15) = some t16 ∧ peek P h (Instr.fieldAt 63 t14 2) = some t15 ∧ peek P h (Instr.loadAt 45 t11) = some t12 ∧ peek P h (Instr.fieldAt 63 t10 1) = some t11 ∧ (Cn P 33 #[t12, t16] h fun t17 h => peek P h (Instr.loadAt 45 t24) = some t25 ∧ peek P h (Instr.fieldAt 63 t23 2) = some t24 ∧ peek P h (Instr.loadAt 45 t20) = some t21 ∧ peek P h (Instr.fieldAt 63 t19 1) = some t20 ∧ (Cn P 34 #[t21, t25] h fun t26 h => aw P (Instr.alloc 45 true (.tuple #[])) (fun t2 h => aw P (Instr.storeAt 45 t2 t17) (fun _ h => aw P (Instr.storeAt 45 t3 t26) (fun _ h => s_curve_ladder_step_1 K h t0 t2 t3) h) h) h) ∧ (aw P (Instr.alloc 45 true (.tuple #[])) (fun t2 h => peek P h (Instr.loadAt 45 t24) = some t25 ∧ peek P h (Instr.fieldAt 63 t23 2) = some t24 ∧ peek P h (Instr.loadAt 45 t20) = some t21 ∧ peek P h (Instr.fieldAt 63 t19 1) = some t20 ∧ Cn P 34 #[t21, t25] h fun t26 h => aw P (Instr.storeAt 45 t2 t17) (fun _ h => aw P (Instr.storeAt 45 t3 t26) (fun _ h => s_curve_ladder_step_1 K h t0 t2 t3) h) h) h)) ∧ (aw P (Instr.alloc 45 true (.tuple #[])) (fun t2 h => peek P h (Instr.loadAt 45 t24) = some t25 ∧ peek P h (Instr.fieldAt 63 t23 2) = some t24 ∧ peek P h (Instr.loadAt 45 t20) = some t21 ∧ peek P h (Instr.fieldAt 63 t19 1) = some t20 ∧ peek P h (Instr.loadAt 45 t15) = some t16 ∧ peek P h (Instr.fieldAt 63 t14 2) = some t15 ∧ peek P h (Instr.loadAt 45 t11) = some t12 ∧ peek P h (Instr.fieldAt 63 t10 1) = some t11 ∧ Cn P 33 #[t12, t16] h fun t17 h => peek P h (Instr.loadAt 45 t24) = some t25 ∧ peek P h (Instr.fieldAt 63 t23 2) = some t24 ∧ peek P h (Instr.loadAt 45 t20) = some t21 ∧ peek P h (Instr.fieldAt 63 t19 1) = some t20 ∧ Cn P 34 #[t21, t25] h fun t26 h => aw P (Instr.storeAt 45 t2 t17) (fun _ h => aw P (Instr.storeAt 45 t3 t26) (fun _ h => s_curve_ladder_step_1 K h t0 t2 t3) h) h) h)) h)
theorem c_curve_ladder_step_7 {K : Value → Hp → Prop} {h : Hp} {t0 t4 t6 : Value} (s : s_curve_ladder_step_7 K h t0 t4 t6) : SV P Try.f25.ntmps (seqR (seqR (seqR (seqR (seqR (seqR (seqR (Try.f25.body.getD .skip)))))))) (retP P Try.f25.results.toList K) (headOf [0, 4, 6] [t0, t4, t6]) h :=
  SV_of mixed (by kernel_rfl) s
theorem c_curve_ladder_step_6 {K : Value → Hp → Prop} {h : Hp} {t0 t4 t5 t6 : Value} (s : s_curve_ladder_step_6 K h t0 t4 t5 t6) : SV P Try.f25.ntmps (seqR (seqR (seqR (seqR (seqR (seqR (Try.f25.body.getD .skip))))))) (retP P Try.f25.results.toList K) (headOf [0, 4, 5, 6] [t0, t4, t5, t6]) h :=
  cut_at mixed (by kernel_rfl) [0, 4, 6] (fun vs h => s_curve_ladder_step_7 K h (vs.getD 0 undef) (vs.getD 1 undef) (vs.getD 2 undef)) (fun vs h _ x => Eq.mp (by kernel_rfl) (c_curve_ladder_step_7 x)) (by kernel_rfl) s
theorem c_curve_ladder_step_5 {K : Value → Hp → Prop} {h : Hp} {t0 t4 t5 t6 t7 t8 : Value} (s : s_curve_ladder_step_5 K h t0 t4 t5 t6 t7 t8) : SV P Try.f25.ntmps (seqR (seqR (seqR (seqR (seqR (Try.f25.body.getD .skip)))))) (retP P Try.f25.results.toList K) (headOf [0, 4, 5, 6, 7, 8] [t0, t4, t5, t6, t7, t8]) h :=
  cut_at mixed (by kernel_rfl) [0, 4, 5, 6] (fun vs h => s_curve_ladder_step_6 K h (vs.getD 0 undef) (vs.getD 1 undef) (vs.getD 2 undef) (vs.getD 3 undef)) (fun vs h _ x => Eq.mp (by kernel_rfl) (c_curve_ladder_step_6 x)) (by kernel_rfl) s
theorem c_curve_ladder_step_4 {K : Value → Hp → Prop} {h : Hp} {t0 t4 t5 t6 t7 t8 : Value} (s : s_curve_ladder_step_4 K h t0 t4 t5 t6 t7 t8) : SV P Try.f25.ntmps (seqR (seqR (seqR (seqR (Try.f25.body.getD .skip))))) (retP P Try.f25.results.toList K) (headOf [0, 4, 5, 6, 7, 8] [t0, t4, t5, t6, t7, t8]) h :=
  cut_at mixed (by kernel_rfl) [0, 4, 5, 6, 7, 8] (fun vs h => s_curve_ladder_step_5 K h (vs.getD 0 undef) (vs.getD 1 undef) (vs.getD 2 undef) (vs.getD 3 undef) (vs.getD 4 undef) (vs.getD 5 undef)) (fun vs h _ x => Eq.mp (by kernel_rfl) (c_curve_ladder_step_5 x)) (by kernel_rfl) s
theorem c_curve_ladder_step_3 {K : Value → Hp → Prop} {h : Hp} {t0 t2 t3 t4 t5 t6 : Value} (s : s_curve_ladder_step_3 K h t0 t2 t3 t4 t5 t6) : SV P Try.f25.ntmps (seqR (seqR (seqR (Try.f25.body.getD .skip)))) (retP P Try.f25.results.toList K) (headOf [0, 2, 3, 4, 5, 6] [t0, t2, t3, t4, t5, t6]) h :=
  cut_at mixed (by kernel_rfl) [0, 4, 5, 6, 7, 8] (fun vs h => s_curve_ladder_step_4 K h (vs.getD 0 undef) (vs.getD 1 undef) (vs.getD 2 undef) (vs.getD 3 undef) (vs.getD 4 undef) (vs.getD 5 undef)) (fun vs h _ x => Eq.mp (by kernel_rfl) (c_curve_ladder_step_4 x)) (by kernel_rfl) s
theorem c_curve_ladder_step_2 {K : Value → Hp → Prop} {h : Hp} {t0 t2 t3 t4 t5 : Value} (s : s_curve_ladder_step_2 K h t0 t2 t3 t4 t5) : SV P Try.f25.ntmps (seqR (seqR (Try.f25.body.getD .skip))) (retP P Try.f25.results.toList K) (headOf [0, 2, 3, 4, 5] [t0, t2, t3, t4, t5]) h :=
  cut_at mixed (by kernel_rfl) [0, 2, 3, 4, 5, 6] (fun vs h => s_curve_ladder_step_3 K h (vs.getD 0 undef) (vs.getD 1 undef) (vs.getD 2 undef) (vs.getD 3 undef) (vs.getD 4 undef) (vs.getD 5 undef)) (fun vs h _ x => Eq.mp (by kernel_rfl) (c_curve_ladder_step_3 x)) (by kernel_rfl) s
theorem c_curve_ladder_step_1 {K : Value → Hp → Prop} {h : Hp} {t0 t2 t3 : Value} (s : s_curve_ladder_step_1 K h t0 t2 t3) : SV P Try.f25.ntmps (seqR (Try.f25.body.getD .skip)) (retP P Try.f25.results.toList K) (headOf [0, 2, 3] [t0, t2, t3]) h :=
  cut_at mixed (by kernel_rfl) [0, 2, 3, 4, 5] (fun vs h => s_curve_ladder_step_2 K h (vs.getD 0 undef) (vs.getD 1 undef) (vs.getD 2 undef) (vs.getD 3 undef) (vs.getD 4 undef)) (fun vs h _ x => Eq.mp (by kernel_rfl) (c_curve_ladder_step_2 x)) (by kernel_rfl) s
theorem c_curve_ladder_step_0 {K : Value → Hp → Prop} {h : Hp} {t0 : Value} (s : s_curve_ladder_step K h t0) : SV P Try.f25.ntmps (Try.f25.body.getD .skip) (retP P Try.f25.results.toList K) (env0 [t0]) h :=
  cut_at mixed (by kernel_rfl) [0, 2, 3] (fun vs h => s_curve_ladder_step_1 K h (vs.getD 0 undef) (vs.getD 1 undef) (vs.getD 2 undef)) (fun vs h _ x => Eq.mp (by kernel_rfl) (c_curve_ladder_step_1 x)) (by kernel_rfl) s
theorem F_curve_ladder_step {K : Value → Hp → Prop} {h : Hp} {t0 : Value} (s : s_curve_ladder_step K h t0) : Cn P 25 #[t0] h K :=
  Cn_sv Try.func25 (by kernel_rfl) (args := [t0]) (c_curve_ladder_step_0 s)
/-- function 26: (orlop.field.Elem).Mul -/
def s_field_Elem_Mul (K : Value → Hp → Prop) (h : Hp) (t0 t1 : Value) : Prop := aw P (Instr.box 45 t0) (fun t2 h => aw P (Instr.box 45 t1) (fun t3 h => aw P (Instr.alloc 45 true (.tuple #[])) (fun t4 h => aw P (Instr.alloc 78 true (.tuple #[])) (fun t5 h => q P h (Instr.fieldAt 45 t2 0) fun t18 => q P h (Instr.loadAt 43 t18) fun t19 => 
Lp [(Value.int .i64 0)] h fun nx5 vs5 h =>
q P h (binOp .lss 3 (vs5.getD 0 undef) (Value.int .i64 5)) fun t21 => cnd t21 (q P h (Instr.index 43 t19 (vs5.getD 0 undef)) fun t23 => q P h (Instr.fieldAt 45 t3 0) fun t24 => q P h (Instr.loadAt 43 t24) fun t25 => 
Lp [(Value.int .i64 0)] h fun nx11 vs11 h =>
q P h (binOp .lss 3 (vs11.getD 0 undef) (Value.int .i64 5)) fun t27 => cnd t27 (q P h (Instr.index 43 t25 (vs11.getD 0 undef)) fun t29 => 
let J16 : Value → Hp → Prop := fun t9 h => q P h (binOp .add 3 (vs5.getD 0 undef) (vs11.getD 0 undef)) fun t38 => q P h (binOp .rem 3 t38 (Value.int .i64 5)) fun t39 => q P h (binOp .add 3 (vs5.getD 0 undef) (vs11.getD 0 undef)) fun t42 => q P h (binOp .rem 3 t42 (Value.int .i64 5)) fun t43 => q P h (Instr.indexAt 78 t5 t43) fun t44 => q P h (Instr.loadAt 77 t44) fun t45 => Cn P 37 #[t45, t23, t9] h fun t48 h => q P h (Instr.indexAt 78 t5 t39) fun t49 => aw P (Instr.storeAt 77 t49 t48) (fun _ h => q P h (binOp .add 3 (vs11.getD 0 undef) (Value.int .i64 1)) fun t50 => nx11 [t50] h) h;
q P h (binOp .add 3 (vs5.getD 0 undef) (vs11.getD 0 undef)) fun t32 => q P h (binOp .geq 3 t32 (Value.int .i64 5)) fun t33 => cnd t33 (q P h (binOp .mul 42 t29 (Value.int .u64 19)) fun t35 => J16 t35 h) (J16 t29 h)) (q P h (binOp .add 3 (vs5.getD 0 undef) (Value.int .i64 1)) fun t51 => nx5 [t51] h)) (aw P (Instr.alloc 45 true (.tuple #[])) (fun t10 h => q P h (Instr.build 77 #[]) fun t52 => aw P (Instr.alloc 77 true (.tuple #[])) (fun t11 h => aw P (Instr.storeAt 77 t11 t52) (fun _ h => q P h (Instr.loadAt 78 t5) fun t53 => 
Lp [(Value.int .i64 0)] h fun nx22 vs22 h =>
q P h (binOp .lss 3 (vs22.getD 0 undef) (Value.int .i64 5)) fun t55 => cnd t55 (q P h (Instr.index 78 t53 (vs22.getD 0 undef)) fun t57 => aw P (Instr.alloc 77 true (.tuple #[])) (fun t13 h => aw P (Instr.storeAt 77 t13 t57) (fun _ h => q P h (Instr.fieldAt 77 t13 1) fun t59 => q P h (Instr.loadAt 42 t59) fun t60 => q P h (Instr.fieldAt 77 t11 1) fun t61 => q P h (Instr.loadAt 42 t61) fun t62 => exP P 38 #[t60, t62, (Value.int .u64 0)] h fun t63 h => q P h (Instr.extract t63 0) fun t64 => q P h (Instr.extract t63 1) fun t65 => q P h (Instr.fieldAt 77 t13 1) fun t66 => aw P (Instr.storeAt 42 t66 t64) (fun _ h => q P h (Instr.fieldAt 77 t13 0) fun t68 => q P h (Instr.loadAt 42 t68) fun t69 => q P h (Instr.fieldAt 77 t11 0) fun t70 => q P h (Instr.loadAt 42 t70) fun t71 => exP P 38 #[t69, t71, t65] h fun t73 h => q P h (Instr.extract t73 0) fun t74 => q P h (Instr.extract t73 1) fun t75 => q P h (Instr.fieldAt 77 t13 0) fun t76 => aw P (Instr.storeAt 42 t76 t74) (fun _ h => q P h (Instr.fieldAt 77 t13 1) fun t78 => q P h (Instr.loadAt 42 t78) fun t79 => q P h (binOp .and 42 t79 (Value.int .u64 2251799813685247)) fun t80 => q P h (Instr.fieldAt 45 t10 0) fun t81 => q P h (Instr.indexAt 43 t81 (vs22.getD 0 undef)) fun t82 => aw P (Instr.storeAt 42 t82 t80) (fun _ h => q P h (Instr.fieldAt 77 t13 0) fun t83 => q P h (Instr.loadAt 42 t83) fun t84 => q P h (binOp .shr 42 t84 (Value.int .u64 51)) fun t85 => q P h (Instr.fieldAt 77 t13 1) fun t86 => q P h (Instr.loadAt 42 t86) fun t87 => q P h (binOp .shr 42 t87 (Value.int .u64 51)) fun t88 => q P h (Instr.fieldAt 77 t13 0) fun t89 => q P h (Instr.loadAt 42 t89) fun t90 => q P h (binOp .shl 42 t90 (Value.int .u64 13)) fun t91 => q P h (binOp .or 42 t88 t91) fun t92 => q P h (Instr.build 77 #[(0, t85), (1, t92)]) fun t93 => aw P (Instr.storeAt 77 t11 t93) (fun _ h => q P h (binOp .add 3 (vs22.getD 0 undef) (Value.int .i64 1)) fun t94 => nx22 [t94] h) h) h) h) h) h) h) (q P h (Instr.fieldAt 77 t11 1) fun t96 => q P h (Instr.loadAt 42 t96) fun t97 => Cn P 39 #[t97, (Value.int .u64 19)] h fun t98 h => q P h (Instr.extract t98 0) fun t99 => q P h (Instr.extract t98 1) fun t100 => q P h (Instr.fieldAt 45 t10 0) fun t103 => q P h (Instr.indexAt 43 t103 (Value.int .i64 0)) fun t104 => q P h (Instr.loadAt 42 t104) fun t105 => exP P 38 #[t100, t105, (Value.int .u64 0)] h fun t106 h => q P h (Instr.extract t106 0) fun t107 => q P h (Instr.extract t106 1) fun t108 => q P h (binOp .and 42 t107 (Value.int .u64 2251799813685247)) fun t110 => q P h (Instr.fieldAt 45 t10 0) fun t111 => q P h (Instr.indexAt 43 t111 (Value.int .i64 0)) fun t112 => aw P (Instr.storeAt 42 t112 t110) (fun _ h => q P h (Instr.fieldAt 45 t10 0) fun t113 => q P h (Instr.indexAt 43 t113 (Value.int .i64 1)) fun t114 => q P h (Instr.loadAt 42 t114) fun t115 => q P h (binOp .shr 42 t107 (Value.int .u64 51)) fun t117 => q P h (binOp .add 42 t99 t108) fun t120 => q P h (binOp .shl 42 t120 (Value.int .u64 13)) fun t121 => q P h (binOp .or 42 t117 t121) fun t122 => q P h (binOp .add 42 t115 t122) fun t123 => q P h (Instr.fieldAt 45 t10 0) fun t124 => q P h (Instr.indexAt 43 t124 (Value.int .i64 1)) fun t125 => aw P (Instr.storeAt 42 t125 t123) (fun _ h => q P h (Instr.loadAt 45 t10) fun t126 => Cn P 40 #[t126] h fun t127 h => aw P (Instr.storeAt 45 t4 t127) (fun _ h => q P h ((asAddr t4).bind (loadVar 45)) fun r0 => K r0 h) h) h) h)) h) h) h)) h) h) h) h
theorem F_field_Elem_Mul {K : Value → Hp → Prop} {h : Hp} {t0 t1 : Value} (s : s_field_Elem_Mul K h t0 t1) : Cn P 26 #[t0, t1] h K :=
  Cn_ofs mixed Try.func26 (by kernel_rfl) (args := [t0, t1]) (by kernel_rfl) s
/-- function 27: (orlop.field.Elem).Invert -/
def s_field_Elem_Invert_13 (K : Value → Hp → Prop) (h : Hp) (t2 : Value) : Prop := q P h ((asAddr t2).bind (loadVar 45)) fun r0 => K r0 h
def s_field_Elem_Invert_12 (K : Value → Hp → Prop) (h : Hp) (t2 t5 t13 : Value) : Prop := q P h (Instr.loadAt 45 t13) fun t55 => q P h (Instr.loadAt 45 t5) fun t57 => Cn P 41 #[t55, (Value.int .i64 5)] h fun t56 h => peek P h (Instr.loadAt 45 t5) = some t57 ∧ Cn P 26 #[t56, t57] h fun t58 h => aw P (Instr.storeAt 45 t2 t58) (fun _ h => s_field_Elem_Invert_13 K h t2) h
def s_field_Elem_Invert_11 (K : Value → Hp → Prop) (h : Hp) (t2 t5 t10 t12 : Value) : Prop := q P h (Instr.loadAt 45 t12) fun t51 => q P h (Instr.loadAt 45 t10) fun t53 => (Cn P 41 #[t51, (Value.int .i64 50)] h fun t52 h => peek P h (Instr.loadAt 45 t10) = some t53 ∧ (Cn P 26 #[t52, t53] h fun t54 h => aw P (Instr.alloc 45 true (.tuple #[])) (fun t13 h => aw P (Instr.storeAt 45 t13 t54) (fun _ h => s_field_Elem_Invert_12 K h t2 t5 t13) h) h) ∧ (aw P (Instr.alloc 45 true (.tuple #[])) (fun t13 h => peek P h (Instr.loadAt 45 t10) = some t53 ∧ Cn P 26 #[t52, t53] h fun t54 h => aw P (Instr.storeAt 45 t13 t54) (fun _ h => s_field_Elem_Invert_12 K h t2 t5 t13) h) h)) ∧ (aw P (Instr.alloc 45 true (.tuple #[])) (fun t13 h => peek P h (Instr.loadAt 45 t10) = some t53 ∧ peek P h (Instr.loadAt 45 t12) = some t51 ∧ Cn P 41 #[t51, (Value.int .i64 50)] h fun t52 h => peek P h (Instr.loadAt 45 t10) = some t53 ∧ Cn P 26 #[t52, t53] h fun t54 h => aw P (Instr.storeAt 45 t13 t54) (fun _ h => s_field_Elem_Invert_12 K h t2 t5 t13) h) h)
def s_field_Elem_Invert_10 (K : Value → Hp → Prop) (h : Hp) (t2 t5 t10 t11 : Value) : Prop := q P h (Instr.loadAt 45 t11) fun t47 => q P h (Instr.loadAt 45 t11) fun t49 => (Cn P 41 #[t47, (Value.int .i64 100)] h fun t48 h => peek P h (Instr.loadAt 45 t11) = some t49 ∧ (Cn P 26 #[t48, t49] h fun t50 h => aw P (Instr.alloc 45 true (.tuple #[])) (fun t12 h => aw P (Instr.storeAt 45 t12 t50) (fun _ h => s_field_Elem_Invert_11 K h t2 t5 t10 t12) h) h) ∧ (aw P (Instr.alloc 45 true (.tuple #[])) (fun t12 h => peek P h (Instr.loadAt 45 t11) = some t49 ∧ Cn P 26 #[t48, t49] h fun t50 h => aw P (Instr.storeAt 45 t12 t50) (fun _ h => s_field_Elem_Invert_11 K h t2 t5 t10 t12) h) h)) ∧ (aw P (Instr.alloc 45 true (.tuple #[])) (fun t12 h => peek P h (Instr.loadAt 45 t11) = some t49 ∧ peek P h (Instr.loadAt 45 t11) = some t47 ∧ Cn P 41 #[t47, (Value.int .i64 100)] h fun t48 h => peek P h (Instr.loadAt 45 t11) = some t49 ∧ Cn P 26 #[t48, t49] h fun t50 h => aw P (Instr.storeAt 45 t12 t50) (fun _ h => s_field_Elem_Invert_11 K h t2 t5 t10 t12) h) h)
def s_field_Elem_Invert_9 (K : Value → Hp → Prop) (h : Hp) (t2 t5 t10 : Value) : Prop := q P h (Instr.loadAt 45 t10) fun t43 => q P h (Instr.loadAt 45 t10) fun t45 => (Cn P 41 #[t43, (Value.int .i64 50)] h fun t44 h => peek P h (Instr.loadAt 45 t10) = some t45 ∧ (Cn P 26 #[t44, t45] h fun t46 h => aw P (Instr.alloc 45 true (.tuple #[])) (fun t11 h => aw P (Instr.storeAt 45 t11 t46) (fun _ h => s_field_Elem_Invert_10 K h t2 t5 t10 t11) h) h) ∧ (aw P (Instr.alloc 45 true (.tuple #[])) (fun t11 h => peek P h (Instr.loadAt 45 t10) = some t45 ∧ Cn P 26 #[t44, t45] h fun t46 h => aw P (Instr.storeAt 45 t11 t46) (fun _ h => s_field_Elem_Invert_10 K h t2 t5 t10 t11) h) h)) ∧ (aw P (Instr.alloc 45 true (.tuple #[])) (fun t11 h => peek P h (Instr.loadAt 45 t10) = some t45 ∧ peek P h (Instr.loadAt 45 t10) = some t43 ∧ Cn P 41 #[t43, (Value.int .i64 50)] h fun t44 h => peek P h (Instr.loadAt 45 t10) = some t45 ∧ Cn P 26 #[t44, t45] h fun t46 h => aw P (Instr.storeAt 45 t11 t46) (fun _ h => s_field_Elem_Invert_10 K h t2 t5 t10 t11) h) h)
def s_field_Elem_Invert_8 (K : Value → Hp → Prop) (h : Hp) (t2 t5 t7 t9 : Value) : Prop := q P h (Instr.loadAt 45 t9) fun t39 => q P h (Instr.loadAt 45 t7) fun t41 => (Cn P 41 #[t39, (Value.int .i64 10)] h fun t40 h => peek P h (Instr.loadAt 45 t7) = some t41 ∧ (Cn P 26 #[t40, t41] h fun t42 h => aw P (Instr.alloc 45 true (.tuple #[])) (fun t10 h => aw P (Instr.storeAt 45 t10 t42) (fun _ h => s_field_Elem_Invert_9 K h t2 t5 t10) h) h) ∧ (aw P (Instr.alloc 45 true (.tuple #[])) (fun t10 h => peek P h (Instr.loadAt 45 t7) = some t41 ∧ Cn P 26 #[t40, t41] h fun t42 h => aw P (Instr.storeAt 45 t10 t42) (fun _ h => s_field_Elem_Invert_9 K h t2 t5 t10) h) h)) ∧ (aw P (Instr.alloc 45 true (.tuple #[])) (fun t10 h => peek P h (Instr.loadAt 45 t7) = some t41 ∧ peek P h (Instr.loadAt 45 t9) = some t39 ∧ Cn P 41 #[t39, (Value.int .i64 10)] h fun t40 h => peek P h (Instr.loadAt 45 t7) = some t41 ∧ Cn P 26 #[t40, t41] h fun t42 h => aw P (Instr.storeAt 45 t10 t42) (fun _ h => s_field_Elem_Invert_9 K h t2 t5 t10) h) h)
def s_field_Elem_Invert_7 (K : Value → Hp → Prop) (h : Hp) (t2 t5 t7 t8 : Value) : Prop := q P h (Instr.loadAt 45 t8) fun t35 => q P h (Instr.loadAt 45 t8) fun t37 => (Cn P 41 #[t35, (Value.int .i64 20)] h fun t36 h => peek P h (Instr.loadAt 45 t8) = some t37 ∧ (Cn P 26 #[t36, t37] h fun t38 h => aw P (Instr.alloc 45 true (.tuple #[])) (fun t9 h => aw P (Instr.storeAt 45 t9 t38) (fun _ h => s_field_Elem_Invert_8 K h t2 t5 t7 t9) h) h) ∧ (aw P (Instr.alloc 45 true (.tuple #[])) (fun t9 h => peek P h (Instr.loadAt 45 t8) = some t37 ∧ Cn P 26 #[t36, t37] h fun t38 h => aw P (Instr.storeAt 45 t9 t38) (fun _ h => s_field_Elem_Invert_8 K h t2 t5 t7 t9) h) h)) ∧ (aw P (Instr.alloc 45 true (.tuple #[])) (fun t9 h => peek P h (Instr.loadAt 45 t8) = some t37 ∧ peek P h (Instr.loadAt 45 t8) = some t35 ∧ Cn P 41 #[t35, (Value.int .i64 20)] h fun t36 h => peek P h (Instr.loadAt 45 t8) = some t37 ∧ Cn P 26 #[t36, t37] h fun t38 h => aw P (Instr.storeAt 45 t9 t38) (fun _ h => s_field_Elem_Invert_8 K h t2 t5 t7 t9) h) h)
def s_field_Elem_Invert_6 (K : Value → Hp → Prop) (h : Hp) (t2 t5 t7 : Value) : Prop := q P h (Instr.loadAt 45 t7) fun t31 => q P h (Instr.loadAt 45 t7) fun t33 => (Cn P 41 #[t31, (Value.int .i64 10)] h fun t32 h => peek P h (Instr.loadAt 45 t7) = some t33 ∧ (Cn P 26 #[t32, t33] h fun t34 h => aw P (Instr.alloc 45 true (.tuple #[])) (fun t8 h => aw P (Instr.storeAt 45 t8 t34) (fun _ h => s_field_Elem_Invert_7 K h t2 t5 t7 t8) h) h) ∧ (aw P (Instr.alloc 45 true (.tuple #[])) (fun t8 h => peek P h (Instr.loadAt 45 t7) = some t33 ∧ Cn P 26 #[t32, t33] h fun t34 h => aw P (Instr.storeAt 45 t8 t34) (fun _ h => s_field_Elem_Invert_7 K h t2 t5 t7 t8) h) h)) ∧ (aw P (Instr.alloc 45 true (.tuple #[])) (fun t8 h => peek P h (Instr.loadAt 45 t7) = some t33 ∧ peek P h (Instr.loadAt 45 t7) = some t31 ∧ Cn P 41 #[t31, (Value.int .i64 10)] h fun t32 h => peek P h (Instr.loadAt 45 t7) = some t33 ∧ Cn P 26 #[t32, t33] h fun t34 h => aw P (Instr.storeAt 45 t8 t34) (fun _ h => s_field_Elem_Invert_7 K h t2 t5 t7 t8) h) h)
def s_field_Elem_Invert_5 (K : Value → Hp → Prop) (h : Hp) (t2 t5 t6 : Value) : Prop := q P h (Instr.loadAt 45 t6) fun t27 => q P h (Instr.loadAt 45 t6) fun t29 => (Cn P 41 #[t27, (Value.int .i64 5)] h fun t28 h => peek P h (Instr.loadAt 45 t6) = some t29 ∧ (Cn P 26 #[t28, t29] h fun t30 h => aw P (Instr.alloc 45 true (.tuple #[])) (fun t7 h => aw P (Instr.storeAt 45 t7 t30) (fun _ h => s_field_Elem_Invert_6 K h t2 t5 t7) h) h) ∧ (aw P (Instr.alloc 45 true (.tuple #[])) (fun t7 h => peek P h (Instr.loadAt 45 t6) = some t29 ∧ Cn P 26 #[t28, t29] h fun t30 h => aw P (Instr.storeAt 45 t7 t30) (fun _ h => s_field_Elem_Invert_6 K h t2 t5 t7) h) h)) ∧ (aw P (Instr.alloc 45 true (.tuple #[])) (fun t7 h => peek P h (Instr.loadAt 45 t6) = some t29 ∧ peek P h (Instr.loadAt 45 t6) = some t27 ∧ Cn P 41 #[t27, (Value.int .i64 5)] h fun t28 h => peek P h (Instr.loadAt 45 t6) = some t29 ∧ Cn P 26 #[t28, t29] h fun t30 h => aw P (Instr.storeAt 45 t7 t30) (fun _ h => s_field_Elem_Invert_6 K h t2 t5 t7) h) h)
def s_field_Elem_Invert_4 (K : Value → Hp → Prop) (h : Hp) (t2 t4 t5 : Value) : Prop := q P h (Instr.loadAt 45 t5) fun t23 => q P h (Instr.loadAt 45 t4) fun t25 => (Cn P 35 #[t23] h fun t24 h => peek P h (Instr.loadAt 45 t4) = some t25 ∧ (Cn P 26 #[t24, t25] h fun t26 h => aw P (Instr.alloc 45 true (.tuple #[])) (fun t6 h => aw P (Instr.storeAt 45 t6 t26) (fun _ h => s_field_Elem_Invert_5 K h t2 t5 t6) h) h) ∧ (aw P (Instr.alloc 45 true (.tuple #[])) (fun t6 h => peek P h (Instr.loadAt 45 t4) = some t25 ∧ Cn P 26 #[t24, t25] h fun t26 h => aw P (Instr.storeAt 45 t6 t26) (fun _ h => s_field_Elem_Invert_5 K h t2 t5 t6) h) h)) ∧ (aw P (Instr.alloc 45 true (.tuple #[])) (fun t6 h => peek P h (Instr.loadAt 45 t4) = some t25 ∧ peek P h (Instr.loadAt 45 t5) = some t23 ∧ Cn P 35 #[t23] h fun t24 h => peek P h (Instr.loadAt 45 t4) = some t25 ∧ Cn P 26 #[t24, t25] h fun t26 h => aw P (Instr.storeAt 45 t6 t26) (fun _ h => s_field_Elem_Invert_5 K h t2 t5 t6) h) h)
def s_field_Elem_Invert_3 (K : Value → Hp → Prop) (h : Hp) (t2 t3 t4 : Value) : Prop := q P h (Instr.loadAt 45 t4) fun t20 => q P h (Instr.loadAt 45 t3) fun t21 => Cn P 26 #[t20, t21] h fun t22 h => aw P (Instr.alloc 45 true (.tuple #[])) (fun t5 h => aw P (Instr.storeAt 45 t5 t22) (fun _ h => s_field_Elem_Invert_4 K h t2 t4 t5) h) h
def s_field_Elem_Invert_2 (K : Value → Hp → Prop) (h : Hp) (t1 t2 t3 : Value) : Prop := q P h (Instr.loadAt 45 t3) fun t16 => q P h (Instr.loadAt 45 t1) fun t18 => (Cn P 41 #[t16, (Value.int .i64 2)] h fun t17 h => peek P h (Instr.loadAt 45 t1) = some t18 ∧ (Cn P 26 #[t17, t18] h fun t19 h => aw P (Instr.alloc 45 true (.tuple #[])) (fun t4 h => aw P (Instr.storeAt 45 t4 t19) (fun _ h => s_field_Elem_Invert_3 K h t2 t3 t4) h) h) ∧ (aw P (Instr.alloc 45 true (.tuple #[])) (fun t4 h => peek P h (Instr.loadAt 45 t1) = some t18 ∧ Cn P 26 #[t17, t18] h fun t19 h => aw P (Instr.storeAt 45 t4 t19) (fun _ h => s_field_Elem_Invert_3 K h t2 t3 t4) h) h)) ∧ (aw P (Instr.alloc 45 true (.tuple #[])) (fun t4 h => peek P h (Instr.loadAt 45 t1) = some t18 ∧ peek P h (Instr.loadAt 45 t3) = some t16 ∧ Cn P 41 #[t16, (Value.int .i64 2)] h fun t17 h => peek P h (Instr.loadAt 45 t1) = some t18 ∧ Cn P 26 #[t17, t18] h fun t19 h => aw P (Instr.storeAt 45 t4 t19) (fun _ h => s_field_Elem_Invert_3 K h t2 t3 t4) h) h)
def s_field_Elem_Invert_1 (K : Value → Hp → Prop) (h : Hp) (t1 t2 : Value) : Prop := q P h (Instr.loadAt 45 t1) fun t14 => Cn P 35 #[t14] h fun t15 h => aw P (Instr.alloc 45 true (.tuple #[])) (fun t3 h => aw P (Instr.storeAt 45 t3 t15) (fun _ h => s_field_Elem_Invert_2 K h t1 t2 t3) h) h
def s_field_Elem_Invert (K : Value → Hp → Prop) (h : Hp) (t0 : Value) : Prop := aw P (Instr.box 45 t0) (fun t1 h => aw P (Instr.alloc 45 true (.tuple #[])) (fun t2 h => s_field_Elem_Invert_1 K h t1 t2) h) h
theorem c_field_Elem_Invert_13 {K : Value → Hp → Prop} {h : Hp} {t2 : Value} (s : s_field_Elem_Invert_13 K h t2) : SV P Try.f27.ntmps (seqR (seqR (seqR (seqR (seqR (seqR (seqR (seqR (seqR (seqR (seqR (seqR (seqR (Try.f27.body.getD .skip)))))))))))))) (retP P Try.f27.results.toList K) (headOf [2] [t2]) h :=
  SV_of mixed (by kernel_rfl) s
theorem c_field_Elem_Invert_12 {K : Value → Hp → Prop} {h : Hp} {t2 t5 t13 : Value} (s : s_field_Elem_Invert_12 K h t2 t5 t13) : SV P Try.f27.ntmps (seqR (seqR (seqR (seqR (seqR (seqR (seqR (seqR (seqR (seqR (seqR (seqR (Try.f27.body.getD .skip))))))))))))) (retP P Try.f27.results.toList K) (headOf [2, 5, 13] [t2, t5, t13]) h :=
  cut_at mixed (by kernel_rfl) [2] (fun vs h => s_field_Elem_Invert_13 K h (vs.getD 0 undef)) (fun vs h _ x => Eq.mp (by kernel_rfl) (c_field_Elem_Invert_13 x)) (by kernel_rfl) s
theorem c_field_Elem_Invert_11 {K : Value → Hp → Prop} {h : Hp} {t2 t5 t10 t12 : Value} (s : s_field_Elem_Invert_11 K h t2 t5 t10 t12) : SV P Try.f27.ntmps (seqR (seqR (seqR (seqR (seqR (seqR (seqR (seqR (seqR (seqR (seqR (Try.f27.body.getD .skip)))))))))))) (retP P Try.f27.results.toList K) (headOf [2, 5, 10, 12] [t2, t5, t10, t12]) h :=
  cut_at mixed (by kernel_rfl) [2, 5, 13] (fun vs h => s_field_Elem_Invert_12 K h (vs.getD 0 undef) (vs.getD 1 undef) (vs.getD 2 undef)) (fun vs h _ x => Eq.mp (by kernel_rfl) (c_field_Elem_Invert_12 x)) (by kernel_rfl) s
theorem c_field_Elem_Invert_10 {K : Value → Hp → Prop} {h : Hp} {t2 t5 t10 t11 : Value} (s : s_field_Elem_Invert_10 K h t2 t5 t10 t11) : SV P Try.f27.ntmps (seqR (seqR (seqR (seqR (seqR (seqR (seqR (seqR (seqR (seqR (Try.f27.body.getD .skip))))))))))) (retP P Try.f27.results.toList K) (headOf [2, 5, 10, 11] [t2, t5, t10, t11]) h :=
  cut_at mixed (by kernel_rfl) [2, 5, 10, 12] (fun vs h => s_field_Elem_Invert_11 K h (vs.getD 0 undef) (vs.getD 1 undef) (vs.getD 2 undef) (vs.getD 3 undef)) (fun vs h _ x => Eq.mp (by kernel_rfl) (c_field_Elem_Invert_11 x)) (by kernel_rfl) s
theorem c_field_Elem_Invert_9 {K : Value → Hp → Prop} {h : Hp} {t2 t5 t10 : Value} (s : s_field_Elem_Invert_9 K h t2 t5 t10) : SV P Try.f27.ntmps (seqR (seqR (seqR (seqR (seqR (seqR (seqR (seqR (seqR (Try.f27.body.getD .skip)))))))))) (retP P Try.f27.results.toList K) (headOf [2, 5, 10] [t2, t5, t10]) h :=
  cut_at mixed (by kernel_rfl) [2, 5, 10, 11] (fun vs h => s_field_Elem_Invert_10 K h (vs.getD 0 undef) (vs.getD 1 undef) (vs.getD 2 undef) (vs.getD 3 undef)) (fun vs h _ x => Eq.mp (by kernel_rfl) (c_field_Elem_Invert_10 x)) (by kernel_rfl) s
theorem c_field_Elem_Invert_8 {K : Value → Hp → Prop} {h : Hp} {t2 t5 t7 t9 : Value} (s : s_field_Elem_Invert_8 K h t2 t5 t7 t9) : SV P Try.f27.ntmps (seqR (seqR (seqR (seqR (seqR (seqR (seqR (seqR (Try.f27.body.getD .skip))))))))) (retP P Try.f27.results.toList K) (headOf [2, 5, 7, 9] [t2, t5, t7, t9]) h :=
  cut_at mixed (by kernel_rfl) [2, 5, 10] (fun vs h => s_field_Elem_Invert_9 K h (vs.getD 0 undef) (vs.getD 1 undef) (vs.getD 2 undef)) (fun vs h _ x => Eq.mp (by kernel_rfl) (c_field_Elem_Invert_9 x)) (by kernel_rfl) s
theorem c_field_Elem_Invert_7 {K : Value → Hp → Prop} {h : Hp} {t2 t5 t7 t8 : Value} (s : s_field_Elem_Invert_7 K h t2 t5 t7 t8) : SV P Try.f27.ntmps (seqR (seqR (seqR (seqR (seqR (seqR (seqR (Try.f27.body.getD .skip)))))))) (retP P Try.f27.results.toList K) (headOf [2, 5, 7, 8] [t2, t5, t7, t8]) h :=
  cut_at mixed (by kernel_rfl) [2, 5, 7, 9] (fun vs h => s_field_Elem_Invert_8 K h (vs.getD 0 undef) (vs.getD 1 undef) (vs.getD 2 undef) (vs.getD 3 undef)) (fun vs h _ x => Eq.mp (by kernel_rfl) (c_field_Elem_Invert_8 x)) (by kernel_rfl) s
theorem c_field_Elem_Invert_6 {K : Value → Hp → Prop} {h : Hp} {t2 t5 t7 : Value} (s : s_field_Elem_Invert_6 K h t2 t5 t7) : SV P Try.f27.ntmps (seqR (seqR (seqR (seqR (seqR (seqR (Try.f27.body.getD .skip))))))) (retP P Try.f27.results.toList K) (headOf [2, 5, 7] [t2, t5, t7]) h :=
  cut_at mixed (by kernel_rfl) [2, 5, 7, 8] (fun vs h => s_field_Elem_Invert_7 K h (vs.getD 0 undef) (vs.getD 1 undef) (vs.getD 2 undef) (vs.getD 3 undef)) (fun vs h _ x => Eq.mp (by kernel_rfl) (c_field_Elem_Invert_7 x)) (by kernel_rfl) s
theorem c_field_Elem_Invert_5 {K : Value → Hp → Prop} {h : Hp} {t2 t5 t6 : Value} (s : s_field_Elem_Invert_5 K h t2 t5 t6) : SV P Try.f27.ntmps (seqR (seqR (seqR (seqR (seqR (Try.f27.body.getD .skip)))))) (retP P Try.f27.results.toList K) (headOf [2, 5, 6] [t2, t5, t6]) h :=
  cut_at mixed (by kernel_rfl) [2, 5, 7] (fun vs h => s_field_Elem_Invert_6 K h (vs.getD 0 undef) (vs.getD 1 undef) (vs.getD 2 undef)) (fun vs h _ x => Eq.mp (by kernel_rfl) (c_field_Elem_Invert_6 x)) (by kernel_rfl) s
theorem c_field_Elem_Invert_4 {K : Value → Hp → Prop} {h : Hp} {t2 t4 t5 : Value} (s : s_field_Elem_Invert_4 K h t2 t4 t5) : SV P Try.f27.ntmps (seqR (seqR (seqR (seqR (Try.f27.body.getD .skip))))) (retP P Try.f27.results.toList K) (headOf [2, 4, 5] [t2, t4, t5]) h :=
  cut_at mixed (by kernel_rfl) [2, 5, 6] (fun vs h => s_field_Elem_Invert_5 K h (vs.getD 0 undef) (vs.getD 1 undef) (vs.getD 2 undef)) (fun vs h _ x => Eq.mp (by kernel_rfl) (c_field_Elem_Invert_5 x)) (by kernel_rfl) s
theorem c_field_Elem_Invert_3 {K : Value → Hp → Prop} {h : Hp} {t2 t3 t4 : Value} (s : s_field_Elem_Invert_3 K h t2 t3 t4) : SV P Try.f27.ntmps (seqR (seqR (seqR (Try.f27.body.getD .skip)))) (retP P Try.f27.results.toList K) (headOf [2, 3, 4] [t2, t3, t4]) h :=
  cut_at mixed (by kernel_rfl) [2, 4, 5] (fun vs h => s_field_Elem_Invert_4 K h (vs.getD 0 undef) (vs.getD 1 undef) (vs.getD 2 undef)) (fun vs h _ x => Eq.mp (by kernel_rfl) (c_field_Elem_Invert_4 x)) (by kernel_rfl) s
theorem c_field_Elem_Invert_2 {K : Value → Hp → Prop} {h : Hp} {t1 t2 t3 : Value} (s : s_field_Elem_Invert_2 K h t1 t2 t3) : SV P Try.f27.ntmps (seqR (seqR (Try.f27.body.getD .skip))) (retP P Try.f27.results.toList K) (headOf [1, 2, 3] [t1, t2, t3]) h :=
  cut_at mixed (by kernel_rfl) [2, 3, 4] (fun vs h => s_field_Elem_Invert_3 K h (vs.getD 0 undef) (vs.getD 1 undef) (vs.getD 2 undef)) (fun vs h _ x => Eq.mp (by kernel_rfl) (c_field_Elem_Invert_3 x)) (by kernel_rfl) s
theorem c_field_Elem_Invert_1 {K : Value → Hp → Prop} {h : Hp} {t1 t2 : Value} (s : s_field_Elem_Invert_1 K h t1 t2) : SV P Try.f27.ntmps (seqR (Try.f27.body.getD .skip)) (retP P Try.f27.results.toList K) (headOf [1, 2] [t1, t2]) h :=
  cut_at mixed (by kernel_rfl) [1, 2, 3] (fun vs h => s_field_Elem_Invert_2 K h (vs.getD 0 undef) (vs.getD 1 undef) (vs.getD 2 undef)) (fun vs h _ x => Eq.mp (by kernel_rfl) (c_field_Elem_Invert_2 x)) (by kernel_rfl) s
theorem c_field_Elem_Invert_0 {K : Value → Hp → Prop} {h : Hp} {t0 : Value} (s : s_field_Elem_Invert K h t0) : SV P Try.f27.ntmps (Try.f27.body.getD .skip) (retP P Try.f27.results.toList K) (env0 [t0]) h :=
  cut_at mixed (by kernel_rfl) [1, 2] (fun vs h => s_field_Elem_Invert_1 K h (vs.getD 0 undef) (vs.getD 1 undef)) (fun vs h _ x => Eq.mp (by kernel_rfl) (c_field_Elem_Invert_1 x)) (by kernel_rfl) s
theorem F_field_Elem_Invert {K : Value → Hp → Prop} {h : Hp} {t0 : Value} (s : s_field_Elem_Invert K h t0) : Cn P 27 #[t0] h K :=
  Cn_sv Try.func27 (by kernel_rfl) (args := [t0]) (c_field_Elem_Invert_0 s)
/-- function 28: (orlop.field.Elem).Bytes -/
def s_field_Elem_Bytes (K : Value → Hp → Prop) (h : Hp) (t0 : Value) : Prop := aw P (Instr.box 45 t0) (fun t1 h => q P h (Instr.loadAt 45 t1) fun t10 => Cn P 42 #[t10] h fun t11 h => aw P (Instr.storeAt 45 t1 t11) (fun _ h => aw P (Instr.alloc 85 true (.tuple #[])) (fun t3 h => q P h (Instr.fieldAt 45 t1 0) fun t12 => q P h (Instr.loadAt 43 t12) fun t13 => 
Lp [(Value.int .i64 0)] h fun nx6 vs6 h =>
q P h (binOp .lss 3 (vs6.getD 0 undef) (Value.int .i64 5)) fun t15 => cnd t15 (q P h (Instr.index 43 t13 (vs6.getD 0 undef)) fun t17 => q P h (binOp .mul 3 (Value.int .i64 51) (vs6.getD 0 undef)) fun t19 => q P emp (binOp .quo 3 t19 (Value.int .i64 64)) fun t21 => q P emp (Instr.indexAt 85 t3 t21) fun t22 => q P h (Instr.loadAt 42 t22) fun t23 => q P emp (binOp .rem 3 t19 (Value.int .i64 64)) fun t26 => q P emp (binOp .shl 42 t17 t26) fun t27 => q P emp (binOp .or 42 t23 t27) fun t28 => q P emp (Instr.indexAt 85 t3 t21) fun t29 => aw P (Instr.storeAt 42 t29 t28) (fun _ h => 
let J13 : Value → Hp → Prop := fun t38 h => cnd t38 (q P emp (binOp .quo 3 t19 (Value.int .i64 64)) fun t40 => q P emp (binOp .add 3 t40 (Value.int .i64 1)) fun t41 => q P emp (Instr.indexAt 85 t3 t41) fun t42 => q P h (Instr.loadAt 42 t42) fun t43 => q P emp (binOp .rem 3 t19 (Value.int .i64 64)) fun t46 => q P emp (binOp .sub 3 (Value.int .i64 64) t46) fun t47 => q P emp (binOp .shr 42 t17 t47) fun t48 => q P emp (binOp .or 42 t43 t48) fun t49 => q P emp (Instr.indexAt 85 t3 t41) fun t50 => aw P (Instr.storeAt 42 t50 t49) (fun _ h => q P h (binOp .add 3 (vs6.getD 0 undef) (Value.int .i64 1)) fun t51 => nx6 [t51] h) h) (q P h (binOp .add 3 (vs6.getD 0 undef) (Value.int .i64 1)) fun t51 => nx6 [t51] h);
q P h (binOp .rem 3 t19 (Value.int .i64 64)) fun t31 => q P h (binOp .gtr 3 t31 (Value.int .i64 13)) fun t32 => gd t32 true (q P h (binOp .quo 3 t19 (Value.int .i64 64)) fun t35 => q P h (binOp .add 3 t35 (Value.int .i64 1)) fun t36 => q P h (binOp .lss 3 t36 (Value.int .i64 4)) fun t37 => J13 t37 h) (J13 (Value.bool false) h)) h) (q P h (Instr.loadAt 85 t3) fun t52 => 
Lp [(Value.slice none 0 0), (Value.int .i64 0)] h fun nx17 vs17 h =>
q P h (binOp .lss 3 (vs17.getD 1 undef) (Value.int .i64 4)) fun t54 => cnd t54 (q P h (Instr.index 85 t52 (vs17.getD 1 undef)) fun t55 => Cn P 43 #[t55] h fun t58 h => aw P (Builtin.append_ #[23, 23] 23 #[(vs17.getD 0 undef), t58]) (fun t59 h => q P h (binOp .add 3 (vs17.getD 1 undef) (Value.int .i64 1)) fun t60 => nx17 [t59, t60] h) h) (K (vs17.getD 0 undef) h))) h) h) h
theorem F_field_Elem_Bytes {K : Value → Hp → Prop} {h : Hp} {t0 : Value} (s : s_field_Elem_Bytes K h t0) : Cn P 28 #[t0] h K :=
  Cn_ofs mixed Try.func28 (by kernel_rfl) (args := [t0]) (by kernel_rfl) s
/-- function 29: orlop.word.Get64 -/
def s_word_Get64 (K : Value → Hp → Prop) (h : Hp) (t0 : Value) : Prop := Cn P 44 #[t0, (Value.int .i64 8)] h fun t4 h => K t4 h
theorem F_word_Get64 {K : Value → Hp → Prop} {h : Hp} {t0 : Value} (s : s_word_Get64 K h t0) : Cn P 29 #[t0] h K :=
  Cn_ofs mixed Try.func29 (by kernel_rfl) (args := [t0]) (by kernel_rfl) s
/-- function 30: orlop.mac.Derive -/
def s_mac_Derive (K : Value → Hp → Prop) (h : Hp) (t0 t1 t2 t3 : Value) : Prop := Cn P 46 #[t1, t0] h fun t12 h => Cn P 45 #[t12, t2, t3] h fun t15 h => q P h (Instr.extract t15 0) fun t16 => q P h (Instr.extract t15 1) fun t17 => K (Value.tuple #[t16, t17]) h
theorem F_mac_Derive {K : Value → Hp → Prop} {h : Hp} {t0 t1 t2 t3 : Value} (s : s_mac_Derive K h t0 t1 t2 t3) : Cn P 30 #[t0, t1, t2, t3] h K :=
  Cn_ofs mixed Try.func30 (by kernel_rfl) (args := [t0, t1, t2, t3]) (by kernel_rfl) s
/-- function 31: slices.Grow[[]byte,byte] -/
def s_slices_Grow_byte_byte (K : Value → Hp → Prop) (h : Hp) (t0 t1 : Value) : Prop := q P h (binOp .lss 3 t1 (Value.int .i64 0)) fun t6 => cnd t6 (q P h (Instr.makeInterface 9 (Value.string ⟨#[99, 97, 110, 110, 111, 116, 32, 98, 101, 32, 110, 101, 103, 97, 116, 105, 118, 101]⟩)) fun t7 => False) (q P h (Builtin.cap_ #[23] 3 #[t0]) fun t10 => q P h (Builtin.len_ #[23] 3 #[t0]) fun t12 => q P h (binOp .sub 3 t10 t12) fun t13 => q P h (binOp .sub 3 t1 t13) fun t14 => q P h (binOp .gtr 3 t14 (Value.int .i64 0)) fun t16 => cnd t16 (q P h (Builtin.cap_ #[23] 3 #[t0]) fun t19 => q P h (Instr.sliceAt 23 t0 none (some t19) none) fun t20 => aw P (Builtin.append_ #[23, 3] 23 #[t20, t14]) (fun t22 h => q P h (Builtin.len_ #[23] 3 #[t0]) fun t24 => q P h (Instr.sliceAt 23 t22 none (some t24) none) fun t25 => K t25 h) h) (K t0 h))
theorem F_slices_Grow_byte_byte {K : Value → Hp → Prop} {h : Hp} {t0 t1 : Value} (s : s_slices_Grow_byte_byte K h t0 t1) : Cn P 31 #[t0, t1] h K :=
  Cn_ofs mixed Try.func31 (by kernel_rfl) (args := [t0, t1]) (by kernel_rfl) s
/-- function 32: orlop.field.Swap -/
def s_field_Swap (K : Value → Hp → Prop) (h : Hp) (t0 t1 t2 : Value) : Prop := aw P (Instr.box 45 t1) (fun t4 h => aw P (Instr.box 45 t2) (fun t5 h => aw P (Instr.alloc 45 true (.tuple #[])) (fun t6 h => aw P (Instr.alloc 45 true (.tuple #[])) (fun t7 h => q P h (binOp .and 42 t0 (Value.int .u64 1)) fun t12 => q P h (Op.unary .neg t12) fun t13 => 
Lp [(Value.int .i64 0)] h fun nx5 vs5 h =>
q P h (binOp .lss 3 (vs5.getD 0 undef) (Value.int .i64 5)) fun t15 => cnd t15 (q P h (Instr.fieldAt 45 t4 0) fun t19 => q P emp (Instr.indexAt 43 t19 (vs5.getD 0 undef)) fun t20 => q P h (Instr.loadAt 42 t20) fun t21 => q P h (Instr.fieldAt 45 t5 0) fun t23 => q P emp (Instr.indexAt 43 t23 (vs5.getD 0 undef)) fun t24 => q P h (Instr.loadAt 42 t24) fun t25 => q P emp (binOp .xor 42 t21 t25) fun t26 => q P emp (binOp .and 42 t13 t26) fun t27 => q P h (Instr.fieldAt 45 t4 0) fun t29 => q P h (Instr.indexAt 43 t29 (vs5.getD 0 undef)) fun t30 => q P h (Instr.loadAt 42 t30) fun t31 => q P h (binOp .xor 42 t31 t27) fun t33 => q P h (Instr.fieldAt 45 t4 0) fun t34 => q P h (Instr.indexAt 43 t34 (vs5.getD 0 undef)) fun t35 => aw P (Instr.storeAt 42 t35 t33) (fun _ h => q P h (Instr.fieldAt 45 t5 0) fun t37 => q P h (Instr.indexAt 43 t37 (vs5.getD 0 undef)) fun t38 => q P h (Instr.loadAt 42 t38) fun t39 => q P h (binOp .xor 42 t39 t27) fun t41 => q P h (Instr.fieldAt 45 t5 0) fun t42 => q P h (Instr.indexAt 43 t42 (vs5.getD 0 undef)) fun t43 => aw P (Instr.storeAt 42 t43 t41) (fun _ h => q P h (binOp .add 3 (vs5.getD 0 undef) (Value.int .i64 1)) fun t44 => nx5 [t44] h) h) h) (q P h (Instr.loadAt 45 t4) fun t45 => q P h (Instr.loadAt 45 t5) fun t46 => aw P (Instr.storeAt 45 t6 t45) (fun _ h => peek P h (Instr.loadAt 45 t5) = some t46 ∧ aw P (Instr.storeAt 45 t7 t46) (fun _ h => q P h ((asAddr t6).bind (loadVar 45)) fun r0 => q P h ((asAddr t7).bind (loadVar 45)) fun r1 => K (Value.tuple #[r0, r1]) h) h) h)) h) h) h) h
theorem F_field_Swap {K : Value → Hp → Prop} {h : Hp} {t0 t1 t2 : Value} (s : s_field_Swap K h t0 t1 t2) : Cn P 32 #[t0, t1, t2] h K :=
  Cn_ofs mixed Try.func32 (by kernel_rfl) (args := [t0, t1, t2]) (by kernel_rfl) s
/-- function 33: (orlop.field.Elem).Add -/
def s_field_Elem_Add (K : Value → Hp → Prop) (h : Hp) (t0 t1 : Value) : Prop := aw P (Instr.box 45 t0) (fun t2 h => aw P (Instr.box 45 t1) (fun t3 h => aw P (Instr.alloc 45 true (.tuple #[])) (fun t4 h => 
Lp [(Value.int .i64 0)] h fun nx4 vs4 h =>
q P h (binOp .lss 3 (vs4.getD 0 undef) (Value.int .i64 5)) fun t7 => cnd t7 (q P h (Instr.fieldAt 45 t2 0) fun t10 => q P emp (Instr.indexAt 43 t10 (vs4.getD 0 undef)) fun t11 => q P h (Instr.loadAt 42 t11) fun t12 => q P h (Instr.fieldAt 45 t3 0) fun t14 => q P emp (Instr.indexAt 43 t14 (vs4.getD 0 undef)) fun t15 => q P h (Instr.loadAt 42 t15) fun t16 => q P emp (binOp .add 42 t12 t16) fun t17 => q P h (Instr.fieldAt 45 t2 0) fun t18 => q P emp (Instr.indexAt 43 t18 (vs4.getD 0 undef)) fun t19 => aw P (Instr.storeAt 42 t19 t17) (fun _ h => q P h (binOp .add 3 (vs4.getD 0 undef) (Value.int .i64 1)) fun t20 => nx4 [t20] h) h) (q P h (Instr.loadAt 45 t2) fun t21 => Cn P 40 #[t21] h fun t22 h => aw P (Instr.storeAt 45 t4 t22) (fun _ h => q P h ((asAddr t4).bind (loadVar 45)) fun r0 => K r0 h) h)) h) h) h
theorem F_field_Elem_Add {K : Value → Hp → Prop} {h : Hp} {t0 t1 : Value} (s : s_field_Elem_Add K h t0 t1) : Cn P 33 #[t0, t1] h K :=
  Cn_ofs mixed Try.func33 (by kernel_rfl) (args := [t0, t1]) (by kernel_rfl) s
/-- function 34: (orlop.field.Elem).Sub -/
def s_field_Elem_Sub (K : Value → Hp → Prop) (h : Hp) (t0 t1 : Value) : Prop := aw P (Instr.box 45 t0) (fun t2 h => aw P (Instr.box 45 t1) (fun t3 h => aw P (Instr.alloc 45 true (.tuple #[])) (fun t4 h => q P h (Instr.loadAt 45 t3) fun t7 => Cn P 40 #[t7] h fun t8 h => Cn P 40 #[t8] h fun t9 h => aw P (Instr.storeAt 45 t3 t9) (fun _ h => 
Lp [(Value.int .i64 0)] h fun nx5 vs5 h =>
q P h (binOp .lss 3 (vs5.getD 0 undef) (Value.int .i64 5)) fun t11 => cnd t11 (
let J11 : Value → Hp → Prop := fun t6 h => q P h (Instr.fieldAt 45 t2 0) fun t16 => q P emp (Instr.indexAt 43 t16 (vs5.getD 0 undef)) fun t17 => q P h (Instr.loadAt 42 t17) fun t18 => q P emp (binOp .mul 42 (Value.int .u64 2) t6) fun t20 => q P h (Instr.fieldAt 45 t3 0) fun t22 => q P emp (Instr.indexAt 43 t22 (vs5.getD 0 undef)) fun t23 => q P h (Instr.loadAt 42 t23) fun t24 => q P emp (binOp .sub 42 t20 t24) fun t25 => q P emp (binOp .add 42 t18 t25) fun t26 => q P h (Instr.fieldAt 45 t2 0) fun t27 => q P emp (Instr.indexAt 43 t27 (vs5.getD 0 undef)) fun t28 => aw P (Instr.storeAt 42 t28 t26) (fun _ h => q P h (binOp .add 3 (vs5.getD 0 undef) (Value.int .i64 1)) fun t29 => nx5 [t29] h) h;
q P h (eqop .eql 3 (.tmp 13) (.const (Value.int .i64 0)) (vs5.getD 0 undef) (Value.int .i64 0)) fun t14 => cnd t14 (J11 (Value.int .u64 4503599627370458) h) (J11 (Value.int .u64 4503599627370494) h)) (q P h (Instr.loadAt 45 t2) fun t30 => Cn P 40 #[t30] h fun t31 h => aw P (Instr.storeAt 45 t4 t31) (fun _ h => q P h ((asAddr t4).bind (loadVar 45)) fun r0 => K r0 h) h)) h) h) h) h
theorem F_field_Elem_Sub {K : Value → Hp → Prop} {h : Hp} {t0 t1 : Value} (s : s_field_Elem_Sub K h t0 t1) : Cn P 34 #[t0, t1] h K :=
  Cn_ofs mixed Try.func34 (by kernel_rfl) (args := [t0, t1]) (by kernel_rfl) s
/-- function 35: (orlop.field.Elem).Square -/
def s_field_Elem_Square (K : Value → Hp → Prop) (h : Hp) (t0 : Value) : Prop := aw P (Instr.box 45 t0) (fun t1 h => aw P (Instr.alloc 45 true (.tuple #[])) (fun t2 h => q P h (Instr.loadAt 45 t1) fun t3 => q P h (Instr.loadAt 45 t1) fun t4 => Cn P 26 #[t3, t4] h fun t5 h => aw P (Instr.storeAt 45 t2 t5) (fun _ h => q P h ((asAddr t2).bind (loadVar 45)) fun r0 => K r0 h) h) h) h
theorem F_field_Elem_Square {K : Value → Hp → Prop} {h : Hp} {t0 : Value} (s : s_field_Elem_Square K h t0) : Cn P 35 #[t0] h K :=
  Cn_ofs mixed Try.func35 (by kernel_rfl) (args := [t0]) (by kernel_rfl) s
/-- function 36: (orlop.field.Elem).Times -/
def s_field_Elem_Times (K : Value → Hp → Prop) (h : Hp) (t0 t1 : Value) : Prop := aw P (Instr.box 45 t0) (fun t2 h => aw P (Instr.alloc 45 true (.tuple #[])) (fun t4 h => q P h (Instr.loadAt 45 t2) fun t5 => q P h (convert 75 42 t1) fun t7 => q P h (Instr.build 43 #[(0, t7)]) fun t8 => q P h (Instr.build 45 #[(0, t8)]) fun t9 => Cn P 26 #[t5, t9] h fun t10 h => aw P (Instr.storeAt 45 t4 t10) (fun _ h => q P h ((asAddr t4).bind (loadVar 45)) fun r0 => K r0 h) h) h) h
theorem F_field_Elem_Times {K : Value → Hp → Prop} {h : Hp} {t0 t1 : Value} (s : s_field_Elem_Times K h t0 t1) : Cn P 36 #[t0, t1] h K :=
  Cn_ofs mixed Try.func36 (by kernel_rfl) (args := [t0, t1]) (by kernel_rfl) s
/-- function 37: (orlop.field.wide).plus -/
def s_field_wide_plus (K : Value → Hp → Prop) (h : Hp) (t0 t1 t2 : Value) : Prop := aw P (Instr.box 77 t0) (fun t3 h => aw P (Instr.alloc 77 true (.tuple #[])) (fun t6 h => Cn P 39 #[t1, t2] h fun t13 h => q P h (Instr.extract t13 0) fun t14 => q P h (Instr.extract t13 1) fun t15 => q P h (Instr.fieldAt 77 t3 1) fun t17 => q P h (Instr.loadAt 42 t17) fun t18 => exP P 38 #[t18, t15, (Value.int .u64 0)] h fun t20 h => q P h (Instr.extract t20 0) fun t21 => q P h (Instr.extract t20 1) fun t22 => q P h (Instr.fieldAt 77 t3 1) fun t23 => aw P (Instr.storeAt 42 t23 t21) (fun _ h => q P h (Instr.fieldAt 77 t3 0) fun t25 => q P h (Instr.loadAt 42 t25) fun t26 => exP P 38 #[t26, t14, t22] h fun t29 h => q P h (Instr.extract t29 0) fun t30 => q P h (Instr.extract t29 1) fun t31 => q P h (Instr.fieldAt 77 t3 0) fun t32 => aw P (Instr.storeAt 42 t32 t30) (fun _ h => q P h (Instr.loadAt 77 t3) fun t33 => aw P (Instr.storeAt 77 t6 t33) (fun _ h => q P h ((asAddr t6).bind (loadVar 77)) fun r0 => K r0 h) h) h) h) h) h
theorem F_field_wide_plus {K : Value → Hp → Prop} {h : Hp} {t0 t1 t2 : Value} (s : s_field_wide_plus K h t0 t1 t2) : Cn P 37 #[t0, t1, t2] h K :=
  Cn_ofs mixed Try.func37 (by kernel_rfl) (args := [t0, t1, t2]) (by kernel_rfl) s
/-- function 39: math.bits.Mul64 -/
def s_bits_Mul64 (K : Value → Hp → Prop) (h : Hp) (t0 t1 : Value) : Prop := q P h (binOp .and 42 t0 (Value.int .u64 4294967295)) fun t15 => q P h (binOp .shr 42 t0 (Value.int .u64 32)) fun t17 => q P h (binOp .and 42 t1 (Value.int .u64 4294967295)) fun t19 => q P h (binOp .shr 42 t1 (Value.int .u64 32)) fun t21 => q P h (binOp .mul 42 t15 t19) fun t24 => q P h (binOp .mul 42 t17 t19) fun t27 => q P h (binOp .shr 42 t24 (Value.int .u64 32)) fun t29 => q P h (binOp .add 42 t27 t29) fun t30 => q P h (binOp .and 42 t30 (Value.int .u64 4294967295)) fun t32 => q P h (binOp .shr 42 t30 (Value.int .u64 32)) fun t34 => q P h (binOp .mul 42 t15 t21) fun t38 => q P h (binOp .add 42 t32 t38) fun t39 => q P h (binOp .mul 42 t17 t21) fun t42 => q P h (binOp .add 42 t42 t34) fun t44 => q P h (binOp .shr 42 t39 (Value.int .u64 32)) fun t46 => q P h (binOp .add 42 t44 t46) fun t47 => q P h (binOp .mul 42 t0 t1) fun t50 => K (Value.tuple #[t47, t50]) h
theorem F_bits_Mul64 {K : Value → Hp → Prop} {h : Hp} {t0 t1 : Value} (s : s_bits_Mul64 K h t0 t1) : Cn P 39 #[t0, t1] h K :=
  Cn_ofs mixed Try.func39 (by kernel_rfl) (args := [t0, t1]) (by kernel_rfl) s
/-- function 40: (orlop.field.Elem).carried -/
def s_field_Elem_carried (K : Value → Hp → Prop) (h : Hp) (t0 : Value) : Prop := aw P (Instr.box 45 t0) (fun t1 h => aw P (Instr.alloc 45 true (.tuple #[])) (fun t2 h => 
Lp [(Value.int .u64 0), (Value.int .i64 0)] h fun nx5 vs5 h =>
q P h (binOp .lss 3 (vs5.getD 1 undef) (Value.int .i64 5)) fun t6 => cnd t6 (q P h (Instr.fieldAt 45 t1 0) fun t9 => q P h (Instr.indexAt 43 t9 (vs5.getD 1 undef)) fun t10 => q P h (Instr.loadAt 42 t10) fun t11 => q P h (binOp .add 42 t11 (vs5.getD 0 undef)) fun t13 => q P h (Instr.fieldAt 45 t1 0) fun t14 => q P h (Instr.indexAt 43 t14 (vs5.getD 1 undef)) fun t15 => aw P (Instr.storeAt 42 t15 t13) (fun _ h => q P h (Instr.fieldAt 45 t1 0) fun t17 => q P h (Instr.indexAt 43 t17 (vs5.getD 1 undef)) fun t18 => q P h (Instr.loadAt 42 t18) fun t19 => q P h (binOp .shr 42 t19 (Value.int .u64 51)) fun t20 => q P h (Instr.fieldAt 45 t1 0) fun t22 => q P h (Instr.indexAt 43 t22 (vs5.getD 1 undef)) fun t23 => q P h (Instr.loadAt 42 t23) fun t24 => q P h (binOp .and 42 t24 (Value.int .u64 2251799813685247)) fun t25 => q P h (Instr.fieldAt 45 t1 0) fun t26 => q P h (Instr.indexAt 43 t26 (vs5.getD 1 undef)) fun t27 => aw P (Instr.storeAt 42 t27 t25) (fun _ h => q P h (binOp .add 3 (vs5.getD 1 undef) (Value.int .i64 1)) fun t28 => nx5 [t20, t28] h) h) h) (q P h (Instr.fieldAt 45 t1 0) fun t29 => q P h (Instr.indexAt 43 t29 (Value.int .i64 0)) fun t30 => q P h (Instr.loadAt 42 t30) fun t31 => q P h (binOp .mul 42 (Value.int .u64 19) (vs5.getD 0 undef)) fun t33 => q P h (binOp .add 42 t31 t33) fun t34 => q P h (Instr.fieldAt 45 t1 0) fun t35 => q P h (Instr.indexAt 43 t35 (Value.int .i64 0)) fun t36 => aw P (Instr.storeAt 42 t36 t34) (fun _ h => q P h (Instr.loadAt 45 t1) fun t37 => aw P (Instr.storeAt 45 t2 t37) (fun _ h => q P h ((asAddr t2).bind (loadVar 45)) fun r0 => K r0 h) h) h)) h) h
theorem F_field_Elem_carried {K : Value → Hp → Prop} {h : Hp} {t0 : Value} (s : s_field_Elem_carried K h t0) : Cn P 40 #[t0] h K :=
  Cn_ofs mixed Try.func40 (by kernel_rfl) (args := [t0]) (by kernel_rfl) s
/-- function 41: (orlop.field.Elem).squares -/
def s_field_Elem_squares (K : Value → Hp → Prop) (h : Hp) (t0 t1 : Value) : Prop := aw P (Instr.box 45 t0) (fun t2 h => aw P (Instr.alloc 45 true (.tuple #[])) (fun t4 h => 
Lp [(Value.int .i64 0)] h fun nx4 vs4 h =>
q P h (binOp .lss 3 (vs4.getD 0 undef) t1) fun t7 => cnd t7 (q P h (Instr.loadAt 45 t2) fun t8 => Cn P 35 #[t8] h fun t9 h => aw P (Instr.storeAt 45 t2 t9) (fun _ h => q P h (binOp .add 3 (vs4.getD 0 undef) (Value.int .i64 1)) fun t10 => nx4 [t10] h) h) (q P h (Instr.loadAt 45 t2) fun t11 => aw P (Instr.storeAt 45 t4 t11) (fun _ h => q P h ((asAddr t4).bind (loadVar 45)) fun r0 => K r0 h) h)) h) h
theorem F_field_Elem_squares {K : Value → Hp → Prop} {h : Hp} {t0 t1 : Value} (s : s_field_Elem_squares K h t0 t1) : Cn P 41 #[t0, t1] h K :=
  Cn_ofs mixed Try.func41 (by kernel_rfl) (args := [t0, t1]) (by kernel_rfl) s
/-- function 42: (orlop.field.Elem).reduced -/
def s_field_Elem_reduced (K : Value → Hp → Prop) (h : Hp) (t0 : Value) : Prop := aw P (Instr.box 45 t0) (fun t1 h => aw P (Instr.alloc 45 true (.tuple #[])) (fun t2 h => q P h (Instr.loadAt 45 t1) fun t7 => Cn P 40 #[t7] h fun t8 h => Cn P 40 #[t8] h fun t9 h => Cn P 40 #[t9] h fun t10 h => aw P (Instr.storeAt 45 t1 t10) (fun _ h => q P h (Instr.fieldAt 45 t1 0) fun t11 => q P h (Instr.indexAt 43 t11 (Value.int .i64 0)) fun t12 => q P h (Instr.loadAt 42 t12) fun t13 => q P h (binOp .add 42 t13 (Value.int .u64 19)) fun t14 => q P h (binOp .shr 42 t14 (Value.int .u64 51)) fun t15 => 
Lp [t15, (Value.int .i64 1)] h fun nx6 vs6 h =>
q P h (binOp .lss 3 (vs6.getD 1 undef) (Value.int .i64 5)) fun t17 => cnd t17 (q P h (Instr.fieldAt 45 t1 0) fun t21 => q P h (Instr.indexAt 43 t21 (vs6.getD 1 undef)) fun t22 => q P h (Instr.loadAt 42 t22) fun t23 => q P h (binOp .add 42 t23 (vs6.getD 0 undef)) fun t25 => q P h (binOp .shr 42 t25 (Value.int .u64 51)) fun t26 => q P h (binOp .add 3 (vs6.getD 1 undef) (Value.int .i64 1)) fun t19 => nx6 [t26, t19] h) (q P h (Instr.fieldAt 45 t1 0) fun t27 => q P h (Instr.indexAt 43 t27 (Value.int .i64 0)) fun t28 => q P h (Instr.loadAt 42 t28) fun t29 => q P h (binOp .mul 42 (Value.int .u64 19) (vs6.getD 0 undef)) fun t31 => q P h (binOp .add 42 t29 t31) fun t32 => q P h (Instr.fieldAt 45 t1 0) fun t33 => q P h (Instr.indexAt 43 t33 (Value.int .i64 0)) fun t34 => aw P (Instr.storeAt 42 t34 t32) (fun _ h => 
Lp [(Value.int .u64 0), (Value.int .i64 0)] h fun nx14 vs14 h =>
q P h (binOp .lss 3 (vs14.getD 1 undef) (Value.int .i64 5)) fun t36 => cnd t36 (q P h (Instr.fieldAt 45 t1 0) fun t39 => q P h (Instr.indexAt 43 t39 (vs14.getD 1 undef)) fun t40 => q P h (Instr.loadAt 42 t40) fun t41 => q P h (binOp .add 42 t41 (vs14.getD 0 undef)) fun t43 => q P h (Instr.fieldAt 45 t1 0) fun t44 => q P h (Instr.indexAt 43 t44 (vs14.getD 1 undef)) fun t45 => aw P (Instr.storeAt 42 t45 t43) (fun _ h => q P h (Instr.fieldAt 45 t1 0) fun t47 => q P h (Instr.indexAt 43 t47 (vs14.getD 1 undef)) fun t48 => q P h (Instr.loadAt 42 t48) fun t49 => q P h (binOp .shr 42 t49 (Value.int .u64 51)) fun t50 => q P h (Instr.fieldAt 45 t1 0) fun t52 => q P h (Instr.indexAt 43 t52 (vs14.getD 1 undef)) fun t53 => q P h (Instr.loadAt 42 t53) fun t54 => q P h (binOp .and 42 t54 (Value.int .u64 2251799813685247)) fun t55 => q P h (Instr.fieldAt 45 t1 0) fun t56 => q P h (Instr.indexAt 43 t56 (vs14.getD 1 undef)) fun t57 => aw P (Instr.storeAt 42 t57 t55) (fun _ h => q P h (binOp .add 3 (vs14.getD 1 undef) (Value.int .i64 1)) fun t58 => nx14 [t50, t58] h) h) h) (q P h (Instr.loadAt 45 t1) fun t59 => aw P (Instr.storeAt 45 t2 t59) (fun _ h => q P h ((asAddr t2).bind (loadVar 45)) fun r0 => K r0 h) h)) h)) h) h) h
theorem F_field_Elem_reduced {K : Value → Hp → Prop} {h : Hp} {t0 : Value} (s : s_field_Elem_reduced K h t0) : Cn P 42 #[t0] h K :=
  Cn_ofs mixed Try.func42 (by kernel_rfl) (args := [t0]) (by kernel_rfl) s
/-- function 43: orlop.word.Put64 -/
def s_word_Put64 (K : Value → Hp → Prop) (h : Hp) (t0 : Value) : Prop := Cn P 47 #[t0, (Value.int .i64 8)] h fun t4 h => K t4 h
theorem F_word_Put64 {K : Value → Hp → Prop} {h : Hp} {t0 : Value} (s : s_word_Put64 K h t0) : Cn P 43 #[t0] h K :=
  Cn_ofs mixed Try.func43 (by kernel_rfl) (args := [t0]) (by kernel_rfl) s
/-- function 44: orlop.word.get -/
def s_word_get (K : Value → Hp → Prop) (h : Hp) (t0 t1 : Value) : Prop := 
Lp [(Value.int .u64 0), (Value.int .i64 0)] h fun nx5 vs5 h =>
q P h (binOp .lss 3 (vs5.getD 1 undef) t1) fun t9 => cnd t9 (Cn P 48 #[t0, (vs5.getD 1 undef)] h fun t14 h => q P h (binOp .mul 3 (Value.int .i64 8) (vs5.getD 1 undef)) fun t16 => q P h (binOp .shl 42 t14 t16) fun t17 => q P h (binOp .or 42 (vs5.getD 0 undef) t17) fun t18 => q P h (binOp .add 3 (vs5.getD 1 undef) (Value.int .i64 1)) fun t19 => nx5 [t18, t19] h) (K (vs5.getD 0 undef) h)
theorem F_word_get {K : Value → Hp → Prop} {h : Hp} {t0 t1 : Value} (s : s_word_get K h t0 t1) : Cn P 44 #[t0, t1] h K :=
  Cn_ofs mixed Try.func44 (by kernel_rfl) (args := [t0, t1]) (by kernel_rfl) s
/-- function 45: orlop.mac.Expand -/
def s_mac_Expand (K : Value → Hp → Prop) (h : Hp) (t0 t1 t2 : Value) : Prop := 
let J2 : Hp → Prop := fun h => 
Lp [(Value.slice none 0 0), (Value.slice none 0 0), (Value.int .i64 1)] h fun nx10 vs10 h =>
q P h (Builtin.len_ #[23] 3 #[(vs10.getD 1 undef)]) fun t18 => q P h (binOp .lss 3 t18 t2) fun t20 => cnd t20 (q P h (convert 3 5 (vs10.getD 2 undef)) fun t27 => aw P (Instr.buildSlice 23 1 #[(0, t27)]) (fun t28 h => aw P (Instr.buildSlice 70 3 #[(0, (vs10.getD 0 undef)), (1, t1), (2, t28)]) (fun t29 h => Cn P 49 #[t0, t29] h fun t30 h => aw P (Builtin.append_ #[23, 23] 23 #[(vs10.getD 1 undef), t30]) (fun t33 h => q P h (binOp .add 3 (vs10.getD 2 undef) (Value.int .i64 1)) fun t22 => nx10 [t30, t33, t22] h) h) h) h) (q P h (Instr.sliceAt 23 (vs10.getD 1 undef) none (some t2) (some t2)) fun t37 => K (Value.tuple #[t37, (Value.int .i64 0)]) h);
q P h (binOp .lss 3 t2 (Value.int .i64 0)) fun t12 => gd t12 false (q P h (binOp .gtr 3 t2 (Value.int .i64 8160)) fun t15 => cnd t15 (K (Value.tuple #[(Value.slice none 0 0), (Value.int .i64 1)]) h) (J2 h)) (cnd (Value.bool true) (K (Value.tuple #[(Value.slice none 0 0), (Value.int .i64 1)]) h) (J2 h))
theorem F_mac_Expand {K : Value → Hp → Prop} {h : Hp} {t0 t1 t2 : Value} (s : s_mac_Expand K h t0 t1 t2) : Cn P 45 #[t0, t1, t2] h K :=
  Cn_ofs mixed Try.func45 (by kernel_rfl) (args := [t0, t1, t2]) (by kernel_rfl) s
/-- function 46: orlop.mac.Extract -/
def s_mac_Extract (K : Value → Hp → Prop) (h : Hp) (t0 t1 : Value) : Prop := aw P (Instr.buildSlice 70 1 #[(0, t1)]) (fun t7 h => Cn P 49 #[t0, t7] h fun t8 h => K t8 h) h
theorem F_mac_Extract {K : Value → Hp → Prop} {h : Hp} {t0 t1 : Value} (s : s_mac_Extract K h t0 t1) : Cn P 46 #[t0, t1] h K :=
  Cn_ofs mixed Try.func46 (by kernel_rfl) (args := [t0, t1]) (by kernel_rfl) s
/-- function 47: orlop.word.little -/
def s_word_little (K : Value → Hp → Prop) (h : Hp) (t0 t1 : Value) : Prop := aw P (Instr.makeSlice 23 t1 t1) (fun t8 h => 
Lp [(Value.int .i64 0)] h fun nx5 vs5 h =>
q P h (binOp .lss 3 (vs5.getD 0 undef) t1) fun t11 => cnd t11 (q P h (binOp .mul 3 (Value.int .i64 8) (vs5.getD 0 undef)) fun t17 => q P h (binOp .shr 42 t0 t17) fun t18 => q P h (convert 42 5 t18) fun t19 => q P h (Instr.indexAt 23 t8 (vs5.getD 0 undef)) fun t20 => aw P (Instr.storeAt 5 t20 t19) (fun _ h => q P h (binOp .add 3 (vs5.getD 0 undef) (Value.int .i64 1)) fun t21 => nx5 [t21] h) h) (K t8 h)) h
theorem F_word_little {K : Value → Hp → Prop} {h : Hp} {t0 t1 : Value} (s : s_word_little K h t0 t1) : Cn P 47 #[t0, t1] h K :=
  Cn_ofs mixed Try.func47 (by kernel_rfl) (args := [t0, t1]) (by kernel_rfl) s
/-- function 48: orlop.word.at -/
def s_word_at (K : Value → Hp → Prop) (h : Hp) (t0 t1 : Value) : Prop := q P h (Builtin.len_ #[23] 3 #[t0]) fun t7 => q P h (binOp .lss 3 t1 t7) fun t8 => cnd t8 (q P h (Instr.indexAt 23 t0 t1) fun t11 => q P h (Instr.loadAt 5 t11) fun t12 => q P h (convert 5 42 t12) fun t13 => K t13 h) (K (Value.int .u64 0) h)
theorem F_word_at {K : Value → Hp → Prop} {h : Hp} {t0 t1 : Value} (s : s_word_at K h t0 t1) : Cn P 48 #[t0, t1] h K :=
  Cn_ofs mixed Try.func48 (by kernel_rfl) (args := [t0, t1]) (by kernel_rfl) s
/-- function 49: orlop.mac.code -/
def s_mac_code (K : Value → Hp → Prop) (h : Hp) (t0 t1 : Value) : Prop := aw P (Instr.box 23 t0) (fun t2 h => 
let J2 : Hp → Prop := fun h => callP P (Value.func (.func 51) #[] #[t2]) [(Value.int .u8 54)] h fun t14 h => aw P (Instr.buildSlice 70 1 #[(0, t14)]) (fun t15 h => aw P (Builtin.append_ #[70, 70] 70 #[t15, t1]) (fun t17 h => Cn P 52 #[t17] h fun t18 h => callP P (Value.func (.func 51) #[] #[t2]) [(Value.int .u8 92)] h fun t20 h => aw P (Instr.buildSlice 70 2 #[(0, t20), (1, t18)]) (fun t22 h => Cn P 52 #[t22] h fun t23 h => K t23 h) h) h) h;
q P h (Instr.loadAt 23 t2) fun t7 => q P h (Builtin.len_ #[23] 3 #[t7]) fun t8 => q P h (binOp .gtr 3 t8 (Value.int .i64 64)) fun t9 => cnd t9 (q P h (Instr.loadAt 23 t2) fun t10 => Cn P 50 #[t10] h fun t11 h => aw P (Instr.storeAt 23 t2 t11) (fun _ h => J2 h) h) (J2 h)) h
theorem F_mac_code {K : Value → Hp → Prop} {h : Hp} {t0 t1 : Value} (s : s_mac_code K h t0 t1) : Cn P 49 #[t0, t1] h K :=
  Cn_ofs mixed Try.func49 (by kernel_rfl) (args := [t0, t1]) (by kernel_rfl) s
/-- function 50: orlop.sha.Of -/
def s_sha_Of (K : Value → Hp → Prop) (h : Hp) (t0 : Value) : Prop := Cn P 53 #[] h fun t4 h => Cn P 54 #[t4, t0] h fun t7 h => Cn P 55 #[t4] h fun t9 h => K t9 h
theorem F_sha_Of {K : Value → Hp → Prop} {h : Hp} {t0 : Value} (s : s_sha_Of K h t0) : Cn P 50 #[t0] h K :=
  Cn_ofs mixed Try.func50 (by kernel_rfl) (args := [t0]) (by kernel_rfl) s
/-- function 51: orlop.mac.code$1 -/
def s_mac_code_1 (K : Value → Hp → Prop) (h : Hp) (t0 t1 : Value) : Prop := aw P (Instr.makeSlice 23 (Value.int .i64 64) (Value.int .i64 64)) (fun t6 h => q P h (Instr.loadAt 23 t1) fun t8 => aw P (Builtin.copy_ #[23, 23] 3 #[t6, t8]) (fun t9 h => q P h (Builtin.len_ #[23] 3 #[t6]) fun t11 => 
Lp [(Value.int .i64 0)] h fun nx6 vs6 h =>
q P h (binOp .lss 3 (vs6.getD 0 undef) t11) fun t13 => cnd t13 (q P h (Instr.indexAt 23 t6 (vs6.getD 0 undef)) fun t17 => q P h (Instr.loadAt 5 t17) fun t18 => q P h (binOp .xor 5 t18 t0) fun t20 => q P h (Instr.indexAt 23 t6 (vs6.getD 0 undef)) fun t21 => aw P (Instr.storeAt 5 t21 t20) (fun _ h => q P h (binOp .add 3 (vs6.getD 0 undef) (Value.int .i64 1)) fun t22 => nx6 [t22] h) h) (K t6 h)) h) h
theorem F_mac_code_1 {K : Value → Hp → Prop} {h : Hp} {t0 t1 : Value} (s : s_mac_code_1 K h t0 t1) : Cn P 51 #[t0, t1] h K :=
  Cn_ofs mixed Try.func51 (by kernel_rfl) (args := [t0, t1]) (by kernel_rfl) s
/-- function 52: orlop.mac.digest -/
def s_mac_digest (K : Value → Hp → Prop) (h : Hp) (t0 : Value) : Prop := Cn P 53 #[] h fun t6 h => q P h (Builtin.len_ #[70] 3 #[t0]) fun t8 => 
Lp [(Value.int .i64 0)] h fun nx5 vs5 h =>
q P h (binOp .lss 3 (vs5.getD 0 undef) t8) fun t10 => cnd t10 (q P h (Instr.indexAt 70 t0 (vs5.getD 0 undef)) fun t11 => q P h (Instr.loadAt 23 t11) fun t12 => Cn P 54 #[t6, t12] h fun t15 h => q P h (binOp .add 3 (vs5.getD 0 undef) (Value.int .i64 1)) fun t16 => nx5 [t16] h) (Cn P 55 #[t6] h fun t18 h => K t18 h)
theorem F_mac_digest {K : Value → Hp → Prop} {h : Hp} {t0 : Value} (s : s_mac_digest K h t0) : Cn P 52 #[t0] h K :=
  Cn_ofs mixed Try.func52 (by kernel_rfl) (args := [t0]) (by kernel_rfl) s
/-- function 53: orlop.sha.New -/
def s_sha_New (K : Value → Hp → Prop) (h : Hp) : Prop := Cn P 56 #[] h fun t1 h => Cn P 57 #[] h fun t2 h => q P h (Instr.build 102 #[(0, t1), (1, t2)]) fun t3 => aw P (Instr.box 102 t3) (fun t4 h => K t4 h) h
theorem F_sha_New {K : Value → Hp → Prop} {h : Hp} (s : s_sha_New K h) : Cn P 53 #[] h K :=
  Cn_ofs mixed Try.func53 (by kernel_rfl) (args := []) (by kernel_rfl) s
/-- function 54: (*orlop.sha.Hash).Add -/
def s_sha_Hash_Add (K : Value → Hp → Prop) (h : Hp) (t0 t1 : Value) : Prop := q P h (nilCk t0) fun t6 => q P h (Instr.fieldAt 102 t6 4) fun t7 => q P h (Instr.loadAt 42 t7) fun t8 => q P h (Builtin.len_ #[23] 3 #[t1]) fun t10 => q P h (convert 3 42 t10) fun t11 => q P h (binOp .add 42 t8 t11) fun t12 => q P h (nilCk t0) fun t13 => q P h (Instr.fieldAt 102 t13 4) fun t14 => aw P (Instr.storeAt 42 t14 t12) (fun _ h => 
Lp [t1] h fun nx2 vs2 h =>
q P h (Builtin.len_ #[23] 3 #[(vs2.getD 0 undef)]) fun t16 => q P h (binOp .gtr 3 t16 (Value.int .i64 0)) fun t17 => cnd t17 (q P emp (nilCk t0) fun t19 => q P h (Instr.fieldAt 102 t19 2) fun t20 => q P emp (nilCk t0) fun t22 => q P h (Instr.fieldAt 102 t22 3) fun t23 => q P h (Instr.loadAt 3 t23) fun t24 => q P h (Instr.sliceAt 100 t20 (some t24) none none) fun t25 => aw P (Builtin.copy_ #[23, 23] 3 #[t25, (vs2.getD 0 undef)]) (fun t27 h => q P h (nilCk t0) fun t29 => q P h (Instr.fieldAt 102 t29 3) fun t30 => q P h (Instr.loadAt 3 t30) fun t31 => q P h (binOp .add 3 t31 t27) fun t33 => q P h (nilCk t0) fun t34 => q P h (Instr.fieldAt 102 t34 3) fun t35 => aw P (Instr.storeAt 3 t35 t33) (fun _ h => q P h (Instr.sliceAt 23 (vs2.getD 0 undef) (some t27) none none) fun t38 => q P h (nilCk t0) fun t40 => q P h (Instr.fieldAt 102 t40 3) fun t41 => q P h (Instr.loadAt 3 t41) fun t42 => q P h (eqop .eql 3 (.tmp 42) (.const (Value.int .i64 64)) t42 (Value.int .i64 64)) fun t43 => cnd t43 (q P h (nilCk t0) fun t46 => q P h (Instr.fieldAt 102 t46 2) fun t47 => q P h (Instr.sliceAt 100 t47 none none none) fun t48 => Cn P 58 #[t0, t48] h fun t49 h => q P h (nilCk t0) fun t51 => q P h (Instr.fieldAt 102 t51 3) fun t52 => aw P (Instr.storeAt 3 t52 (Value.int .i64 0)) (fun _ h => nx2 [t38] h) h) (nx2 [t38] h)) h) h) (K (Value.tuple #[]) h)) h
theorem F_sha_Hash_Add {K : Value → Hp → Prop} {h : Hp} {t0 t1 : Value} (s : s_sha_Hash_Add K h t0 t1) : Cn P 54 #[t0, t1] h K :=
  Cn_ofs mixed Try.func54 (by kernel_rfl) (args := [t0, t1]) (by kernel_rfl) s
/-- function 55: (*orlop.sha.Hash).Sum -/
def s_sha_Hash_Sum (K : Value → Hp → Prop) (h : Hp) (t0 : Value) : Prop := q P h (nilCk t0) fun t9 => q P h (Instr.loadAt 102 t9) fun t10 => aw P (Instr.alloc 102 true (.tuple #[])) (fun t3 h => aw P (Instr.storeAt 102 t3 t10) (fun _ h => q P h (nilCk t0) fun t12 => q P h (Instr.fieldAt 102 t12 3) fun t13 => q P h (Instr.loadAt 3 t13) fun t14 => q P h (binOp .sub 3 (Value.int .i64 119) t14) fun t15 => q P h (binOp .rem 3 t15 (Value.int .i64 64)) fun t16 => q P h (binOp .add 3 (Value.int .i64 1) t16) fun t17 => aw P (Instr.makeSlice 23 t17 t17) (fun t18 h => q P h (Instr.indexAt 23 t18 (Value.int .i64 0)) fun t20 => aw P (Instr.storeAt 5 t20 (Value.int .u8 128)) (fun _ h => Cn P 54 #[t3, t18] h fun t22 h => q P h (nilCk t0) fun t24 => q P h (Instr.fieldAt 102 t24 4) fun t25 => q P h (Instr.loadAt 42 t25) fun t26 => q P h (binOp .mul 42 (Value.int .u64 8) t26) fun t27 => Cn P 59 #[t27] h fun t28 h => Cn P 54 #[t3, t28] h fun t29 h => q P h (Instr.fieldAt 102 t3 0) fun t30 => q P h (Instr.loadAt 96 t30) fun t31 => 
Lp [(Value.slice none 0 0), (Value.int .i64 0)] h fun nx10 vs10 h =>
q P h (binOp .lss 3 (vs10.getD 1 undef) (Value.int .i64 8)) fun t33 => cnd t33 (q P h (Instr.index 96 t31 (vs10.getD 1 undef)) fun t34 => Cn P 60 #[t34] h fun t37 h => aw P (Builtin.append_ #[23, 23] 23 #[(vs10.getD 0 undef), t37]) (fun t38 h => q P h (binOp .add 3 (vs10.getD 1 undef) (Value.int .i64 1)) fun t39 => nx10 [t38, t39] h) h) (K (vs10.getD 0 undef) h)) h) h) h) h
theorem F_sha_Hash_Sum {K : Value → Hp → Prop} {h : Hp} {t0 : Value} (s : s_sha_Hash_Sum K h t0) : Cn P 55 #[t0] h K :=
  Cn_ofs mixed Try.func55 (by kernel_rfl) (args := [t0]) (by kernel_rfl) s
/-- function 56: orlop.sha.beginning -/
def s_sha_beginning (K : Value → Hp → Prop) (h : Hp) : Prop := aw P (Instr.alloc 96 true (.tuple #[])) (fun t0 h => q P h (Instr.build 96 #[(0, (Value.int .u32 1779033703)), (1, (Value.int .u32 3144134277)), (2, (Value.int .u32 1013904242)), (3, (Value.int .u32 2773480762)), (4, (Value.int .u32 1359893119)), (5, (Value.int .u32 2600822924)), (6, (Value.int .u32 528734635)), (7, (Value.int .u32 1541459225))]) fun t1 => aw P (Instr.storeAt 96 t0 t1) (fun _ h => q P h ((asAddr t0).bind (loadVar 96)) fun r0 => K r0 h) h) h
theorem F_sha_beginning {K : Value → Hp → Prop} {h : Hp} (s : s_sha_beginning K h) : Cn P 56 #[] h K :=
  Cn_ofs mixed Try.func56 (by kernel_rfl) (args := []) (by kernel_rfl) s
/-- function 57: orlop.sha.constants -/
def s_sha_constants (K : Value → Hp → Prop) (h : Hp) : Prop := aw P (Instr.alloc 98 true (.tuple #[])) (fun t0 h => q P h (Instr.build 98 #[(0, (Value.int .u32 1116352408)), (1, (Value.int .u32 1899447441)), (2, (Value.int .u32 3049323471)), (3, (Value.int .u32 3921009573)), (4, (Value.int .u32 961987163)), (5, (Value.int .u32 1508970993)), (6, (Value.int .u32 2453635748)), (7, (Value.int .u32 2870763221)), (8, (Value.int .u32 3624381080)), (9, (Value.int .u32 310598401)), (10, (Value.int .u32 607225278)), (11, (Value.int .u32 1426881987)), (12, (Value.int .u32 1925078388)), (13, (Value.int .u32 2162078206)), (14, (Value.int .u32 2614888103)), (15, (Value.int .u32 3248222580)), (16, (Value.int .u32 3835390401)), (17, (Value.int .u32 4022224774)), (18, (Value.int .u32 264347078)), (19, (Value.int .u32 604807628)), (20, (Value.int .u32 770255983)), (21, (Value.int .u32 1249150122)), (22, (Value.int .u32 1555081692)), (23, (Value.int .u32 1996064986)), (24, (Value.int .u32 2554220882)), (25, (Value.int .u32 2821834349)), (26, (Value.int .u32 2952996808)), (27, (Value.int .u32 3210313671)), (28, (Value.int .u32 3336571891)), (29, (Value.int .u32 3584528711)), (30, (Value.int .u32 113926993)), (31, (Value.int .u32 338241895)), (32, (Value.int .u32 666307205)), (33, (Value.int .u32 773529912)), (34, (Value.int .u32 1294757372)), (35, (Value.int .u32 1396182291)), (36, (Value.int .u32 1695183700)), (37, (Value.int .u32 1986661051)), (38, (Value.int .u32 2177026350)), (39, (Value.int .u32 2456956037)), (40, (Value.int .u32 2730485921)), (41, (Value.int .u32 2820302411)), (42, (Value.int .u32 3259730800)), (43, (Value.int .u32 3345764771)), (44, (Value.int .u32 3516065817)), (45, (Value.int .u32 3600352804)), (46, (Value.int .u32 4094571909)), (47, (Value.int .u32 275423344)), (48, (Value.int .u32 430227734)), (49, (Value.int .u32 506948616)), (50, (Value.int .u32 659060556)), (51, (Value.int .u32 883997877)), (52, (Value.int .u32 958139571)), (53, (Value.int .u32 1322822218)), (54, (Value.int .u32 1537002063)), (55, (Value.int .u32 1747873779)), (56, (Value.int .u32 1955562222)), (57, (Value.int .u32 2024104815)), (58, (Value.int .u32 2227730452)), (59, (Value.int .u32 2361852424)), (60, (Value.int .u32 2428436474)), (61, (Value.int .u32 2756734187)), (62, (Value.int .u32 3204031479)), (63, (Value.int .u32 3329325298))]) fun t1 => aw P (Instr.storeAt 98 t0 t1) (fun _ h => q P h ((asAddr t0).bind (loadVar 98)) fun r0 => K r0 h) h) h
theorem F_sha_constants {K : Value → Hp → Prop} {h : Hp} (s : s_sha_constants K h) : Cn P 57 #[] h K :=
  Cn_ofs mixed Try.func57 (by kernel_rfl) (args := []) (by kernel_rfl) s
/-- function 58: (*orlop.sha.Hash).block -/
def s_sha_Hash_block (K : Value → Hp → Prop) (h : Hp) (t0 t1 : Value) : Prop := Cn P 61 #[t1] h fun t14 h => aw P (Instr.alloc 98 true (.tuple #[])) (fun t4 h => aw P (Instr.storeAt 98 t4 t14) (fun _ h => q P h (nilCk t0) fun t16 => q P h (Instr.fieldAt 102 t16 0) fun t17 => q P h (Instr.loadAt 96 t17) fun t18 => aw P (Instr.alloc 96 true (.tuple #[])) (fun t5 h => aw P (Instr.storeAt 96 t5 t18) (fun _ h => 
Lp [(Value.int .i64 0)] h fun nx5 vs5 h =>
q P h (binOp .lss 3 (vs5.getD 0 undef) (Value.int .i64 64)) fun t20 => cnd t20 (q P emp (Instr.indexAt 96 t5 (Value.int .i64 0)) fun t22 => q P h (Instr.loadAt 75 t22) fun t23 => q P emp (Instr.indexAt 96 t5 (Value.int .i64 4)) fun t24 => q P h (Instr.loadAt 75 t24) fun t25 => Cn P 62 #[t25, (Value.int .i64 (-6))] h fun t27 h => Cn P 62 #[t25, (Value.int .i64 (-11))] h fun t29 h => q P h (binOp .xor 75 t27 t29) fun t30 => Cn P 62 #[t25, (Value.int .i64 (-25))] h fun t32 h => q P h (binOp .xor 75 t30 t32) fun t33 => q P emp (Instr.indexAt 96 t5 (Value.int .i64 7)) fun t34 => q P h (Instr.loadAt 75 t34) fun t35 => q P emp (binOp .add 75 t35 t33) fun t37 => q P emp (Instr.indexAt 96 t5 (Value.int .i64 5)) fun t39 => q P h (Instr.loadAt 75 t39) fun t40 => q P emp (binOp .and 75 t25 t40) fun t41 => q P emp (Op.unary .xor t25) fun t43 => q P emp (Instr.indexAt 96 t5 (Value.int .i64 6)) fun t44 => q P h (Instr.loadAt 75 t44) fun t45 => q P emp (binOp .and 75 t43 t45) fun t46 => q P emp (binOp .xor 75 t41 t46) fun t47 => q P emp (binOp .add 75 t37 t47) fun t48 => q P emp (nilCk t0) fun t51 => q P h (Instr.fieldAt 102 t51 1) fun t52 => q P emp (Instr.indexAt 98 t52 (vs5.getD 0 undef)) fun t53 => q P h (Instr.loadAt 75 t53) fun t54 => q P emp (binOp .add 75 t48 t54) fun t55 => q P emp (Instr.indexAt 98 t4 (vs5.getD 0 undef)) fun t57 => q P h (Instr.loadAt 75 t57) fun t58 => q P emp (binOp .add 75 t55 t58) fun t59 => Cn P 62 #[t23, (Value.int .i64 (-2))] h fun t61 h => Cn P 62 #[t23, (Value.int .i64 (-13))] h fun t63 h => q P h (binOp .xor 75 t61 t63) fun t64 => Cn P 62 #[t23, (Value.int .i64 (-22))] h fun t66 h => q P h (binOp .xor 75 t64 t66) fun t67 => q P h (Instr.indexAt 96 t5 (Value.int .i64 1)) fun t70 => q P h (Instr.loadAt 75 t70) fun t71 => q P h (binOp .and 75 t23 t71) fun t72 => q P h (Instr.indexAt 96 t5 (Value.int .i64 2)) fun t74 => q P h (Instr.loadAt 75 t74) fun t75 => q P h (binOp .and 75 t23 t75) fun t76 => q P h (binOp .xor 75 t72 t76) fun t77 => q P h (Instr.indexAt 96 t5 (Value.int .i64 1)) fun t78 => q P h (Instr.loadAt 75 t78) fun t79 => q P h (Instr.indexAt 96 t5 (Value.int .i64 2)) fun t80 => q P h (Instr.loadAt 75 t80) fun t81 => q P h (binOp .and 75 t79 t81) fun t82 => q P h (binOp .xor 75 t77 t82) fun t83 => q P h (binOp .add 75 t67 t83) fun t84 => q P h (Instr.sliceAt 96 t5 (some (Value.int .i64 1)) none none) fun t85 => q P h (Instr.sliceAt 96 t5 none (some (Value.int .i64 7)) none) fun t86 => aw P (Builtin.copy_ #[106, 106] 3 #[t85, t86]) (fun t87 h => q P h (Instr.indexAt 96 t5 (Value.int .i64 4)) fun t88 => q P h (Instr.loadAt 75 t88) fun t89 => q P h (binOp .add 75 t89 t59) fun t91 => q P h (Instr.indexAt 96 t5 (Value.int .i64 4)) fun t92 => aw P (Instr.storeAt 75 t92 t91) (fun _ h => q P h (binOp .add 75 t59 t84) fun t95 => q P h (Instr.indexAt 96 t5 (Value.int .i64 0)) fun t96 => aw P (Instr.storeAt 75 t96 t95) (fun _ h => q P h (binOp .add 3 (vs5.getD 0 undef) (Value.int .i64 1)) fun t97 => nx5 [t97] h) h) h) h) (
Lp [(Value.int .i64 0)] h fun nx18 vs18 h =>
q P h (binOp .lss 3 (vs18.getD 0 undef) (Value.int .i64 8)) fun t99 => cnd t99 (q P emp (nilCk t0) fun t103 => q P h (Instr.fieldAt 102 t103 0) fun t104 => q P emp (Instr.indexAt 96 t104 (vs18.getD 0 undef)) fun t105 => q P h (Instr.loadAt 75 t105) fun t106 => q P emp (Instr.indexAt 96 t5 (vs18.getD 0 undef)) fun t108 => q P h (Instr.loadAt 75 t108) fun t109 => q P emp (binOp .add 75 t106 t109) fun t110 => q P emp (nilCk t0) fun t111 => q P h (Instr.fieldAt 102 t111 0) fun t112 => q P emp (Instr.indexAt 96 t112 (vs18.getD 0 undef)) fun t113 => aw P (Instr.storeAt 75 t113 t110) (fun _ h => q P h (binOp .add 3 (vs18.getD 0 undef) (Value.int .i64 1)) fun t114 => nx18 [t114] h) h) (K (Value.tuple #[]) h))) h) h) h) h
theorem F_sha_Hash_block {K : Value → Hp → Prop} {h : Hp} {t0 t1 : Value} (s : s_sha_Hash_block K h t0 t1) : Cn P 58 #[t0, t1] h K :=
  Cn_ofs mixed Try.func58 (by kernel_rfl) (args := [t0, t1]) (by kernel_rfl) s
/-- function 59: orlop.word.Big64 -/
def s_word_Big64 (K : Value → Hp → Prop) (h : Hp) (t0 : Value) : Prop := Cn P 63 #[t0, (Value.int .i64 8)] h fun t4 h => K t4 h
theorem F_word_Big64 {K : Value → Hp → Prop} {h : Hp} {t0 : Value} (s : s_word_Big64 K h t0) : Cn P 59 #[t0] h K :=
  Cn_ofs mixed Try.func59 (by kernel_rfl) (args := [t0]) (by kernel_rfl) s
/-- function 60: orlop.word.Big32 -/
def s_word_Big32 (K : Value → Hp → Prop) (h : Hp) (t0 : Value) : Prop := q P h (convert 75 42 t0) fun t4 => Cn P 63 #[t4, (Value.int .i64 4)] h fun t5 h => K t5 h
theorem F_word_Big32 {K : Value → Hp → Prop} {h : Hp} {t0 : Value} (s : s_word_Big32 K h t0) : Cn P 60 #[t0] h K :=
  Cn_ofs mixed Try.func60 (by kernel_rfl) (args := [t0]) (by kernel_rfl) s
/-- function 61: orlop.sha.schedule -/
def s_sha_schedule (K : Value → Hp → Prop) (h : Hp) (t0 : Value) : Prop := aw P (Instr.alloc 98 true (.tuple #[])) (fun t2 h => aw P (Instr.alloc 98 true (.tuple #[])) (fun t3 h => 
Lp [(Value.int .i64 0)] h fun nx5 vs5 h =>
q P h (binOp .lss 3 (vs5.getD 0 undef) (Value.int .i64 16)) fun t11 => cnd t11 (q P h (binOp .mul 3 (Value.int .i64 4) (vs5.getD 0 undef)) fun t16 => q P h (binOp .mul 3 (Value.int .i64 4) (vs5.getD 0 undef)) fun t18 => q P h (binOp .add 3 t18 (Value.int .i64 4)) fun t19 => q P h (Instr.sliceAt 23 t0 (some t16) (some t19) none) fun t20 => Cn P 64 #[t20] h fun t21 h => q P h (Instr.indexAt 98 t3 (vs5.getD 0 undef)) fun t22 => aw P (Instr.storeAt 75 t22 t21) (fun _ h => q P h (binOp .add 3 (vs5.getD 0 undef) (Value.int .i64 1)) fun t23 => nx5 [t23] h) h) (
Lp [(Value.int .i64 16)] h fun nx12 vs12 h =>
q P h (binOp .lss 3 (vs12.getD 0 undef) (Value.int .i64 64)) fun t25 => cnd t25 (q P emp (binOp .sub 3 (vs12.getD 0 undef) (Value.int .i64 15)) fun t29 => q P emp (Instr.indexAt 98 t3 t29) fun t30 => q P h (Instr.loadAt 75 t30) fun t31 => q P emp (binOp .sub 3 (vs12.getD 0 undef) (Value.int .i64 2)) fun t33 => q P emp (Instr.indexAt 98 t3 t33) fun t34 => q P h (Instr.loadAt 75 t34) fun t35 => Cn P 62 #[t31, (Value.int .i64 (-7))] h fun t37 h => Cn P 62 #[t31, (Value.int .i64 (-18))] h fun t39 h => q P h (binOp .xor 75 t37 t39) fun t40 => q P h (binOp .shr 75 t31 (Value.int .u64 3)) fun t42 => q P h (binOp .xor 75 t40 t42) fun t43 => Cn P 62 #[t35, (Value.int .i64 (-17))] h fun t45 h => Cn P 62 #[t35, (Value.int .i64 (-19))] h fun t47 h => q P h (binOp .xor 75 t45 t47) fun t48 => q P h (binOp .shr 75 t35 (Value.int .u64 10)) fun t50 => q P h (binOp .xor 75 t48 t50) fun t51 => q P emp (binOp .sub 3 (vs12.getD 0 undef) (Value.int .i64 16)) fun t54 => q P emp (Instr.indexAt 98 t3 t54) fun t55 => q P h (Instr.loadAt 75 t55) fun t56 => q P emp (binOp .add 75 t56 t43) fun t58 => q P emp (binOp .sub 3 (vs12.getD 0 undef) (Value.int .i64 7)) fun t60 => q P emp (Instr.indexAt 98 t3 t60) fun t61 => q P h (Instr.loadAt 75 t61) fun t62 => q P emp (binOp .add 75 t58 t62) fun t63 => q P emp (binOp .add 75 t63 t51) fun t65 => q P emp (Instr.indexAt 98 t3 (vs12.getD 0 undef)) fun t66 => aw P (Instr.storeAt 75 t66 t65) (fun _ h => q P h (binOp .add 3 (vs12.getD 0 undef) (Value.int .i64 1)) fun t27 => nx12 [t27] h) h) (q P h (Instr.loadAt 98 t3) fun t67 => aw P (Instr.storeAt 98 t2 t67) (fun _ h => q P h ((asAddr t2).bind (loadVar 98)) fun r0 => K r0 h) h))) h) h
theorem F_sha_schedule {K : Value → Hp → Prop} {h : Hp} {t0 : Value} (s : s_sha_schedule K h t0) : Cn P 61 #[t0] h K :=
  Cn_ofs mixed Try.func61 (by kernel_rfl) (args := [t0]) (by kernel_rfl) s
/-- function 62: math.bits.RotateLeft32 -/
def s_bits_RotateLeft32 (K : Value → Hp → Prop) (h : Hp) (t0 t1 : Value) : Prop := q P h (convert 3 82 t1) fun t7 => q P h (binOp .and 82 t7 (Value.int .u64 31)) fun t8 => q P h (binOp .shl 75 t0 t8) fun t11 => q P h (binOp .sub 82 (Value.int .u64 32) t8) fun t14 => q P h (binOp .shr 75 t0 t14) fun t15 => q P h (binOp .or 75 t11 t15) fun t16 => K t16 h
theorem F_bits_RotateLeft32 {K : Value → Hp → Prop} {h : Hp} {t0 t1 : Value} (s : s_bits_RotateLeft32 K h t0 t1) : Cn P 62 #[t0, t1] h K :=
  Cn_ofs mixed Try.func62 (by kernel_rfl) (args := [t0, t1]) (by kernel_rfl) s
/-- function 63: orlop.word.big -/
def s_word_big (K : Value → Hp → Prop) (h : Hp) (t0 t1 : Value) : Prop := aw P (Instr.makeSlice 23 t1 t1) (fun t8 h => 
Lp [(Value.int .i64 0)] h fun nx5 vs5 h =>
q P h (binOp .lss 3 (vs5.getD 0 undef) t1) fun t11 => cnd t11 (q P h (binOp .sub 3 t1 (Value.int .i64 1)) fun t15 => q P h (binOp .sub 3 t15 (vs5.getD 0 undef)) fun t17 => q P h (binOp .mul 3 (Value.int .i64 8) (vs5.getD 0 undef)) fun t20 => q P h (binOp .shr 42 t0 t20) fun t21 => q P h (convert 42 5 t21) fun t22 => q P h (Instr.indexAt 23 t8 t17) fun t23 => aw P (Instr.storeAt 5 t23 t22) (fun _ h => q P h (binOp .add 3 (vs5.getD 0 undef) (Value.int .i64 1)) fun t24 => nx5 [t24] h) h) (K t8 h)) h
theorem F_word_big {K : Value → Hp → Prop} {h : Hp} {t0 t1 : Value} (s : s_word_big K h t0 t1) : Cn P 63 #[t0, t1] h K :=
  Cn_ofs mixed Try.func63 (by kernel_rfl) (args := [t0, t1]) (by kernel_rfl) s
/-- function 64: orlop.word.GetBig32 -/
def s_word_GetBig32 (K : Value → Hp → Prop) (h : Hp) (t0 : Value) : Prop := Cn P 65 #[t0, (Value.int .i64 4)] h fun t4 h => q P h (convert 42 75 t4) fun t5 => K t5 h
theorem F_word_GetBig32 {K : Value → Hp → Prop} {h : Hp} {t0 : Value} (s : s_word_GetBig32 K h t0) : Cn P 64 #[t0] h K :=
  Cn_ofs mixed Try.func64 (by kernel_rfl) (args := [t0]) (by kernel_rfl) s
/-- function 65: orlop.word.getBig -/
def s_word_getBig (K : Value → Hp → Prop) (h : Hp) (t0 t1 : Value) : Prop := 
Lp [(Value.int .u64 0), (Value.int .i64 0)] h fun nx5 vs5 h =>
q P h (binOp .lss 3 (vs5.getD 1 undef) t1) fun t9 => cnd t9 (q P h (binOp .shl 42 (vs5.getD 0 undef) (Value.int .u64 8)) fun t12 => Cn P 48 #[t0, (vs5.getD 1 undef)] h fun t15 h => q P h (binOp .or 42 t12 t15) fun t16 => q P h (binOp .add 3 (vs5.getD 1 undef) (Value.int .i64 1)) fun t17 => nx5 [t16, t17] h) (K (vs5.getD 0 undef) h)
theorem F_word_getBig {K : Value → Hp → Prop} {h : Hp} {t0 t1 : Value} (s : s_word_getBig K h t0 t1) : Cn P 65 #[t0, t1] h K :=
  Cn_ofs mixed Try.func65 (by kernel_rfl) (args := [t0, t1]) (by kernel_rfl) s
/-- function 81: (orlop.crypt.actual).Open -/
def s_crypt_actual_Open (K : Value → Hp → Prop) (h : Hp) (t0 t1 t2 t3 t4 : Value) : Prop := aw P (Instr.box 40 t0) (fun t5 h => Cn P 84 #[t1, t2, t3, t4] h fun t16 h => q P h (Instr.extract t16 0) fun t17 => q P h (Instr.extract t16 1) fun t18 => K (Value.tuple #[t17, t18]) h) h
theorem F_crypt_actual_Open {K : Value → Hp → Prop} {h : Hp} {t0 t1 t2 t3 t4 : Value} (s : s_crypt_actual_Open K h t0 t1 t2 t3 t4) : Cn P 81 #[t0, t1, t2, t3, t4] h K :=
  Cn_ofs mixed Try.func81 (by kernel_rfl) (args := [t0, t1, t2, t3, t4]) (by kernel_rfl) s
/-- function 82: (orlop.crypt.actual).Seal -/
def s_crypt_actual_Seal (K : Value → Hp → Prop) (h : Hp) (t0 t1 t2 t3 t4 : Value) : Prop := aw P (Instr.box 40 t0) (fun t5 h => Cn P 85 #[t1, t2, t3, t4] h fun t16 h => q P h (Instr.extract t16 0) fun t17 => q P h (Instr.extract t16 1) fun t18 => K (Value.tuple #[t17, t18]) h) h
theorem F_crypt_actual_Seal {K : Value → Hp → Prop} {h : Hp} {t0 t1 t2 t3 t4 : Value} (s : s_crypt_actual_Seal K h t0 t1 t2 t3 t4) : Cn P 82 #[t0, t1, t2, t3, t4] h K :=
  Cn_ofs mixed Try.func82 (by kernel_rfl) (args := [t0, t1, t2, t3, t4]) (by kernel_rfl) s
/-- function 84: orlop.aead.Open -/
def s_aead_Open (K : Value → Hp → Prop) (h : Hp) (t0 t1 t2 t3 : Value) : Prop := Cn P 86 #[t0, t1, (Value.int .u32 1), (Value.slice none 0 0)] h fun t18 h => q P h (Instr.extract t18 0) fun t19 => q P h (Instr.extract t18 1) fun t20 => q P h (eqop .neq 30 (.tmp 21) (.const (Value.int .i64 0)) t20 (Value.int .i64 0)) fun t22 => cnd t22 (K (Value.tuple #[(Value.slice none 0 0), t20]) h) (q P h (Builtin.len_ #[23] 3 #[t3]) fun t25 => q P h (binOp .sub 3 t25 (Value.int .i64 16)) fun t26 => q P h (binOp .lss 3 t26 (Value.int .i64 0)) fun t28 => cnd t28 (K (Value.tuple #[(Value.slice none 0 0), (Value.int .i64 8)]) h) (q P h (Instr.sliceAt 23 t3 none (some t26) none) fun t35 => Cn P 87 #[t0, t1, t2, t35] h fun t36 h => q P h (Instr.extract t36 0) fun t37 => q P h (Instr.extract t36 1) fun t38 => q P h (Instr.sliceAt 23 t3 (some t26) none none) fun t42 => Cn P 22 #[t37, t42] h fun t43 h => q P h (Op.unary .not t43) fun t44 => cnd t44 (K (Value.tuple #[(Value.slice none 0 0), (Value.int .i64 7)]) h) (q P h (Instr.sliceAt 23 t3 none (some t26) none) fun t49 => Cn P 86 #[t0, t1, (Value.int .u32 1), t49] h fun t50 h => q P h (Instr.extract t50 0) fun t51 => q P h (Instr.extract t50 1) fun t52 => K (Value.tuple #[t51, t52]) h)))
theorem F_aead_Open {K : Value → Hp → Prop} {h : Hp} {t0 t1 t2 t3 : Value} (s : s_aead_Open K h t0 t1 t2 t3) : Cn P 84 #[t0, t1, t2, t3] h K :=
  Cn_ofs mixed Try.func84 (by kernel_rfl) (args := [t0, t1, t2, t3]) (by kernel_rfl) s
/-- function 85: orlop.aead.Seal -/
def s_aead_Seal (K : Value → Hp → Prop) (h : Hp) (t0 t1 t2 t3 : Value) : Prop := Cn P 86 #[t0, t1, (Value.int .u32 1), t3] h fun t17 h => q P h (Instr.extract t17 0) fun t18 => q P h (Instr.extract t17 1) fun t19 => q P h (eqop .neq 30 (.tmp 20) (.const (Value.int .i64 0)) t19 (Value.int .i64 0)) fun t21 => cnd t21 (K (Value.tuple #[(Value.slice none 0 0), t19]) h) (Cn P 87 #[t0, t1, t2, t18] h fun t28 h => q P h (Instr.extract t28 0) fun t29 => q P h (Instr.extract t28 1) fun t30 => q P h (eqop .neq 30 (.tmp 31) (.const (Value.int .i64 0)) t30 (Value.int .i64 0)) fun t32 => cnd t32 (K (Value.tuple #[(Value.slice none 0 0), t30]) h) (aw P (Instr.buildSlice 70 2 #[(0, t18), (1, t29)]) (fun t36 h => Cn P 20 #[t36] h fun t37 h => K (Value.tuple #[t37, (Value.int .i64 0)]) h) h))
theorem F_aead_Seal {K : Value → Hp → Prop} {h : Hp} {t0 t1 t2 t3 : Value} (s : s_aead_Seal K h t0 t1 t2 t3) : Cn P 85 #[t0, t1, t2, t3] h K :=
  Cn_ofs mixed Try.func85 (by kernel_rfl) (args := [t0, t1, t2, t3]) (by kernel_rfl) s
/-- function 86: orlop.chacha.Xor -/
def s_chacha_Xor (K : Value → Hp → Prop) (h : Hp) (t0 t1 t2 t3 : Value) : Prop := Cn P 88 #[t0, t1] h fun t16 h => q P h (Op.unary .not t16) fun t17 => cnd t17 (K (Value.tuple #[(Value.slice none 0 0), (Value.int .i64 1)]) h) (q P h (Builtin.len_ #[23] 3 #[t3]) fun t19 => aw P (Instr.makeSlice 23 (Value.int .i64 0) t19) (fun t20 h => 
Lp [t2, t20, (Value.int .i64 0)] h fun nx8 vs8 h =>
q P h (Builtin.len_ #[23] 3 #[t3]) fun t23 => q P h (binOp .lss 3 (vs8.getD 2 undef) t23) fun t24 => cnd t24 (Cn P 89 #[t0, t1, (vs8.getD 0 undef)] h fun t30 h => q P h (binOp .add 75 (vs8.getD 0 undef) (Value.int .u32 1)) fun t32 => 
Lp [(vs8.getD 1 undef), (Value.int .i64 0)] h fun nx15 vs15 h =>

let J16 : Hp → Prop := fun h => q P emp (binOp .add 3 (vs8.getD 2 undef) (vs15.getD 1 undef)) fun t49 => q P emp (Instr.indexAt 23 t3 t49) fun t50 => q P h (Instr.loadAt 5 t50) fun t51 => q P emp (Instr.indexAt 23 t30 (vs15.getD 1 undef)) fun t54 => q P h (Instr.loadAt 5 t54) fun t55 => q P emp (binOp .xor 5 t51 t55) fun t56 => aw P (Instr.buildSlice 23 1 #[(0, t56)]) (fun t57 h => aw P (Builtin.append_ #[23, 23] 23 #[(vs15.getD 0 undef), t57]) (fun t58 h => q P h (binOp .add 3 (vs15.getD 1 undef) (Value.int .i64 1)) fun t44 => nx15 [t58, t44] h) h) h;
q P h (binOp .lss 3 (vs15.getD 1 undef) (Value.int .i64 64)) fun t34 => gd t34 true (q P h (binOp .add 3 (vs8.getD 2 undef) (vs15.getD 1 undef)) fun t38 => q P h (Builtin.len_ #[23] 3 #[t3]) fun t40 => q P h (binOp .lss 3 t38 t40) fun t41 => cnd t41 (J16 h) (q P h (binOp .add 3 (vs8.getD 2 undef) (Value.int .i64 64)) fun t26 => nx8 [t32, (vs15.getD 0 undef), t26] h)) (cnd (Value.bool false) (J16 h) (q P h (binOp .add 3 (vs8.getD 2 undef) (Value.int .i64 64)) fun t26 => nx8 [t32, (vs15.getD 0 undef), t26] h))) (K (Value.tuple #[(vs8.getD 1 undef), (Value.int .i64 0)]) h)) h)
theorem F_chacha_Xor {K : Value → Hp → Prop} {h : Hp} {t0 t1 t2 t3 : Value} (s : s_chacha_Xor K h t0 t1 t2 t3) : Cn P 86 #[t0, t1, t2, t3] h K :=
  Cn_ofs mixed Try.func86 (by kernel_rfl) (args := [t0, t1, t2, t3]) (by kernel_rfl) s
/-- function 87: orlop.aead.tag -/
def s_aead_tag (K : Value → Hp → Prop) (h : Hp) (t0 t1 t2 t3 : Value) : Prop := Cn P 90 #[t0, t1, (Value.int .u32 0)] h fun t16 h => q P h (Instr.extract t16 0) fun t17 => q P h (Instr.extract t16 1) fun t18 => q P h (eqop .neq 30 (.tmp 19) (.const (Value.int .i64 0)) t18 (Value.int .i64 0)) fun t20 => cnd t20 (K (Value.tuple #[(Value.slice none 0 0), t18]) h) (q P h (Builtin.len_ #[23] 3 #[t2]) fun t23 => q P h (convert 3 42 t23) fun t24 => Cn P 43 #[t24] h fun t25 h => q P h (Builtin.len_ #[23] 3 #[t3]) fun t27 => q P h (convert 3 42 t27) fun t28 => Cn P 43 #[t28] h fun t29 h => aw P (Builtin.append_ #[23, 23] 23 #[t25, t29]) (fun t30 h => q P h (Instr.sliceAt 23 t17 none (some (Value.int .i64 32)) none) fun t32 => aw P (Instr.buildSlice 70 2 #[(0, t2), (1, t3)]) (fun t35 h => peek P h (Instr.sliceAt 23 t17 none (some (Value.int .i64 32)) none) = some t32 ∧ Cn P 92 #[t35] h fun t36 h => peek P h (Instr.sliceAt 23 t17 none (some (Value.int .i64 32)) none) = some t32 ∧ aw P (Builtin.append_ #[23, 23] 23 #[t36, t30]) (fun t38 h => peek P h (Instr.sliceAt 23 t17 none (some (Value.int .i64 32)) none) = some t32 ∧ Cn P 91 #[t32, t38] h fun t39 h => q P emp (Instr.extract t39 0) fun t40 => q P emp (Instr.extract t39 1) fun t41 => K (Value.tuple #[t40, t41]) h) h) h) h)
theorem F_aead_tag {K : Value → Hp → Prop} {h : Hp} {t0 t1 t2 t3 : Value} (s : s_aead_tag K h t0 t1 t2 t3) : Cn P 87 #[t0, t1, t2, t3] h K :=
  Cn_ofs mixed Try.func87 (by kernel_rfl) (args := [t0, t1, t2, t3]) (by kernel_rfl) s
/-- function 88: orlop.chacha.may -/
def s_chacha_may (K : Value → Hp → Prop) (h : Hp) (t0 t1 : Value) : Prop := q P h (Builtin.len_ #[23] 3 #[t0]) fun t6 => q P h (eqop .eql 3 (.tmp 6) (.const (Value.int .i64 32)) t6 (Value.int .i64 32)) fun t7 => gd t7 true (q P h (Builtin.len_ #[23] 3 #[t1]) fun t10 => q P h (eqop .eql 3 (.tmp 10) (.const (Value.int .i64 12)) t10 (Value.int .i64 12)) fun t11 => K t11 h) (K (Value.bool false) h)
theorem F_chacha_may {K : Value → Hp → Prop} {h : Hp} {t0 t1 : Value} (s : s_chacha_may K h t0 t1) : Cn P 88 #[t0, t1] h K :=
  Cn_ofs mixed Try.func88 (by kernel_rfl) (args := [t0, t1]) (by kernel_rfl) s
/-- function 89: orlop.chacha.block -/
def s_chacha_block (K : Value → Hp → Prop) (h : Hp) (t0 t1 t2 : Value) : Prop := Cn P 93 #[t0, t1, t2] h fun t17 h => aw P (Instr.alloc 127 true (.tuple #[])) (fun t7 h => aw P (Instr.storeAt 127 t7 t17) (fun _ h => q P h (Instr.loadAt 127 t7) fun t18 => aw P (Instr.alloc 127 true (.tuple #[])) (fun t8 h => aw P (Instr.storeAt 127 t8 t18) (fun _ h => Cn P 94 #[] h fun t19 h => aw P (Instr.alloc 130 true (.tuple #[])) (fun t9 h => aw P (Instr.storeAt 130 t9 t19) (fun _ h => 
Lp [(Value.int .i64 0)] h fun nx7 vs7 h =>
q P h (binOp .lss 3 (vs7.getD 0 undef) (Value.int .i64 10)) fun t21 => cnd t21 (q P h (Instr.loadAt 130 t9) fun t22 => 
Lp [(Value.int .i64 0)] h fun nx12 vs12 h =>
q P h (binOp .lss 3 (vs12.getD 0 undef) (Value.int .i64 8)) fun t24 => cnd t24 (q P h (Instr.index 130 t22 (vs12.getD 0 undef)) fun t25 => aw P (Instr.alloc 129 true (.tuple #[])) (fun t11 h => aw P (Instr.storeAt 129 t11 t25) (fun _ h => q P h (Instr.loadAt 129 t11) fun t26 => Cn P 95 #[t8, t26] h fun t27 h => q P h (binOp .add 3 (vs12.getD 0 undef) (Value.int .i64 1)) fun t28 => nx12 [t28] h) h) h) (q P h (binOp .add 3 (vs7.getD 0 undef) (Value.int .i64 1)) fun t29 => nx7 [t29] h)) (aw P (Instr.makeSlice 23 (Value.int .i64 0) (Value.int .i64 64)) (fun t30 h => 
Lp [t30, (Value.int .i64 0)] h fun nx20 vs20 h =>
q P h (binOp .lss 3 (vs20.getD 1 undef) (Value.int .i64 16)) fun t32 => cnd t32 (q P emp (Instr.indexAt 127 t8 (vs20.getD 1 undef)) fun t36 => q P h (Instr.loadAt 75 t36) fun t37 => q P emp (Instr.indexAt 127 t7 (vs20.getD 1 undef)) fun t39 => q P h (Instr.loadAt 75 t39) fun t40 => q P emp (binOp .add 75 t37 t40) fun t41 => Cn P 96 #[t41] h fun t42 h => aw P (Builtin.append_ #[23, 23] 23 #[(vs20.getD 0 undef), t42]) (fun t43 h => q P h (binOp .add 3 (vs20.getD 1 undef) (Value.int .i64 1)) fun t44 => nx20 [t43, t44] h) h) (K (vs20.getD 0 undef) h)) h)) h) h) h) h) h) h
theorem F_chacha_block {K : Value → Hp → Prop} {h : Hp} {t0 t1 t2 : Value} (s : s_chacha_block K h t0 t1 t2) : Cn P 89 #[t0, t1, t2] h K :=
  Cn_ofs mixed Try.func89 (by kernel_rfl) (args := [t0, t1, t2]) (by kernel_rfl) s
/-- function 90: orlop.chacha.Block -/
def s_chacha_Block (K : Value → Hp → Prop) (h : Hp) (t0 t1 t2 : Value) : Prop := Cn P 88 #[t0, t1] h fun t10 h => q P h (Op.unary .not t10) fun t11 => cnd t11 (K (Value.tuple #[(Value.slice none 0 0), (Value.int .i64 1)]) h) (Cn P 89 #[t0, t1, t2] h fun t15 h => K (Value.tuple #[t15, (Value.int .i64 0)]) h)
theorem F_chacha_Block {K : Value → Hp → Prop} {h : Hp} {t0 t1 t2 : Value} (s : s_chacha_Block K h t0 t1 t2) : Cn P 90 #[t0, t1, t2] h K :=
  Cn_ofs mixed Try.func90 (by kernel_rfl) (args := [t0, t1, t2]) (by kernel_rfl) s
/-- function 91: orlop.poly.Tag -/
def s_poly_Tag (K : Value → Hp → Prop) (h : Hp) (t0 t1 : Value) : Prop := q P h (Builtin.len_ #[23] 3 #[t0]) fun t15 => q P h (eqop .neq 3 (.tmp 15) (.const (Value.int .i64 32)) t15 (Value.int .i64 32)) fun t16 => cnd t16 (K (Value.tuple #[(Value.slice none 0 0), (Value.int .i64 1)]) h) (q P h (Instr.sliceAt 23 t0 none (some (Value.int .i64 16)) none) fun t18 => Cn P 23 #[t18] h fun t19 h => q P h (Instr.build 129 #[(0, (Value.int .i64 3)), (1, (Value.int .i64 7)), (2, (Value.int .i64 11)), (3, (Value.int .i64 15))]) fun t20 => 
Lp [(Value.int .i64 0)] h fun nx8 vs8 h =>
q P h (binOp .lss 3 (vs8.getD 0 undef) (Value.int .i64 4)) fun t22 => cnd t22 (q P h (Instr.index 129 t20 (vs8.getD 0 undef)) fun t23 => q P h (Instr.indexAt 23 t19 t23) fun t26 => q P h (Instr.loadAt 5 t26) fun t27 => q P h (binOp .and 5 t27 (Value.int .u8 15)) fun t28 => q P h (Instr.indexAt 23 t19 t23) fun t29 => aw P (Instr.storeAt 5 t29 t28) (fun _ h => q P h (binOp .add 3 (vs8.getD 0 undef) (Value.int .i64 1)) fun t30 => nx8 [t30] h) h) (q P h (Instr.build 133 #[(0, (Value.int .i64 4)), (1, (Value.int .i64 8)), (2, (Value.int .i64 12))]) fun t31 => 
Lp [(Value.int .i64 0)] h fun nx15 vs15 h =>
q P h (binOp .lss 3 (vs15.getD 0 undef) (Value.int .i64 3)) fun t33 => cnd t33 (q P h (Instr.index 133 t31 (vs15.getD 0 undef)) fun t34 => q P h (Instr.indexAt 23 t19 t34) fun t37 => q P h (Instr.loadAt 5 t37) fun t38 => q P h (binOp .and 5 t38 (Value.int .u8 252)) fun t39 => q P h (Instr.indexAt 23 t19 t34) fun t40 => aw P (Instr.storeAt 5 t40 t39) (fun _ h => q P h (binOp .add 3 (vs15.getD 0 undef) (Value.int .i64 1)) fun t41 => nx15 [t41] h) h) (Cn P 97 #[t19] h fun t43 h => aw P (Instr.alloc 134 true (.tuple #[])) (fun t11 h => aw P (Instr.storeAt 134 t11 t43) (fun _ h => aw P (Instr.alloc 134 true (.tuple #[])) (fun t12 h => Cn P 98 #[t1, (Value.int .i64 16)] h fun t45 h => 
∀ (L24 : Nat) (o24 : LoopState → Option Code → AObj), h L24 = none → (∀ (y24_0 : Value), ∀ (h : Hp) (KY24 : Value → Hp → Prop), h L24 = some (o24 .ready none) → (fun h => (fun h => Cn P 23 #[y24_0] h fun t48 h => aw P (Instr.buildSlice 23 1 #[(0, (Value.int .u8 1))]) (fun t49 h => aw P (Builtin.append_ #[23, 23] 23 #[t48, t49]) (fun t50 h => Cn P 97 #[t50] h fun t51 h => Cn P 99 #[t12, t51] h fun t52 h => q P h (Instr.loadAt 134 t11) fun t53 => Cn P 100 #[t12, t53] h fun t54 h => h L24 = some (o24 .busy none) ∧ KY24 (.bool true) (h.set L24 (o24 .ready none))) h) h) (h.set L24 (o24 .busy none))) (h.del L24) → callP P (.func (.yield L24) #[] #[]) [y24_0] h KY24) →
iterP P t45 [.func (.yield L24) #[] #[]] (h.set L24 (o24 .ready none)) fun _ h => ∃ st, st ≠ LoopState.busy ∧ h L24 = some (o24 st none) ∧ (fun h => Cn P 101 #[t12] h fun t55 h => q P h (Instr.sliceAt 23 t0 (some (Value.int .i64 16)) none none) fun t57 => Cn P 102 #[t12, t57] h fun t58 h => K (Value.tuple #[t58, (Value.int .i64 0)]) h) (h.del L24)) h) h) h)))
theorem F_poly_Tag {K : Value → Hp → Prop} {h : Hp} {t0 t1 : Value} (s : s_poly_Tag K h t0 t1) : Cn P 91 #[t0, t1] h K :=
  Cn_ofs mixed Try.func91 (by kernel_rfl) (args := [t0, t1]) (by kernel_rfl) s
/-- function 92: orlop.aead.padded -/
def s_aead_padded (K : Value → Hp → Prop) (h : Hp) (t0 : Value) : Prop := q P h (Builtin.len_ #[70] 3 #[t0]) fun t7 => 
Lp [(Value.slice none 0 0), (Value.int .i64 0)] h fun nx5 vs5 h =>
q P h (binOp .lss 3 (vs5.getD 1 undef) t7) fun t9 => cnd t9 (q P h (Instr.indexAt 70 t0 (vs5.getD 1 undef)) fun t10 => q P h (Instr.loadAt 23 t10) fun t11 => aw P (Builtin.append_ #[23, 23] 23 #[(vs5.getD 0 undef), t11]) (fun t14 h => 
Lp [t14] h fun nx11 vs11 h =>
q P h (Builtin.len_ #[23] 3 #[(vs11.getD 0 undef)]) fun t16 => q P h (binOp .rem 3 t16 (Value.int .i64 16)) fun t17 => q P h (eqop .neq 3 (.tmp 17) (.const (Value.int .i64 0)) t17 (Value.int .i64 0)) fun t18 => cnd t18 (aw P (Instr.buildSlice 23 1 #[(0, (Value.int .u8 0))]) (fun t20 h => aw P (Builtin.append_ #[23, 23] 23 #[(vs11.getD 0 undef), t20]) (fun t21 h => nx11 [t21] h) h) h) (q P h (binOp .add 3 (vs5.getD 1 undef) (Value.int .i64 1)) fun t22 => nx5 [(vs11.getD 0 undef), t22] h)) h) (K (vs5.getD 0 undef) h)
theorem F_aead_padded {K : Value → Hp → Prop} {h : Hp} {t0 : Value} (s : s_aead_padded K h t0) : Cn P 92 #[t0] h K :=
  Cn_ofs mixed Try.func92 (by kernel_rfl) (args := [t0]) (by kernel_rfl) s
/-- function 93: orlop.chacha.begin -/
def s_chacha_begin (K : Value → Hp → Prop) (h : Hp) (t0 t1 t2 : Value) : Prop := aw P (Instr.alloc 127 true (.tuple #[])) (fun t6 h => q P h (Instr.build 127 #[(0, (Value.int .u32 1634760805)), (1, (Value.int .u32 857760878)), (2, (Value.int .u32 2036477234)), (3, (Value.int .u32 1797285236))]) fun t10 => aw P (Instr.alloc 127 true (.tuple #[])) (fun t7 h => aw P (Instr.storeAt 127 t7 t10) (fun _ h => 
Lp [(Value.int .i64 0)] h fun nx5 vs5 h =>
q P h (binOp .lss 3 (vs5.getD 0 undef) (Value.int .i64 8)) fun t12 => cnd t12 (q P h (binOp .add 3 (Value.int .i64 4) (vs5.getD 0 undef)) fun t15 => q P h (binOp .mul 3 (Value.int .i64 4) (vs5.getD 0 undef)) fun t18 => q P h (Instr.sliceAt 23 t0 (some t18) none none) fun t19 => Cn P 103 #[t19] h fun t20 h => q P h (Instr.indexAt 127 t7 t15) fun t21 => aw P (Instr.storeAt 75 t21 t20) (fun _ h => q P h (binOp .add 3 (vs5.getD 0 undef) (Value.int .i64 1)) fun t22 => nx5 [t22] h) h) (q P h (Instr.indexAt 127 t7 (Value.int .i64 12)) fun t24 => aw P (Instr.storeAt 75 t24 t2) (fun _ h => 
Lp [(Value.int .i64 0)] h fun nx13 vs13 h =>
q P h (binOp .lss 3 (vs13.getD 0 undef) (Value.int .i64 3)) fun t26 => cnd t26 (q P h (binOp .add 3 (Value.int .i64 13) (vs13.getD 0 undef)) fun t29 => q P h (binOp .mul 3 (Value.int .i64 4) (vs13.getD 0 undef)) fun t32 => q P h (Instr.sliceAt 23 t1 (some t32) none none) fun t33 => Cn P 103 #[t33] h fun t34 h => q P h (Instr.indexAt 127 t7 t29) fun t35 => aw P (Instr.storeAt 75 t35 t34) (fun _ h => q P h (binOp .add 3 (vs13.getD 0 undef) (Value.int .i64 1)) fun t36 => nx13 [t36] h) h) (q P h (Instr.loadAt 127 t7) fun t37 => aw P (Instr.storeAt 127 t6 t37) (fun _ h => q P h ((asAddr t6).bind (loadVar 127)) fun r0 => K r0 h) h)) h)) h) h) h
theorem F_chacha_begin {K : Value → Hp → Prop} {h : Hp} {t0 t1 t2 : Value} (s : s_chacha_begin K h t0 t1 t2) : Cn P 93 #[t0, t1, t2] h K :=
  Cn_ofs mixed Try.func93 (by kernel_rfl) (args := [t0, t1, t2]) (by kernel_rfl) s
/-- function 94: orlop.chacha.quarters -/
def s_chacha_quarters (K : Value → Hp → Prop) (h : Hp) : Prop := aw P (Instr.alloc 130 true (.tuple #[])) (fun t0 h => q P h (Instr.build 129 #[(0, (Value.int .i64 0)), (1, (Value.int .i64 4)), (2, (Value.int .i64 8)), (3, (Value.int .i64 12))]) fun t1 => q P h (Instr.build 129 #[(0, (Value.int .i64 1)), (1, (Value.int .i64 5)), (2, (Value.int .i64 9)), (3, (Value.int .i64 13))]) fun t2 => q P h (Instr.build 129 #[(0, (Value.int .i64 2)), (1, (Value.int .i64 6)), (2, (Value.int .i64 10)), (3, (Value.int .i64 14))]) fun t3 => q P h (Instr.build 129 #[(0, (Value.int .i64 3)), (1, (Value.int .i64 7)), (2, (Value.int .i64 11)), (3, (Value.int .i64 15))]) fun t4 => q P h (Instr.build 129 #[(0, (Value.int .i64 0)), (1, (Value.int .i64 5)), (2, (Value.int .i64 10)), (3, (Value.int .i64 15))]) fun t5 => q P h (Instr.build 129 #[(0, (Value.int .i64 1)), (1, (Value.int .i64 6)), (2, (Value.int .i64 11)), (3, (Value.int .i64 12))]) fun t6 => q P h (Instr.build 129 #[(0, (Value.int .i64 2)), (1, (Value.int .i64 7)), (2, (Value.int .i64 8)), (3, (Value.int .i64 13))]) fun t7 => q P h (Instr.build 129 #[(0, (Value.int .i64 3)), (1, (Value.int .i64 4)), (2, (Value.int .i64 9)), (3, (Value.int .i64 14))]) fun t8 => q P h (Instr.build 130 #[(0, t1), (1, t2), (2, t3), (3, t4), (4, t5), (5, t6), (6, t7), (7, t8)]) fun t9 => aw P (Instr.storeAt 130 t0 t9) (fun _ h => q P h ((asAddr t0).bind (loadVar 130)) fun r0 => K r0 h) h) h
theorem F_chacha_quarters {K : Value → Hp → Prop} {h : Hp} (s : s_chacha_quarters K h) : Cn P 94 #[] h K :=
  Cn_ofs mixed Try.func94 (by kernel_rfl) (args := []) (by kernel_rfl) s
/-- function 95: (*orlop.chacha.state).quarter -/
def s_chacha_state_quarter (K : Value → Hp → Prop) (h : Hp) (t0 t1 : Value) : Prop := aw P (Instr.box 129 t1) (fun t3 h => q P h (Instr.indexAt 129 t3 (Value.int .i64 0)) fun t5 => q P h (Instr.loadAt 3 t5) fun t6 => q P h (Instr.indexAt 129 t3 (Value.int .i64 1)) fun t7 => q P h (Instr.loadAt 3 t7) fun t8 => q P h (Instr.indexAt 129 t3 (Value.int .i64 3)) fun t9 => q P h (Instr.loadAt 3 t9) fun t10 => Cn P 104 #[t0, t6, t8, t10, (Value.int .i64 16)] h fun t11 h => q P h (Instr.indexAt 129 t3 (Value.int .i64 2)) fun t13 => q P h (Instr.loadAt 3 t13) fun t14 => q P h (Instr.indexAt 129 t3 (Value.int .i64 3)) fun t15 => q P h (Instr.loadAt 3 t15) fun t16 => q P h (Instr.indexAt 129 t3 (Value.int .i64 1)) fun t17 => q P h (Instr.loadAt 3 t17) fun t18 => Cn P 104 #[t0, t14, t16, t18, (Value.int .i64 12)] h fun t19 h => q P h (Instr.indexAt 129 t3 (Value.int .i64 0)) fun t21 => q P h (Instr.loadAt 3 t21) fun t22 => q P h (Instr.indexAt 129 t3 (Value.int .i64 1)) fun t23 => q P h (Instr.loadAt 3 t23) fun t24 => q P h (Instr.indexAt 129 t3 (Value.int .i64 3)) fun t25 => q P h (Instr.loadAt 3 t25) fun t26 => Cn P 104 #[t0, t22, t24, t26, (Value.int .i64 8)] h fun t27 h => q P h (Instr.indexAt 129 t3 (Value.int .i64 2)) fun t29 => q P h (Instr.loadAt 3 t29) fun t30 => q P h (Instr.indexAt 129 t3 (Value.int .i64 3)) fun t31 => q P h (Instr.loadAt 3 t31) fun t32 => q P h (Instr.indexAt 129 t3 (Value.int .i64 1)) fun t33 => q P h (Instr.loadAt 3 t33) fun t34 => Cn P 104 #[t0, t30, t32, t34, (Value.int .i64 7)] h fun t35 h => K (Value.tuple #[]) h) h
theorem F_chacha_state_quarter {K : Value → Hp → Prop} {h : Hp} {t0 t1 : Value} (s : s_chacha_state_quarter K h t0 t1) : Cn P 95 #[t0, t1] h K :=
  Cn_ofs mixed Try.func95 (by kernel_rfl) (args := [t0, t1]) (by kernel_rfl) s
/-- function 96: orlop.word.Put32 -/
def s_word_Put32 (K : Value → Hp → Prop) (h : Hp) (t0 : Value) : Prop := q P h (convert 75 42 t0) fun t4 => Cn P 47 #[t4, (Value.int .i64 4)] h fun t5 h => K t5 h
theorem F_word_Put32 {K : Value → Hp → Prop} {h : Hp} {t0 : Value} (s : s_word_Put32 K h t0) : Cn P 96 #[t0] h K :=
  Cn_ofs mixed Try.func96 (by kernel_rfl) (args := [t0]) (by kernel_rfl) s
/-- function 97: orlop.poly.load -/
def s_poly_load (K : Value → Hp → Prop) (h : Hp) (t0 : Value) : Prop := aw P (Instr.alloc 134 true (.tuple #[])) (fun t2 h => aw P (Instr.alloc 134 true (.tuple #[])) (fun t3 h => 
Lp [(Value.int .i64 0)] h fun nx5 vs5 h =>
q P h (binOp .lss 3 (vs5.getD 0 undef) (Value.int .i64 5)) fun t7 => cnd t7 (q P h (binOp .mul 3 (Value.int .i64 26) (vs5.getD 0 undef)) fun t10 => q P h (binOp .quo 3 t10 (Value.int .i64 8)) fun t14 => q P h (Builtin.len_ #[23] 3 #[t0]) fun t16 => q P h (Builtin.min_ #[3, 3] 3 #[t14, t16]) fun t17 => q P h (Instr.sliceAt 23 t0 (some t17) none none) fun t18 => Cn P 29 #[t18] h fun t19 h => q P h (binOp .rem 3 t10 (Value.int .i64 8)) fun t21 => q P h (binOp .shr 42 t19 t21) fun t22 => q P h (binOp .and 42 t22 (Value.int .u64 67108863)) fun t23 => q P h (Instr.indexAt 134 t3 (vs5.getD 0 undef)) fun t24 => aw P (Instr.storeAt 42 t24 t23) (fun _ h => q P h (binOp .add 3 (vs5.getD 0 undef) (Value.int .i64 1)) fun t25 => nx5 [t25] h) h) (q P h (Instr.loadAt 134 t3) fun t26 => aw P (Instr.storeAt 134 t2 t26) (fun _ h => q P h ((asAddr t2).bind (loadVar 134)) fun r0 => K r0 h) h)) h) h
theorem F_poly_load {K : Value → Hp → Prop} {h : Hp} {t0 : Value} (s : s_poly_load K h t0) : Cn P 97 #[t0] h K :=
  Cn_ofs mixed Try.func97 (by kernel_rfl) (args := [t0]) (by kernel_rfl) s
/-- function 98: slices.Chunk[[]byte,byte] -/
def s_slices_Chunk_byte_byte (K : Value → Hp → Prop) (h : Hp) (t0 t1 : Value) : Prop := aw P (Instr.box 23 t0) (fun t2 h => aw P (Instr.box 3 t1) (fun t3 h => q P h (Instr.loadAt 3 t3) fun t5 => q P h (binOp .lss 3 t5 (Value.int .i64 1)) fun t6 => cnd t6 (q P h (Instr.makeInterface 9 (Value.string ⟨#[99, 97, 110, 110, 111, 116, 32, 98, 101, 32, 108, 101, 115, 115, 32, 116, 104, 97, 110, 32, 49]⟩)) fun t7 => False) (K (Value.func (.func 105) #[] #[t2, t3]) h)) h) h
theorem F_slices_Chunk_byte_byte {K : Value → Hp → Prop} {h : Hp} {t0 t1 : Value} (s : s_slices_Chunk_byte_byte K h t0 t1) : Cn P 98 #[t0, t1] h K :=
  Cn_ofs mixed Try.func98 (by kernel_rfl) (args := [t0, t1]) (by kernel_rfl) s
/-- function 99: (*orlop.poly.number).add -/
def s_poly_number_add (K : Value → Hp → Prop) (h : Hp) (t0 t1 : Value) : Prop := aw P (Instr.box 134 t1) (fun t3 h => 
Lp [(Value.int .i64 0)] h fun nx3 vs3 h =>
q P h (binOp .lss 3 (vs3.getD 0 undef) (Value.int .i64 5)) fun t6 => cnd t6 (q P emp (nilCk t0) fun t10 => q P emp (Instr.indexAt 134 t10 (vs3.getD 0 undef)) fun t11 => q P h (Instr.loadAt 42 t11) fun t12 => q P emp (Instr.indexAt 134 t3 (vs3.getD 0 undef)) fun t14 => q P h (Instr.loadAt 42 t14) fun t15 => q P emp (binOp .add 42 t12 t15) fun t16 => q P emp (nilCk t0) fun t17 => q P emp (Instr.indexAt 134 t17 (vs3.getD 0 undef)) fun t18 => aw P (Instr.storeAt 42 t18 t16) (fun _ h => q P h (binOp .add 3 (vs3.getD 0 undef) (Value.int .i64 1)) fun t19 => nx3 [t19] h) h) (K (Value.tuple #[]) h)) h
theorem F_poly_number_add {K : Value → Hp → Prop} {h : Hp} {t0 t1 : Value} (s : s_poly_number_add K h t0 t1) : Cn P 99 #[t0, t1] h K :=
  Cn_ofs mixed Try.func99 (by kernel_rfl) (args := [t0, t1]) (by kernel_rfl) s
/-- function 100: (*orlop.poly.number).times -/
def s_poly_number_times (K : Value → Hp → Prop) (h : Hp) (t0 t1 : Value) : Prop := aw P (Instr.box 134 t1) (fun t3 h => aw P (Instr.alloc 134 true (.tuple #[])) (fun t4 h => 
Lp [(Value.int .i64 0)] h fun nx5 vs5 h =>
q P h (binOp .lss 3 (vs5.getD 0 undef) (Value.int .i64 5)) fun t9 => cnd t9 (
Lp [(Value.int .i64 0)] h fun nx11 vs11 h =>
q P h (binOp .lss 3 (vs11.getD 0 undef) (Value.int .i64 5)) fun t12 => cnd t12 (q P emp (nilCk t0) fun t16 => q P emp (Instr.indexAt 134 t16 (vs5.getD 0 undef)) fun t17 => q P h (Instr.loadAt 42 t17) fun t18 => q P emp (Instr.indexAt 134 t3 (vs11.getD 0 undef)) fun t20 => q P h (Instr.loadAt 42 t20) fun t21 => q P emp (binOp .mul 42 t18 t21) fun t22 => 
let J17 : Value → Hp → Prop := fun t7 h => q P h (binOp .add 3 (vs5.getD 0 undef) (vs11.getD 0 undef)) fun t31 => q P h (binOp .rem 3 t31 (Value.int .i64 5)) fun t32 => q P h (Instr.indexAt 134 t4 t32) fun t33 => q P h (Instr.loadAt 42 t33) fun t34 => q P h (binOp .add 42 t34 t7) fun t36 => q P h (Instr.indexAt 134 t4 t32) fun t37 => aw P (Instr.storeAt 42 t37 t36) (fun _ h => q P h (binOp .add 3 (vs11.getD 0 undef) (Value.int .i64 1)) fun t38 => nx11 [t38] h) h;
q P h (binOp .add 3 (vs5.getD 0 undef) (vs11.getD 0 undef)) fun t25 => q P h (binOp .geq 3 t25 (Value.int .i64 5)) fun t26 => cnd t26 (q P h (binOp .mul 42 t22 (Value.int .u64 5)) fun t28 => J17 t28 h) (J17 t22 h)) (q P h (binOp .add 3 (vs5.getD 0 undef) (Value.int .i64 1)) fun t39 => nx5 [t39] h)) (q P h (Instr.loadAt 134 t4) fun t41 => q P h (nilCk t0) fun t42 => aw P (Instr.storeAt 134 t42 t41) (fun _ h => Cn P 106 #[t0] h fun t44 h => K (Value.tuple #[]) h) h)) h) h
theorem F_poly_number_times {K : Value → Hp → Prop} {h : Hp} {t0 t1 : Value} (s : s_poly_number_times K h t0 t1) : Cn P 100 #[t0, t1] h K :=
  Cn_ofs mixed Try.func100 (by kernel_rfl) (args := [t0, t1]) (by kernel_rfl) s
/-- function 101: (*orlop.poly.number).reduce -/
def s_poly_number_reduce (K : Value → Hp → Prop) (h : Hp) (t0 : Value) : Prop := Cn P 106 #[t0] h fun t5 h => Cn P 106 #[t0] h fun t7 h => q P h (nilCk t0) fun t9 => q P h (Instr.loadAt 134 t9) fun t10 => aw P (Instr.alloc 134 true (.tuple #[])) (fun t2 h => aw P (Instr.storeAt 134 t2 t10) (fun _ h => q P h (Instr.indexAt 134 t2 (Value.int .i64 0)) fun t11 => q P h (Instr.loadAt 42 t11) fun t12 => q P h (binOp .add 42 t12 (Value.int .u64 5)) fun t13 => q P h (Instr.indexAt 134 t2 (Value.int .i64 0)) fun t14 => aw P (Instr.storeAt 42 t14 t13) (fun _ h => 
Lp [(Value.int .i64 0)] h fun nx7 vs7 h =>
q P h (binOp .lss 3 (vs7.getD 0 undef) (Value.int .i64 4)) fun t16 => cnd t16 (q P emp (binOp .add 3 (vs7.getD 0 undef) (Value.int .i64 1)) fun t19 => q P emp (Instr.indexAt 134 t2 t19) fun t20 => q P h (Instr.loadAt 42 t20) fun t21 => q P emp (Instr.indexAt 134 t2 (vs7.getD 0 undef)) fun t23 => q P h (Instr.loadAt 42 t23) fun t24 => q P emp (binOp .shr 42 t24 (Value.int .u64 26)) fun t25 => q P emp (binOp .add 42 t21 t25) fun t26 => q P emp (Instr.indexAt 134 t2 t19) fun t27 => aw P (Instr.storeAt 42 t27 t26) (fun _ h => q P h (Instr.indexAt 134 t2 (vs7.getD 0 undef)) fun t29 => q P h (Instr.loadAt 42 t29) fun t30 => q P h (binOp .and 42 t30 (Value.int .u64 67108863)) fun t31 => q P h (Instr.indexAt 134 t2 (vs7.getD 0 undef)) fun t32 => aw P (Instr.storeAt 42 t32 t31) (fun _ h => q P h (binOp .add 3 (vs7.getD 0 undef) (Value.int .i64 1)) fun t33 => nx7 [t33] h) h) h) (q P h (Instr.indexAt 134 t2 (Value.int .i64 4)) fun t34 => q P h (Instr.loadAt 42 t34) fun t35 => q P h (binOp .shr 42 t35 (Value.int .u64 26)) fun t36 => q P h (eqop .neq 42 (.tmp 36) (.const (Value.int .u64 0)) t36 (Value.int .u64 0)) fun t37 => cnd t37 (q P h (Instr.indexAt 134 t2 (Value.int .i64 4)) fun t38 => q P h (Instr.loadAt 42 t38) fun t39 => q P h (binOp .and 42 t39 (Value.int .u64 67108863)) fun t40 => q P h (Instr.indexAt 134 t2 (Value.int .i64 4)) fun t41 => aw P (Instr.storeAt 42 t41 t40) (fun _ h => q P h (Instr.loadAt 134 t2) fun t43 => q P h (nilCk t0) fun t44 => aw P (Instr.storeAt 134 t44 t43) (fun _ h => K (Value.tuple #[]) h) h) h) (K (Value.tuple #[]) h))) h) h) h
theorem F_poly_number_reduce {K : Value → Hp → Prop} {h : Hp} {t0 : Value} (s : s_poly_number_reduce K h t0) : Cn P 101 #[t0] h K :=
  Cn_ofs mixed Try.func101 (by kernel_rfl) (args := [t0]) (by kernel_rfl) s
/-- function 102: (*orlop.poly.number).bytes -/
def s_poly_number_bytes (K : Value → Hp → Prop) (h : Hp) (t0 t1 : Value) : Prop := q P emp (nilCk t0) fun t10 => q P emp (Instr.indexAt 134 t10 (Value.int .i64 0)) fun t11 => q P h (Instr.loadAt 42 t11) fun t12 => q P emp (nilCk t0) fun t14 => q P emp (Instr.indexAt 134 t14 (Value.int .i64 1)) fun t15 => q P h (Instr.loadAt 42 t15) fun t16 => q P emp (binOp .shl 42 t16 (Value.int .u64 26)) fun t17 => q P emp (binOp .or 42 t12 t17) fun t18 => q P emp (nilCk t0) fun t20 => q P emp (Instr.indexAt 134 t20 (Value.int .i64 2)) fun t21 => q P h (Instr.loadAt 42 t21) fun t22 => q P emp (binOp .shl 42 t22 (Value.int .u64 52)) fun t23 => q P emp (binOp .or 42 t18 t23) fun t24 => q P emp (nilCk t0) fun t26 => q P emp (Instr.indexAt 134 t26 (Value.int .i64 2)) fun t27 => q P h (Instr.loadAt 42 t27) fun t28 => q P emp (binOp .shr 42 t28 (Value.int .u64 12)) fun t29 => q P emp (nilCk t0) fun t31 => q P emp (Instr.indexAt 134 t31 (Value.int .i64 3)) fun t32 => q P h (Instr.loadAt 42 t32) fun t33 => q P emp (binOp .shl 42 t33 (Value.int .u64 14)) fun t34 => q P emp (binOp .or 42 t29 t34) fun t35 => q P emp (nilCk t0) fun t37 => q P emp (Instr.indexAt 134 t37 (Value.int .i64 4)) fun t38 => q P h (Instr.loadAt 42 t38) fun t39 => q P emp (binOp .shl 42 t39 (Value.int .u64 40)) fun t40 => q P emp (binOp .or 42 t35 t40) fun t41 => q P h (Instr.sliceAt 23 t1 (some (Value.int .i64 8)) none none) fun t45 => Cn P 29 #[t1] h fun t43 h => peek P h (Instr.sliceAt 23 t1 (some (Value.int .i64 8)) none none) = some t45 ∧ Cn P 29 #[t45] h fun t46 h => q P h (binOp .add 42 t24 t43) fun t49 => q P h (binOp .add 42 t41 t46) fun t52 => q P h (binOp .lss 42 t49 t43) fun t55 => cnd t55 (q P h (binOp .add 42 t52 (Value.int .u64 1)) fun t57 => Cn P 43 #[t49] h fun t59 h => Cn P 43 #[t57] h fun t61 h => aw P (Builtin.append_ #[23, 23] 23 #[t59, t61]) (fun t62 h => K t62 h) h) (Cn P 43 #[t49] h fun t59 h => Cn P 43 #[t52] h fun t61 h => aw P (Builtin.append_ #[23, 23] 23 #[t59, t61]) (fun t62 h => K t62 h) h)
theorem F_poly_number_bytes {K : Value → Hp → Prop} {h : Hp} {t0 t1 : Value} (s : s_poly_number_bytes K h t0 t1) : Cn P 102 #[t0, t1] h K :=
  Cn_ofs mixed Try.func102 (by kernel_rfl) (args := [t0, t1]) (by kernel_rfl) s
/-- function 103: orlop.word.Get32 -/
def s_word_Get32 (K : Value → Hp → Prop) (h : Hp) (t0 : Value) : Prop := Cn P 44 #[t0, (Value.int .i64 4)] h fun t4 h => q P h (convert 42 75 t4) fun t5 => K t5 h
theorem F_word_Get32 {K : Value → Hp → Prop} {h : Hp} {t0 : Value} (s : s_word_Get32 K h t0) : Cn P 103 #[t0] h K :=
  Cn_ofs mixed Try.func103 (by kernel_rfl) (args := [t0]) (by kernel_rfl) s
/-- function 104: (*orlop.chacha.state).half -/
def s_chacha_state_half (K : Value → Hp → Prop) (h : Hp) (t0 t1 t2 t3 t4 : Value) : Prop := q P emp (nilCk t0) fun t12 => q P emp (Instr.indexAt 127 t12 t1) fun t13 => q P h (Instr.loadAt 75 t13) fun t14 => q P emp (nilCk t0) fun t17 => q P emp (Instr.indexAt 127 t17 t2) fun t18 => q P h (Instr.loadAt 75 t18) fun t19 => q P emp (binOp .add 75 t14 t19) fun t20 => q P emp (nilCk t0) fun t21 => q P emp (Instr.indexAt 127 t21 t1) fun t22 => aw P (Instr.storeAt 75 t22 t20) (fun _ h => q P emp (nilCk t0) fun t27 => q P emp (Instr.indexAt 127 t27 t3) fun t28 => q P h (Instr.loadAt 75 t28) fun t29 => q P emp (nilCk t0) fun t32 => q P emp (Instr.indexAt 127 t32 t1) fun t33 => q P h (Instr.loadAt 75 t33) fun t34 => q P emp (binOp .xor 75 t29 t34) fun t35 => q P emp (nilCk t0) fun t38 => Cn P 62 #[t35, t4] h fun t37 h => q P emp (Instr.indexAt 127 t38 t3) fun t39 => aw P (Instr.storeAt 75 t39 t37) (fun _ h => K (Value.tuple #[]) h) h) h
theorem F_chacha_state_half {K : Value → Hp → Prop} {h : Hp} {t0 t1 t2 t3 t4 : Value} (s : s_chacha_state_half K h t0 t1 t2 t3 t4) : Cn P 104 #[t0, t1, t2, t3, t4] h K :=
  Cn_ofs mixed Try.func104 (by kernel_rfl) (args := [t0, t1, t2, t3, t4]) (by kernel_rfl) s
/-- function 105: slices.Chunk[[]byte,byte]$1 -/
def s_slices_Chunk_byte_byte_1 (K : Value → Hp → Prop) (h : Hp) (t0 t1 t2 : Value) : Prop := 
Lp [(Value.int .i64 0)] h fun nx2 vs2 h =>
q P h (Instr.loadAt 23 t1) fun t7 => q P h (Builtin.len_ #[23] 3 #[t7]) fun t8 => q P h (binOp .lss 3 (vs2.getD 0 undef) t8) fun t9 => cnd t9 (q P h (Instr.loadAt 3 t2) fun t13 => q P h (Instr.loadAt 23 t1) fun t14 => q P h (Instr.sliceAt 23 t14 (some (vs2.getD 0 undef)) none none) fun t16 => q P h (Builtin.len_ #[23] 3 #[t16]) fun t17 => q P h (Builtin.min_ #[3, 3] 3 #[t13, t17]) fun t18 => q P h (Instr.loadAt 23 t1) fun t20 => q P h (binOp .add 3 (vs2.getD 0 undef) t18) fun t24 => q P h (binOp .add 3 (vs2.getD 0 undef) t18) fun t27 => q P h (Instr.sliceAt 23 t20 (some (vs2.getD 0 undef)) (some t24) (some t27)) fun t28 => callP P t0 [t28] h fun t29 h => q P h (Op.unary .not t29) fun t30 => cnd t30 (K (Value.tuple #[]) h) (q P h (Instr.loadAt 3 t2) fun t11 => q P h (binOp .add 3 (vs2.getD 0 undef) t11) fun t12 => nx2 [t12] h)) (K (Value.tuple #[]) h)
theorem F_slices_Chunk_byte_byte_1 {K : Value → Hp → Prop} {h : Hp} {t0 t1 t2 : Value} (s : s_slices_Chunk_byte_byte_1 K h t0 t1 t2) : Cn P 105 #[t0, t1, t2] h K :=
  Cn_ofs mixed Try.func105 (by kernel_rfl) (args := [t0, t1, t2]) (by kernel_rfl) s
/-- function 106: (*orlop.poly.number).carry -/
def s_poly_number_carry (K : Value → Hp → Prop) (h : Hp) (t0 : Value) : Prop := 
Lp [(Value.int .u64 0), (Value.int .i64 0)] h fun nx4 vs4 h =>
q P h (binOp .lss 3 (vs4.getD 1 undef) (Value.int .i64 5)) fun t5 => cnd t5 (q P emp (nilCk t0) fun t9 => q P emp (Instr.indexAt 134 t9 (vs4.getD 1 undef)) fun t10 => q P h (Instr.loadAt 42 t10) fun t11 => q P emp (binOp .add 42 t11 (vs4.getD 0 undef)) fun t13 => q P emp (nilCk t0) fun t14 => q P emp (Instr.indexAt 134 t14 (vs4.getD 1 undef)) fun t15 => aw P (Instr.storeAt 42 t15 t13) (fun _ h => q P h (nilCk t0) fun t18 => q P h (Instr.indexAt 134 t18 (vs4.getD 1 undef)) fun t19 => q P h (Instr.loadAt 42 t19) fun t20 => q P h (binOp .shr 42 t20 (Value.int .u64 26)) fun t21 => q P emp (nilCk t0) fun t24 => q P emp (Instr.indexAt 134 t24 (vs4.getD 1 undef)) fun t25 => q P h (Instr.loadAt 42 t25) fun t26 => q P emp (binOp .and 42 t26 (Value.int .u64 67108863)) fun t27 => q P emp (nilCk t0) fun t28 => q P emp (Instr.indexAt 134 t28 (vs4.getD 1 undef)) fun t29 => aw P (Instr.storeAt 42 t29 t27) (fun _ h => q P h (binOp .add 3 (vs4.getD 1 undef) (Value.int .i64 1)) fun t30 => nx4 [t21, t30] h) h) h) (q P emp (nilCk t0) fun t32 => q P emp (Instr.indexAt 134 t32 (Value.int .i64 0)) fun t33 => q P h (Instr.loadAt 42 t33) fun t34 => q P emp (binOp .mul 42 (Value.int .u64 5) (vs4.getD 0 undef)) fun t36 => q P emp (binOp .add 42 t34 t36) fun t37 => q P emp (nilCk t0) fun t38 => q P emp (Instr.indexAt 134 t38 (Value.int .i64 0)) fun t39 => aw P (Instr.storeAt 42 t39 t37) (fun _ h => q P emp (nilCk t0) fun t41 => q P emp (Instr.indexAt 134 t41 (Value.int .i64 1)) fun t42 => q P h (Instr.loadAt 42 t42) fun t43 => q P emp (nilCk t0) fun t45 => q P emp (Instr.indexAt 134 t45 (Value.int .i64 0)) fun t46 => q P h (Instr.loadAt 42 t46) fun t47 => q P emp (binOp .shr 42 t47 (Value.int .u64 26)) fun t48 => q P emp (binOp .add 42 t43 t48) fun t49 => q P emp (nilCk t0) fun t50 => q P emp (Instr.indexAt 134 t50 (Value.int .i64 1)) fun t51 => aw P (Instr.storeAt 42 t51 t49) (fun _ h => q P emp (nilCk t0) fun t53 => q P emp (Instr.indexAt 134 t53 (Value.int .i64 0)) fun t54 => q P h (Instr.loadAt 42 t54) fun t55 => q P emp (binOp .and 42 t55 (Value.int .u64 67108863)) fun t56 => q P emp (nilCk t0) fun t57 => q P emp (Instr.indexAt 134 t57 (Value.int .i64 0)) fun t58 => aw P (Instr.storeAt 42 t58 t56) (fun _ h => K (Value.tuple #[]) h) h) h) h)
theorem F_poly_number_carry {K : Value → Hp → Prop} {h : Hp} {t0 : Value} (s : s_poly_number_carry K h t0) : Cn P 106 #[t0] h K :=
  Cn_ofs mixed Try.func106 (by kernel_rfl) (args := [t0]) (by kernel_rfl) s
/-- function 107: (*orlop.crypt.book).Open -/
def s_crypt_book_Open (K : Value → Hp → Prop) (h : Hp) (t0 t1 t2 t3 t4 : Value) : Prop := Cn P 110 #[t1, t2] h fun t17 h => q P h (Op.unary .not t17) fun t18 => cnd t18 (K (Value.tuple #[(Value.slice none 0 0), (Value.int .i64 1)]) h) (q P h (Builtin.len_ #[23] 3 #[t4]) fun t21 => q P h (binOp .lss 3 t21 (Value.int .i64 16)) fun t22 => cnd t22 (K (Value.tuple #[(Value.slice none 0 0), (Value.int .i64 8)]) h) (Cn P 111 #[t4] h fun t24 h => q P h (nilCk t0) fun t27 => q P h (Instr.fieldAt 60 t27 1) fun t28 => q P h (Instr.loadAt 58 t28) fun t29 => q P h (Builtin.len_ #[58] 3 #[t29]) fun t30 => q P h (convert 3 42 t30) fun t31 => q P h (binOp .geq 42 t24 t31) fun t32 => cnd t32 (K (Value.tuple #[(Value.slice none 0 0), (Value.int .i64 7)]) h) (q P h (nilCk t0) fun t34 => q P h (Instr.fieldAt 60 t34 1) fun t35 => q P h (Instr.loadAt 58 t35) fun t36 => q P h (Instr.indexAt 58 t36 t24) fun t38 => q P h (Instr.loadAt 145 t38) fun t39 => aw P (Instr.alloc 145 true (.tuple #[])) (fun t13 h => aw P (Instr.storeAt 145 t13 t39) (fun _ h => 
let J12 : Hp → Prop := fun h => q P h (Instr.fieldAt 145 t13 3) fun t71 => q P h (Instr.loadAt 23 t71) fun t72 => Cn P 114 #[t72] h fun t73 h => K (Value.tuple #[t73, (Value.int .i64 0)]) h;
q P h (Instr.fieldAt 145 t13 0) fun t40 => q P h (Instr.loadAt 23 t40) fun t41 => Cn P 112 #[t41, t1] h fun t43 h => q P h (Op.unary .not t43) fun t44 => gd t44 false (q P h (Instr.fieldAt 145 t13 1) fun t46 => q P h (Instr.loadAt 23 t46) fun t47 => Cn P 112 #[t47, t2] h fun t49 h => q P h (Op.unary .not t49) fun t50 => gd t50 false (q P h (Instr.fieldAt 145 t13 2) fun t53 => q P h (Instr.loadAt 23 t53) fun t54 => Cn P 112 #[t54, t3] h fun t56 h => q P h (Op.unary .not t56) fun t57 => gd t57 false (q P h (convert 42 3 t24) fun t61 => q P h (Instr.fieldAt 145 t13 3) fun t62 => q P h (Instr.loadAt 23 t62) fun t63 => q P h (Builtin.len_ #[23] 3 #[t63]) fun t64 => q P h (binOp .add 3 t64 (Value.int .i64 16)) fun t65 => Cn P 113 #[t61, t65] h fun t66 h => Cn P 112 #[t66, t4] h fun t68 h => q P h (Op.unary .not t68) fun t69 => cnd t69 (K (Value.tuple #[(Value.slice none 0 0), (Value.int .i64 7)]) h) (J12 h)) (cnd (Value.bool true) (K (Value.tuple #[(Value.slice none 0 0), (Value.int .i64 7)]) h) (J12 h))) (cnd (Value.bool true) (K (Value.tuple #[(Value.slice none 0 0), (Value.int .i64 7)]) h) (J12 h))) (cnd (Value.bool true) (K (Value.tuple #[(Value.slice none 0 0), (Value.int .i64 7)]) h) (J12 h))) h) h)))
theorem F_crypt_book_Open {K : Value → Hp → Prop} {h : Hp} {t0 t1 t2 t3 t4 : Value} (s : s_crypt_book_Open K h t0 t1 t2 t3 t4) : Cn P 107 #[t0, t1, t2, t3, t4] h K :=
  Cn_ofs mixed Try.func107 (by kernel_rfl) (args := [t0, t1, t2, t3, t4]) (by kernel_rfl) s
/-- function 108: (*orlop.crypt.book).Seal -/
def s_crypt_book_Seal (K : Value → Hp → Prop) (h : Hp) (t0 t1 t2 t3 t4 : Value) : Prop := Cn P 110 #[t1, t2] h fun t15 h => q P h (Op.unary .not t15) fun t16 => cnd t16 (K (Value.tuple #[(Value.slice none 0 0), (Value.int .i64 1)]) h) (q P h (nilCk t0) fun t18 => q P h (Instr.fieldAt 60 t18 1) fun t19 => q P h (Instr.loadAt 58 t19) fun t20 => q P h (Builtin.len_ #[58] 3 #[t20]) fun t21 => q P emp (nilCk t0) fun t24 => q P h (Instr.fieldAt 60 t24 1) fun t25 => q P h (Instr.loadAt 58 t25) fun t26 => Cn P 114 #[t1] h fun t28 h => peek P h (Instr.loadAt 58 t25) = some t26 ∧ peek P h (Instr.fieldAt 60 t24 1) = some t25 ∧ Cn P 114 #[t2] h fun t30 h => peek P h (Instr.loadAt 58 t25) = some t26 ∧ peek P h (Instr.fieldAt 60 t24 1) = some t25 ∧ Cn P 114 #[t3] h fun t32 h => peek P h (Instr.loadAt 58 t25) = some t26 ∧ peek P h (Instr.fieldAt 60 t24 1) = some t25 ∧ Cn P 114 #[t4] h fun t34 h => peek P h (Instr.loadAt 58 t25) = some t26 ∧ peek P h (Instr.fieldAt 60 t24 1) = some t25 ∧ q P emp (Instr.build 145 #[(0, t28), (1, t30), (2, t32), (3, t34)]) fun t35 => aw P (Instr.buildSlice 58 1 #[(0, t35)]) (fun t36 h => peek P h (Instr.loadAt 58 t25) = some t26 ∧ peek P h (Instr.fieldAt 60 t24 1) = some t25 ∧ aw P (Builtin.append_ #[58, 58] 58 #[t26, t36]) (fun t37 h => q P emp (nilCk t0) fun t38 => q P h (Instr.fieldAt 60 t38 1) fun t39 => aw P (Instr.storeAt 58 t39 t37) (fun _ h => q P h (Builtin.len_ #[23] 3 #[t4]) fun t42 => q P h (binOp .add 3 t42 (Value.int .i64 16)) fun t43 => Cn P 113 #[t21, t43] h fun t44 h => K (Value.tuple #[t44, (Value.int .i64 0)]) h) h) h) h)
theorem F_crypt_book_Seal {K : Value → Hp → Prop} {h : Hp} {t0 t1 t2 t3 t4 : Value} (s : s_crypt_book_Seal K h t0 t1 t2 t3 t4) : Cn P 108 #[t0, t1, t2, t3, t4] h K :=
  Cn_ofs mixed Try.func108 (by kernel_rfl) (args := [t0, t1, t2, t3, t4]) (by kernel_rfl) s
/-- function 110: orlop.crypt.may -/
def s_crypt_may (K : Value → Hp → Prop) (h : Hp) (t0 t1 : Value) : Prop := q P h (Builtin.len_ #[23] 3 #[t0]) fun t6 => q P h (eqop .eql 3 (.tmp 6) (.const (Value.int .i64 32)) t6 (Value.int .i64 32)) fun t7 => gd t7 true (q P h (Builtin.len_ #[23] 3 #[t1]) fun t10 => q P h (eqop .eql 3 (.tmp 10) (.const (Value.int .i64 12)) t10 (Value.int .i64 12)) fun t11 => K t11 h) (K (Value.bool false) h)
theorem F_crypt_may {K : Value → Hp → Prop} {h : Hp} {t0 t1 : Value} (s : s_crypt_may K h t0 t1) : Cn P 110 #[t0, t1] h K :=
  Cn_ofs mixed Try.func110 (by kernel_rfl) (args := [t0, t1]) (by kernel_rfl) s
/-- function 111: orlop.word.GetBig64 -/
def s_word_GetBig64 (K : Value → Hp → Prop) (h : Hp) (t0 : Value) : Prop := Cn P 65 #[t0, (Value.int .i64 8)] h fun t4 h => K t4 h
theorem F_word_GetBig64 {K : Value → Hp → Prop} {h : Hp} {t0 : Value} (s : s_word_GetBig64 K h t0) : Cn P 111 #[t0] h K :=
  Cn_ofs mixed Try.func111 (by kernel_rfl) (args := [t0]) (by kernel_rfl) s
/-- function 112: bytes.Equal -/
def s_bytes_Equal (K : Value → Hp → Prop) (h : Hp) (t0 t1 : Value) : Prop := q P h (convert 23 9 t0) fun t6 => q P h (convert 23 9 t1) fun t8 => q P h (eqop .eql 9 (.tmp 6) (.tmp 8) t6 t8) fun t9 => K t9 h
theorem F_bytes_Equal {K : Value → Hp → Prop} {h : Hp} {t0 t1 : Value} (s : s_bytes_Equal K h t0 t1) : Cn P 112 #[t0, t1] h K :=
  Cn_ofs mixed Try.func112 (by kernel_rfl) (args := [t0, t1]) (by kernel_rfl) s
/-- function 113: orlop.crypt.bytesOf -/
def s_crypt_bytesOf (K : Value → Hp → Prop) (h : Hp) (t0 t1 : Value) : Prop := aw P (Instr.makeSlice 23 t1 t1) (fun t8 h => 
Lp [(Value.int .i64 0)] h fun nx5 vs5 h =>
q P h (binOp .lss 3 (vs5.getD 0 undef) t1) fun t11 => cnd t11 (q P h (Instr.sliceAt 23 t8 (some (vs5.getD 0 undef)) none none) fun t16 => q P h (convert 3 42 t0) fun t18 => Cn P 59 #[t18] h fun t19 h => peek P h (Instr.sliceAt 23 t8 (some (vs5.getD 0 undef)) none none) = some t16 ∧ aw P (Builtin.copy_ #[23, 23] 3 #[t16, t19]) (fun t20 h => q P h (binOp .add 3 (vs5.getD 0 undef) (Value.int .i64 8)) fun t13 => nx5 [t13] h) h) (K t8 h)) h
theorem F_crypt_bytesOf {K : Value → Hp → Prop} {h : Hp} {t0 t1 : Value} (s : s_crypt_bytesOf K h t0 t1) : Cn P 113 #[t0, t1] h K :=
  Cn_ofs mixed Try.func113 (by kernel_rfl) (args := [t0, t1]) (by kernel_rfl) s
/-- function 114: bytes.Clone -/
def s_bytes_Clone (K : Value → Hp → Prop) (h : Hp) (t0 : Value) : Prop := q P h (eqop .eql 23 (.tmp 3) (.const (Value.slice none 0 0)) t0 (Value.slice none 0 0)) fun t4 => cnd t4 (K (Value.slice none 0 0) h) (aw P (Instr.buildSlice 23 0 #[]) (fun t5 h => aw P (Builtin.append_ #[23, 23] 23 #[t5, t0]) (fun t7 h => K t7 h) h) h)
theorem F_bytes_Clone {K : Value → Hp → Prop} {h : Hp} {t0 : Value} (s : s_bytes_Clone K h t0) : Cn P 114 #[t0] h K :=
  Cn_ofs mixed Try.func114 (by kernel_rfl) (args := [t0]) (by kernel_rfl) s
end Go.Proofs.Ytoikhbagchfeoaa
namespace Go.Pure
def le : Nat → Nat → List Nat
  | 0, _ => []
  | n + 1, v => v % 256 :: le n (v / 256)
def leval : List Nat → Nat
  | [] => 0
  | x :: l => x + 256 * leval l
def Bytes (l : List Nat) : Prop := ∀ x ∈ l, x < 256
theorem le_len (n v : Nat) : (le n v).length = n := by
  induction n generalizing v with
  | zero => rfl
  | succ n ih => simp [le, ih]
theorem le_bytes (n v : Nat) : Bytes (le n v) := by
  induction n generalizing v with
  | zero => intro x hx; cases hx
  | succ n ih =>
    intro x hx
    rcases List.mem_cons.1 hx with rfl | hx
    · exact Nat.mod_lt _ (by decide)
    · exact ih _ x hx
theorem le_get (n v i : Nat) (hi : i < n) : (le n v).getD i 0 = v / 256 ^ i % 256 := by
  induction n generalizing v i with
  | zero => omega
  | succ n ih =>
    cases i with
    | zero => simp [le]
    | succ i =>
      have := ih (v / 256) i (by omega)
      simp only [le, List.getD_cons_succ, this]
      rw [Nat.div_div_eq_div_mul, Nat.pow_succ, Nat.mul_comm]
theorem leval_lt (l : List Nat) (h : Bytes l) : leval l < 256 ^ l.length := by
  induction l with
  | nil => simp [leval]
  | cons x l ih =>
    have hx := h x (List.mem_cons_self ..)
    have := ih fun y hy => h y (List.mem_cons_of_mem _ hy)
    simp only [leval, List.length_cons, Nat.pow_succ]
    omega
theorem leval_append (a b : List Nat) : leval (a ++ b) = leval a + 256 ^ a.length * leval b := by
  induction a with
  | nil => simp [leval]
  | cons x a ih =>
    simp only [List.cons_append, leval, ih, List.length_cons, Nat.pow_succ]
    rw [Nat.mul_add, ← Nat.mul_assoc, Nat.mul_comm 256 (256 ^ a.length), Nat.add_assoc]
theorem leval_le (n v : Nat) : leval (le n v) = v % 256 ^ n := by
  induction n generalizing v with
  | zero => simp [le, leval, Nat.mod_one]
  | succ n ih =>
    simp only [le, leval, ih, Nat.pow_succ]
    rw [Nat.mul_comm (256 ^ n) 256, Nat.mod_mul]
theorem Bytes.take {l : List Nat} (h : Bytes l) (n : Nat) : Bytes (l.take n) := fun x hx => h x (List.mem_of_mem_take hx)
theorem Bytes.drop {l : List Nat} (h : Bytes l) (n : Nat) : Bytes (l.drop n) := fun x hx => h x (List.mem_of_mem_drop hx)
theorem Bytes.append {a b : List Nat} (h : Bytes a) (g : Bytes b) : Bytes (a ++ b) := fun x hx => (List.mem_append.1 hx).elim (h x) (g x)
theorem Bytes.getD {l : List Nat} (h : Bytes l) (i : Nat) : l.getD i 0 < 256 := by
  rw [List.getD_eq_getElem?_getD]
  cases hg : l[i]? with
  | none => simp
  | some x => exact h x (List.mem_of_getElem? hg)
theorem leval_take_succ (l : List Nat) (i : Nat) : leval (l.take (i + 1)) = leval (l.take i) + 256 ^ i * l.getD i 0 := by
  by_cases hi : i < l.length
  · rw [List.take_succ_eq_append_getElem hi, leval_append]
    simp [leval, List.length_take, Nat.min_eq_left (Nat.le_of_lt hi), hi]
  · rw [List.take_of_length_le (by omega), List.take_of_length_le (by omega)]
    simp [List.getElem?_eq_none (show l.length ≤ i by omega)]
theorem leval_take_lt (l : List Nat) (h : Bytes l) (i : Nat) : leval (l.take i) < 256 ^ i := by
  refine Nat.lt_of_lt_of_le (leval_lt _ (h.take i)) (Nat.pow_le_pow_right (by decide) ?_)
  rw [List.length_take]; exact Nat.min_le_left _ _
theorem or_add (a b n : Nat) (h : a < 2 ^ n) : a ||| b * 2 ^ n = a + b * 2 ^ n := by
  rw [Nat.mul_comm, Nat.or_comm, ← Nat.two_pow_add_eq_or_of_lt h, Nat.add_comm]
theorem pow256 (i : Nat) : 256 ^ i = 2 ^ (8 * i) := by rw [Nat.pow_mul]
end Go.Pure
set_option linter.unusedSimpArgs false
set_option linter.unusedVariables false
set_option maxRecDepth 100000
namespace Go.Proofs.Ytoikhbagchfeoaa
open Go Go.SL Go.Pure
theorem T_word_at {h : Hp} {K : Value → Hp → Prop} {v : Value} {l : List Nat} (i : Nat) (hr : Rn h .u8 v l) (hb : Bytes l) (k : K (.int .u64 ((l.getD i 0 : Nat) : Int)) h) : Cn P n_word_at #[v, .int .i64 i] h K := by
  refine F_word_at ?_
  obtain ⟨a, c, rfl, hc⟩ := hr.shape
  unfold s_word_at
  by_cases hlt : i < l.length
  · obtain ⟨b, o, rfl, hy⟩ := hr.pos (by omega)
    have := hb.getD i
    simp (disch := omega) only [GL, RL, hy i hlt, wu64i]
    rw [if_pos (by simpa using hlt)]
    exact k
  · simp (disch := omega) only [GL, RL]
    rw [if_neg (by simpa using hlt)]
    simpa [List.getElem?_eq_none (show l.length ≤ i by omega)] using k
theorem T_word_get {h : Hp} {K : Value → Hp → Prop} {v : Value} {l : List Nat} (n : Nat) (hn : n ≤ 8) (hr : Rn h .u8 v l) (hb : Bytes l) (k : K (.int .u64 ((leval (l.take n) : Nat) : Int)) h) : Cn P n_word_get #[v, .int .i64 n] h K := by
  refine F_word_get ?_
  unfold s_word_get
  refine Lp_mk (fun m vs h' => ∃ i, i + m = n ∧ h' = h ∧ vs = [.int .u64 ((leval (l.take i) : Nat) : Int), .int .i64 (i : Int)]) n ⟨0, by omega, rfl, by simp [leval]⟩ ?_
  rintro m vs h1 ⟨i, hi, rfl, rfl⟩
  simp (disch := omega) only [GL, RL]
  split
  · rename_i hlt
    simp only [decide_eq_true_eq, Int.ofNat_lt] at hlt
    refine T_word_at i hr hb ?_
    have h1 := hb.getD i
    have h2 := leval_take_lt l hb i
    have h3 : 256 ^ i * l.getD i 0 < 2 ^ 64 := by
      have : 256 ^ (i + 1) ≤ 256 ^ 8 := Nat.pow_le_pow_right (by decide) (by omega)
      have h4 : 256 ^ i * l.getD i 0 < 256 ^ (i + 1) := by rw [Nat.pow_succ]; exact Nat.mul_lt_mul_of_pos_left h1 (Nat.pow_pos (by decide))
      omega
    have h4 : 256 ^ i ≤ 256 ^ 8 := Nat.pow_le_pow_right (by decide) (by omega)
    simp (disch := omega) only [GL, RL, wi64]
    refine ⟨_, .refl _, m - 1, by omega, i + 1, by omega, rfl, ?_⟩
    have e1 : min (8 * (i : Int)).toNat IntKind.u64.bits = 8 * i := by simp only [IntKind.bits]; omega
    have e2 : l.getD i 0 * 2 ^ (8 * i) = 256 ^ i * l.getD i 0 := by rw [pow256, Nat.mul_comm]
    rw [e1, mulp, e2, wu64i (by omega) (by omega), or64 (by omega) (by omega) (by omega) (by omega), Int.toNat_natCast, Int.toNat_natCast, leval_take_succ, ← e2, or_add _ _ _ (by rw [← pow256]; exact h2)]
    rfl
  · rename_i hge
    simp only [decide_eq_true_eq, Int.ofNat_lt] at hge
    obtain rfl : i = n := by omega
    exact k
theorem T_word_Get32 {h : Hp} {K : Value → Hp → Prop} {v : Value} {l : List Nat} (hr : Rn h .u8 v l) (hb : Bytes l) (k : K (.int .u32 ((leval (l.take 4) : Nat) : Int)) h) : Cn P n_word_Get32 #[v] h K := by
  refine F_word_Get32 ?_
  unfold s_word_Get32
  refine T_word_get 4 (by omega) hr hb ?_
  have := leval_take_lt l hb 4
  simp (disch := omega) only [GL, RL, wu32i]
  exact k
theorem T_word_Get64 {h : Hp} {K : Value → Hp → Prop} {v : Value} {l : List Nat} (hr : Rn h .u8 v l) (hb : Bytes l) (k : K (.int .u64 ((leval (l.take 8) : Nat) : Int)) h) : Cn P n_word_Get64 #[v] h K := by
  refine F_word_Get64 ?_
  unfold s_word_Get64
  refine T_word_get 8 (by omega) hr hb ?_
  exact k
end Go.Proofs.Ytoikhbagchfeoaa
set_option linter.unusedSimpArgs false
set_option linter.unusedVariables false
namespace Go.SL
open Go
/-- All that is known stays known. -/
def Hp.ext (h h' : Hp) : Prop := ∀ b o, h b = some o → h' b = some o
theorem Hp.ext.refl (h : Hp) : Hp.ext h h := fun _ _ e => e
theorem Hp.ext.trans {a b c : Hp} (x : Hp.ext a b) (y : Hp.ext b c) : Hp.ext a c := fun i o e => y i o (x i o e)
theorem ext_set {h : Hp} {r : Nat} (o : AObj) (hr : h r = none) : Hp.ext h (h.set r o) := fun i x e => by
  have : i ≠ r := by rintro rfl; rw [hr] at e; cases e
  rw [Hp.set_ne _ _ this]; exact e
theorem Hp.ext.le {h h' : Hp} (x : Hp.ext h h') : Hp.le h h' := fun b o e => ⟨o, x b o e, .refl o⟩
theorem Hp.ext.cle {h h' : Hp} (x : Hp.ext h h') : Hp.cle h h' := fun a v e => by
  unfold Hp.cell at e ⊢
  split at e
  · cases e
  · rename_i hs
    rw [if_neg hs]
    cases hb : h a.block with
    | none => rw [hb] at e; cases e
    | some o => rw [x _ _ hb]; rw [hb] at e; exact e
theorem Hp.ext.none {h h' : Hp} (x : Hp.ext h h') {b : Nat} (e : h' b = none) : h b = none := by
  cases hb : h b with
  | none => rfl
  | some o => rw [x b o hb] at e; cases e
theorem New.ext {h : Hp} {e s : Nat} {v : Value} {h' : Hp} {xs : List Value} {n : Nat} (w : New h e s v h' xs n) : Hp.ext h h' := by
  rcases w.2 with ⟨_, _, rfl⟩ | ⟨b, c, f, hb, _, _, rfl, _⟩
  · exact .refl _
  · exact ext_set _ hb
theorem Nn.ext {h : Hp} {e : Nat} {k : IntKind} {v : Value} {h' : Hp} {l : List Nat} (w : Nn h e k v h' l) : Hp.ext h h' := New.ext w
theorem del_set (h : Hp) {b : Nat} {o : AObj} (e : h b = some o) : (h.del b).set b o = h := by
  funext i
  unfold Hp.set Hp.del
  by_cases hi : i = b
  · subst hi; simp [e]
  · simp [hi]
theorem del_at (h : Hp) (b : Nat) : (h.del b) b = none := by simp [Hp.del]
/-- A row of the call's own that stands somewhere, as a new one. -/
theorem New.at {h : Hp} {b : Nat} {e s n c : Nat} {xs : List Value} {f : Nat × Nat} (hb : h b = some (.row e xs (c * s) (some f))) (hl : xs.length = n * s) (hc : n ≤ c) (hf : ∀ i, i < c * s → ¬ (f.1 ≤ i ∧ i < f.2)) :
    New (h.del b) e s (.slice (some ⟨b, 0, none⟩) n c) h xs n := ⟨hl, .inr ⟨b, c, f, del_at h b, hc, rfl, (del_set h hb).symm, hf⟩⟩
section
variable {P : Program} {h : Hp}
/-! ### Methods -/
theorem awp_method {t : TypeId} {v : Value} {name : String} {args : Array Value} {K : Next → Hp → Prop} {g : FuncId} {r : Value}
    (hm : peek P h (method (P.types.size + Made.depth) t v name) = some (g, r)) (c : Callable P g) (k : K (.enter g (#[r] ++ args)) h) : awp P (callMethod (.iface t v) name args) K h := by
  show awp P (Sem.program fun p => Sem.bind (method (p.types.size + Made.depth) t v name) fun x => callFunc x.1 (#[x.2] ++ args)) K h
  show awp P (Sem.bind (method (P.types.size + Made.depth) t v name) fun x => callFunc x.1 (#[x.2] ++ args)) K h
  rw [awp_bind, peek_awp P _ _ _ hm, awp_call c]
  exact k
/-- A call of a method of an interface. -/
theorem aw_method {t : TypeId} {v : Value} {name : String} {args : Array Value} {K : Value → Hp → Prop} {g : FuncId} {r : Value}
    (hm : peek P h (method (P.types.size + Made.depth) t v name) = some (g, r)) (c : Cn P g (#[r] ++ args) h K) : aw P (callMethod (.iface t v) name args) (nextP P K) h :=
  awp_method hm c.1 ⟨h, .refl _, c⟩
theorem q_mkI {t : TypeId} {d : TypeDesc} {K : Value → Prop} (ht : P.underlying t = some d) (hd : (match d with | .interface _ => true | _ => false) = false) (x : Value) : q P h (Instr.makeInterface t x) K = K (.iface t x) := q_of (by
  show peek P h (Sem.bind (underlying t) _) = _
  rw [peek_bind, pk_und ht, Option.bind_some]
  cases d <;> first | rfl | cases hd) K
/-! ### Maps whose keys are strings -/
/-- The entries, by their keys. -/
def mget (es : List MapEntry) (k : ByteArray) : Option (Nat × Value) :=
  match es with
  | [] => none
  | e :: es => match e.key with
    | .string s => if (k == s) = true then some (0, e.val) else (mget es k).map fun p => (p.1 + 1, p.2)
    | _ => none
def strKeys (es : List MapEntry) : Prop := ∀ e ∈ es, ∃ s, e.key = .string s
theorem aw_makeMap {t : TypeId} {K : Value → Hp → Prop} (k : ∀ r, h r = none → K (.map (some r)) (h.set r (.obj (.map #[] 0)))) : aw P (Instr.makeMap t none) K h := by
  refine aw_of ?_
  show awp P (Sem.bind (newObj (.map #[] 0)) fun r => Sem.pure (.map (some r))) K h
  rw [awp_bind]
  exact fun r hr => k r hr
/-! ### Copies -/
def putL : List Value → Nat → List Value → List Value
  | xs, _, [] => xs
  | xs, j, y :: ys => putL (xs.set j y) (j + 1) ys
theorem putL_eq : ∀ (ys xs : List Value) (j : Nat), j + ys.length ≤ xs.length → putL xs j ys = xs.take j ++ ys ++ xs.drop (j + ys.length)
  | [], xs, j, _ => by simp [putL]
  | y :: ys, xs, j, h => by
    simp only [List.length_cons] at h
    rw [putL, putL_eq ys _ _ (by rw [List.length_set]; omega), List.take_succ_eq_append_getElem (by rw [List.length_set]; omega), List.getElem_set_self, List.take_set_of_le (Nat.le_refl _), List.drop_set_of_lt (by omega)]
    simp only [List.append_assoc, List.singleton_append, List.cons_append, List.nil_append, List.length_cons]
    rw [show j + 1 + ys.length = j + (ys.length + 1) by omega]
theorem awp_putCells {b e cap : Nat} {f : Nat × Nat} : ∀ (ys xs : List Value) (h : Hp) (K : Unit → Hp → Prop) (o i : Nat), h b = some (.row e xs cap (some f)) → (∀ y ∈ ys, flat y = true) → o + i + ys.length ≤ xs.length →
    (∀ i, i < xs.length → ¬ (f.1 ≤ i ∧ i < f.2)) → K () (h.set b (.row e (putL xs (o + i) ys) cap (some f))) → awp P (storeCells ⟨b, o, none⟩ ys i) K h := by
  intro ys
  induction ys with
  | nil =>
    intro xs h K o i hb _ hl _ k
    have : h.set b (.row e (putL xs (o + i) []) cap (some f)) = h := by
      funext j
      unfold Hp.set
      split
      · rename_i e1; subst e1; rw [hb]; rfl
      · rfl
    rw [this] at k
    exact k
  | cons y ys ih =>
    intro xs h K o i hb hfl hl hf k
    simp only [List.length_cons] at hl
    show awp P (Sem.bind (store ((⟨b, o, none⟩ : Addr).add i) y) fun _ => storeCells ⟨b, o, none⟩ ys (i + 1)) K h
    rw [awp_bind, add_off]
    refine ⟨hfl y (List.mem_cons_self ..), ?_⟩
    rw [put_row hb (by omega) (hf (o + i) (by omega))]
    refine ih (xs.set (o + i) y) _ K o (i + 1) (Hp.set_same ..) (fun z hz => hfl z (List.mem_cons_of_mem _ hz)) (by rw [List.length_set]; omega) (fun j hj => hf j (by rwa [List.length_set] at hj)) ?_
    rw [Hp.set_set]
    exact k
/-- A copy into a row of the call's own, at a place, of a row that is read. -/
theorem aw_copy {t t2 T e b o dl dc n : Nat} {cap : Nat} {f : Nat × Nat} {xs ys : List Value} {w : Value} {K : Value → Hp → Prop} (ht : P.underlying t = some (.slice e)) (hs : sz P e = some 1) (hb : h b = some (.row e xs cap (some f)))
    (hr : Rds h 1 w ys n) (hfl : ∀ y ∈ ys, flat y = true) (hn : n ≤ dl) (hl : o + dl ≤ xs.length) (hf : ∀ i, i < xs.length → ¬ (f.1 ≤ i ∧ i < f.2))
    (k : K (.int .i64 n) (h.set b (.row e (putL xs o ys) cap (some f)))) : aw P (Builtin.copy_ #[t, t2] T #[.slice (some ⟨b, o, none⟩) dl dc, w]) K h := by
  refine aw_of ?_
  obtain ⟨hyl, wa, wc, rfl, hwc, hwr⟩ := hr
  have hr : Rds h 1 (.slice wa n wc) ys n := ⟨hyl, wa, wc, rfl, hwc, hwr⟩
  show awp P (Sem.bind (underlying t) _) _ h
  rw [awp_bind, peek_awp P _ _ _ (pk_und ht)]
  show awp P (Sem.bind (sizeOf e) _) _ h
  rw [awp_bind, peek_awp P _ _ _ (pk_size hs)]
  show awp P (Sem.bind (Builtin.firstCells 1 (Nat.min n dl) (.slice wa n wc)) _) _ h
  have hmin : Nat.min n dl = n := Nat.min_eq_left hn
  rw [hmin, awp_bind]
  refine awp_firstCells hr ?_
  show awp P (Sem.bind (storeCells ⟨b, o, none⟩ ys.toArray.toList 0) _) _ h
  rw [awp_bind]
  exact awp_putCells ys xs h _ o 0 hb hfl (by omega) hf (by rw [Nat.add_zero]; exact k)
/-- A copy of a part: as much as there is room for. -/
theorem aw_copyMin {t t2 T e b o dl dc n : Nat} {cap : Nat} {f : Nat × Nat} {xs ys : List Value} {w : Value} {K : Value → Hp → Prop} (ht : P.underlying t = some (.slice e)) (hs : sz P e = some 1) (hb : h b = some (.row e xs cap (some f)))
    (hr : Rds h 1 w ys n) (hfl : ∀ y ∈ ys, flat y = true) (hl : o + dl ≤ xs.length) (hf : ∀ i, i < xs.length → ¬ (f.1 ≤ i ∧ i < f.2))
    (k : K (.int .i64 (Nat.min n dl : Nat)) (h.set b (.row e (putL xs o (ys.take dl)) cap (some f)))) : aw P (Builtin.copy_ #[t, t2] T #[.slice (some ⟨b, o, none⟩) dl dc, w]) K h := by
  refine aw_of ?_
  obtain ⟨hyl, wa, wc, rfl, hwc, hwr⟩ := hr
  have hr : Rds h 1 (.slice wa (Nat.min n dl) wc) (ys.take dl) (Nat.min n dl) := by
    refine ⟨by rw [List.length_take, hyl]; simp [Nat.min_comm, Nat.min_def], wa, wc, rfl, Nat.le_trans (Nat.min_le_left _ _) hwc, ?_⟩
    rcases hwr with h0 | ⟨b', o', ha, hy⟩
    · left; subst h0; exact Nat.zero_min _
    · right
      refine ⟨b', o', ha, fun i x ex => ?_⟩
      rw [List.getElem?_take] at ex
      split at ex
      · exact hy i x ex
      · cases ex
  show awp P (Sem.bind (underlying t) _) _ h
  rw [awp_bind, peek_awp P _ _ _ (pk_und ht)]
  show awp P (Sem.bind (sizeOf e) _) _ h
  rw [awp_bind, peek_awp P _ _ _ (pk_size hs)]
  show awp P (Sem.bind (Builtin.firstCells 1 (Nat.min n dl) (.slice wa n wc)) _) _ h
  have e1 : Builtin.firstCells 1 (Nat.min n dl) (.slice wa n wc) = Builtin.firstCells 1 (Nat.min n dl) (.slice wa (Nat.min n dl) wc) := by cases wa <;> rfl
  rw [e1, awp_bind]
  refine awp_firstCells hr ?_
  show awp P (Sem.bind (storeCells ⟨b, o, none⟩ (ys.take dl).toArray.toList 0) _) _ h
  rw [awp_bind]
  exact awp_putCells (ys.take dl) xs h _ o 0 hb (fun y hy => hfl y (List.mem_of_mem_take hy)) (by rw [List.length_take]; omega) hf (by rw [Nat.add_zero]; exact k)
/-! ### Slices of structs -/
/-- A slice's literal of one struct. -/
theorem aw_litA {t e s : Nat} {z : Value} {ys : List Value} {K : Value → Hp → Prop} (ht : P.underlying t = some (.slice e)) (hs : sz P e = some s) (hzr : zr P e = some z) (hz : z.cells.size = s) (hy : ys.length = s) (h0 : 0 < s) (hn : s ≤ 1000)
    (k : ∀ v h', New h e s v h' ys 1 → K v h') : aw P (Instr.buildSlice t 1 #[(0, .agg ys.toArray)]) K h := by
  refine aw_of ?_
  show awp P (Sem.bind (underlying t) _) _ h
  rw [awp_bind, peek_awp P _ _ _ (pk_und ht)]
  show awp P (Sem.bind (sizeOf e) _) _ h
  rw [awp_bind, peek_awp P _ _ _ (pk_size hs)]
  show awp P (if 1 * s > 2 ^ 24 then _ else _) _ h
  rw [if_neg (by omega)]
  show awp P (if 1 * s = 0 then _ else _) _ h
  rw [if_neg (by omega)]
  show awp P (Sem.bind (zeroValue e) _) _ h
  rw [awp_bind, peek_awp P _ _ _ (pk_zero hzr)]
  have hfill : Instr.fill (fun i => some (i * s, s)) ((Array.range (1 * s)).map (fun x => z.cells[x % z.cells.size]!)) [(0, .agg ys.toArray)] = some ys.toArray := by
    simp only [Instr.fill, Value.cells, List.size_toArray, hy, Nat.zero_mul, Nat.zero_add, Array.size_map, Array.size_range, Nat.one_mul]
    rw [if_neg (by simp)]
    congr 1
    have key : ∀ (l : List Value) (j : Nat) (cs : Array Value), j + l.length ≤ cs.size → (l.zipIdx j).foldl (fun cs (p : Value × Nat) => cs.setIfInBounds p.2 p.1) cs = (cs.toList.take j ++ l ++ cs.toList.drop (j + l.length)).toArray := by
      intro l
      induction l with
      | nil => intro j cs _; simp
      | cons y l ih =>
        intro j cs hj
        simp only [List.length_cons] at hj
        rw [List.zipIdx_cons, List.foldl_cons, ih (j + 1) _ (by simp; omega)]
        congr 1
        simp only [Array.toList_setIfInBounds]
        rw [List.take_succ_eq_append_getElem (by rw [List.length_set, Array.length_toList]; omega), List.getElem_set_self, List.take_set_of_le (Nat.le_refl _), List.drop_set_of_lt (by omega)]
        simp only [List.append_assoc, List.singleton_append, List.cons_append, List.nil_append, List.length_cons]
        rw [show j + 1 + l.length = j + (l.length + 1) by omega]
    have := key ys 0 ((Array.range s).map (fun x => z.cells[x % z.cells.size]!)) (by simp [hy])
    have e1 : ys.toArray.zipIdx.foldl (fun cs (p : Value × Nat) => cs.setIfInBounds p.2 p.1) ((Array.range s).map (fun x => z.cells[x % z.cells.size]!)) = (ys.zipIdx 0).foldl (fun cs (p : Value × Nat) => cs.setIfInBounds p.2 p.1) ((Array.range s).map (fun x => z.cells[x % z.cells.size]!)) := by
      simp
    refine e1.trans (this.trans ?_)
    rw [List.take_zero, List.nil_append, Nat.zero_add, List.drop_of_length_le (by simp [hy]), List.append_nil]
  show awp P (match Instr.fill (fun i => some (i * s, s)) ((Array.range (1 * s)).map (fun x => z.cells[x % z.cells.size]!)) [(0, .agg ys.toArray)] with
      | some cells => Sem.bind (newRow e cells) fun a => Sem.pure (.slice (some a) 1 1)
      | _ => stuck "buildSlice: a part of the wrong size") K h
  rw [hfill]
  show awp P (Sem.bind (newRow e _) _) K h
  rw [awp_bind]
  intro r hr
  refine k _ _ ⟨by rw [Nat.one_mul]; exact hy, .inr ⟨r, 1, (0, 0), hr, Nat.le_refl _, rfl, ?_, fun i _ => by simp⟩⟩
  simp [absOf, hy]
end
end Go.SL
set_option linter.unusedSimpArgs false
set_option linter.unusedVariables false
namespace Go.SL
open Go
section
variable {P : Program} {h : Hp}
/-- A copy into a row of the call's own, at a place, of a row that is read. -/
theorem aw_copyG {t t2 T e b o dl dc n : Nat} {e' cap : Nat} {f : Nat × Nat} {xs ys : List Value} {w : Value} {K : Value → Hp → Prop} (ht : P.underlying t = some (.slice e)) (hs : sz P e = some 1) (hb : h b = some (.row e' xs cap (some f)))
    (hr : Rds h 1 w ys n) (hfl : ∀ y ∈ ys, flat y = true) (hn : n ≤ dl) (hl : o + dl ≤ xs.length) (hf : ∀ i, i < xs.length → ¬ (f.1 ≤ i ∧ i < f.2))
    (k : K (.int .i64 n) (h.set b (.row e' (putL xs o ys) cap (some f)))) : aw P (Builtin.copy_ #[t, t2] T #[.slice (some ⟨b, o, none⟩) dl dc, w]) K h := by
  refine aw_of ?_
  obtain ⟨hyl, wa, wc, rfl, hwc, hwr⟩ := hr
  have hr : Rds h 1 (.slice wa n wc) ys n := ⟨hyl, wa, wc, rfl, hwc, hwr⟩
  show awp P (Sem.bind (underlying t) _) _ h
  rw [awp_bind, peek_awp P _ _ _ (pk_und ht)]
  show awp P (Sem.bind (sizeOf e) _) _ h
  rw [awp_bind, peek_awp P _ _ _ (pk_size hs)]
  show awp P (Sem.bind (Builtin.firstCells 1 (Nat.min n dl) (.slice wa n wc)) _) _ h
  have hmin : Nat.min n dl = n := Nat.min_eq_left hn
  rw [hmin, awp_bind]
  refine awp_firstCells hr ?_
  show awp P (Sem.bind (storeCells ⟨b, o, none⟩ ys.toArray.toList 0) _) _ h
  rw [awp_bind]
  exact awp_putCells ys xs h _ o 0 hb hfl (by omega) hf (by rw [Nat.add_zero]; exact k)
/-- A copy of a part: as much as there is room for. -/
theorem aw_copyMinG {t t2 T e b o dl dc n : Nat} {e' cap : Nat} {f : Nat × Nat} {xs ys : List Value} {w : Value} {K : Value → Hp → Prop} (ht : P.underlying t = some (.slice e)) (hs : sz P e = some 1) (hb : h b = some (.row e' xs cap (some f)))
    (hr : Rds h 1 w ys n) (hfl : ∀ y ∈ ys, flat y = true) (hl : o + dl ≤ xs.length) (hf : ∀ i, i < xs.length → ¬ (f.1 ≤ i ∧ i < f.2))
    (k : K (.int .i64 (Nat.min n dl : Nat)) (h.set b (.row e' (putL xs o (ys.take dl)) cap (some f)))) : aw P (Builtin.copy_ #[t, t2] T #[.slice (some ⟨b, o, none⟩) dl dc, w]) K h := by
  refine aw_of ?_
  obtain ⟨hyl, wa, wc, rfl, hwc, hwr⟩ := hr
  have hr : Rds h 1 (.slice wa (Nat.min n dl) wc) (ys.take dl) (Nat.min n dl) := by
    refine ⟨by rw [List.length_take, hyl]; simp [Nat.min_comm, Nat.min_def], wa, wc, rfl, Nat.le_trans (Nat.min_le_left _ _) hwc, ?_⟩
    rcases hwr with h0 | ⟨b', o', ha, hy⟩
    · left; subst h0; exact Nat.zero_min _
    · right
      refine ⟨b', o', ha, fun i x ex => ?_⟩
      rw [List.getElem?_take] at ex
      split at ex
      · exact hy i x ex
      · cases ex
  show awp P (Sem.bind (underlying t) _) _ h
  rw [awp_bind, peek_awp P _ _ _ (pk_und ht)]
  show awp P (Sem.bind (sizeOf e) _) _ h
  rw [awp_bind, peek_awp P _ _ _ (pk_size hs)]
  show awp P (Sem.bind (Builtin.firstCells 1 (Nat.min n dl) (.slice wa n wc)) _) _ h
  have e1 : Builtin.firstCells 1 (Nat.min n dl) (.slice wa n wc) = Builtin.firstCells 1 (Nat.min n dl) (.slice wa (Nat.min n dl) wc) := by cases wa <;> rfl
  rw [e1, awp_bind]
  refine awp_firstCells hr ?_
  show awp P (Sem.bind (storeCells ⟨b, o, none⟩ (ys.take dl).toArray.toList 0) _) _ h
  rw [awp_bind]
  exact awp_putCells (ys.take dl) xs h _ o 0 hb (fun y hy => hfl y (List.mem_of_mem_take hy)) (by rw [List.length_take]; omega) hf (by rw [Nat.add_zero]; exact k)
/-- An array from a place on. -/
theorem q_slArrLo {t e s n : Nat} {K : Value → Prop} (ht : P.underlying t = some (.array n e)) (hs : sz P e = some s) (a : Addr) (k : IntKind) (lo : Nat) (h1 : lo ≤ n) :
    q P h (Instr.sliceAt t (.pointer (some a)) (some (.int k lo)) none none) K = K (.slice (some (if n = lo then a else a.add (lo * s))) (n - lo) (n - lo)) := q_of (by
  show peek P h (Sem.bind (underlying t) _) = _
  rw [peek_bind, pk_und ht, Option.bind_some]
  show peek P h (Sem.bind (Sem.bind (Instr.sliceBound (.int k (lo : Int)) n .sliceB) _) _) = _
  rw [peek_bind, peek_bind, pk_bound k lo n h1, Option.bind_some]
  show peek P h (Sem.bind (sizeOf e) _) = _
  rw [peek_bind, pk_size hs]
  rfl) K
end
end Go.SL
set_option linter.unusedSimpArgs false
set_option linter.unusedVariables false
namespace Go.SL
open Go
/-- Shapes: numbers, truths, texts, slices, structs (parts in a row), arrays. -/
inductive Ty where
  | int (k : IntKind)
  | bool
  | str
  | sl (e : Ty)
  | arr (n : Nat) (e : Ty)
  | rcd (fs : Ty)
  | nil
  | cons (a b : Ty)
def Ty.size : Ty → Nat
  | .int _ => 1
  | .bool => 1
  | .str => 1
  | .sl _ => 1
  | .arr n e => n * e.size
  | .rcd fs => fs.size
  | .nil => 0
  | .cons a b => a.size + b.size
/-- Rows of cells, one behind the other, behind a slice. -/
def SlAt (R : Hp) (s : Nat) (v : Value) (items : List (List Value)) : Prop :=
  ∃ a c, v = .slice a items.length c ∧ items.length ≤ c ∧ (items = [] ∨ ∃ b o, a = some ⟨b, o, none⟩ ∧ ∀ (i : Nat) (x : List Value), items[i]? = some x → ∀ (j : Nat) (y : Value), x[j]? = some y → R.cell ⟨b, o + i * s + j, none⟩ = some y)
theorem SlAt.mono {R R' : Hp} {s : Nat} {v : Value} {items : List (List Value)} (a : SlAt R s v items) (c : Hp.cle R R') : SlAt R' s v items := by
  obtain ⟨x, n, h1, h2, h3⟩ := a
  refine ⟨x, n, h1, h2, ?_⟩
  rcases h3 with h3 | ⟨b, o, h4, h5⟩
  · exact .inl h3
  · exact .inr ⟨b, o, h4, fun i x e j y ey => c _ _ (h5 i x e j y ey)⟩
theorem SlAt.shape {R : Hp} {s : Nat} {v : Value} {items : List (List Value)} (a : SlAt R s v items) : ∃ x c, v = .slice x items.length c ∧ items.length ≤ c := let ⟨x, c, e, hc, _⟩ := a; ⟨x, c, e, hc⟩
/-- Cells that are a thing of that shape. -/
def Ty.Rd (R : Hp) : Ty → List Value → Prop
  | .int k, vs => ∃ n, vs = [.int k n] ∧ (Lit.int k n).wf = true
  | .bool, vs => ∃ b, vs = [.bool b]
  | .str, vs => ∃ s : ByteArray, vs = [.string s] ∧ s.size ≤ 9223372036854775807
  | .sl e, vs => ∃ (v : Value) (items : List (List Value)), vs = [v] ∧ SlAt R e.size v items ∧ items.length ≤ 9223372036854775807 ∧ ∀ x ∈ items, x.length = e.size ∧ e.Rd R x
  | .arr n e, vs => ∃ items : List (List Value), vs = items.flatten ∧ items.length = n ∧ ∀ x ∈ items, x.length = e.size ∧ e.Rd R x
  | .rcd fs, vs => fs.Rd R vs
  | .nil, vs => vs = []
  | .cons a b, vs => ∃ x y, vs = x ++ y ∧ x.length = a.size ∧ a.Rd R x ∧ b.Rd R y
theorem Ty.Rd.mono {R R' : Hp} (c : Hp.cle R R') : ∀ {ty : Ty} {vs : List Value}, ty.Rd R vs → ty.Rd R' vs
  | .int _, _, h => h
  | .bool, _, h => h
  | .str, _, h => h
  | .sl _, _, ⟨v, items, e, a, hl, h⟩ => ⟨v, items, e, a.mono c, hl, fun x hx => ⟨(h x hx).1, Ty.Rd.mono c (h x hx).2⟩⟩
  | .arr _ _, _, ⟨items, e, l, h⟩ => ⟨items, e, l, fun x hx => ⟨(h x hx).1, Ty.Rd.mono c (h x hx).2⟩⟩
  | .rcd fs, _, h => Ty.Rd.mono (ty := fs) c h
  | .nil, _, h => h
  | .cons _ _, _, ⟨x, y, e, l, h1, h2⟩ => ⟨x, y, e, l, Ty.Rd.mono c h1, Ty.Rd.mono c h2⟩
theorem flatten_len {s : Nat} : ∀ {items : List (List Value)}, (∀ x ∈ items, x.length = s) → items.flatten.length = items.length * s
  | [], _ => by simp
  | x :: l, h => by
    rw [List.flatten_cons, List.length_append, flatten_len fun y hy => h y (List.mem_cons_of_mem _ hy), h x (by simp), List.length_cons, Nat.succ_mul, Nat.add_comm]
theorem Ty.Rd.len {R : Hp} : ∀ {ty : Ty} {vs : List Value}, ty.Rd R vs → vs.length = ty.size
  | .int _, _, ⟨_, e, _⟩ => by rw [e]; rfl
  | .bool, _, ⟨_, e⟩ => by rw [e]; rfl
  | .str, _, ⟨_, e, _⟩ => by rw [e]; rfl
  | .sl _, _, ⟨_, _, e, _⟩ => by rw [e]; rfl
  | .arr n e, _, ⟨items, h1, h2, h3⟩ => by rw [h1, flatten_len fun x hx => (h3 x hx).1, h2]; rfl
  | .rcd fs, _, h => Ty.Rd.len (ty := fs) h
  | .nil, _, h => by rw [show _ = [] from h]; rfl
  | .cons a b, _, ⟨x, y, e, l, _, h2⟩ => by rw [e, List.length_append, l, Ty.Rd.len h2]; rfl
theorem Ty.Rd.flat {R : Hp} : ∀ {ty : Ty} {vs : List Value}, ty.Rd R vs → ∀ y ∈ vs, SL.flat y = true
  | .int _, _, ⟨_, e, _⟩, y, hy => by rw [e, List.mem_singleton] at hy; rw [hy]; rfl
  | .bool, _, ⟨_, e⟩, y, hy => by rw [e, List.mem_singleton] at hy; rw [hy]; rfl
  | .str, _, ⟨_, e, _⟩, y, hy => by rw [e, List.mem_singleton] at hy; rw [hy]; rfl
  | .sl _, _, ⟨_, _, e, a, _⟩, y, hy => by obtain ⟨_, _, ev, _⟩ := a; rw [e, List.mem_singleton] at hy; rw [hy, ev]; rfl
  | .arr n e, _, ⟨items, h1, h2, h3⟩, y, hy => by
    rw [h1] at hy
    obtain ⟨x, hx, hy⟩ := List.mem_flatten.1 hy
    exact Ty.Rd.flat (h3 x hx).2 y hy
  | .rcd fs, _, h, y, hy => Ty.Rd.flat (ty := fs) h y hy
  | .nil, _, h, y, hy => by rw [show _ = [] from h] at hy; cases hy
  | .cons a b, _, ⟨x, z, e, l, h1, h2⟩, y, hy => by
    rw [e] at hy
    rcases List.mem_append.1 hy with q | q
    · exact Ty.Rd.flat h1 y q
    · exact Ty.Rd.flat h2 y q
/-- Does a type of the program have a shape? Of a struct's parts: from a place on. -/
def tyB (P : Program) : Ty → TypeId ⊕ (Nat × List Field) → Bool
  | .int k, .inl t => match P.underlying t with
    | some (.int k') => k' == k
    | _ => false
  | .bool, .inl t => match P.underlying t with
    | some .bool => true
    | _ => false
  | .str, .inl t => match P.underlying t with
    | some .string => true
    | _ => false
  | .sl e, .inl t => match P.underlying t with
    | some (.slice te) => P.cellsOf te == e.size && decide (0 < e.size) && tyB P e (.inl te)
    | _ => false
  | .arr n e, .inl t => match P.underlying t with
    | some (.array m te) => m == n && P.cellsOf te == e.size && P.cellsOf t == n * e.size && tyB P e (.inl te)
    | _ => false
  | .rcd fs, .inl t => match P.underlying t with
    | some (.struct fa) => P.cellsOf t == fs.size && tyB P fs (.inr (0, fa.toList))
    | _ => false
  | .nil, .inr (_, l) => l.isEmpty
  | .cons a b, .inr (o, l) => match l with
    | f :: l => f.offset == o && P.cellsOf f.type == a.size && tyB P a (.inl f.type) && tyB P b (.inr (o + a.size, l))
    | [] => false
  | _, _ => false
/-- Bytes. -/
abbrev Ty.bytes : Ty := .sl (.int .u8)
theorem wf_u8 {n : Int} (h : (Lit.int .u8 n).wf = true) : 0 ≤ n ∧ n < 256 := by
  simp [Lit.wf, IntKind.min, IntKind.max, IntKind.signed, IntKind.bits] at h
  omega
theorem Ty.Rd.asBytes {R : Hp} {vs : List Value} (h : Ty.bytes.Rd R vs) : ∃ (v : Value) (l : List Nat), vs = [v] ∧ Rn R .u8 v l ∧ (∀ x ∈ l, x < 256) ∧ l.length ≤ 9223372036854775807 := by
  obtain ⟨v, items, rfl, ⟨a, c, hv, hc, hcell⟩, hl, hi⟩ := h
  have hf : ∀ x ∈ items, ∃ n : Nat, n < 256 ∧ x = [.int .u8 (n : Int)] := fun x hx => by
    obtain ⟨_, n, rfl, hw⟩ := hi x hx
    have := wf_u8 hw
    exact ⟨n.toNat, by omega, by rw [Int.toNat_of_nonneg this.1]⟩
  obtain ⟨l, rfl, hb⟩ : ∃ l : List Nat, items = l.map (fun (n : Nat) => [Value.int .u8 (n : Int)]) ∧ ∀ x ∈ l, x < 256 := by
    clear hcell hc hv hl hi
    induction items with
    | nil => exact ⟨[], rfl, by simp⟩
    | cons x xs ih =>
      obtain ⟨l, e, hb⟩ := ih fun y hy => hf y (List.mem_cons_of_mem _ hy)
      obtain ⟨n, hn, ex⟩ := hf x (by simp)
      refine ⟨n :: l, by rw [e, ex]; rfl, fun y hy => ?_⟩
      rcases List.mem_cons.1 hy with rfl | hy
      · exact hn
      · exact hb y hy
  rw [List.length_map] at hv hc hl
  refine ⟨v, l, rfl, ⟨by rw [nv_len]; omega, a, c, hv, hc, ?_⟩, hb, hl⟩
  rcases hcell with h0 | ⟨b, o, ha, hcl⟩
  · left; simpa using h0
  · right
    refine ⟨b, o, ha, fun i x e => ?_⟩
    have hi : i < l.length := by have := (List.getElem?_eq_some_iff.1 e).1; rwa [nv_len] at this
    have := hcl i [.int .u8 ((l[i] : Nat) : Int)] (by rw [List.getElem?_map, List.getElem?_eq_getElem hi]; rfl) 0 _ rfl
    rw [nv_get _ _ _ hi] at e
    rw [← Option.some.inj e, ← this]
    show R.cell _ = R.cell _
    congr 2
    show o + i = o + i * 1 + 0
    omega
/-- A struct's first part, and the others. -/
theorem Ty.Rd.one {R : Hp} {a b : Ty} {vs : List Value} (h1 : a.size = 1) (h : (Ty.cons a b).Rd R vs) : ∃ v rest, vs = v :: rest ∧ a.Rd R [v] ∧ b.Rd R rest := by
  obtain ⟨x, y, rfl, l, ha, hb⟩ := h
  rw [h1] at l
  match x, l with
  | [v], _ => exact ⟨v, y, rfl, ha, hb⟩
section
variable {P : Program} {h : Hp}
end
end Go.SL
set_option linter.unusedSimpArgs false
set_option linter.unusedVariables false
set_option maxRecDepth 100000
set_option maxHeartbeats 1000000
namespace Go.SL
open Go
section
variable {P : Program}
theorem replicate_nv (k : IntKind) (n : Nat) : List.replicate n (Value.int k 0) = nv k (List.replicate n 0) := by simp [nv]
theorem set_end (A : List Nat) (m x : Nat) : (A ++ List.replicate (m + 1) 0).set A.length x = A ++ [x] ++ List.replicate m 0 := by
  rw [List.set_append_right _ _ (Nat.le_refl _), Nat.sub_self, List.replicate_succ, List.set_cons_zero, List.append_assoc]
  rfl
theorem lt_dec (i n : Nat) : decide ((i : Int) < (n : Int)) = decide (i < n) := by
  rw [decide_eq_decide]; omega
theorem rn_hi {h : Hp} {a : Option Addr} {c hi : Nat} {l : List Nat} (r : Rn h .u8 (.slice a l.length c) l) (h1 : hi ≤ l.length) : Rn h .u8 (.slice (SL.cut a c 0 1) hi c) (l.take hi) := by
  have := r.cut 0 hi (Nat.zero_le _) h1
  simpa using this
theorem rn_nil (h : Hp) (k : IntKind) : Rn h k (.slice none 0 0) [] := ⟨rfl, none, 0, rfl, Nat.le_refl _, .inl rfl⟩
theorem ext0 {h : Hp} {K : Value → Prop} (a b : Value) : q P h (Instr.extract (.tuple #[a, b]) 0) K = K a := q_ext #[a, b] 0 a rfl
theorem ext1 {h : Hp} {K : Value → Prop} (a b : Value) : q P h (Instr.extract (.tuple #[a, b]) 1) K = K b := q_ext #[a, b] 1 b rfl
def strL (l : List Nat) : ByteArray := l.foldl (fun s x => s.push (UInt8.ofNat x)) ByteArray.empty
theorem ne_dec (a n : Nat) : (((a : Nat) : Int) != ((n : Nat) : Int)) = decide (a ≠ n) := by
  rw [Bool.eq_iff_iff, bne_iff_ne, decide_eq_true_eq]; omega
theorem add32 (a b : Nat) : IntKind.u32.wrap ((a : Int) + (b : Int)) = (((a + b) % 4294967296 : Nat) : Int) := by rw [← Int.natCast_add, wu32]
theorem xor32N {a b : Nat} (ha : a < 4294967296) (hb : b < 4294967296) : ixor .u32 (a : Int) (b : Int) = ((a ^^^ b : Nat) : Int) := by
  rw [xor32 (by omega) (by omega) (by omega) (by omega), Int.toNat_natCast, Int.toNat_natCast]
theorem putL_nv (l : List Nat) (j : Nat) (ys : List Nat) (h : j + ys.length ≤ l.length) : putL (nv .u8 l) j (nv .u8 ys) = nv .u8 (l.take j ++ ys ++ l.drop (j + ys.length)) := by
  rw [putL_eq _ _ _ (by rw [nv_len, nv_len]; exact h), nv_len]
  unfold nv
  rw [List.map_append, List.map_append, List.map_take, List.map_drop]
theorem nv_take (k : IntKind) (l : List Nat) (n : Nat) : (nv k l).take n = nv k (l.take n) := by unfold nv; rw [List.map_take]
/-- What is to be read (R) is known, what is owned (S) is known and not among it. -/
structure Own (R h : Hp) (S : List Nat) : Prop where
  sub : Hp.ext R h
  dis : ∀ b, b ∈ S → R b = none
  kn : ∀ b, b ∈ S → ∃ o, h b = some o
/-- A step: what is to be read (R) grows, what is owned (S) changes, all else that is known (h) stays. -/
structure Stp (R h R' h' : Hp) (S S' : List Nat) : Prop where
  ext : Hp.ext R R'
  keep : ∀ b o, b ∉ S → h b = some o → h' b = some o
  frS : ∀ b o, b ∉ S → h b = some o → b ∉ S'
  frR : ∀ b o, b ∉ S → h b = some o → R b = none → R' b = none
  own : Own R' h' S'
theorem Stp.refl {R h : Hp} {S : List Nat} (w : Own R h S) : Stp R h R h S S := ⟨.refl _, fun _ _ _ e => e, fun _ _ n _ => n, fun _ _ _ _ e => e, w⟩
theorem Stp.trans {R h R1 h1 R2 h2 : Hp} {S S1 S2 : List Nat} (a : Stp R h R1 h1 S S1) (b : Stp R1 h1 R2 h2 S1 S2) : Stp R h R2 h2 S S2 where
  ext := a.ext.trans b.ext
  own := b.own
  keep := fun x o n e => b.keep x o (a.frS x o n e) (a.keep x o n e)
  frS := fun x o n e => b.frS x o (a.frS x o n e) (a.keep x o n e)
  frR := fun x o n e r => b.frR x o (a.frS x o n e) (a.keep x o n e) (a.frR x o n e r)
/-- What is owned beside stays so. -/
theorem Stp.frame {R h R' h' : Hp} {S S' S2 : List Nat} (a : Stp R h R' h' S S') (w : Own R h S2) (n : ∀ b, b ∈ S2 → b ∉ S) : Own R' h' S2 ∧ (∀ b, b ∈ S2 → b ∉ S') ∧ ∀ b, b ∈ S2 → h' b = h b := by
  refine ⟨⟨a.own.sub, fun b hb => ?_, fun b hb => ?_⟩, fun b hb => ?_, fun b hb => ?_⟩ <;> obtain ⟨o, e⟩ := w.kn b hb
  · exact a.frR b o (n b hb) e (w.dis b hb)
  · exact ⟨o, a.keep b o (n b hb) e⟩
  · exact a.frS b o (n b hb) e
  · rw [e]; exact a.keep b o (n b hb) e
/-- A step, with what is owned beside. -/
theorem Stp.wide {R h R' h' : Hp} {S S' S2 : List Nat} (a : Stp R h R' h' S S') (w : Own R h S2) (n : ∀ b, b ∈ S2 → b ∉ S) : Stp R h R' h' (S ++ S2) (S' ++ S2) where
  ext := a.ext
  keep := fun b o hn e => a.keep b o (fun q => hn (List.mem_append_left _ q)) e
  frS := fun b o hn e q => (List.mem_append.1 q).elim (a.frS b o (fun q => hn (List.mem_append_left _ q)) e) (fun q => hn (List.mem_append_right _ q))
  frR := fun b o hn e r => a.frR b o (fun q => hn (List.mem_append_left _ q)) e r
  own := by
    obtain ⟨w2, _, _⟩ := a.frame w n
    exact ⟨w2.sub, fun b hb => (List.mem_append.1 hb).elim (a.own.dis b) (w2.dis b), fun b hb => (List.mem_append.1 hb).elim (a.own.kn b) (w2.kn b)⟩
theorem Own.nil {R h : Hp} {S : List Nat} (w : Own R h S) : Own R h [] := ⟨w.sub, fun b hb => (by cases hb), fun b hb => (by cases hb)⟩
/-- A step that only makes what is to be read: a block. -/
theorem Stp.block {R h : Hp} {S : List Nat} {r : Nat} (o : AObj) (w : Own R h S) (hr : h r = none) : Stp R h (R.set r o) (h.set r o) S S := by
  have hRb : R r = none := w.sub.none hr
  refine ⟨ext_set _ hRb, fun x o' hn e => ?_, fun x o' hn e => hn, fun x o' hn e r' => ?_, ⟨fun x o' e => ?_, fun x hx => ?_, fun x hx => ?_⟩⟩
  · rw [Hp.set_ne _ _ (by rintro rfl; rw [hr] at e; cases e)]; exact e
  · rw [Hp.set_ne _ _ (by rintro rfl; rw [hr] at e; cases e)]; exact r'
  · by_cases q : x = r
    · subst q; rw [Hp.set_same] at e ⊢; exact e
    · rw [Hp.set_ne _ _ q] at e ⊢; exact w.sub x o' e
  · rw [Hp.set_ne _ _ (by rintro rfl; obtain ⟨o2, e⟩ := w.kn x hx; rw [hr] at e; cases e)]; exact w.dis x hx
  · obtain ⟨o2, e⟩ := w.kn x hx
    exact ⟨o2, by rw [Hp.set_ne _ _ (by rintro rfl; rw [hr] at e; cases e)]; exact e⟩
/-- A new row, to be read. -/
theorem Stp.new {R h : Hp} {S : List Nat} {t s n : Nat} {v : Value} {h' : Hp} {xs : List Value} (w : Own R h S) (nw : New h t s v h' xs n) : ∃ R', Stp R h R' h' S S ∧ Rds R' s v xs n := by
  rcases nw.2 with ⟨rfl, rfl, rfl⟩ | ⟨b, c, f, hb, hc, rfl, rfl, hf⟩
  · exact ⟨R, .refl w, nw.1, none, 0, rfl, Nat.le_refl _, .inl rfl⟩
  · exact ⟨_, Stp.block _ w hb, nw.1, _, c, rfl, hc, .inr ⟨b, 0, rfl, fun i x e => by rw [cell_row (Hp.set_same ..), Nat.zero_add]; exact e⟩⟩
theorem Stp.newN {R h : Hp} {S : List Nat} {t : Nat} {v : Value} {h' : Hp} {k : IntKind} {l : List Nat} (w : Own R h S) (nw : Nn h t k v h' l) : ∃ R', Stp R h R' h' S S ∧ Rn R' k v l := Stp.new w nw
theorem Own.rn {R h : Hp} {S : List Nat} {k : IntKind} {v : Value} {l : List Nat} (w : Own R h S) (r : Rn R k v l) : Rn h k v l := r.mono w.sub.cle
theorem rn_flat {R : Hp} {k : IntKind} {v : Value} {l : List Nat} (r : Rn R k v l) : flat v = true := by
  obtain ⟨a, c, rfl, _⟩ := r.shape; rfl
/-- A row of the call's own that may be appended to, or nil; the block that it lies in. -/
def OutAt (t s : Nat) (h : Hp) (v : Value) (xs : List Value) (n : Nat) (So : List Nat) : Prop :=
  (v = .slice none 0 0 ∧ n = 0 ∧ xs = [] ∧ So = []) ∨
  ∃ b c f, h b = some (.row t xs (c * s) (some f)) ∧ v = .slice (some ⟨b, 0, none⟩) n c ∧ n ≤ c ∧ (∀ i, i < c * s → ¬ (f.1 ≤ i ∧ i < f.2)) ∧ So = [b] ∧ xs.length = n * s
theorem OutAt.new {t s : Nat} {h : Hp} {v : Value} {xs : List Value} {n : Nat} {So : List Nat} (a : OutAt t s h v xs n So) : ∃ X, New X t s v h xs n ∧ (∀ x, x ∉ So → X x = h x) ∧ (∀ x, x ∈ So → X x = none) := by
  rcases a with ⟨rfl, rfl, rfl, rfl⟩ | ⟨b, c, f, hb, rfl, hc, hf, rfl, hl⟩
  · exact ⟨h, ⟨by simp, .inl ⟨rfl, rfl, rfl⟩⟩, fun _ _ => rfl, fun x hx => by cases hx⟩
  · refine ⟨h.del b, New.at hb hl hc hf, fun x hx => Hp.del_ne _ (by simpa using hx), fun x hx => by rw [List.mem_singleton.1 hx]; exact del_at _ _⟩
theorem OutAt.keep {t s : Nat} {h h' : Hp} {v : Value} {xs : List Value} {n : Nat} {So : List Nat} (a : OutAt t s h v xs n So) (k : ∀ x, x ∈ So → h' x = h x) : OutAt t s h' v xs n So := by
  rcases a with a | ⟨b, c, f, hb, hv, hc, hf, hS, hl⟩
  · exact .inl a
  · exact .inr ⟨b, c, f, by rw [k b (by simp [hS])]; exact hb, hv, hc, hf, hS, hl⟩
theorem OutAt.rds {t s : Nat} {h : Hp} {v : Value} {xs : List Value} {n : Nat} {So : List Nat} (a : OutAt t s h v xs n So) : Rds h s v xs n := by
  obtain ⟨X, w, _⟩ := a.new
  exact w.rds
/-- A step that only makes blocks that nobody asks for. -/
theorem Stp.ext0 {R h : Hp} {S : List Nat} {h' : Hp} (w : Own R h S) (x : Hp.ext h h') : Stp R h R h' S S :=
  ⟨.refl _, fun y oy _ ey => x y oy ey, fun y oy n _ => n, fun y oy _ _ r => r, ⟨fun y oy ey => x y oy (w.sub y oy ey), w.dis, fun y hy => let ⟨oy, ey⟩ := w.kn y hy; ⟨oy, x y oy ey⟩⟩⟩
theorem Own.sub' {R h : Hp} {S T : List Nat} (w : Own R h S) (m : ∀ x, x ∈ T → x ∈ S) : Own R h T := ⟨w.sub, fun b hb => w.dis b (m b hb), fun b hb => w.kn b (m b hb)⟩
theorem Own.app {R h : Hp} {S T : List Nat} (w : Own R h S) (v : Own R h T) : Own R h (S ++ T) := ⟨w.sub, fun b hb => (List.mem_append.1 hb).elim (w.dis b) (v.dis b), fun b hb => (List.mem_append.1 hb).elim (w.kn b) (v.kn b)⟩
/-- Less is owned behind a step. -/
theorem Stp.drop {R h R' h' : Hp} {S S' T' : List Nat} (a : Stp R h R' h' S S') (m : ∀ x, x ∈ T' → x ∈ S') : Stp R h R' h' S T' :=
  ⟨a.ext, a.keep, fun b o n e q => a.frS b o n e (m b q), a.frR, a.own.sub' m⟩
/-- A row that grows is owned. -/
theorem OutAt.step {t s n' : Nat} {R h h' : Hp} {v' : Value} {xs' : List Value} {So So' : List Nat} (w : Own R h So) (o' : OutAt t s h' v' xs' n' So') (kp : ∀ x o, x ∉ So → h x = some o → h' x = some o) (fr : ∀ x o, x ∉ So → h x = some o → x ∉ So') :
    Stp R h R h' So So' := by
  refine ⟨.refl _, kp, fr, fun x o _ _ r => r, ⟨fun x o e => ?_, fun x hx => ?_, fun x hx => ?_⟩⟩
  · refine kp x o (fun hx => ?_) (w.sub x o e)
    rw [w.dis x hx] at e; cases e
  · cases e : R x with
    | none => rfl
    | some o =>
      refine absurd hx (fr x o (fun hx => ?_) (w.sub x o e))
      rw [w.dis x hx] at e; cases e
  · rcases o' with ⟨_, _, _, rfl⟩ | ⟨b, c, f, hb, _, _, _, rfl, _⟩
    · cases hx
    · rw [List.mem_singleton.1 hx]; exact ⟨_, hb⟩
theorem pk_q {h : Hp} {m : Sem Value} {v : Value} (e : ∀ K : Value → Prop, q P h m K = K v) : peek P h m = some v := by
  obtain ⟨x, hx, e2⟩ := withVal_elim (K := fun x => x = v) ((e fun x => x = v).mpr rfl)
  rw [e2] at hx
  exact hx
theorem and32N {a b : Nat} (ha : a < 4294967296) (hb : b < 4294967296) : iand .u32 (a : Int) (b : Int) = ((a &&& b : Nat) : Int) := by
  rw [and32 (by omega) (by omega) (by omega) (by omega), Int.toNat_natCast, Int.toNat_natCast]
theorem u32row (n : Nat) : List.replicate n (Value.int .u32 0) = nv .u32 (List.replicate n 0) := by simp [nv]
theorem getD_app_left (a b : List Nat) (i : Nat) (h : i < a.length) : (a ++ b).getD i 0 = a.getD i 0 := by
  simp [List.getD_eq_getElem?_getD, List.getElem?_append_left h]
theorem Hp.set_id {h : Hp} {b : Nat} {o : AObj} (e : h b = some o) : h.set b o = h := by
  funext i
  by_cases q : i = b
  · subst q; rw [Hp.set_same, e]
  · rw [Hp.set_ne _ _ q]
end
end Go.SL
set_option linter.unusedSimpArgs false
set_option linter.unusedVariables false
set_option maxRecDepth 100000
namespace Go.Proofs.Ytoikhbagchfeoaa
open Go Go.SL Go.Pure
theorem le_step (n v i : Nat) (hi : i < n) : ((le n v).take i ++ List.replicate (n - i) 0).set i (v / 256 ^ i % 256) = (le n v).take (i + 1) ++ List.replicate (n - (i + 1)) 0 := by
  have hl : ((le n v).take i).length = i := by rw [List.length_take, le_len]; omega
  have hlt : i < (le n v).length := by rw [le_len]; exact hi
  obtain ⟨d, hd⟩ : ∃ d, n - i = d + 1 := ⟨n - i - 1, by omega⟩
  rw [hd, List.set_append_right _ _ (by omega), hl, Nat.sub_self, List.replicate_succ, List.set_cons_zero, List.take_succ_eq_append_getElem hlt]
  have : (le n v)[i] = v / 256 ^ i % 256 := by
    have := le_get n v i hi
    rw [List.getD_eq_getElem?_getD, List.getElem?_eq_getElem hlt] at this
    exact this
  rw [this, List.append_assoc, show n - (i + 1) = d by omega]
  rfl
theorem T_word_little {h : Hp} {K : Value → Hp → Prop} (v n : Nat) (hv : v < 2 ^ 64) (hn : n ≤ 8) (h0 : 0 < n) (k : ∀ r h', Nn h t_uint8 .u8 r h' (le n v) → K r h') : Cn P n_word_little #[.int .u64 v, .int .i64 n] h K := by
  refine F_word_little ?_
  unfold s_word_little
  refine aw_make u_Sl_uint8 nfo_uint8 rfl (Nat.le_refl n) (by omega) (by omega) fun r h1 hw => ?_
  obtain ⟨b, c, f, hb, hc, rfl, _, _⟩ := hw.form h0
  rw [replicate_nv] at hw
  refine Lp_mk (fun m vs h' => ∃ i : Nat, i + m = n ∧ New h t_uint8 1 (.slice (some ⟨b, 0, none⟩) n c) h' (nv .u8 ((le n v).take i ++ List.replicate (n - i) 0)) n ∧ vs = [.int .i64 (i : Int)]) n ⟨0, by omega, by simpa using hw, rfl⟩ ?_
  clear hw
  rintro m vs h2 ⟨i, hi, hw, rfl⟩
  simp (disch := omega) only [GL, RL, wi64]
  split
  · rename_i hlt
    simp only [decide_eq_true_eq, Int.ofNat_lt] at hlt
    simp (disch := omega) only [GL, RL, wi64]
    refine aw_storeN (i := i) z_uint8 hw (by omega) (by rfl) fun h3 hw3 => ?_
    refine ⟨_, .refl _, m - 1, by omega, i + 1, by omega, ?_, rfl⟩
    have e1 : min (8 * (i : Int)).toNat IntKind.u64.bits = 8 * i := by simp only [IntKind.bits]; omega
    rw [e1, fdivp, wu8, nv_set, ← pow256, le_step n v i hlt] at hw3
    exact hw3
  · rename_i hge
    simp only [decide_eq_true_eq, Int.ofNat_lt] at hge
    obtain rfl : i = n := by omega
    refine k _ _ ?_
    rw [Nat.sub_self, List.replicate_zero, List.append_nil, List.take_of_length_le (by rw [le_len]; omega)] at hw
    unfold Nn
    rw [le_len]
    exact hw
theorem T_word_Put64 {h : Hp} {K : Value → Hp → Prop} (v : Nat) (hv : v < 2 ^ 64) (k : ∀ r h', Nn h t_uint8 .u8 r h' (le 8 v) → K r h') : Cn P n_word_Put64 #[.int .u64 v] h K := by
  refine F_word_Put64 ?_
  unfold s_word_Put64
  exact T_word_little v 8 hv (by omega) (by omega) k
theorem T_word_Put32 {h : Hp} {K : Value → Hp → Prop} (v : Nat) (hv : v < 2 ^ 32) (k : ∀ r h', Nn h t_uint8 .u8 r h' (le 4 v) → K r h') : Cn P n_word_Put32 #[.int .u32 v] h K := by
  refine F_word_Put32 ?_
  unfold s_word_Put32
  simp (disch := omega) only [GL, RL, wu64i]
  exact T_word_little v 4 (by omega) (by omega) (by omega) k
theorem T_orlopref01_Equal {h : Hp} {K : Value → Hp → Prop} {v w : Value} {l m : List Nat} (hv : Rn h .u8 v l) (hw : Rn h .u8 w m) (hl : l.length ≤ 9223372036854775807) (k : K (.bool (decide (l = m))) h) : Cn P n_orlopref01_Equal #[v, w] h K := by
  refine F_orlopref01_Equal ?_
  obtain ⟨a, c, rfl, hc⟩ := hv.shape
  obtain ⟨a', c', rfl, hc'⟩ := hw.shape
  unfold s_orlopref01_Equal
  simp (disch := omega) only [GL, RL]
  by_cases hlen : l.length = m.length
  · rw [if_neg (by simp [hlen])]
    refine Lp_mk (fun n vs h' => ∃ (i : Nat) (r : Value), i + n = l.length ∧ h' = h ∧ (∀ j, j < i → l.getD j 0 = m.getD j 0) ∧ vs = [r, .int .i64 (i : Int)]) l.length ⟨0, _, by omega, rfl, fun j hj => by omega, rfl⟩ ?_
    rintro n vs h2 ⟨i, r, hi, rfl, hs, rfl⟩
    simp (disch := omega) only [GL, RL]
    split
    · rename_i hlt
      simp only [decide_eq_true_eq, Int.ofNat_lt] at hlt
      obtain ⟨b, o, rfl, hy⟩ := hv.pos (by omega)
      obtain ⟨b', o', rfl, hy'⟩ := hw.pos (by omega)
      simp (disch := omega) only [GL, RL, hy i hlt, hy' i (by omega), wi64]
      split
      · rename_i hne
        have : l ≠ m := by rintro rfl; simp at hne
        simpa [this] using k
      · rename_i he
        refine ⟨_, .refl _, n - 1, by omega, i + 1, r, by omega, rfl, fun j hj => ?_, rfl⟩
        by_cases hji : j = i
        · subst hji
          simp only [bne_iff_ne, ne_eq, Decidable.not_not] at he
          omega
        · exact hs j (by omega)
    · rename_i hge
      simp only [decide_eq_true_eq, Int.ofNat_lt] at hge
      have : l = m := by
        apply List.ext_getElem hlen
        intro j h1 h2
        have := hs j (by omega)
        simpa [h1, h2] using this
      simpa [this] using k
  · rw [if_pos (by simp; omega)]
    have : l ≠ m := by rintro rfl; exact hlen rfl
    simpa [this] using k
end Go.Proofs.Ytoikhbagchfeoaa
set_option linter.unusedSimpArgs false
namespace Go.Pure
def W32 (l : List Nat) : Prop := ∀ x ∈ l, x < 4294967296
theorem W32.getD {l : List Nat} (h : W32 l) (i : Nat) : l.getD i 0 < 4294967296 := by
  rw [List.getD_eq_getElem?_getD]
  cases hg : l[i]? with
  | none => simp
  | some x => exact h x (List.mem_of_getElem? hg)
theorem W32.set {l : List Nat} (h : W32 l) (i : Nat) {x : Nat} (hx : x < 4294967296) : W32 (l.set i x) := by
  intro y hy
  rcases List.mem_or_eq_of_mem_set hy with q | rfl
  · exact h y q
  · exact hx
theorem W32.append {a b : List Nat} (h : W32 a) (g : W32 b) : W32 (a ++ b) := fun x hx => (List.mem_append.1 hx).elim (h x) (g x)
def rotl (x n : Nat) : Nat := (x * 2 ^ n % 4294967296) ||| (x / 2 ^ (32 - n))
theorem rotl_lt (x n : Nat) (hx : x < 4294967296) : rotl x n < 4294967296 := by
  unfold rotl
  refine Nat.or_lt_two_pow (n := 32) (Nat.mod_lt _ (by decide)) (Nat.lt_of_le_of_lt (Nat.div_le_self _ _) hx)
def halfL (s : List Nat) (a b d n : Nat) : List Nat :=
  let s1 := s.set a ((s.getD a 0 + s.getD b 0) % 4294967296)
  s1.set d (rotl (s1.getD d 0 ^^^ s1.getD a 0) n)
theorem halfL_len (s : List Nat) (a b d n : Nat) : (halfL s a b d n).length = s.length := by simp [halfL]
theorem halfL_w {s : List Nat} (h : W32 s) (a b d n : Nat) : W32 (halfL s a b d n) := by
  unfold halfL
  have h1 := h.set a (x := (s.getD a 0 + s.getD b 0) % 4294967296) (Nat.mod_lt _ (by decide))
  exact h1.set d (rotl_lt _ _ (Nat.xor_lt_two_pow (n := 32) (h1.getD _) (h1.getD _)))
def quarterL (s : List Nat) (a b c d : Nat) : List Nat := halfL (halfL (halfL (halfL s a b d 16) c d b 12) a b d 8) c d b 7
theorem quarterL_len (s : List Nat) (a b c d : Nat) : (quarterL s a b c d).length = s.length := by simp [quarterL, halfL_len]
theorem quarterL_w {s : List Nat} (h : W32 s) (a b c d : Nat) : W32 (quarterL s a b c d) := halfL_w (halfL_w (halfL_w (halfL_w h _ _ _ _) _ _ _ _) _ _ _ _) _ _ _ _
def quads : List (Nat × Nat × Nat × Nat) := [(0, 4, 8, 12), (1, 5, 9, 13), (2, 6, 10, 14), (3, 7, 11, 15), (0, 5, 10, 15), (1, 6, 11, 12), (2, 7, 8, 13), (3, 4, 9, 14)]
def stepL (s : List Nat) (q : Nat × Nat × Nat × Nat) : List Nat := quarterL s q.1 q.2.1 q.2.2.1 q.2.2.2
def droundL (s : List Nat) : List Nat := quads.foldl stepL s
def rounds : Nat → List Nat → List Nat
  | 0, s => s
  | n + 1, s => droundL (rounds n s)
theorem foldStep_len (qs : List (Nat × Nat × Nat × Nat)) (s : List Nat) : (qs.foldl stepL s).length = s.length := by
  induction qs generalizing s with
  | nil => rfl
  | cons q qs ih => rw [List.foldl_cons, ih, stepL, quarterL_len]
theorem foldStep_w (qs : List (Nat × Nat × Nat × Nat)) {s : List Nat} (h : W32 s) : W32 (qs.foldl stepL s) := by
  induction qs generalizing s with
  | nil => exact h
  | cons q qs ih => exact ih (quarterL_w h _ _ _ _)
theorem rounds_len (n : Nat) (s : List Nat) : (rounds n s).length = s.length := by
  induction n with
  | zero => rfl
  | succ n ih => rw [rounds, droundL, foldStep_len, ih]
theorem rounds_w (n : Nat) {s : List Nat} (h : W32 s) : W32 (rounds n s) := by
  induction n with
  | zero => exact h
  | succ n ih => exact foldStep_w _ ih
/-- The state at the beginning. -/
def words (b : List Nat) : Nat → List Nat
  | 0 => []
  | n + 1 => words b n ++ [leval ((b.drop (4 * n)).take 4)]
theorem words_succ (b : List Nat) (n : Nat) : words b (n + 1) = words b n ++ [leval ((b.drop (4 * n)).take 4)] := rfl
theorem words_len (b : List Nat) (n : Nat) : (words b n).length = n := by
  induction n with
  | zero => rfl
  | succ n ih => simp [words, ih]
theorem words_w {b : List Nat} (h : Bytes b) (n : Nat) : W32 (words b n) := by
  induction n with
  | zero => intro x hx; cases hx
  | succ n ih =>
    refine ih.append fun x hx => ?_
    rw [List.mem_singleton.1 hx]
    have := leval_take_lt _ (h.drop (4 * n)) 4
    omega
def consts : List Nat := [1634760805, 857760878, 2036477234, 1797285236]
def beginL (key nonce : List Nat) (counter : Nat) : List Nat := consts ++ words key 8 ++ [counter] ++ words nonce 3
theorem beginL_len (key nonce : List Nat) (counter : Nat) : (beginL key nonce counter).length = 16 := by simp [beginL, words_len, consts]
theorem beginL_w {key nonce : List Nat} (hk : Bytes key) (hn : Bytes nonce) {counter : Nat} (hc : counter < 4294967296) : W32 (beginL key nonce counter) := by
  refine ((W32.append ?_ (words_w hk 8)).append ?_).append (words_w hn 3)
  · intro x hx; simp [consts] at hx; omega
  · intro x hx; rw [List.mem_singleton.1 hx]; exact hc
def outL (s x : List Nat) : Nat → List Nat
  | 0 => []
  | n + 1 => outL s x n ++ le 4 ((s.getD n 0 + x.getD n 0) % 4294967296)
theorem outL_len (s x : List Nat) (n : Nat) : (outL s x n).length = 4 * n := by
  induction n with
  | zero => rfl
  | succ n ih => simp [outL, ih, le_len]; omega
theorem outL_bytes (s x : List Nat) (n : Nat) : Bytes (outL s x n) := by
  induction n with
  | zero => intro x hx; cases hx
  | succ n ih => exact ih.append (le_bytes _ _)
def blockL (key nonce : List Nat) (counter : Nat) : List Nat := outL (rounds 10 (beginL key nonce counter)) (beginL key nonce counter) 16
theorem blockL_len (key nonce : List Nat) (counter : Nat) : (blockL key nonce counter).length = 64 := outL_len ..
theorem blockL_bytes (key nonce : List Nat) (counter : Nat) : Bytes (blockL key nonce counter) := outL_bytes _ _ _
/-- Byte by byte. -/
def xorL (key nonce : List Nat) (counter : Nat) (b : List Nat) : List Nat :=
  b.zipIdx.map fun p => p.1 ^^^ (blockL key nonce ((counter + p.2 / 64) % 4294967296)).getD (p.2 % 64) 0
theorem xorL_len (key nonce : List Nat) (counter : Nat) (b : List Nat) : (xorL key nonce counter b).length = b.length := by simp [xorL]
theorem xorL_get (key nonce : List Nat) (counter : Nat) (b : List Nat) (i : Nat) (hi : i < b.length) :
    (xorL key nonce counter b)[i]'(by rw [xorL_len]; exact hi) = b.getD i 0 ^^^ (blockL key nonce ((counter + i / 64) % 4294967296)).getD (i % 64) 0 := by
  simp [xorL, hi]
theorem xorL_bytes {key nonce : List Nat} {counter : Nat} {b : List Nat} (hb : Bytes b) : Bytes (xorL key nonce counter b) := by
  intro x hx
  obtain ⟨i, hi, rfl⟩ := List.getElem_of_mem hx
  rw [xorL_get _ _ _ _ _ (by rw [xorL_len] at hi; exact hi)]
  exact Nat.xor_lt_two_pow (n := 8) (hb.getD _) ((blockL_bytes _ _ _).getD _)
theorem xorL_take (key nonce : List Nat) (counter : Nat) (b : List Nat) (i : Nat) (hi : i < b.length) :
    (xorL key nonce counter b).take (i + 1) = (xorL key nonce counter b).take i ++ [b.getD i 0 ^^^ (blockL key nonce ((counter + i / 64) % 4294967296)).getD (i % 64) 0] := by
  rw [List.take_succ_eq_append_getElem (by rw [xorL_len]; exact hi), xorL_get _ _ _ _ _ hi]
end Go.Pure
