/- The conditions of each function that this seat reaches, and that they suffice for a call of it. Conditions: none. -/
import Derived.Test.YtoepmfgahcbmiaaSLh
import Derived.Test.YtoepmfgahcbmiaaProg
set_option linter.unusedVariables false
set_option maxRecDepth 100000
namespace Go.Proofs.Ytoepmfgahcbmiaa
open Go Go.SL
noncomputable abbrev P : Program := Try.prog
abbrev n_orloplaw06_AeadSeals : Nat := 3
abbrev n_orloplaw06_AeadOpens : Nat := 4
abbrev n_orloplaw06_AeadCut : Nat := 5
abbrev n_orloplaw06_AeadHides : Nat := 6
abbrev n_orloplaw06_awake : Nat := 7
abbrev n_orloplaw06_small : Nat := 8
abbrev n_aead_Seal : Nat := 9
abbrev n_orlopref06_Seal : Nat := 10
abbrev n_orlopref01_Equal : Nat := 11
abbrev n_aead_Open : Nat := 12
abbrev n_orlopref06_Open : Nat := 13
abbrev n_chacha_Xor : Nat := 14
abbrev n_aead_tag : Nat := 15
abbrev n_slices_Concat_byte_byte : Nat := 16
abbrev n_orlopref04_Xor : Nat := 17
abbrev n_orlopref06_full : Nat := 18
abbrev n_orlopref01_Little : Nat := 19
abbrev n_orlopref05_Tag : Nat := 20
abbrev n_orlopref04_Block : Nat := 21
abbrev n_word_Equal : Nat := 22
abbrev n_chacha_may : Nat := 23
abbrev n_chacha_block : Nat := 24
abbrev n_chacha_Block : Nat := 25
abbrev n_word_Put64 : Nat := 26
abbrev n_poly_Tag : Nat := 27
abbrev n_aead_padded : Nat := 28
abbrev n_slices_Grow_byte_byte : Nat := 29
abbrev n_orlopref05_rest : Nat := 30
abbrev n_orlopref05_times : Nat := 31
abbrev n_orlopref05_add : Nat := 32
abbrev n_orlopref01_Get : Nat := 33
abbrev n_orlopref04_quarter : Nat := 34
abbrev n_chacha_begin : Nat := 35
abbrev n_chacha_quarters : Nat := 36
abbrev n_chacha_state_quarter : Nat := 37
abbrev n_word_Put32 : Nat := 38
abbrev n_word_little : Nat := 39
abbrev n_slices_Clone_byte_byte : Nat := 40
abbrev n_poly_load : Nat := 41
abbrev n_slices_Chunk_byte_byte : Nat := 42
abbrev n_poly_number_add : Nat := 43
abbrev n_poly_number_times : Nat := 44
abbrev n_poly_number_reduce : Nat := 45
abbrev n_poly_number_bytes : Nat := 46
abbrev n_orlopref05_prime : Nat := 47
abbrev n_orlopref05_less : Nat := 48
abbrev n_orlopref04_rol : Nat := 49
abbrev n_word_Get32 : Nat := 50
abbrev n_chacha_state_half : Nat := 51
abbrev n_word_Get64 : Nat := 52
abbrev n_slices_Chunk_byte_byte_1 : Nat := 53
abbrev n_poly_number_carry : Nat := 54
abbrev n_word_get : Nat := 55
abbrev n_bits_RotateLeft32 : Nat := 56
abbrev n_word_at : Nat := 57
abbrev t_int : Nat := 3
abbrev t_uint8 : Nat := 5
abbrev t_string : Nat := 9
abbrev t_Sl_uint8 : Nat := 22
abbrev t_orloplaw06_Ask : Nat := 24
abbrev t_api_Code : Nat := 27
abbrev t_uint32 : Nat := 33
abbrev t_uint64 : Nat := 38
abbrev t_Sl_Sl_uint8 : Nat := 43
abbrev t_Sl_int : Nat := 45
abbrev t_Sl_uint32 : Nat := 49
abbrev t_chacha_state : Nat := 54
abbrev t_4_int : Nat := 56
abbrev t_8_4_int : Nat := 57
abbrev t_3_int : Nat := 61
abbrev t_poly_number : Nat := 63
abbrev t_uint : Nat := 78
theorem mixed : P.follows .mixedOrders = true := by kernel_rfl
theorem u3 : P.underlying 3 = some (.int .i64) := by kernel_rfl
theorem z3 : sz P 3 = some 1 := by kernel_rfl
theorem u5 : P.underlying 5 = some (.int .u8) := by kernel_rfl
theorem z5 : sz P 5 = some 1 := by kernel_rfl
theorem u9 : P.underlying 9 = some .string := by kernel_rfl
theorem z9 : sz P 9 = some 1 := by kernel_rfl
theorem u22 : P.underlying 22 = some (.slice 5) := by kernel_rfl
theorem z22 : sz P 22 = some 1 := by kernel_rfl
theorem z24 : sz P 24 = some 4 := by kernel_rfl
theorem u24 : P.underlying 24 = some (.struct (match P.underlying 24 with | some (.struct fs) => fs | _ => #[])) := by kernel_rfl
theorem u27 : P.underlying 27 = some (.int .i64) := by kernel_rfl
theorem z27 : sz P 27 = some 1 := by kernel_rfl
theorem u33 : P.underlying 33 = some (.int .u32) := by kernel_rfl
theorem z33 : sz P 33 = some 1 := by kernel_rfl
theorem u38 : P.underlying 38 = some (.int .u64) := by kernel_rfl
theorem z38 : sz P 38 = some 1 := by kernel_rfl
theorem u43 : P.underlying 43 = some (.slice 22) := by kernel_rfl
theorem z43 : sz P 43 = some 1 := by kernel_rfl
theorem u45 : P.underlying 45 = some (.slice 3) := by kernel_rfl
theorem z45 : sz P 45 = some 1 := by kernel_rfl
theorem u49 : P.underlying 49 = some (.slice 33) := by kernel_rfl
theorem z49 : sz P 49 = some 1 := by kernel_rfl
theorem u54 : P.underlying 54 = some (.array 16 33) := by kernel_rfl
theorem z54 : sz P 54 = some 16 := by kernel_rfl
theorem u56 : P.underlying 56 = some (.array 4 3) := by kernel_rfl
theorem z56 : sz P 56 = some 4 := by kernel_rfl
theorem u57 : P.underlying 57 = some (.array 8 56) := by kernel_rfl
theorem z57 : sz P 57 = some 32 := by kernel_rfl
theorem u61 : P.underlying 61 = some (.array 3 3) := by kernel_rfl
theorem z61 : sz P 61 = some 3 := by kernel_rfl
theorem u63 : P.underlying 63 = some (.array 5 38) := by kernel_rfl
theorem z63 : sz P 63 = some 5 := by kernel_rfl
theorem u78 : P.underlying 78 = some (.int .u64) := by kernel_rfl
theorem z78 : sz P 78 = some 1 := by kernel_rfl
theorem nfo3 : (P.info? 3).map (fun i => (i.zero, i.size, i.bytes)) = some (some (.int .i64 0), 1, 8) := by kernel_rfl
theorem zr3 : zr P 3 = some (.int .i64 0) := by kernel_rfl
theorem nfo5 : (P.info? 5).map (fun i => (i.zero, i.size, i.bytes)) = some (some (.int .u8 0), 1, 1) := by kernel_rfl
theorem zr5 : zr P 5 = some (.int .u8 0) := by kernel_rfl
theorem nfo9 : (P.info? 9).map (fun i => (i.zero, i.size, i.bytes)) = some (some (.string ByteArray.empty), 1, 16) := by kernel_rfl
theorem zr9 : zr P 9 = some (.string ByteArray.empty) := by kernel_rfl
theorem nfo22 : (P.info? 22).map (fun i => (i.zero, i.size, i.bytes)) = some (some (.slice none 0 0), 1, 24) := by kernel_rfl
theorem zr22 : zr P 22 = some (.slice none 0 0) := by kernel_rfl
theorem nfo27 : (P.info? 27).map (fun i => (i.zero, i.size, i.bytes)) = some (some (.int .i64 0), 1, 8) := by kernel_rfl
theorem zr27 : zr P 27 = some (.int .i64 0) := by kernel_rfl
theorem nfo33 : (P.info? 33).map (fun i => (i.zero, i.size, i.bytes)) = some (some (.int .u32 0), 1, 4) := by kernel_rfl
theorem zr33 : zr P 33 = some (.int .u32 0) := by kernel_rfl
theorem nfo38 : (P.info? 38).map (fun i => (i.zero, i.size, i.bytes)) = some (some (.int .u64 0), 1, 8) := by kernel_rfl
theorem zr38 : zr P 38 = some (.int .u64 0) := by kernel_rfl
theorem nfo43 : (P.info? 43).map (fun i => (i.zero, i.size, i.bytes)) = some (some (.slice none 0 0), 1, 24) := by kernel_rfl
theorem zr43 : zr P 43 = some (.slice none 0 0) := by kernel_rfl
theorem nfo45 : (P.info? 45).map (fun i => (i.zero, i.size, i.bytes)) = some (some (.slice none 0 0), 1, 24) := by kernel_rfl
theorem zr45 : zr P 45 = some (.slice none 0 0) := by kernel_rfl
theorem nfo49 : (P.info? 49).map (fun i => (i.zero, i.size, i.bytes)) = some (some (.slice none 0 0), 1, 24) := by kernel_rfl
theorem zr49 : zr P 49 = some (.slice none 0 0) := by kernel_rfl
theorem nfo78 : (P.info? 78).map (fun i => (i.zero, i.size, i.bytes)) = some (some (.int .u64 0), 1, 8) := by kernel_rfl
theorem zr78 : zr P 78 = some (.int .u64 0) := by kernel_rfl
theorem ld3 {h : Hp} {K : Value → Prop} (a : Addr) : q P h (Instr.loadAt 3 (.pointer (some a))) K = withVal (h.cell a) K := q_ld u3 rfl a
theorem ld5 {h : Hp} {K : Value → Prop} (a : Addr) : q P h (Instr.loadAt 5 (.pointer (some a))) K = withVal (h.cell a) K := q_ld u5 rfl a
theorem ld9 {h : Hp} {K : Value → Prop} (a : Addr) : q P h (Instr.loadAt 9 (.pointer (some a))) K = withVal (h.cell a) K := q_ld u9 rfl a
theorem ln9 {h : Hp} {K : Value → Prop} {T : TypeId} (s : ByteArray) : q P h (Builtin.len_ #[9] T #[.string s]) K = K (.int .i64 s.size) := q_lenStr u9 s
theorem ld22 {h : Hp} {K : Value → Prop} (a : Addr) : q P h (Instr.loadAt 22 (.pointer (some a))) K = withVal (h.cell a) K := q_ld u22 rfl a
theorem ix22 {h : Hp} {K : Value → Prop} (a : Addr) (n c : Nat) (k : IntKind) (i : Int) (h0 : 0 ≤ i) (h1 : i < n) : q P h (Instr.indexAt 22 (.slice (some a) n c) (.int k i)) K = K (.pointer (some (a.add i.toNat))) := by rw [q_idxS u22 z5 a n c k i h0 h1, Nat.mul_one]
theorem ln22 {h : Hp} {K : Value → Prop} {T : TypeId} (a : Option Addr) (n c : Nat) : q P h (Builtin.len_ #[22] T #[.slice a n c]) K = K (.int .i64 n) := q_lenS u22 a n c
theorem en22 {h : Hp} {K : Value → Prop} (x y : Operand) (a : Option Addr) (n c : Nat) : q P h (eqop .eql 22 x y (.slice a n c) (.slice none 0 0)) K = K (.bool a.isNone) := q_eqlNil x y a n c u22
theorem ld27 {h : Hp} {K : Value → Prop} (a : Addr) : q P h (Instr.loadAt 27 (.pointer (some a))) K = withVal (h.cell a) K := q_ld u27 rfl a
theorem ld33 {h : Hp} {K : Value → Prop} (a : Addr) : q P h (Instr.loadAt 33 (.pointer (some a))) K = withVal (h.cell a) K := q_ld u33 rfl a
theorem ld38 {h : Hp} {K : Value → Prop} (a : Addr) : q P h (Instr.loadAt 38 (.pointer (some a))) K = withVal (h.cell a) K := q_ld u38 rfl a
theorem ld43 {h : Hp} {K : Value → Prop} (a : Addr) : q P h (Instr.loadAt 43 (.pointer (some a))) K = withVal (h.cell a) K := q_ld u43 rfl a
theorem ix43 {h : Hp} {K : Value → Prop} (a : Addr) (n c : Nat) (k : IntKind) (i : Int) (h0 : 0 ≤ i) (h1 : i < n) : q P h (Instr.indexAt 43 (.slice (some a) n c) (.int k i)) K = K (.pointer (some (a.add i.toNat))) := by rw [q_idxS u43 z22 a n c k i h0 h1, Nat.mul_one]
theorem ln43 {h : Hp} {K : Value → Prop} {T : TypeId} (a : Option Addr) (n c : Nat) : q P h (Builtin.len_ #[43] T #[.slice a n c]) K = K (.int .i64 n) := q_lenS u43 a n c
theorem en43 {h : Hp} {K : Value → Prop} (x y : Operand) (a : Option Addr) (n c : Nat) : q P h (eqop .eql 43 x y (.slice a n c) (.slice none 0 0)) K = K (.bool a.isNone) := q_eqlNil x y a n c u43
theorem ld45 {h : Hp} {K : Value → Prop} (a : Addr) : q P h (Instr.loadAt 45 (.pointer (some a))) K = withVal (h.cell a) K := q_ld u45 rfl a
theorem ix45 {h : Hp} {K : Value → Prop} (a : Addr) (n c : Nat) (k : IntKind) (i : Int) (h0 : 0 ≤ i) (h1 : i < n) : q P h (Instr.indexAt 45 (.slice (some a) n c) (.int k i)) K = K (.pointer (some (a.add i.toNat))) := by rw [q_idxS u45 z3 a n c k i h0 h1, Nat.mul_one]
theorem ln45 {h : Hp} {K : Value → Prop} {T : TypeId} (a : Option Addr) (n c : Nat) : q P h (Builtin.len_ #[45] T #[.slice a n c]) K = K (.int .i64 n) := q_lenS u45 a n c
theorem en45 {h : Hp} {K : Value → Prop} (x y : Operand) (a : Option Addr) (n c : Nat) : q P h (eqop .eql 45 x y (.slice a n c) (.slice none 0 0)) K = K (.bool a.isNone) := q_eqlNil x y a n c u45
theorem ld49 {h : Hp} {K : Value → Prop} (a : Addr) : q P h (Instr.loadAt 49 (.pointer (some a))) K = withVal (h.cell a) K := q_ld u49 rfl a
theorem ix49 {h : Hp} {K : Value → Prop} (a : Addr) (n c : Nat) (k : IntKind) (i : Int) (h0 : 0 ≤ i) (h1 : i < n) : q P h (Instr.indexAt 49 (.slice (some a) n c) (.int k i)) K = K (.pointer (some (a.add i.toNat))) := by rw [q_idxS u49 z33 a n c k i h0 h1, Nat.mul_one]
theorem ln49 {h : Hp} {K : Value → Prop} {T : TypeId} (a : Option Addr) (n c : Nat) : q P h (Builtin.len_ #[49] T #[.slice a n c]) K = K (.int .i64 n) := q_lenS u49 a n c
theorem en49 {h : Hp} {K : Value → Prop} (x y : Operand) (a : Option Addr) (n c : Nat) : q P h (eqop .eql 49 x y (.slice a n c) (.slice none 0 0)) K = K (.bool a.isNone) := q_eqlNil x y a n c u49
theorem ix54 {h : Hp} {K : Value → Prop} (a : Addr) (k : IntKind) (i : Int) (h0 : 0 ≤ i) (h1 : i < 16) : q P h (Instr.indexAt 54 (.pointer (some a)) (.int k i)) K = K (.pointer (some (a.add i.toNat))) := by rw [q_idxA u54 z33 a k i h0 h1, Nat.mul_one]
theorem ix56 {h : Hp} {K : Value → Prop} (a : Addr) (k : IntKind) (i : Int) (h0 : 0 ≤ i) (h1 : i < 4) : q P h (Instr.indexAt 56 (.pointer (some a)) (.int k i)) K = K (.pointer (some (a.add i.toNat))) := by rw [q_idxA u56 z3 a k i h0 h1, Nat.mul_one]
theorem ix61 {h : Hp} {K : Value → Prop} (a : Addr) (k : IntKind) (i : Int) (h0 : 0 ≤ i) (h1 : i < 3) : q P h (Instr.indexAt 61 (.pointer (some a)) (.int k i)) K = K (.pointer (some (a.add i.toNat))) := by rw [q_idxA u61 z3 a k i h0 h1, Nat.mul_one]
theorem ix63 {h : Hp} {K : Value → Prop} (a : Addr) (k : IntKind) (i : Int) (h0 : 0 ≤ i) (h1 : i < 5) : q P h (Instr.indexAt 63 (.pointer (some a)) (.int k i)) K = K (.pointer (some (a.add i.toNat))) := by rw [q_idxA u63 z38 a k i h0 h1, Nat.mul_one]
theorem ld78 {h : Hp} {K : Value → Prop} (a : Addr) : q P h (Instr.loadAt 78 (.pointer (some a))) K = withVal (h.cell a) K := q_ld u78 rfl a
theorem cv3_5 {h : Hp} {K : Value → Prop} {k : IntKind} (a : Int) : q P h (convert 3 5 (.int k a)) K = K (.int .u8 (IntKind.u8.wrap a)) := q_conv a u3 u5
theorem cv3_33 {h : Hp} {K : Value → Prop} {k : IntKind} (a : Int) : q P h (convert 3 33 (.int k a)) K = K (.int .u32 (IntKind.u32.wrap a)) := q_conv a u3 u33
theorem cv3_38 {h : Hp} {K : Value → Prop} {k : IntKind} (a : Int) : q P h (convert 3 38 (.int k a)) K = K (.int .u64 (IntKind.u64.wrap a)) := q_conv a u3 u38
theorem cv3_78 {h : Hp} {K : Value → Prop} {k : IntKind} (a : Int) : q P h (convert 3 78 (.int k a)) K = K (.int .u64 (IntKind.u64.wrap a)) := q_conv a u3 u78
theorem cv5_3 {h : Hp} {K : Value → Prop} {k : IntKind} (a : Int) : q P h (convert 5 3 (.int k a)) K = K (.int .i64 (IntKind.i64.wrap a)) := q_conv a u5 u3
theorem cv5_38 {h : Hp} {K : Value → Prop} {k : IntKind} (a : Int) : q P h (convert 5 38 (.int k a)) K = K (.int .u64 (IntKind.u64.wrap a)) := q_conv a u5 u38
theorem cv33_38 {h : Hp} {K : Value → Prop} {k : IntKind} (a : Int) : q P h (convert 33 38 (.int k a)) K = K (.int .u64 (IntKind.u64.wrap a)) := q_conv a u33 u38
theorem cv38_5 {h : Hp} {K : Value → Prop} {k : IntKind} (a : Int) : q P h (convert 38 5 (.int k a)) K = K (.int .u8 (IntKind.u8.wrap a)) := q_conv a u38 u5
theorem cv38_33 {h : Hp} {K : Value → Prop} {k : IntKind} (a : Int) : q P h (convert 38 33 (.int k a)) K = K (.int .u32 (IntKind.u32.wrap a)) := q_conv a u38 u33
/-- The readings' rules at this seat's types. -/
theorem RL :
  (∀ {h : Hp} {K : Value → Prop} (a : Addr), q P h (Instr.loadAt 3 (.pointer (some a))) K = withVal (h.cell a) K) ∧
  (∀ {h : Hp} {K : Value → Prop} (a : Addr), q P h (Instr.loadAt 5 (.pointer (some a))) K = withVal (h.cell a) K) ∧
  (∀ {h : Hp} {K : Value → Prop} (a : Addr), q P h (Instr.loadAt 9 (.pointer (some a))) K = withVal (h.cell a) K) ∧
  (∀ {h : Hp} {K : Value → Prop} {T : TypeId} (s : ByteArray), q P h (Builtin.len_ #[9] T #[.string s]) K = K (.int .i64 s.size)) ∧
  (∀ {h : Hp} {K : Value → Prop} (a : Addr), q P h (Instr.loadAt 22 (.pointer (some a))) K = withVal (h.cell a) K) ∧
  (∀ {h : Hp} {K : Value → Prop} (a : Addr) (n c : Nat) (k : IntKind) (i : Int) (h0 : 0 ≤ i) (h1 : i < n), q P h (Instr.indexAt 22 (.slice (some a) n c) (.int k i)) K = K (.pointer (some (a.add i.toNat)))) ∧
  (∀ {h : Hp} {K : Value → Prop} {T : TypeId} (a : Option Addr) (n c : Nat), q P h (Builtin.len_ #[22] T #[.slice a n c]) K = K (.int .i64 n)) ∧
  (∀ {h : Hp} {K : Value → Prop} (x y : Operand) (a : Option Addr) (n c : Nat), q P h (eqop .eql 22 x y (.slice a n c) (.slice none 0 0)) K = K (.bool a.isNone)) ∧
  (∀ {h : Hp} {K : Value → Prop} (a : Addr), q P h (Instr.loadAt 27 (.pointer (some a))) K = withVal (h.cell a) K) ∧
  (∀ {h : Hp} {K : Value → Prop} (a : Addr), q P h (Instr.loadAt 33 (.pointer (some a))) K = withVal (h.cell a) K) ∧
  (∀ {h : Hp} {K : Value → Prop} (a : Addr), q P h (Instr.loadAt 38 (.pointer (some a))) K = withVal (h.cell a) K) ∧
  (∀ {h : Hp} {K : Value → Prop} (a : Addr), q P h (Instr.loadAt 43 (.pointer (some a))) K = withVal (h.cell a) K) ∧
  (∀ {h : Hp} {K : Value → Prop} (a : Addr) (n c : Nat) (k : IntKind) (i : Int) (h0 : 0 ≤ i) (h1 : i < n), q P h (Instr.indexAt 43 (.slice (some a) n c) (.int k i)) K = K (.pointer (some (a.add i.toNat)))) ∧
  (∀ {h : Hp} {K : Value → Prop} {T : TypeId} (a : Option Addr) (n c : Nat), q P h (Builtin.len_ #[43] T #[.slice a n c]) K = K (.int .i64 n)) ∧
  (∀ {h : Hp} {K : Value → Prop} (x y : Operand) (a : Option Addr) (n c : Nat), q P h (eqop .eql 43 x y (.slice a n c) (.slice none 0 0)) K = K (.bool a.isNone)) ∧
  (∀ {h : Hp} {K : Value → Prop} (a : Addr), q P h (Instr.loadAt 45 (.pointer (some a))) K = withVal (h.cell a) K) ∧
  (∀ {h : Hp} {K : Value → Prop} (a : Addr) (n c : Nat) (k : IntKind) (i : Int) (h0 : 0 ≤ i) (h1 : i < n), q P h (Instr.indexAt 45 (.slice (some a) n c) (.int k i)) K = K (.pointer (some (a.add i.toNat)))) ∧
  (∀ {h : Hp} {K : Value → Prop} {T : TypeId} (a : Option Addr) (n c : Nat), q P h (Builtin.len_ #[45] T #[.slice a n c]) K = K (.int .i64 n)) ∧
  (∀ {h : Hp} {K : Value → Prop} (x y : Operand) (a : Option Addr) (n c : Nat), q P h (eqop .eql 45 x y (.slice a n c) (.slice none 0 0)) K = K (.bool a.isNone)) ∧
  (∀ {h : Hp} {K : Value → Prop} (a : Addr), q P h (Instr.loadAt 49 (.pointer (some a))) K = withVal (h.cell a) K) ∧
  (∀ {h : Hp} {K : Value → Prop} (a : Addr) (n c : Nat) (k : IntKind) (i : Int) (h0 : 0 ≤ i) (h1 : i < n), q P h (Instr.indexAt 49 (.slice (some a) n c) (.int k i)) K = K (.pointer (some (a.add i.toNat)))) ∧
  (∀ {h : Hp} {K : Value → Prop} {T : TypeId} (a : Option Addr) (n c : Nat), q P h (Builtin.len_ #[49] T #[.slice a n c]) K = K (.int .i64 n)) ∧
  (∀ {h : Hp} {K : Value → Prop} (x y : Operand) (a : Option Addr) (n c : Nat), q P h (eqop .eql 49 x y (.slice a n c) (.slice none 0 0)) K = K (.bool a.isNone)) ∧
  (∀ {h : Hp} {K : Value → Prop} (a : Addr) (k : IntKind) (i : Int) (h0 : 0 ≤ i) (h1 : i < 16), q P h (Instr.indexAt 54 (.pointer (some a)) (.int k i)) K = K (.pointer (some (a.add i.toNat)))) ∧
  (∀ {h : Hp} {K : Value → Prop} (a : Addr) (k : IntKind) (i : Int) (h0 : 0 ≤ i) (h1 : i < 4), q P h (Instr.indexAt 56 (.pointer (some a)) (.int k i)) K = K (.pointer (some (a.add i.toNat)))) ∧
  (∀ {h : Hp} {K : Value → Prop} (a : Addr) (k : IntKind) (i : Int) (h0 : 0 ≤ i) (h1 : i < 3), q P h (Instr.indexAt 61 (.pointer (some a)) (.int k i)) K = K (.pointer (some (a.add i.toNat)))) ∧
  (∀ {h : Hp} {K : Value → Prop} (a : Addr) (k : IntKind) (i : Int) (h0 : 0 ≤ i) (h1 : i < 5), q P h (Instr.indexAt 63 (.pointer (some a)) (.int k i)) K = K (.pointer (some (a.add i.toNat)))) ∧
  (∀ {h : Hp} {K : Value → Prop} (a : Addr), q P h (Instr.loadAt 78 (.pointer (some a))) K = withVal (h.cell a) K) ∧
  (∀ {h : Hp} {K : Value → Prop} {k : IntKind} (a : Int), q P h (convert 3 5 (.int k a)) K = K (.int .u8 (IntKind.u8.wrap a))) ∧
  (∀ {h : Hp} {K : Value → Prop} {k : IntKind} (a : Int), q P h (convert 3 33 (.int k a)) K = K (.int .u32 (IntKind.u32.wrap a))) ∧
  (∀ {h : Hp} {K : Value → Prop} {k : IntKind} (a : Int), q P h (convert 3 38 (.int k a)) K = K (.int .u64 (IntKind.u64.wrap a))) ∧
  (∀ {h : Hp} {K : Value → Prop} {k : IntKind} (a : Int), q P h (convert 3 78 (.int k a)) K = K (.int .u64 (IntKind.u64.wrap a))) ∧
  (∀ {h : Hp} {K : Value → Prop} {k : IntKind} (a : Int), q P h (convert 5 3 (.int k a)) K = K (.int .i64 (IntKind.i64.wrap a))) ∧
  (∀ {h : Hp} {K : Value → Prop} {k : IntKind} (a : Int), q P h (convert 5 38 (.int k a)) K = K (.int .u64 (IntKind.u64.wrap a))) ∧
  (∀ {h : Hp} {K : Value → Prop} {k : IntKind} (a : Int), q P h (convert 33 38 (.int k a)) K = K (.int .u64 (IntKind.u64.wrap a))) ∧
  (∀ {h : Hp} {K : Value → Prop} {k : IntKind} (a : Int), q P h (convert 38 5 (.int k a)) K = K (.int .u8 (IntKind.u8.wrap a))) ∧
  (∀ {h : Hp} {K : Value → Prop} {k : IntKind} (a : Int), q P h (convert 38 33 (.int k a)) K = K (.int .u32 (IntKind.u32.wrap a))) :=
  ⟨@ld3, @ld5, @ld9, @ln9, @ld22, @ix22, @ln22, @en22, @ld27, @ld33, @ld38, @ld43, @ix43, @ln43, @en43, @ld45, @ix45, @ln45, @en45, @ld49, @ix49, @ln49, @en49, @ix54, @ix56, @ix61, @ix63, @ld78, @cv3_5, @cv3_33, @cv3_38, @cv3_78, @cv5_3, @cv5_38, @cv33_38, @cv38_5, @cv38_33⟩
theorem u_int : P.underlying 3 = some (.int .i64) := u3
theorem z_int : sz P 3 = some 1 := z3
theorem nfo_int : (P.info? 3).map (fun i => (i.zero, i.size, i.bytes)) = some (some (.int .i64 0), 1, 8) := nfo3
theorem zr_int : zr P 3 = some (.int .i64 0) := zr3
theorem u_uint8 : P.underlying 5 = some (.int .u8) := u5
theorem z_uint8 : sz P 5 = some 1 := z5
theorem nfo_uint8 : (P.info? 5).map (fun i => (i.zero, i.size, i.bytes)) = some (some (.int .u8 0), 1, 1) := nfo5
theorem zr_uint8 : zr P 5 = some (.int .u8 0) := zr5
theorem u_string : P.underlying 9 = some .string := u9
theorem z_string : sz P 9 = some 1 := z9
theorem nfo_string : (P.info? 9).map (fun i => (i.zero, i.size, i.bytes)) = some (some (.string ByteArray.empty), 1, 16) := nfo9
theorem zr_string : zr P 9 = some (.string ByteArray.empty) := zr9
theorem u_Sl_uint8 : P.underlying 22 = some (.slice 5) := u22
theorem z_Sl_uint8 : sz P 22 = some 1 := z22
theorem nfo_Sl_uint8 : (P.info? 22).map (fun i => (i.zero, i.size, i.bytes)) = some (some (.slice none 0 0), 1, 24) := nfo22
theorem zr_Sl_uint8 : zr P 22 = some (.slice none 0 0) := zr22
theorem u_orloplaw06_Ask : P.underlying 24 = some (.struct (match P.underlying 24 with | some (.struct fs) => fs | _ => #[])) := u24
theorem z_orloplaw06_Ask : sz P 24 = some 4 := z24
theorem u_api_Code : P.underlying 27 = some (.int .i64) := u27
theorem z_api_Code : sz P 27 = some 1 := z27
theorem nfo_api_Code : (P.info? 27).map (fun i => (i.zero, i.size, i.bytes)) = some (some (.int .i64 0), 1, 8) := nfo27
theorem zr_api_Code : zr P 27 = some (.int .i64 0) := zr27
theorem u_uint32 : P.underlying 33 = some (.int .u32) := u33
theorem z_uint32 : sz P 33 = some 1 := z33
theorem nfo_uint32 : (P.info? 33).map (fun i => (i.zero, i.size, i.bytes)) = some (some (.int .u32 0), 1, 4) := nfo33
theorem zr_uint32 : zr P 33 = some (.int .u32 0) := zr33
theorem u_uint64 : P.underlying 38 = some (.int .u64) := u38
theorem z_uint64 : sz P 38 = some 1 := z38
theorem nfo_uint64 : (P.info? 38).map (fun i => (i.zero, i.size, i.bytes)) = some (some (.int .u64 0), 1, 8) := nfo38
theorem zr_uint64 : zr P 38 = some (.int .u64 0) := zr38
theorem u_Sl_Sl_uint8 : P.underlying 43 = some (.slice 22) := u43
theorem z_Sl_Sl_uint8 : sz P 43 = some 1 := z43
theorem nfo_Sl_Sl_uint8 : (P.info? 43).map (fun i => (i.zero, i.size, i.bytes)) = some (some (.slice none 0 0), 1, 24) := nfo43
theorem zr_Sl_Sl_uint8 : zr P 43 = some (.slice none 0 0) := zr43
theorem u_Sl_int : P.underlying 45 = some (.slice 3) := u45
theorem z_Sl_int : sz P 45 = some 1 := z45
theorem nfo_Sl_int : (P.info? 45).map (fun i => (i.zero, i.size, i.bytes)) = some (some (.slice none 0 0), 1, 24) := nfo45
theorem zr_Sl_int : zr P 45 = some (.slice none 0 0) := zr45
theorem u_Sl_uint32 : P.underlying 49 = some (.slice 33) := u49
theorem z_Sl_uint32 : sz P 49 = some 1 := z49
theorem nfo_Sl_uint32 : (P.info? 49).map (fun i => (i.zero, i.size, i.bytes)) = some (some (.slice none 0 0), 1, 24) := nfo49
theorem zr_Sl_uint32 : zr P 49 = some (.slice none 0 0) := zr49
theorem u_chacha_state : P.underlying 54 = some (.array 16 33) := u54
theorem z_chacha_state : sz P 54 = some 16 := z54
theorem u_4_int : P.underlying 56 = some (.array 4 3) := u56
theorem z_4_int : sz P 56 = some 4 := z56
theorem u_8_4_int : P.underlying 57 = some (.array 8 56) := u57
theorem z_8_4_int : sz P 57 = some 32 := z57
theorem u_3_int : P.underlying 61 = some (.array 3 3) := u61
theorem z_3_int : sz P 61 = some 3 := z61
theorem u_poly_number : P.underlying 63 = some (.array 5 38) := u63
theorem z_poly_number : sz P 63 = some 5 := z63
theorem u_uint : P.underlying 78 = some (.int .u64) := u78
theorem z_uint : sz P 78 = some 1 := z78
theorem nfo_uint : (P.info? 78).map (fun i => (i.zero, i.size, i.bytes)) = some (some (.int .u64 0), 1, 8) := nfo78
theorem zr_uint : zr P 78 = some (.int .u64 0) := zr78
/-- function 3: orlop.orloplaw06.AeadSeals -/
def s_orloplaw06_AeadSeals (K : Value → Hp → Prop) (h : Hp) (t0 : Value) : Prop := aw P (Instr.box 24 t0) (fun t1 h => Cn P 7 #[] h fun t9 h => q P h (Op.unary .not t9) fun t10 => cnd t10 (K (Value.bool false) h) (q P h (Instr.loadAt 24 t1) fun t11 => Cn P 8 #[t11] h fun t12 h => q P h (Op.unary .not t12) fun t13 => cnd t13 (K (Value.bool true) h) (q P h (Instr.fieldAt 24 t1 0) fun t15 => q P h (Instr.loadAt 22 t15) fun t16 => q P h (Instr.fieldAt 24 t1 1) fun t17 => q P h (Instr.loadAt 22 t17) fun t18 => q P h (Instr.fieldAt 24 t1 2) fun t19 => q P h (Instr.loadAt 22 t19) fun t20 => q P h (Instr.fieldAt 24 t1 3) fun t21 => q P h (Instr.loadAt 22 t21) fun t22 => Cn P 9 #[t16, t18, t20, t22] h fun t23 h => q P h (Instr.extract t23 0) fun t24 => q P h (Instr.extract t23 1) fun t25 => q P h (Instr.fieldAt 24 t1 0) fun t27 => q P h (Instr.loadAt 22 t27) fun t28 => q P h (Instr.fieldAt 24 t1 1) fun t29 => q P h (Instr.loadAt 22 t29) fun t30 => q P h (Instr.fieldAt 24 t1 2) fun t31 => q P h (Instr.loadAt 22 t31) fun t32 => q P h (Instr.fieldAt 24 t1 3) fun t33 => q P h (Instr.loadAt 22 t33) fun t34 => Cn P 10 #[t28, t30, t32, t34] h fun t35 h => q P h (Instr.extract t35 0) fun t36 => q P h (Instr.extract t35 1) fun t37 => 
let J10 : Hp → Prop := fun h => q P h (Instr.fieldAt 24 t1 0) fun t48 => q P h (Instr.loadAt 22 t48) fun t49 => q P h (Instr.fieldAt 24 t1 1) fun t50 => q P h (Instr.loadAt 22 t50) fun t51 => q P h (Instr.fieldAt 24 t1 2) fun t52 => q P h (Instr.loadAt 22 t52) fun t53 => Cn P 12 #[t49, t51, t53, t24] h fun t55 h => q P h (Instr.extract t55 0) fun t56 => q P h (Instr.extract t55 1) fun t57 => q P h (eqop .neq 27 (.tmp 58) (.const (Value.int .i64 0)) t25 (Value.int .i64 0)) fun t59 => cnd t59 (q P h (eqop .eql 27 (.tmp 60) (.const (Value.int .i64 1)) t25 (Value.int .i64 1)) fun t61 => gd t61 true (q P h (eqop .eql 27 (.tmp 63) (.const (Value.int .i64 1)) t57 (Value.int .i64 1)) fun t64 => K t64 h) (K (Value.bool false) h)) (q P h (Builtin.len_ #[22] 3 #[t24]) fun t67 => q P h (Instr.fieldAt 24 t1 3) fun t68 => q P h (Instr.loadAt 22 t68) fun t69 => q P h (Builtin.len_ #[22] 3 #[t69]) fun t70 => q P h (binOp .add 3 t70 (Value.int .i64 16)) fun t71 => q P h (eqop .eql 3 (.tmp 67) (.tmp 71) t67 t71) fun t72 => gd t72 true (q P h (eqop .eql 27 (.tmp 74) (.const (Value.int .i64 0)) t57 (Value.int .i64 0)) fun t75 => gd t75 true (q P h (Instr.fieldAt 24 t1 3) fun t79 => q P h (Instr.loadAt 22 t79) fun t80 => Cn P 11 #[t56, t80] h fun t81 h => K t81 h) (K (Value.bool false) h)) (K (Value.bool false) h));
q P h (eqop .neq 27 (.tmp 38) (.tmp 39) t25 t37) fun t40 => gd t40 false (Cn P 11 #[t24, t36] h fun t44 h => q P h (Op.unary .not t44) fun t45 => cnd t45 (K (Value.bool false) h) (J10 h)) (cnd (Value.bool true) (K (Value.bool false) h) (J10 h))))) h
theorem F_orloplaw06_AeadSeals {K : Value → Hp → Prop} {h : Hp} {t0 : Value} (s : s_orloplaw06_AeadSeals K h t0) : Cn P 3 #[t0] h K :=
  Cn_ofs mixed Try.func3 (by kernel_rfl) (args := [t0]) (by kernel_rfl) s

/-- function 4: orlop.orloplaw06.AeadOpens -/
def s_orloplaw06_AeadOpens (K : Value → Hp → Prop) (h : Hp) (t0 : Value) : Prop := aw P (Instr.box 24 t0) (fun t1 h => Cn P 7 #[] h fun t9 h => q P h (Op.unary .not t9) fun t10 => cnd t10 (K (Value.bool false) h) (q P h (Instr.loadAt 24 t1) fun t11 => Cn P 8 #[t11] h fun t12 h => q P h (Op.unary .not t12) fun t13 => cnd t13 (K (Value.bool true) h) (q P h (Instr.fieldAt 24 t1 0) fun t15 => q P h (Instr.loadAt 22 t15) fun t16 => q P h (Instr.fieldAt 24 t1 1) fun t17 => q P h (Instr.loadAt 22 t17) fun t18 => q P h (Instr.fieldAt 24 t1 2) fun t19 => q P h (Instr.loadAt 22 t19) fun t20 => q P h (Instr.fieldAt 24 t1 3) fun t21 => q P h (Instr.loadAt 22 t21) fun t22 => Cn P 12 #[t16, t18, t20, t22] h fun t23 h => q P h (Instr.extract t23 0) fun t24 => q P h (Instr.extract t23 1) fun t25 => q P h (Instr.fieldAt 24 t1 0) fun t27 => q P h (Instr.loadAt 22 t27) fun t28 => q P h (Instr.fieldAt 24 t1 1) fun t29 => q P h (Instr.loadAt 22 t29) fun t30 => q P h (Instr.fieldAt 24 t1 2) fun t31 => q P h (Instr.loadAt 22 t31) fun t32 => q P h (Instr.fieldAt 24 t1 3) fun t33 => q P h (Instr.loadAt 22 t33) fun t34 => Cn P 13 #[t28, t30, t32, t34] h fun t35 h => q P h (Instr.extract t35 0) fun t36 => q P h (Instr.extract t35 1) fun t37 => 
let J10 : Hp → Prop := fun h => q P h (Instr.fieldAt 24 t1 0) fun t48 => q P h (Instr.loadAt 22 t48) fun t49 => q P h (Instr.fieldAt 24 t1 1) fun t50 => q P h (Instr.loadAt 22 t50) fun t51 => q P h (Instr.fieldAt 24 t1 2) fun t52 => q P h (Instr.loadAt 22 t52) fun t53 => Cn P 9 #[t49, t51, t53, t24] h fun t55 h => q P h (Instr.extract t55 0) fun t56 => q P h (Instr.extract t55 1) fun t57 => q P h (eqop .neq 27 (.tmp 58) (.const (Value.int .i64 0)) t25 (Value.int .i64 0)) fun t59 => gd t59 false (q P h (eqop .eql 27 (.tmp 61) (.const (Value.int .i64 0)) t57 (Value.int .i64 0)) fun t62 => gd t62 true (q P h (Instr.fieldAt 24 t1 3) fun t65 => q P h (Instr.loadAt 22 t65) fun t66 => Cn P 11 #[t56, t66] h fun t67 h => K t67 h) (K (Value.bool false) h)) (K (Value.bool true) h);
q P h (eqop .neq 27 (.tmp 38) (.tmp 39) t25 t37) fun t40 => gd t40 false (Cn P 11 #[t24, t36] h fun t44 h => q P h (Op.unary .not t44) fun t45 => cnd t45 (K (Value.bool false) h) (J10 h)) (cnd (Value.bool true) (K (Value.bool false) h) (J10 h))))) h
theorem F_orloplaw06_AeadOpens {K : Value → Hp → Prop} {h : Hp} {t0 : Value} (s : s_orloplaw06_AeadOpens K h t0) : Cn P 4 #[t0] h K :=
  Cn_ofs mixed Try.func4 (by kernel_rfl) (args := [t0]) (by kernel_rfl) s

/-- function 5: orlop.orloplaw06.AeadCut -/
def s_orloplaw06_AeadCut (K : Value → Hp → Prop) (h : Hp) (t0 t1 : Value) : Prop := aw P (Instr.box 24 t0) (fun t2 h => Cn P 7 #[] h fun t11 h => q P h (Op.unary .not t11) fun t12 => cnd t12 (K (Value.bool false) h) (
let J5 : Hp → Prop := fun h => aw P (Instr.buildSlice 22 0 #[]) (fun t28 h => q P h (Instr.fieldAt 24 t2 0) fun t29 => q P h (Instr.loadAt 22 t29) fun t30 => aw P (Builtin.append_ #[22, 22] 22 #[t28, t30]) (fun t31 h => aw P (Instr.buildSlice 22 0 #[]) (fun t32 h => q P h (Instr.fieldAt 24 t2 2) fun t33 => q P h (Instr.loadAt 22 t33) fun t34 => aw P (Builtin.append_ #[22, 22] 22 #[t32, t34]) (fun t35 h => q P h (Instr.fieldAt 24 t2 1) fun t38 => q P h (Instr.loadAt 22 t38) fun t39 => q P h (Instr.fieldAt 24 t2 3) fun t41 => q P h (Instr.loadAt 22 t41) fun t42 => Cn P 9 #[t31, t39, t35, t42] h fun t43 h => q P h (Instr.extract t43 0) fun t44 => q P h (Instr.extract t43 1) fun t45 => 
let J14 : Hp → Prop := fun h => q P h (Instr.fieldAt 24 t2 1) fun t55 => q P h (Instr.loadAt 22 t55) fun t56 => q P h (convert 5 3 t1) fun t60 => q P emp (binOp .rem 3 t60 (Value.int .i64 16)) fun t61 => q P h (Instr.sliceAt 22 t44 none (some t61) none) fun t62 => Cn P 12 #[t31, t56, t35, t62] h fun t63 h => q P emp (Instr.extract t63 0) fun t64 => q P emp (Instr.extract t63 1) fun t65 => q P h (eqop .eql 27 (.tmp 66) (.const (Value.int .i64 8)) t65 (Value.int .i64 8)) fun t67 => gd t67 true (q P h (Instr.fieldAt 24 t2 0) fun t70 => q P h (Instr.loadAt 22 t70) fun t71 => Cn P 11 #[t31, t71] h fun t72 h => gd t72 true (q P h (Instr.fieldAt 24 t2 2) fun t76 => q P h (Instr.loadAt 22 t76) fun t77 => Cn P 11 #[t35, t77] h fun t78 h => K t78 h) (K (Value.bool false) h)) (K (Value.bool false) h);
q P h (eqop .neq 27 (.tmp 46) (.const (Value.int .i64 0)) t45 (Value.int .i64 0)) fun t47 => gd t47 false (q P h (Builtin.len_ #[22] 3 #[t44]) fun t50 => q P h (binOp .lss 3 t50 (Value.int .i64 16)) fun t51 => cnd t51 (K (Value.bool false) h) (J14 h)) (cnd (Value.bool true) (K (Value.bool false) h) (J14 h))) h) h) h) h;
q P h (Instr.loadAt 24 t2) fun t13 => Cn P 8 #[t13] h fun t14 h => q P h (Op.unary .not t14) fun t15 => gd t15 false (q P h (Instr.fieldAt 24 t2 0) fun t17 => q P h (Instr.loadAt 22 t17) fun t18 => q P h (Builtin.len_ #[22] 3 #[t18]) fun t19 => q P h (eqop .neq 3 (.tmp 19) (.const (Value.int .i64 32)) t19 (Value.int .i64 32)) fun t20 => gd t20 false (q P h (Instr.fieldAt 24 t2 1) fun t23 => q P h (Instr.loadAt 22 t23) fun t24 => q P h (Builtin.len_ #[22] 3 #[t24]) fun t25 => q P h (eqop .neq 3 (.tmp 25) (.const (Value.int .i64 12)) t25 (Value.int .i64 12)) fun t26 => cnd t26 (K (Value.bool true) h) (J5 h)) (cnd (Value.bool true) (K (Value.bool true) h) (J5 h))) (cnd (Value.bool true) (K (Value.bool true) h) (J5 h)))) h
theorem F_orloplaw06_AeadCut {K : Value → Hp → Prop} {h : Hp} {t0 t1 : Value} (s : s_orloplaw06_AeadCut K h t0 t1) : Cn P 5 #[t0, t1] h K :=
  Cn_ofs mixed Try.func5 (by kernel_rfl) (args := [t0, t1]) (by kernel_rfl) s

/-- function 6: orlop.orloplaw06.AeadHides -/
def s_orloplaw06_AeadHides (K : Value → Hp → Prop) (h : Hp) (t0 t1 : Value) : Prop := aw P (Instr.box 24 t0) (fun t2 h => Cn P 7 #[] h fun t12 h => q P h (Op.unary .not t12) fun t13 => cnd t13 (K (Value.bool false) h) (
let J5 : Hp → Prop := fun h => q P h (Instr.fieldAt 24 t2 0) fun t35 => q P h (Instr.loadAt 22 t35) fun t36 => q P h (Instr.fieldAt 24 t2 1) fun t37 => q P h (Instr.loadAt 22 t37) fun t38 => q P h (Instr.fieldAt 24 t2 2) fun t39 => q P h (Instr.loadAt 22 t39) fun t40 => q P h (Instr.fieldAt 24 t2 3) fun t41 => q P h (Instr.loadAt 22 t41) fun t42 => Cn P 9 #[t36, t38, t40, t42] h fun t43 h => q P h (Instr.extract t43 0) fun t44 => q P h (Instr.extract t43 1) fun t45 => q P h (Instr.fieldAt 24 t2 0) fun t47 => q P h (Instr.loadAt 22 t47) fun t48 => q P h (Instr.fieldAt 24 t2 1) fun t49 => q P h (Instr.loadAt 22 t49) fun t50 => q P h (Instr.fieldAt 24 t2 3) fun t52 => q P h (Instr.loadAt 22 t52) fun t53 => Cn P 9 #[t48, t50, t1, t53] h fun t54 h => q P h (Instr.extract t54 0) fun t55 => q P h (Instr.extract t54 1) fun t56 => q P h (Instr.fieldAt 24 t2 0) fun t58 => q P h (Instr.loadAt 22 t58) fun t59 => q P h (Instr.fieldAt 24 t2 1) fun t60 => q P h (Instr.loadAt 22 t60) fun t61 => q P h (Instr.fieldAt 24 t2 3) fun t62 => q P h (Instr.loadAt 22 t62) fun t63 => Cn P 14 #[t59, t61, (Value.int .u32 1), t63] h fun t64 h => q P h (Instr.extract t64 0) fun t65 => q P h (Instr.extract t64 1) fun t66 => q P h (Instr.fieldAt 24 t2 3) fun t67 => q P h (Instr.loadAt 22 t67) fun t68 => q P h (Builtin.len_ #[22] 3 #[t68]) fun t69 => q P h (eqop .eql 27 (.tmp 70) (.const (Value.int .i64 0)) t45 (Value.int .i64 0)) fun t71 => gd t71 true (q P h (eqop .eql 27 (.tmp 73) (.const (Value.int .i64 0)) t56 (Value.int .i64 0)) fun t74 => gd t74 true (q P h (eqop .eql 27 (.tmp 77) (.const (Value.int .i64 0)) t66 (Value.int .i64 0)) fun t78 => gd t78 true (q P h (Builtin.len_ #[22] 3 #[t44]) fun t82 => q P h (binOp .add 3 t69 (Value.int .i64 16)) fun t84 => q P h (eqop .eql 3 (.tmp 82) (.tmp 84) t82 t84) fun t85 => gd t85 true (q P h (Builtin.len_ #[22] 3 #[t55]) fun t89 => q P h (binOp .add 3 t69 (Value.int .i64 16)) fun t91 => q P h (eqop .eql 3 (.tmp 89) (.tmp 91) t89 t91) fun t92 => gd t92 true (q P h (Instr.sliceAt 22 t44 none (some t69) none) fun t97 => Cn P 11 #[t97, t65] h fun t99 h => gd t99 true (q P h (Instr.sliceAt 22 t55 none (some t69) none) fun t104 => Cn P 11 #[t104, t65] h fun t106 h => K t106 h) (K (Value.bool false) h)) (K (Value.bool false) h)) (K (Value.bool false) h)) (K (Value.bool false) h)) (K (Value.bool false) h)) (K (Value.bool false) h);
q P h (Instr.loadAt 24 t2) fun t14 => Cn P 8 #[t14] h fun t15 h => q P h (Op.unary .not t15) fun t16 => gd t16 false (q P h (Builtin.len_ #[22] 3 #[t1]) fun t19 => q P h (binOp .gtr 3 t19 (Value.int .i64 1024)) fun t20 => gd t20 false (q P h (Instr.fieldAt 24 t2 0) fun t23 => q P h (Instr.loadAt 22 t23) fun t24 => q P h (Builtin.len_ #[22] 3 #[t24]) fun t25 => q P h (eqop .neq 3 (.tmp 25) (.const (Value.int .i64 32)) t25 (Value.int .i64 32)) fun t26 => gd t26 false (q P h (Instr.fieldAt 24 t2 1) fun t29 => q P h (Instr.loadAt 22 t29) fun t30 => q P h (Builtin.len_ #[22] 3 #[t30]) fun t31 => q P h (eqop .neq 3 (.tmp 31) (.const (Value.int .i64 12)) t31 (Value.int .i64 12)) fun t32 => cnd t32 (K (Value.bool true) h) (J5 h)) (cnd (Value.bool true) (K (Value.bool true) h) (J5 h))) (cnd (Value.bool true) (K (Value.bool true) h) (J5 h))) (cnd (Value.bool true) (K (Value.bool true) h) (J5 h)))) h
theorem F_orloplaw06_AeadHides {K : Value → Hp → Prop} {h : Hp} {t0 t1 : Value} (s : s_orloplaw06_AeadHides K h t0 t1) : Cn P 6 #[t0, t1] h K :=
  Cn_ofs mixed Try.func6 (by kernel_rfl) (args := [t0, t1]) (by kernel_rfl) s

/-- function 7: orlop.orloplaw06.awake -/
def s_orloplaw06_awake (K : Value → Hp → Prop) (h : Hp) : Prop := aw P (Instr.makeSlice 22 (Value.int .i64 32) (Value.int .i64 32)) (fun t8 h => q P h (Instr.sliceAt 22 t8 none (some (Value.int .i64 12)) none) fun t12 => aw P (Instr.buildSlice 22 1 #[(0, (Value.int .u8 120))]) (fun t13 h => aw P (convert 22 22 t13) (fun t14 h => Cn P 9 #[t8, t12, (Value.slice none 0 0), t14] h fun t15 h => q P h (Instr.extract t15 0) fun t16 => q P h (Instr.extract t15 1) fun t17 => q P h (Instr.sliceAt 22 t8 none (some (Value.int .i64 12)) none) fun t21 => Cn P 12 #[t8, t21, (Value.slice none 0 0), t16] h fun t23 h => q P h (Instr.extract t23 0) fun t24 => q P h (Instr.extract t23 1) fun t25 => q P h (Instr.sliceAt 22 t8 none (some (Value.int .i64 12)) none) fun t29 => aw P (Instr.makeSlice 22 (Value.int .i64 15) (Value.int .i64 15)) (fun t30 h => peek P h (Instr.sliceAt 22 t8 none (some (Value.int .i64 12)) none) = some t29 ∧ Cn P 12 #[t8, t29, (Value.slice none 0 0), t30] h fun t31 h => q P emp (Instr.extract t31 0) fun t32 => q P emp (Instr.extract t31 1) fun t33 => q P h (eqop .eql 27 (.tmp 34) (.const (Value.int .i64 0)) t17 (Value.int .i64 0)) fun t35 => gd t35 true (q P h (Builtin.len_ #[22] 3 #[t16]) fun t38 => q P h (eqop .eql 3 (.tmp 38) (.const (Value.int .i64 17)) t38 (Value.int .i64 17)) fun t39 => gd t39 true (q P h (eqop .eql 27 (.tmp 42) (.const (Value.int .i64 0)) t25 (Value.int .i64 0)) fun t43 => gd t43 true (q P h (convert 22 9 t24) fun t47 => q P h (eqop .eql 9 (.tmp 47) (.const (Value.string ⟨#[120]⟩)) t47 (Value.string ⟨#[120]⟩)) fun t48 => gd t48 true (q P h (eqop .eql 27 (.tmp 51) (.const (Value.int .i64 8)) t33 (Value.int .i64 8)) fun t52 => K t52 h) (K (Value.bool false) h)) (K (Value.bool false) h)) (K (Value.bool false) h)) (K (Value.bool false) h)) h) h) h) h
theorem F_orloplaw06_awake {K : Value → Hp → Prop} {h : Hp} (s : s_orloplaw06_awake K h) : Cn P 7 #[] h K :=
  Cn_ofs mixed Try.func7 (by kernel_rfl) (args := []) (by kernel_rfl) s

/-- function 8: orlop.orloplaw06.small -/
def s_orloplaw06_small (K : Value → Hp → Prop) (h : Hp) (t0 : Value) : Prop := aw P (Instr.box 24 t0) (fun t1 h => q P h (Instr.fieldAt 24 t1 2) fun t3 => q P h (Instr.loadAt 22 t3) fun t4 => q P h (Builtin.len_ #[22] 3 #[t4]) fun t5 => q P h (binOp .leq 3 t5 (Value.int .i64 1024)) fun t6 => gd t6 true (q P h (Instr.fieldAt 24 t1 3) fun t8 => q P h (Instr.loadAt 22 t8) fun t9 => q P h (Builtin.len_ #[22] 3 #[t9]) fun t10 => q P h (binOp .leq 3 t10 (Value.int .i64 1024)) fun t11 => K t11 h) (K (Value.bool false) h)) h
theorem F_orloplaw06_small {K : Value → Hp → Prop} {h : Hp} {t0 : Value} (s : s_orloplaw06_small K h t0) : Cn P 8 #[t0] h K :=
  Cn_ofs mixed Try.func8 (by kernel_rfl) (args := [t0]) (by kernel_rfl) s

/-- function 9: orlop.aead.Seal -/
def s_aead_Seal (K : Value → Hp → Prop) (h : Hp) (t0 t1 t2 t3 : Value) : Prop := Cn P 14 #[t0, t1, (Value.int .u32 1), t3] h fun t17 h => q P h (Instr.extract t17 0) fun t18 => q P h (Instr.extract t17 1) fun t19 => q P h (eqop .neq 27 (.tmp 20) (.const (Value.int .i64 0)) t19 (Value.int .i64 0)) fun t21 => cnd t21 (K (Value.tuple #[(Value.slice none 0 0), t19]) h) (Cn P 15 #[t0, t1, t2, t18] h fun t28 h => q P h (Instr.extract t28 0) fun t29 => q P h (Instr.extract t28 1) fun t30 => q P h (eqop .neq 27 (.tmp 31) (.const (Value.int .i64 0)) t30 (Value.int .i64 0)) fun t32 => cnd t32 (K (Value.tuple #[(Value.slice none 0 0), t30]) h) (aw P (Instr.buildSlice 43 2 #[(0, t18), (1, t29)]) (fun t36 h => Cn P 16 #[t36] h fun t37 h => K (Value.tuple #[t37, (Value.int .i64 0)]) h) h))
theorem F_aead_Seal {K : Value → Hp → Prop} {h : Hp} {t0 t1 t2 t3 : Value} (s : s_aead_Seal K h t0 t1 t2 t3) : Cn P 9 #[t0, t1, t2, t3] h K :=
  Cn_ofs mixed Try.func9 (by kernel_rfl) (args := [t0, t1, t2, t3]) (by kernel_rfl) s

/-- function 10: orlop.orlopref06.Seal -/
def s_orlopref06_Seal (K : Value → Hp → Prop) (h : Hp) (t0 t1 t2 t3 : Value) : Prop := Cn P 17 #[t0, t1, (Value.int .u32 1), t3] h fun t19 h => q P h (Instr.extract t19 0) fun t20 => q P h (Instr.extract t19 1) fun t21 => q P h (eqop .neq 27 (.tmp 22) (.const (Value.int .i64 0)) t21 (Value.int .i64 0)) fun t23 => cnd t23 (K (Value.tuple #[(Value.slice none 0 0), t21]) h) (Cn P 18 #[t2] h fun t26 h => Cn P 18 #[t20] h fun t28 h => aw P (Builtin.append_ #[22, 22] 22 #[t26, t28]) (fun t29 h => q P h (Builtin.len_ #[22] 3 #[t2]) fun t32 => q P h (convert 3 38 t32) fun t33 => Cn P 19 #[t33, (Value.int .i64 8)] h fun t34 h => aw P (Builtin.append_ #[22, 22] 22 #[t29, t34]) (fun t35 h => q P h (Builtin.len_ #[22] 3 #[t20]) fun t38 => q P h (convert 3 38 t38) fun t39 => Cn P 19 #[t39, (Value.int .i64 8)] h fun t40 h => aw P (Builtin.append_ #[22, 22] 22 #[t35, t40]) (fun t41 h => Cn P 21 #[t0, t1, (Value.int .u32 0)] h fun t45 h => q P h (Instr.sliceAt 22 t45 none (some (Value.int .i64 32)) none) fun t46 => Cn P 20 #[t46, t41] h fun t48 h => q P h (Instr.extract t48 0) fun t49 => q P h (Instr.extract t48 1) fun t50 => aw P (Builtin.append_ #[22, 22] 22 #[t20, t49]) (fun t53 h => K (Value.tuple #[t53, (Value.int .i64 0)]) h) h) h) h) h)
theorem F_orlopref06_Seal {K : Value → Hp → Prop} {h : Hp} {t0 t1 t2 t3 : Value} (s : s_orlopref06_Seal K h t0 t1 t2 t3) : Cn P 10 #[t0, t1, t2, t3] h K :=
  Cn_ofs mixed Try.func10 (by kernel_rfl) (args := [t0, t1, t2, t3]) (by kernel_rfl) s

/-- function 11: orlop.orlopref01.Equal -/
def s_orlopref01_Equal (K : Value → Hp → Prop) (h : Hp) (t0 t1 : Value) : Prop := q P h (Builtin.len_ #[22] 3 #[t0]) fun t7 => q P h (Builtin.len_ #[22] 3 #[t1]) fun t9 => q P h (eqop .neq 3 (.tmp 7) (.tmp 9) t7 t9) fun t10 => cnd t10 (K (Value.bool false) h) (
Lp [(Value.bool false), (Value.int .i64 0)] h fun nx7 vs7 h =>
q P h (Builtin.len_ #[22] 3 #[t0]) fun t13 => q P h (binOp .lss 3 (vs7.getD 1 undef) t13) fun t14 => cnd t14 (q P emp (Instr.indexAt 22 t0 (vs7.getD 1 undef)) fun t19 => q P h (Instr.loadAt 5 t19) fun t20 => q P emp (Instr.indexAt 22 t1 (vs7.getD 1 undef)) fun t23 => q P h (Instr.loadAt 5 t23) fun t24 => q P h (eqop .neq 5 (.tmp 20) (.tmp 24) t20 t24) fun t25 => cnd t25 (K (Value.bool false) h) (q P h (binOp .add 3 (vs7.getD 1 undef) (Value.int .i64 1)) fun t16 => nx7 [(vs7.getD 0 undef), t16] h)) (K (Value.bool true) h))
theorem F_orlopref01_Equal {K : Value → Hp → Prop} {h : Hp} {t0 t1 : Value} (s : s_orlopref01_Equal K h t0 t1) : Cn P 11 #[t0, t1] h K :=
  Cn_ofs mixed Try.func11 (by kernel_rfl) (args := [t0, t1]) (by kernel_rfl) s

/-- function 12: orlop.aead.Open -/
def s_aead_Open (K : Value → Hp → Prop) (h : Hp) (t0 t1 t2 t3 : Value) : Prop := Cn P 14 #[t0, t1, (Value.int .u32 1), (Value.slice none 0 0)] h fun t18 h => q P h (Instr.extract t18 0) fun t19 => q P h (Instr.extract t18 1) fun t20 => q P h (eqop .neq 27 (.tmp 21) (.const (Value.int .i64 0)) t20 (Value.int .i64 0)) fun t22 => cnd t22 (K (Value.tuple #[(Value.slice none 0 0), t20]) h) (q P h (Builtin.len_ #[22] 3 #[t3]) fun t25 => q P h (binOp .sub 3 t25 (Value.int .i64 16)) fun t26 => q P h (binOp .lss 3 t26 (Value.int .i64 0)) fun t28 => cnd t28 (K (Value.tuple #[(Value.slice none 0 0), (Value.int .i64 8)]) h) (q P h (Instr.sliceAt 22 t3 none (some t26) none) fun t35 => Cn P 15 #[t0, t1, t2, t35] h fun t36 h => q P h (Instr.extract t36 0) fun t37 => q P h (Instr.extract t36 1) fun t38 => q P h (Instr.sliceAt 22 t3 (some t26) none none) fun t42 => Cn P 22 #[t37, t42] h fun t43 h => q P h (Op.unary .not t43) fun t44 => cnd t44 (K (Value.tuple #[(Value.slice none 0 0), (Value.int .i64 7)]) h) (q P h (Instr.sliceAt 22 t3 none (some t26) none) fun t49 => Cn P 14 #[t0, t1, (Value.int .u32 1), t49] h fun t50 h => q P h (Instr.extract t50 0) fun t51 => q P h (Instr.extract t50 1) fun t52 => K (Value.tuple #[t51, t52]) h)))
theorem F_aead_Open {K : Value → Hp → Prop} {h : Hp} {t0 t1 t2 t3 : Value} (s : s_aead_Open K h t0 t1 t2 t3) : Cn P 12 #[t0, t1, t2, t3] h K :=
  Cn_ofs mixed Try.func12 (by kernel_rfl) (args := [t0, t1, t2, t3]) (by kernel_rfl) s

/-- function 13: orlop.orlopref06.Open -/
def s_orlopref06_Open (K : Value → Hp → Prop) (h : Hp) (t0 t1 t2 t3 : Value) : Prop := 
let J2 : Hp → Prop := fun h => q P h (Builtin.len_ #[22] 3 #[t3]) fun t23 => q P h (binOp .lss 3 t23 (Value.int .i64 16)) fun t24 => cnd t24 (K (Value.tuple #[(Value.slice none 0 0), (Value.int .i64 8)]) h) (q P h (Builtin.len_ #[22] 3 #[t3]) fun t30 => q P h (binOp .sub 3 t30 (Value.int .i64 16)) fun t31 => q P h (Instr.sliceAt 22 t3 none (some t31) none) fun t32 => Cn P 17 #[t0, t1, (Value.int .u32 1), t32] h fun t33 h => q P h (Instr.extract t33 0) fun t34 => q P h (Instr.extract t33 1) fun t35 => Cn P 10 #[t0, t1, t2, t34] h fun t41 h => q P h (Instr.extract t41 0) fun t42 => q P h (Instr.extract t41 1) fun t43 => Cn P 11 #[t42, t3] h fun t46 h => q P h (Op.unary .not t46) fun t47 => cnd t47 (K (Value.tuple #[(Value.slice none 0 0), (Value.int .i64 7)]) h) (K (Value.tuple #[t34, (Value.int .i64 0)]) h));
q P h (Builtin.len_ #[22] 3 #[t0]) fun t15 => q P h (eqop .neq 3 (.tmp 15) (.const (Value.int .i64 32)) t15 (Value.int .i64 32)) fun t16 => gd t16 false (q P h (Builtin.len_ #[22] 3 #[t1]) fun t19 => q P h (eqop .neq 3 (.tmp 19) (.const (Value.int .i64 12)) t19 (Value.int .i64 12)) fun t20 => cnd t20 (K (Value.tuple #[(Value.slice none 0 0), (Value.int .i64 1)]) h) (J2 h)) (cnd (Value.bool true) (K (Value.tuple #[(Value.slice none 0 0), (Value.int .i64 1)]) h) (J2 h))
theorem F_orlopref06_Open {K : Value → Hp → Prop} {h : Hp} {t0 t1 t2 t3 : Value} (s : s_orlopref06_Open K h t0 t1 t2 t3) : Cn P 13 #[t0, t1, t2, t3] h K :=
  Cn_ofs mixed Try.func13 (by kernel_rfl) (args := [t0, t1, t2, t3]) (by kernel_rfl) s

/-- function 14: orlop.chacha.Xor -/
def s_chacha_Xor (K : Value → Hp → Prop) (h : Hp) (t0 t1 t2 t3 : Value) : Prop := Cn P 23 #[t0, t1] h fun t16 h => q P h (Op.unary .not t16) fun t17 => cnd t17 (K (Value.tuple #[(Value.slice none 0 0), (Value.int .i64 1)]) h) (q P h (Builtin.len_ #[22] 3 #[t3]) fun t19 => aw P (Instr.makeSlice 22 (Value.int .i64 0) t19) (fun t20 h => 
Lp [t2, t20, (Value.int .i64 0)] h fun nx8 vs8 h =>
q P h (Builtin.len_ #[22] 3 #[t3]) fun t23 => q P h (binOp .lss 3 (vs8.getD 2 undef) t23) fun t24 => cnd t24 (Cn P 24 #[t0, t1, (vs8.getD 0 undef)] h fun t30 h => q P h (binOp .add 33 (vs8.getD 0 undef) (Value.int .u32 1)) fun t32 => 
Lp [(vs8.getD 1 undef), (Value.int .i64 0)] h fun nx15 vs15 h =>

let J16 : Hp → Prop := fun h => q P emp (binOp .add 3 (vs8.getD 2 undef) (vs15.getD 1 undef)) fun t49 => q P emp (Instr.indexAt 22 t3 t49) fun t50 => q P h (Instr.loadAt 5 t50) fun t51 => q P emp (Instr.indexAt 22 t30 (vs15.getD 1 undef)) fun t54 => q P h (Instr.loadAt 5 t54) fun t55 => q P emp (binOp .xor 5 t51 t55) fun t56 => aw P (Instr.buildSlice 22 1 #[(0, t56)]) (fun t57 h => aw P (Builtin.append_ #[22, 22] 22 #[(vs15.getD 0 undef), t57]) (fun t58 h => q P h (binOp .add 3 (vs15.getD 1 undef) (Value.int .i64 1)) fun t44 => nx15 [t58, t44] h) h) h;
q P h (binOp .lss 3 (vs15.getD 1 undef) (Value.int .i64 64)) fun t34 => gd t34 true (q P h (binOp .add 3 (vs8.getD 2 undef) (vs15.getD 1 undef)) fun t38 => q P h (Builtin.len_ #[22] 3 #[t3]) fun t40 => q P h (binOp .lss 3 t38 t40) fun t41 => cnd t41 (J16 h) (q P h (binOp .add 3 (vs8.getD 2 undef) (Value.int .i64 64)) fun t26 => nx8 [t32, (vs15.getD 0 undef), t26] h)) (cnd (Value.bool false) (J16 h) (q P h (binOp .add 3 (vs8.getD 2 undef) (Value.int .i64 64)) fun t26 => nx8 [t32, (vs15.getD 0 undef), t26] h))) (K (Value.tuple #[(vs8.getD 1 undef), (Value.int .i64 0)]) h)) h)
theorem F_chacha_Xor {K : Value → Hp → Prop} {h : Hp} {t0 t1 t2 t3 : Value} (s : s_chacha_Xor K h t0 t1 t2 t3) : Cn P 14 #[t0, t1, t2, t3] h K :=
  Cn_ofs mixed Try.func14 (by kernel_rfl) (args := [t0, t1, t2, t3]) (by kernel_rfl) s

/-- function 15: orlop.aead.tag -/
def s_aead_tag (K : Value → Hp → Prop) (h : Hp) (t0 t1 t2 t3 : Value) : Prop := Cn P 25 #[t0, t1, (Value.int .u32 0)] h fun t16 h => q P h (Instr.extract t16 0) fun t17 => q P h (Instr.extract t16 1) fun t18 => q P h (eqop .neq 27 (.tmp 19) (.const (Value.int .i64 0)) t18 (Value.int .i64 0)) fun t20 => cnd t20 (K (Value.tuple #[(Value.slice none 0 0), t18]) h) (q P h (Builtin.len_ #[22] 3 #[t2]) fun t23 => q P h (convert 3 38 t23) fun t24 => Cn P 26 #[t24] h fun t25 h => q P h (Builtin.len_ #[22] 3 #[t3]) fun t27 => q P h (convert 3 38 t27) fun t28 => Cn P 26 #[t28] h fun t29 h => aw P (Builtin.append_ #[22, 22] 22 #[t25, t29]) (fun t30 h => q P h (Instr.sliceAt 22 t17 none (some (Value.int .i64 32)) none) fun t32 => aw P (Instr.buildSlice 43 2 #[(0, t2), (1, t3)]) (fun t35 h => peek P h (Instr.sliceAt 22 t17 none (some (Value.int .i64 32)) none) = some t32 ∧ Cn P 28 #[t35] h fun t36 h => peek P h (Instr.sliceAt 22 t17 none (some (Value.int .i64 32)) none) = some t32 ∧ aw P (Builtin.append_ #[22, 22] 22 #[t36, t30]) (fun t38 h => peek P h (Instr.sliceAt 22 t17 none (some (Value.int .i64 32)) none) = some t32 ∧ Cn P 27 #[t32, t38] h fun t39 h => q P emp (Instr.extract t39 0) fun t40 => q P emp (Instr.extract t39 1) fun t41 => K (Value.tuple #[t40, t41]) h) h) h) h)
theorem F_aead_tag {K : Value → Hp → Prop} {h : Hp} {t0 t1 t2 t3 : Value} (s : s_aead_tag K h t0 t1 t2 t3) : Cn P 15 #[t0, t1, t2, t3] h K :=
  Cn_ofs mixed Try.func15 (by kernel_rfl) (args := [t0, t1, t2, t3]) (by kernel_rfl) s

/-- function 16: slices.Concat[[]byte,byte] -/
def s_slices_Concat_byte_byte (K : Value → Hp → Prop) (h : Hp) (t0 : Value) : Prop := q P h (Builtin.len_ #[43] 3 #[t0]) fun t10 => 
Lp [(Value.int .i64 0), (Value.int .i64 0)] h fun nx5 vs5 h =>
q P h (binOp .lss 3 (vs5.getD 1 undef) t10) fun t12 => cnd t12 (q P h (Instr.indexAt 43 t0 (vs5.getD 1 undef)) fun t13 => q P h (Instr.loadAt 22 t13) fun t14 => q P h (Builtin.len_ #[22] 3 #[t14]) fun t17 => q P h (binOp .add 3 (vs5.getD 0 undef) t17) fun t18 => q P h (binOp .lss 3 t18 (Value.int .i64 0)) fun t20 => cnd t20 (q P h (Instr.makeInterface 9 (Value.string ⟨#[108, 101, 110, 32, 111, 117, 116, 32, 111, 102, 32, 114, 97, 110, 103, 101]⟩)) fun t21 => False) (q P h (binOp .add 3 (vs5.getD 1 undef) (Value.int .i64 1)) fun t22 => nx5 [t18, t22] h)) (Cn P 29 #[(Value.slice none 0 0), (vs5.getD 0 undef)] h fun t24 h => q P h (Builtin.len_ #[43] 3 #[t0]) fun t26 => 
Lp [t24, (Value.int .i64 0)] h fun nx15 vs15 h =>
q P h (binOp .lss 3 (vs15.getD 1 undef) t26) fun t28 => cnd t28 (q P h (Instr.indexAt 43 t0 (vs15.getD 1 undef)) fun t29 => q P h (Instr.loadAt 22 t29) fun t30 => aw P (Builtin.append_ #[22, 22] 22 #[(vs15.getD 0 undef), t30]) (fun t33 h => q P h (binOp .add 3 (vs15.getD 1 undef) (Value.int .i64 1)) fun t34 => nx15 [t33, t34] h) h) (K (vs15.getD 0 undef) h))
theorem F_slices_Concat_byte_byte {K : Value → Hp → Prop} {h : Hp} {t0 : Value} (s : s_slices_Concat_byte_byte K h t0) : Cn P 16 #[t0] h K :=
  Cn_ofs mixed Try.func16 (by kernel_rfl) (args := [t0]) (by kernel_rfl) s

/-- function 17: orlop.orlopref04.Xor -/
def s_orlopref04_Xor (K : Value → Hp → Prop) (h : Hp) (t0 t1 t2 t3 : Value) : Prop := 
let J2 : Hp → Prop := fun h => 
Lp [(Value.slice none 0 0), (Value.slice none 0 0), (Value.int .i64 0)] h fun nx11 vs11 h =>
q P h (Builtin.len_ #[22] 3 #[t3]) fun t23 => q P h (binOp .lss 3 (vs11.getD 2 undef) t23) fun t24 => cnd t24 (
let J15 : Value → Hp → Prop := fun t11 h => q P emp (Instr.indexAt 22 t3 (vs11.getD 2 undef)) fun t41 => q P h (Instr.loadAt 5 t41) fun t42 => q P emp (binOp .rem 3 (vs11.getD 2 undef) (Value.int .i64 64)) fun t45 => q P emp (Instr.indexAt 22 t11 t45) fun t46 => q P h (Instr.loadAt 5 t46) fun t47 => q P emp (binOp .xor 5 t42 t47) fun t48 => aw P (Instr.buildSlice 22 1 #[(0, t48)]) (fun t49 h => aw P (Builtin.append_ #[22, 22] 22 #[(vs11.getD 1 undef), t49]) (fun t50 h => q P h (binOp .add 3 (vs11.getD 2 undef) (Value.int .i64 1)) fun t26 => nx11 [t11, t50, t26] h) h) h;
q P h (binOp .rem 3 (vs11.getD 2 undef) (Value.int .i64 64)) fun t28 => q P h (eqop .eql 3 (.tmp 28) (.const (Value.int .i64 0)) t28 (Value.int .i64 0)) fun t29 => cnd t29 (q P h (binOp .quo 3 (vs11.getD 2 undef) (Value.int .i64 64)) fun t34 => q P h (convert 3 33 t34) fun t35 => q P h (binOp .add 33 t2 t35) fun t36 => Cn P 21 #[t0, t1, t36] h fun t37 h => J15 t37 h) (J15 (vs11.getD 0 undef) h)) (K (Value.tuple #[(vs11.getD 1 undef), (Value.int .i64 0)]) h);
q P h (Builtin.len_ #[22] 3 #[t0]) fun t14 => q P h (eqop .neq 3 (.tmp 14) (.const (Value.int .i64 32)) t14 (Value.int .i64 32)) fun t15 => gd t15 false (q P h (Builtin.len_ #[22] 3 #[t1]) fun t18 => q P h (eqop .neq 3 (.tmp 18) (.const (Value.int .i64 12)) t18 (Value.int .i64 12)) fun t19 => cnd t19 (K (Value.tuple #[(Value.slice none 0 0), (Value.int .i64 1)]) h) (J2 h)) (cnd (Value.bool true) (K (Value.tuple #[(Value.slice none 0 0), (Value.int .i64 1)]) h) (J2 h))
theorem F_orlopref04_Xor {K : Value → Hp → Prop} {h : Hp} {t0 t1 t2 t3 : Value} (s : s_orlopref04_Xor K h t0 t1 t2 t3) : Cn P 17 #[t0, t1, t2, t3] h K :=
  Cn_ofs mixed Try.func17 (by kernel_rfl) (args := [t0, t1, t2, t3]) (by kernel_rfl) s

/-- function 18: orlop.orlopref06.full -/
def s_orlopref06_full (K : Value → Hp → Prop) (h : Hp) (t0 : Value) : Prop := aw P (Instr.buildSlice 22 0 #[]) (fun t4 h => aw P (Builtin.append_ #[22, 22] 22 #[t4, t0]) (fun t6 h => 
Lp [t6] h fun nx4 vs4 h =>
q P h (Builtin.len_ #[22] 3 #[(vs4.getD 0 undef)]) fun t8 => q P h (binOp .rem 3 t8 (Value.int .i64 16)) fun t9 => q P h (binOp .gtr 3 t9 (Value.int .i64 0)) fun t10 => cnd t10 (aw P (Instr.buildSlice 22 1 #[(0, (Value.int .u8 0))]) (fun t12 h => aw P (Builtin.append_ #[22, 22] 22 #[(vs4.getD 0 undef), t12]) (fun t13 h => nx4 [t13] h) h) h) (K (vs4.getD 0 undef) h)) h) h
theorem F_orlopref06_full {K : Value → Hp → Prop} {h : Hp} {t0 : Value} (s : s_orlopref06_full K h t0) : Cn P 18 #[t0] h K :=
  Cn_ofs mixed Try.func18 (by kernel_rfl) (args := [t0]) (by kernel_rfl) s

/-- function 19: orlop.orlopref01.Little -/
def s_orlopref01_Little (K : Value → Hp → Prop) (h : Hp) (t0 t1 : Value) : Prop := 
Lp [(Value.slice none 0 0), t0, (Value.int .i64 0)] h fun nx5 vs5 h =>
q P h (binOp .lss 3 (vs5.getD 2 undef) t1) fun t9 => cnd t9 (q P h (binOp .rem 38 (vs5.getD 1 undef) (Value.int .u64 256)) fun t14 => q P h (convert 38 5 t14) fun t15 => aw P (Instr.buildSlice 22 1 #[(0, t15)]) (fun t16 h => aw P (Builtin.append_ #[22, 22] 22 #[(vs5.getD 0 undef), t16]) (fun t17 h => q P h (binOp .quo 38 (vs5.getD 1 undef) (Value.int .u64 256)) fun t19 => q P h (binOp .add 3 (vs5.getD 2 undef) (Value.int .i64 1)) fun t11 => nx5 [t17, t19, t11] h) h) h) (K (vs5.getD 0 undef) h)
theorem F_orlopref01_Little {K : Value → Hp → Prop} {h : Hp} {t0 t1 : Value} (s : s_orlopref01_Little K h t0 t1) : Cn P 19 #[t0, t1] h K :=
  Cn_ofs mixed Try.func19 (by kernel_rfl) (args := [t0, t1]) (by kernel_rfl) s

/-- function 20: orlop.orlopref05.Tag -/
def s_orlopref05_Tag (K : Value → Hp → Prop) (h : Hp) (t0 t1 : Value) : Prop := q P h (Builtin.len_ #[22] 3 #[t0]) fun t18 => q P h (eqop .neq 3 (.tmp 18) (.const (Value.int .i64 32)) t18 (Value.int .i64 32)) fun t19 => cnd t19 (K (Value.tuple #[(Value.slice none 0 0), (Value.int .i64 1)]) h) (
Lp [(Value.slice none 0 0), (Value.slice none 0 0), (Value.int .i64 0)] h fun nx9 vs9 h =>
q P h (binOp .lss 3 (vs9.getD 2 undef) (Value.int .i64 16)) fun t21 => cnd t21 (q P h (Instr.indexAt 22 t0 (vs9.getD 2 undef)) fun t26 => q P h (Instr.loadAt 5 t26) fun t27 => q P h (convert 5 3 t27) fun t28 => 
let J14 : Value → Hp → Prop := fun t9 h => 
let J16 : Value → Hp → Prop := fun t9 h => aw P (Instr.buildSlice 45 1 #[(0, t9)]) (fun t46 h => aw P (Builtin.append_ #[45, 45] 45 #[(vs9.getD 0 undef), t46]) (fun t47 h => q P h (binOp .add 3 (Value.int .i64 16) (vs9.getD 2 undef)) fun t51 => q P h (Instr.indexAt 22 t0 t51) fun t52 => q P h (Instr.loadAt 5 t52) fun t53 => q P h (convert 5 3 t53) fun t54 => aw P (Instr.buildSlice 45 1 #[(0, t54)]) (fun t55 h => aw P (Builtin.append_ #[45, 45] 45 #[(vs9.getD 1 undef), t55]) (fun t56 h => q P h (binOp .add 3 (vs9.getD 2 undef) (Value.int .i64 1)) fun t23 => nx9 [t47, t56, t23] h) h) h) h) h;
q P h (binOp .gtr 3 (vs9.getD 2 undef) (Value.int .i64 0)) fun t35 => gd t35 true (q P h (binOp .rem 3 (vs9.getD 2 undef) (Value.int .i64 4)) fun t38 => q P h (eqop .eql 3 (.tmp 38) (.const (Value.int .i64 0)) t38 (Value.int .i64 0)) fun t39 => cnd t39 (q P h (binOp .quo 3 t9 (Value.int .i64 4)) fun t42 => q P h (binOp .mul 3 t42 (Value.int .i64 4)) fun t43 => J16 t43 h) (J16 t9 h)) (cnd (Value.bool false) (q P h (binOp .quo 3 t9 (Value.int .i64 4)) fun t42 => q P h (binOp .mul 3 t42 (Value.int .i64 4)) fun t43 => J16 t43 h) (J16 t9 h));
q P h (binOp .rem 3 (vs9.getD 2 undef) (Value.int .i64 4)) fun t30 => q P h (eqop .eql 3 (.tmp 30) (.const (Value.int .i64 3)) t30 (Value.int .i64 3)) fun t31 => cnd t31 (q P h (binOp .rem 3 t28 (Value.int .i64 16)) fun t33 => J14 t33 h) (J14 t28 h)) (aw P (Instr.makeSlice 45 (Value.int .i64 17) (Value.int .i64 17)) (fun t57 h => 
Lp [t57, (Value.int .i64 0)] h fun nx22 vs22 h =>
q P h (Builtin.len_ #[22] 3 #[t1]) fun t60 => q P h (binOp .lss 3 (vs22.getD 1 undef) t60) fun t61 => cnd t61 (
let J27 : Value → Hp → Prop := fun t12 h => aw P (Instr.buildSlice 45 1 #[(0, (Value.int .i64 1))]) (fun t87 h => aw P (Builtin.append_ #[45, 45] 45 #[t12, t87]) (fun t88 h => Cn P 32 #[(vs22.getD 0 undef), t88, (Value.int .i64 18)] h fun t89 h => Cn P 31 #[t89, (vs9.getD 0 undef)] h fun t91 h => Cn P 30 #[t91] h fun t92 h => q P h (binOp .add 3 (vs22.getD 1 undef) (Value.int .i64 16)) fun t63 => nx22 [t92, t63] h) h) h;

Lp [(Value.slice none 0 0), (vs22.getD 1 undef)] h fun nx29 vs29 h =>

let J30 : Hp → Prop := fun h => q P h (Instr.indexAt 22 t1 (vs29.getD 1 undef)) fun t80 => q P h (Instr.loadAt 5 t80) fun t81 => q P h (convert 5 3 t81) fun t82 => aw P (Instr.buildSlice 45 1 #[(0, t82)]) (fun t83 h => aw P (Builtin.append_ #[45, 45] 45 #[(vs29.getD 0 undef), t83]) (fun t84 h => q P h (binOp .add 3 (vs29.getD 1 undef) (Value.int .i64 1)) fun t76 => nx29 [t84, t76] h) h) h;
q P h (binOp .add 3 (vs22.getD 1 undef) (Value.int .i64 16)) fun t67 => q P h (binOp .lss 3 (vs29.getD 1 undef) t67) fun t68 => gd t68 true (q P h (Builtin.len_ #[22] 3 #[t1]) fun t72 => q P h (binOp .lss 3 (vs29.getD 1 undef) t72) fun t73 => cnd t73 (J30 h) (J27 (vs29.getD 0 undef) h)) (cnd (Value.bool false) (J30 h) (J27 (vs29.getD 0 undef) h))) (Cn P 32 #[(vs22.getD 0 undef), (vs9.getD 1 undef), (Value.int .i64 16)] h fun t95 h => 
Lp [(Value.slice none 0 0), (Value.int .i64 0)] h fun nx37 vs37 h =>
q P h (binOp .lss 3 (vs37.getD 1 undef) (Value.int .i64 16)) fun t97 => cnd t97 (q P h (Instr.indexAt 45 t95 (vs37.getD 1 undef)) fun t103 => q P h (Instr.loadAt 3 t103) fun t104 => q P h (convert 3 5 t104) fun t105 => aw P (Instr.buildSlice 22 1 #[(0, t105)]) (fun t106 h => aw P (Builtin.append_ #[22, 22] 22 #[(vs37.getD 0 undef), t106]) (fun t107 h => q P h (binOp .add 3 (vs37.getD 1 undef) (Value.int .i64 1)) fun t99 => nx37 [t107, t99] h) h) h) (K (Value.tuple #[(vs37.getD 0 undef), (Value.int .i64 0)]) h))) h))
theorem F_orlopref05_Tag {K : Value → Hp → Prop} {h : Hp} {t0 t1 : Value} (s : s_orlopref05_Tag K h t0 t1) : Cn P 20 #[t0, t1] h K :=
  Cn_ofs mixed Try.func20 (by kernel_rfl) (args := [t0, t1]) (by kernel_rfl) s

/-- function 21: orlop.orlopref04.Block -/
def s_orlopref04_Block (K : Value → Hp → Prop) (h : Hp) (t0 t1 t2 : Value) : Prop := aw P (Instr.buildSlice 49 4 #[(0, (Value.int .u32 1634760805)), (1, (Value.int .u32 857760878)), (2, (Value.int .u32 2036477234)), (3, (Value.int .u32 1797285236))]) (fun t19 h => 
Lp [t19, (Value.int .i64 0)] h fun nx5 vs5 h =>
q P h (binOp .lss 3 (vs5.getD 1 undef) (Value.int .i64 8)) fun t21 => cnd t21 (q P h (binOp .mul 3 (Value.int .i64 4) (vs5.getD 1 undef)) fun t27 => q P h (Instr.sliceAt 22 t0 (some t27) none none) fun t28 => Cn P 33 #[t28, (Value.int .i64 4)] h fun t29 h => q P h (convert 38 33 t29) fun t30 => aw P (Instr.buildSlice 49 1 #[(0, t30)]) (fun t31 h => aw P (Builtin.append_ #[49, 49] 49 #[(vs5.getD 0 undef), t31]) (fun t32 h => q P h (binOp .add 3 (vs5.getD 1 undef) (Value.int .i64 1)) fun t23 => nx5 [t32, t23] h) h) h) (aw P (Instr.buildSlice 49 1 #[(0, t2)]) (fun t35 h => aw P (Builtin.append_ #[49, 49] 49 #[(vs5.getD 0 undef), t35]) (fun t36 h => 
Lp [t36, (Value.int .i64 0)] h fun nx12 vs12 h =>
q P h (binOp .lss 3 (vs12.getD 1 undef) (Value.int .i64 3)) fun t38 => cnd t38 (q P h (binOp .mul 3 (Value.int .i64 4) (vs12.getD 1 undef)) fun t44 => q P h (Instr.sliceAt 22 t1 (some t44) none none) fun t45 => Cn P 33 #[t45, (Value.int .i64 4)] h fun t46 h => q P h (convert 38 33 t46) fun t47 => aw P (Instr.buildSlice 49 1 #[(0, t47)]) (fun t48 h => aw P (Builtin.append_ #[49, 49] 49 #[(vs12.getD 0 undef), t48]) (fun t49 h => q P h (binOp .add 3 (vs12.getD 1 undef) (Value.int .i64 1)) fun t40 => nx12 [t49, t40] h) h) h) (aw P (Instr.buildSlice 49 0 #[]) (fun t50 h => aw P (Builtin.append_ #[49, 49] 49 #[t50, (vs12.getD 0 undef)]) (fun t52 h => 
Lp [(Value.int .i64 0)] h fun nx19 vs19 h =>
q P h (binOp .lss 3 (vs19.getD 0 undef) (Value.int .i64 10)) fun t54 => cnd t54 (
Lp [(Value.int .i64 0)] h fun nx25 vs25 h =>
q P h (binOp .lss 3 (vs25.getD 0 undef) (Value.int .i64 4)) fun t58 => cnd t58 (q P emp (binOp .add 3 (Value.int .i64 4) (vs25.getD 0 undef)) fun t66 => q P emp (binOp .add 3 (Value.int .i64 8) (vs25.getD 0 undef)) fun t69 => q P emp (binOp .add 3 (Value.int .i64 12) (vs25.getD 0 undef)) fun t72 => q P emp (Instr.indexAt 49 t52 (vs25.getD 0 undef)) fun t75 => q P h (Instr.loadAt 33 t75) fun t76 => q P emp (binOp .add 3 (Value.int .i64 4) (vs25.getD 0 undef)) fun t79 => q P emp (Instr.indexAt 49 t52 t79) fun t80 => q P h (Instr.loadAt 33 t80) fun t81 => q P emp (binOp .add 3 (Value.int .i64 8) (vs25.getD 0 undef)) fun t84 => q P emp (Instr.indexAt 49 t52 t84) fun t85 => q P h (Instr.loadAt 33 t85) fun t86 => q P emp (binOp .add 3 (Value.int .i64 12) (vs25.getD 0 undef)) fun t89 => q P emp (Instr.indexAt 49 t52 t89) fun t90 => q P h (Instr.loadAt 33 t90) fun t91 => Cn P 34 #[t76, t81, t86, t91] h fun t92 h => q P emp (Instr.extract t92 0) fun t93 => q P emp (Instr.extract t92 1) fun t94 => q P emp (Instr.extract t92 2) fun t95 => q P emp (Instr.extract t92 3) fun t96 => q P emp (Instr.indexAt 49 t52 (vs25.getD 0 undef)) fun t97 => aw P (Instr.storeAt 33 t97 t93) (fun _ h => q P emp (Instr.indexAt 49 t52 t66) fun t98 => aw P (Instr.storeAt 33 t98 t94) (fun _ h => q P emp (Instr.indexAt 49 t52 t69) fun t99 => aw P (Instr.storeAt 33 t99 t95) (fun _ h => q P emp (Instr.indexAt 49 t52 t72) fun t100 => aw P (Instr.storeAt 33 t100 t96) (fun _ h => q P h (binOp .add 3 (vs25.getD 0 undef) (Value.int .i64 1)) fun t60 => nx25 [t60] h) h) h) h) h) (
Lp [(Value.int .i64 0)] h fun nx30 vs30 h =>
q P h (binOp .lss 3 (vs30.getD 0 undef) (Value.int .i64 4)) fun t102 => cnd t102 (q P h (binOp .add 3 (vs30.getD 0 undef) (Value.int .i64 1)) fun t106 => q P h (binOp .rem 3 t106 (Value.int .i64 4)) fun t107 => q P h (binOp .add 3 (Value.int .i64 4) t107) fun t108 => q P h (binOp .add 3 (vs30.getD 0 undef) (Value.int .i64 2)) fun t110 => q P h (binOp .rem 3 t110 (Value.int .i64 4)) fun t111 => q P h (binOp .add 3 (Value.int .i64 8) t111) fun t112 => q P h (binOp .add 3 (vs30.getD 0 undef) (Value.int .i64 3)) fun t114 => q P h (binOp .rem 3 t114 (Value.int .i64 4)) fun t115 => q P h (binOp .add 3 (Value.int .i64 12) t115) fun t116 => q P emp (Instr.indexAt 49 t52 (vs30.getD 0 undef)) fun t128 => q P h (Instr.loadAt 33 t128) fun t129 => q P emp (Instr.indexAt 49 t52 t108) fun t132 => q P h (Instr.loadAt 33 t132) fun t133 => q P emp (Instr.indexAt 49 t52 t112) fun t136 => q P h (Instr.loadAt 33 t136) fun t137 => q P emp (Instr.indexAt 49 t52 t116) fun t140 => q P h (Instr.loadAt 33 t140) fun t141 => Cn P 34 #[t129, t133, t137, t141] h fun t142 h => q P emp (Instr.extract t142 0) fun t143 => q P emp (Instr.extract t142 1) fun t144 => q P emp (Instr.extract t142 2) fun t145 => q P emp (Instr.extract t142 3) fun t146 => q P emp (Instr.indexAt 49 t52 (vs30.getD 0 undef)) fun t147 => aw P (Instr.storeAt 33 t147 t143) (fun _ h => q P emp (Instr.indexAt 49 t52 t108) fun t148 => aw P (Instr.storeAt 33 t148 t144) (fun _ h => q P emp (Instr.indexAt 49 t52 t112) fun t149 => aw P (Instr.storeAt 33 t149 t145) (fun _ h => q P emp (Instr.indexAt 49 t52 t116) fun t150 => aw P (Instr.storeAt 33 t150 t146) (fun _ h => q P h (binOp .add 3 (vs30.getD 0 undef) (Value.int .i64 1)) fun t104 => nx30 [t104] h) h) h) h) h) (q P h (binOp .add 3 (vs19.getD 0 undef) (Value.int .i64 1)) fun t56 => nx19 [t56] h))) (
Lp [(Value.slice none 0 0), (Value.int .i64 0)] h fun nx40 vs40 h =>
q P h (binOp .lss 3 (vs40.getD 1 undef) (Value.int .i64 16)) fun t152 => cnd t152 (q P emp (Instr.indexAt 49 t52 (vs40.getD 1 undef)) fun t158 => q P h (Instr.loadAt 33 t158) fun t159 => q P emp (Instr.indexAt 49 (vs12.getD 0 undef) (vs40.getD 1 undef)) fun t162 => q P h (Instr.loadAt 33 t162) fun t163 => q P emp (binOp .add 33 t159 t163) fun t164 => q P h (convert 33 38 t164) fun t165 => Cn P 19 #[t165, (Value.int .i64 4)] h fun t166 h => aw P (Builtin.append_ #[22, 22] 22 #[(vs40.getD 0 undef), t166]) (fun t167 h => q P h (binOp .add 3 (vs40.getD 1 undef) (Value.int .i64 1)) fun t154 => nx40 [t167, t154] h) h) (K (vs40.getD 0 undef) h))) h) h)) h) h)) h
theorem F_orlopref04_Block {K : Value → Hp → Prop} {h : Hp} {t0 t1 t2 : Value} (s : s_orlopref04_Block K h t0 t1 t2) : Cn P 21 #[t0, t1, t2] h K :=
  Cn_ofs mixed Try.func21 (by kernel_rfl) (args := [t0, t1, t2]) (by kernel_rfl) s

/-- function 22: orlop.word.Equal -/
def s_word_Equal (K : Value → Hp → Prop) (h : Hp) (t0 t1 : Value) : Prop := q P h (Builtin.len_ #[22] 3 #[t0]) fun t8 => q P h (Builtin.len_ #[22] 3 #[t1]) fun t10 => q P h (eqop .neq 3 (.tmp 8) (.tmp 10) t8 t10) fun t11 => cnd t11 (K (Value.bool false) h) (q P h (Builtin.len_ #[22] 3 #[t0]) fun t13 => 
Lp [(Value.int .u8 0), (Value.int .i64 0)] h fun nx8 vs8 h =>
q P h (binOp .lss 3 (vs8.getD 1 undef) t13) fun t15 => cnd t15 (q P emp (Instr.indexAt 22 t0 (vs8.getD 1 undef)) fun t20 => q P h (Instr.loadAt 5 t20) fun t21 => q P emp (Instr.indexAt 22 t1 (vs8.getD 1 undef)) fun t24 => q P h (Instr.loadAt 5 t24) fun t25 => q P emp (binOp .xor 5 t21 t25) fun t26 => q P emp (binOp .or 5 (vs8.getD 0 undef) t26) fun t27 => q P h (binOp .add 3 (vs8.getD 1 undef) (Value.int .i64 1)) fun t28 => nx8 [t27, t28] h) (q P h (eqop .eql 5 (.tmp 29) (.const (Value.int .u8 0)) (vs8.getD 0 undef) (Value.int .u8 0)) fun t30 => K t30 h))
theorem F_word_Equal {K : Value → Hp → Prop} {h : Hp} {t0 t1 : Value} (s : s_word_Equal K h t0 t1) : Cn P 22 #[t0, t1] h K :=
  Cn_ofs mixed Try.func22 (by kernel_rfl) (args := [t0, t1]) (by kernel_rfl) s

/-- function 23: orlop.chacha.may -/
def s_chacha_may (K : Value → Hp → Prop) (h : Hp) (t0 t1 : Value) : Prop := q P h (Builtin.len_ #[22] 3 #[t0]) fun t6 => q P h (eqop .eql 3 (.tmp 6) (.const (Value.int .i64 32)) t6 (Value.int .i64 32)) fun t7 => gd t7 true (q P h (Builtin.len_ #[22] 3 #[t1]) fun t10 => q P h (eqop .eql 3 (.tmp 10) (.const (Value.int .i64 12)) t10 (Value.int .i64 12)) fun t11 => K t11 h) (K (Value.bool false) h)
theorem F_chacha_may {K : Value → Hp → Prop} {h : Hp} {t0 t1 : Value} (s : s_chacha_may K h t0 t1) : Cn P 23 #[t0, t1] h K :=
  Cn_ofs mixed Try.func23 (by kernel_rfl) (args := [t0, t1]) (by kernel_rfl) s

/-- function 24: orlop.chacha.block -/
def s_chacha_block (K : Value → Hp → Prop) (h : Hp) (t0 t1 t2 : Value) : Prop := Cn P 35 #[t0, t1, t2] h fun t17 h => aw P (Instr.alloc 54 true (.tuple #[])) (fun t7 h => aw P (Instr.storeAt 54 t7 t17) (fun _ h => q P h (Instr.loadAt 54 t7) fun t18 => aw P (Instr.alloc 54 true (.tuple #[])) (fun t8 h => aw P (Instr.storeAt 54 t8 t18) (fun _ h => Cn P 36 #[] h fun t19 h => aw P (Instr.alloc 57 true (.tuple #[])) (fun t9 h => aw P (Instr.storeAt 57 t9 t19) (fun _ h => 
Lp [(Value.int .i64 0)] h fun nx7 vs7 h =>
q P h (binOp .lss 3 (vs7.getD 0 undef) (Value.int .i64 10)) fun t21 => cnd t21 (q P h (Instr.loadAt 57 t9) fun t22 => 
Lp [(Value.int .i64 0)] h fun nx12 vs12 h =>
q P h (binOp .lss 3 (vs12.getD 0 undef) (Value.int .i64 8)) fun t24 => cnd t24 (q P h (Instr.index 57 t22 (vs12.getD 0 undef)) fun t25 => aw P (Instr.alloc 56 true (.tuple #[])) (fun t11 h => aw P (Instr.storeAt 56 t11 t25) (fun _ h => q P h (Instr.loadAt 56 t11) fun t26 => Cn P 37 #[t8, t26] h fun t27 h => q P h (binOp .add 3 (vs12.getD 0 undef) (Value.int .i64 1)) fun t28 => nx12 [t28] h) h) h) (q P h (binOp .add 3 (vs7.getD 0 undef) (Value.int .i64 1)) fun t29 => nx7 [t29] h)) (aw P (Instr.makeSlice 22 (Value.int .i64 0) (Value.int .i64 64)) (fun t30 h => 
Lp [t30, (Value.int .i64 0)] h fun nx20 vs20 h =>
q P h (binOp .lss 3 (vs20.getD 1 undef) (Value.int .i64 16)) fun t32 => cnd t32 (q P emp (Instr.indexAt 54 t8 (vs20.getD 1 undef)) fun t36 => q P h (Instr.loadAt 33 t36) fun t37 => q P emp (Instr.indexAt 54 t7 (vs20.getD 1 undef)) fun t39 => q P h (Instr.loadAt 33 t39) fun t40 => q P emp (binOp .add 33 t37 t40) fun t41 => Cn P 38 #[t41] h fun t42 h => aw P (Builtin.append_ #[22, 22] 22 #[(vs20.getD 0 undef), t42]) (fun t43 h => q P h (binOp .add 3 (vs20.getD 1 undef) (Value.int .i64 1)) fun t44 => nx20 [t43, t44] h) h) (K (vs20.getD 0 undef) h)) h)) h) h) h) h) h) h
theorem F_chacha_block {K : Value → Hp → Prop} {h : Hp} {t0 t1 t2 : Value} (s : s_chacha_block K h t0 t1 t2) : Cn P 24 #[t0, t1, t2] h K :=
  Cn_ofs mixed Try.func24 (by kernel_rfl) (args := [t0, t1, t2]) (by kernel_rfl) s

/-- function 25: orlop.chacha.Block -/
def s_chacha_Block (K : Value → Hp → Prop) (h : Hp) (t0 t1 t2 : Value) : Prop := Cn P 23 #[t0, t1] h fun t10 h => q P h (Op.unary .not t10) fun t11 => cnd t11 (K (Value.tuple #[(Value.slice none 0 0), (Value.int .i64 1)]) h) (Cn P 24 #[t0, t1, t2] h fun t15 h => K (Value.tuple #[t15, (Value.int .i64 0)]) h)
theorem F_chacha_Block {K : Value → Hp → Prop} {h : Hp} {t0 t1 t2 : Value} (s : s_chacha_Block K h t0 t1 t2) : Cn P 25 #[t0, t1, t2] h K :=
  Cn_ofs mixed Try.func25 (by kernel_rfl) (args := [t0, t1, t2]) (by kernel_rfl) s

/-- function 26: orlop.word.Put64 -/
def s_word_Put64 (K : Value → Hp → Prop) (h : Hp) (t0 : Value) : Prop := Cn P 39 #[t0, (Value.int .i64 8)] h fun t4 h => K t4 h
theorem F_word_Put64 {K : Value → Hp → Prop} {h : Hp} {t0 : Value} (s : s_word_Put64 K h t0) : Cn P 26 #[t0] h K :=
  Cn_ofs mixed Try.func26 (by kernel_rfl) (args := [t0]) (by kernel_rfl) s

/-- function 27: orlop.poly.Tag -/
def s_poly_Tag (K : Value → Hp → Prop) (h : Hp) (t0 t1 : Value) : Prop := q P h (Builtin.len_ #[22] 3 #[t0]) fun t15 => q P h (eqop .neq 3 (.tmp 15) (.const (Value.int .i64 32)) t15 (Value.int .i64 32)) fun t16 => cnd t16 (K (Value.tuple #[(Value.slice none 0 0), (Value.int .i64 1)]) h) (q P h (Instr.sliceAt 22 t0 none (some (Value.int .i64 16)) none) fun t18 => Cn P 40 #[t18] h fun t19 h => q P h (Instr.build 56 #[(0, (Value.int .i64 3)), (1, (Value.int .i64 7)), (2, (Value.int .i64 11)), (3, (Value.int .i64 15))]) fun t20 => 
Lp [(Value.int .i64 0)] h fun nx8 vs8 h =>
q P h (binOp .lss 3 (vs8.getD 0 undef) (Value.int .i64 4)) fun t22 => cnd t22 (q P h (Instr.index 56 t20 (vs8.getD 0 undef)) fun t23 => q P h (Instr.indexAt 22 t19 t23) fun t26 => q P h (Instr.loadAt 5 t26) fun t27 => q P h (binOp .and 5 t27 (Value.int .u8 15)) fun t28 => q P h (Instr.indexAt 22 t19 t23) fun t29 => aw P (Instr.storeAt 5 t29 t28) (fun _ h => q P h (binOp .add 3 (vs8.getD 0 undef) (Value.int .i64 1)) fun t30 => nx8 [t30] h) h) (q P h (Instr.build 61 #[(0, (Value.int .i64 4)), (1, (Value.int .i64 8)), (2, (Value.int .i64 12))]) fun t31 => 
Lp [(Value.int .i64 0)] h fun nx15 vs15 h =>
q P h (binOp .lss 3 (vs15.getD 0 undef) (Value.int .i64 3)) fun t33 => cnd t33 (q P h (Instr.index 61 t31 (vs15.getD 0 undef)) fun t34 => q P h (Instr.indexAt 22 t19 t34) fun t37 => q P h (Instr.loadAt 5 t37) fun t38 => q P h (binOp .and 5 t38 (Value.int .u8 252)) fun t39 => q P h (Instr.indexAt 22 t19 t34) fun t40 => aw P (Instr.storeAt 5 t40 t39) (fun _ h => q P h (binOp .add 3 (vs15.getD 0 undef) (Value.int .i64 1)) fun t41 => nx15 [t41] h) h) (Cn P 41 #[t19] h fun t43 h => aw P (Instr.alloc 63 true (.tuple #[])) (fun t11 h => aw P (Instr.storeAt 63 t11 t43) (fun _ h => aw P (Instr.alloc 63 true (.tuple #[])) (fun t12 h => Cn P 42 #[t1, (Value.int .i64 16)] h fun t45 h => 
∀ (L24 : Nat) (o24 : LoopState → Option Code → AObj), h L24 = none → (∀ (y24_0 : Value), ∀ (h : Hp) (KY24 : Value → Hp → Prop), h L24 = some (o24 .ready none) → (fun h => Cn P 40 #[y24_0] h fun t48 h => aw P (Instr.buildSlice 22 1 #[(0, (Value.int .u8 1))]) (fun t49 h => aw P (Builtin.append_ #[22, 22] 22 #[t48, t49]) (fun t50 h => Cn P 41 #[t50] h fun t51 h => Cn P 43 #[t12, t51] h fun t52 h => q P h (Instr.loadAt 63 t11) fun t53 => Cn P 44 #[t12, t53] h fun t54 h => KY24 (.bool true) (h.set L24 (o24 .ready none))) h) h) (h.del L24) → callP P (.func (.yield L24) #[] #[]) [y24_0] h KY24) →
iterP P t45 [.func (.yield L24) #[] #[]] (h.set L24 (o24 .ready none)) fun _ h => ∃ st, st ≠ LoopState.busy ∧ h L24 = some (o24 st none) ∧ (fun h => Cn P 45 #[t12] h fun t55 h => q P h (Instr.sliceAt 22 t0 (some (Value.int .i64 16)) none none) fun t57 => Cn P 46 #[t12, t57] h fun t58 h => K (Value.tuple #[t58, (Value.int .i64 0)]) h) (h.del L24)) h) h) h)))
theorem F_poly_Tag {K : Value → Hp → Prop} {h : Hp} {t0 t1 : Value} (s : s_poly_Tag K h t0 t1) : Cn P 27 #[t0, t1] h K :=
  Cn_ofs mixed Try.func27 (by kernel_rfl) (args := [t0, t1]) (by kernel_rfl) s

/-- function 28: orlop.aead.padded -/
def s_aead_padded (K : Value → Hp → Prop) (h : Hp) (t0 : Value) : Prop := q P h (Builtin.len_ #[43] 3 #[t0]) fun t7 => 
Lp [(Value.slice none 0 0), (Value.int .i64 0)] h fun nx5 vs5 h =>
q P h (binOp .lss 3 (vs5.getD 1 undef) t7) fun t9 => cnd t9 (q P h (Instr.indexAt 43 t0 (vs5.getD 1 undef)) fun t10 => q P h (Instr.loadAt 22 t10) fun t11 => aw P (Builtin.append_ #[22, 22] 22 #[(vs5.getD 0 undef), t11]) (fun t14 h => 
Lp [t14] h fun nx11 vs11 h =>
q P h (Builtin.len_ #[22] 3 #[(vs11.getD 0 undef)]) fun t16 => q P h (binOp .rem 3 t16 (Value.int .i64 16)) fun t17 => q P h (eqop .neq 3 (.tmp 17) (.const (Value.int .i64 0)) t17 (Value.int .i64 0)) fun t18 => cnd t18 (aw P (Instr.buildSlice 22 1 #[(0, (Value.int .u8 0))]) (fun t20 h => aw P (Builtin.append_ #[22, 22] 22 #[(vs11.getD 0 undef), t20]) (fun t21 h => nx11 [t21] h) h) h) (q P h (binOp .add 3 (vs5.getD 1 undef) (Value.int .i64 1)) fun t22 => nx5 [(vs11.getD 0 undef), t22] h)) h) (K (vs5.getD 0 undef) h)
theorem F_aead_padded {K : Value → Hp → Prop} {h : Hp} {t0 : Value} (s : s_aead_padded K h t0) : Cn P 28 #[t0] h K :=
  Cn_ofs mixed Try.func28 (by kernel_rfl) (args := [t0]) (by kernel_rfl) s

/-- function 29: slices.Grow[[]byte,byte] -/
def s_slices_Grow_byte_byte (K : Value → Hp → Prop) (h : Hp) (t0 t1 : Value) : Prop := q P h (binOp .lss 3 t1 (Value.int .i64 0)) fun t6 => cnd t6 (q P h (Instr.makeInterface 9 (Value.string ⟨#[99, 97, 110, 110, 111, 116, 32, 98, 101, 32, 110, 101, 103, 97, 116, 105, 118, 101]⟩)) fun t7 => False) (q P h (Builtin.cap_ #[22] 3 #[t0]) fun t10 => q P h (Builtin.len_ #[22] 3 #[t0]) fun t12 => q P h (binOp .sub 3 t10 t12) fun t13 => q P h (binOp .sub 3 t1 t13) fun t14 => q P h (binOp .gtr 3 t14 (Value.int .i64 0)) fun t16 => cnd t16 (q P h (Builtin.cap_ #[22] 3 #[t0]) fun t19 => q P h (Instr.sliceAt 22 t0 none (some t19) none) fun t20 => aw P (Builtin.append_ #[22, 3] 22 #[t20, t14]) (fun t22 h => q P h (Builtin.len_ #[22] 3 #[t0]) fun t24 => q P h (Instr.sliceAt 22 t22 none (some t24) none) fun t25 => K t25 h) h) (K t0 h))
theorem F_slices_Grow_byte_byte {K : Value → Hp → Prop} {h : Hp} {t0 t1 : Value} (s : s_slices_Grow_byte_byte K h t0 t1) : Cn P 29 #[t0, t1] h K :=
  Cn_ofs mixed Try.func29 (by kernel_rfl) (args := [t0, t1]) (by kernel_rfl) s

/-- function 30: orlop.orlopref05.rest -/
def s_orlopref05_rest (K : Value → Hp → Prop) (h : Hp) (t0 : Value) : Prop := 
Lp [t0, (Value.int .i64 0)] h fun nx4 vs4 h =>
q P h (binOp .lss 3 (vs4.getD 1 undef) (Value.int .i64 4)) fun t10 => cnd t10 (aw P (Instr.makeSlice 45 (Value.int .i64 20) (Value.int .i64 20)) (fun t13 h => 
let J9 : Hp → Prop := fun h => 
let J17 : Value → Hp → Prop := fun t6 h => q P h (Instr.sliceAt 45 t13 none (some (Value.int .i64 17)) none) fun t66 => aw P (Instr.buildSlice 45 1 #[(0, (Value.int .i64 5))]) (fun t67 h => Cn P 31 #[t66, t67] h fun t68 h => q P h (Instr.sliceAt 45 t68 none (some (Value.int .i64 20)) none) fun t69 => Cn P 32 #[t6, t69, (Value.int .i64 36)] h fun t70 h => q P h (binOp .add 3 (vs4.getD 1 undef) (Value.int .i64 1)) fun t12 => nx4 [t70, t12] h) h;
q P h (Instr.sliceAt 45 (vs4.getD 0 undef) none (some (Value.int .i64 16)) none) fun t56 => q P emp (Instr.indexAt 45 (vs4.getD 0 undef) (Value.int .i64 16)) fun t59 => q P h (Instr.loadAt 3 t59) fun t60 => q P emp (binOp .rem 3 t60 (Value.int .i64 4)) fun t61 => (aw P (Instr.buildSlice 45 0 #[]) (fun t54 h => peek P h (Instr.loadAt 3 t59) = some t60 ∧ peek P h (Instr.sliceAt 45 (vs4.getD 0 undef) none (some (Value.int .i64 16)) none) = some t56 ∧ (aw P (Builtin.append_ #[45, 45] 45 #[t54, t56]) (fun t57 h => peek P h (Instr.loadAt 3 t59) = some t60 ∧ aw P (Instr.buildSlice 45 1 #[(0, t61)]) (fun t62 h => aw P (Builtin.append_ #[45, 45] 45 #[t57, t62]) (fun t63 h => J17 t63 h) h) h) h) ∧ (aw P (Instr.buildSlice 45 1 #[(0, t61)]) (fun t62 h => peek P h (Instr.sliceAt 45 (vs4.getD 0 undef) none (some (Value.int .i64 16)) none) = some t56 ∧ aw P (Builtin.append_ #[45, 45] 45 #[t54, t56]) (fun t57 h => aw P (Builtin.append_ #[45, 45] 45 #[t57, t62]) (fun t63 h => J17 t63 h) h) h) h)) h) ∧ (aw P (Instr.buildSlice 45 1 #[(0, t61)]) (fun t62 h => peek P h (Instr.sliceAt 45 (vs4.getD 0 undef) none (some (Value.int .i64 16)) none) = some t56 ∧ aw P (Instr.buildSlice 45 0 #[]) (fun t54 h => peek P h (Instr.sliceAt 45 (vs4.getD 0 undef) none (some (Value.int .i64 16)) none) = some t56 ∧ aw P (Builtin.append_ #[45, 45] 45 #[t54, t56]) (fun t57 h => aw P (Builtin.append_ #[45, 45] 45 #[t57, t62]) (fun t63 h => J17 t63 h) h) h) h) h);

Lp [(Value.int .i64 0)] h fun nx11 vs11 h =>

let J12 : Hp → Prop := fun h => q P h (binOp .add 3 (Value.int .i64 16) (vs11.getD 0 undef)) fun t29 => q P h (Instr.indexAt 45 (vs4.getD 0 undef) t29) fun t30 => q P h (Instr.loadAt 3 t30) fun t31 => q P h (binOp .quo 3 t31 (Value.int .i64 4)) fun t32 => q P h (Instr.indexAt 45 t13 (vs11.getD 0 undef)) fun t33 => aw P (Instr.storeAt 3 t33 t32) (fun _ h => q P h (binOp .add 3 (Value.int .i64 17) (vs11.getD 0 undef)) fun t35 => q P h (Builtin.len_ #[45] 3 #[(vs4.getD 0 undef)]) fun t37 => q P h (binOp .lss 3 t35 t37) fun t38 => cnd t38 (q P emp (Instr.indexAt 45 t13 (vs11.getD 0 undef)) fun t43 => q P h (Instr.loadAt 3 t43) fun t44 => q P emp (binOp .add 3 (Value.int .i64 17) (vs11.getD 0 undef)) fun t47 => q P emp (Instr.indexAt 45 (vs4.getD 0 undef) t47) fun t48 => q P h (Instr.loadAt 3 t48) fun t49 => q P emp (binOp .rem 3 t49 (Value.int .i64 4)) fun t50 => q P emp (binOp .mul 3 t50 (Value.int .i64 64)) fun t51 => q P emp (binOp .add 3 t44 t51) fun t52 => q P emp (Instr.indexAt 45 t13 (vs11.getD 0 undef)) fun t53 => aw P (Instr.storeAt 3 t53 t52) (fun _ h => q P h (binOp .add 3 (vs11.getD 0 undef) (Value.int .i64 1)) fun t24 => nx11 [t24] h) h) (q P h (binOp .add 3 (vs11.getD 0 undef) (Value.int .i64 1)) fun t24 => nx11 [t24] h)) h;
q P h (binOp .lss 3 (vs11.getD 0 undef) (Value.int .i64 20)) fun t15 => gd t15 true (q P h (binOp .add 3 (Value.int .i64 16) (vs11.getD 0 undef)) fun t18 => q P h (Builtin.len_ #[45] 3 #[(vs4.getD 0 undef)]) fun t20 => q P h (binOp .lss 3 t18 t20) fun t21 => cnd t21 (J12 h) (J9 h)) (cnd (Value.bool false) (J12 h) (J9 h))) h) (aw P (Instr.buildSlice 45 0 #[]) (fun t71 h => q P h (Instr.sliceAt 45 (vs4.getD 0 undef) none (some (Value.int .i64 17)) none) fun t73 => aw P (Builtin.append_ #[45, 45] 45 #[t71, t73]) (fun t74 h => Cn P 47 #[] h fun t75 h => Cn P 48 #[t74, t75] h fun t78 h => q P h (Op.unary .not t78) fun t79 => cnd t79 (aw P (Instr.buildSlice 45 1 #[(0, (Value.int .i64 5))]) (fun t81 h => Cn P 32 #[t74, t81, (Value.int .i64 17)] h fun t82 h => q P h (Instr.indexAt 45 t82 (Value.int .i64 16)) fun t85 => q P h (Instr.loadAt 3 t85) fun t86 => q P h (binOp .rem 3 t86 (Value.int .i64 4)) fun t87 => q P h (Instr.indexAt 45 t82 (Value.int .i64 16)) fun t88 => aw P (Instr.storeAt 3 t88 t87) (fun _ h => K t82 h) h) h) (K t74 h)) h) h)
theorem F_orlopref05_rest {K : Value → Hp → Prop} {h : Hp} {t0 : Value} (s : s_orlopref05_rest K h t0) : Cn P 30 #[t0] h K :=
  Cn_ofs mixed Try.func30 (by kernel_rfl) (args := [t0]) (by kernel_rfl) s

/-- function 31: orlop.orlopref05.times -/
def s_orlopref05_times (K : Value → Hp → Prop) (h : Hp) (t0 t1 : Value) : Prop := aw P (Instr.makeSlice 45 (Value.int .i64 36) (Value.int .i64 36)) (fun t10 h => 
Lp [(Value.int .i64 0)] h fun nx5 vs5 h =>
q P h (Builtin.len_ #[45] 3 #[t0]) fun t13 => q P h (binOp .lss 3 (vs5.getD 0 undef) t13) fun t14 => cnd t14 (
Lp [(Value.int .i64 0), (Value.int .i64 0)] h fun nx11 vs11 h =>

let J12 : Hp → Prop := fun h => q P h (binOp .add 3 (vs5.getD 0 undef) (vs11.getD 1 undef)) fun t30 => q P h (Instr.indexAt 45 t10 t30) fun t31 => q P h (Instr.loadAt 3 t31) fun t32 => q P h (binOp .add 3 t32 (vs11.getD 0 undef)) fun t34 => 
let J16 : Value → Hp → Prop := fun t9 h => q P h (binOp .add 3 (vs5.getD 0 undef) (vs11.getD 1 undef)) fun t53 => q P h (binOp .rem 3 t9 (Value.int .i64 256)) fun t55 => q P h (Instr.indexAt 45 t10 t53) fun t56 => aw P (Instr.storeAt 3 t56 t55) (fun _ h => q P h (binOp .quo 3 t9 (Value.int .i64 256)) fun t58 => q P h (binOp .add 3 (vs11.getD 1 undef) (Value.int .i64 1)) fun t26 => nx11 [t58, t26] h) h;
q P h (Builtin.len_ #[45] 3 #[t1]) fun t37 => q P h (binOp .lss 3 (vs11.getD 1 undef) t37) fun t38 => cnd t38 (q P emp (Instr.indexAt 45 t0 (vs5.getD 0 undef)) fun t42 => q P h (Instr.loadAt 3 t42) fun t43 => q P emp (Instr.indexAt 45 t1 (vs11.getD 1 undef)) fun t46 => q P h (Instr.loadAt 3 t46) fun t47 => q P emp (binOp .mul 3 t43 t47) fun t48 => q P emp (binOp .add 3 t34 t48) fun t49 => J16 t49 h) (J16 t34 h);
q P h (Builtin.len_ #[45] 3 #[t1]) fun t19 => q P h (binOp .lss 3 (vs11.getD 1 undef) t19) fun t20 => gd t20 false (q P h (binOp .gtr 3 (vs11.getD 0 undef) (Value.int .i64 0)) fun t23 => cnd t23 (J12 h) (q P h (binOp .add 3 (vs5.getD 0 undef) (Value.int .i64 1)) fun t16 => nx5 [t16] h)) (cnd (Value.bool true) (J12 h) (q P h (binOp .add 3 (vs5.getD 0 undef) (Value.int .i64 1)) fun t16 => nx5 [t16] h))) (K t10 h)) h
theorem F_orlopref05_times {K : Value → Hp → Prop} {h : Hp} {t0 t1 : Value} (s : s_orlopref05_times K h t0 t1) : Cn P 31 #[t0, t1] h K :=
  Cn_ofs mixed Try.func31 (by kernel_rfl) (args := [t0, t1]) (by kernel_rfl) s

/-- function 32: orlop.orlopref05.add -/
def s_orlopref05_add (K : Value → Hp → Prop) (h : Hp) (t0 t1 t2 : Value) : Prop := aw P (Instr.makeSlice 45 t2 t2) (fun t11 h => 
Lp [(Value.int .i64 0), (Value.int .i64 0)] h fun nx6 vs6 h =>
q P h (binOp .lss 3 (vs6.getD 1 undef) t2) fun t14 => cnd t14 (
let J10 : Value → Hp → Prop := fun t8 h => 
let J12 : Value → Hp → Prop := fun t8 h => q P h (binOp .rem 3 t8 (Value.int .i64 256)) fun t40 => q P h (Instr.indexAt 45 t11 (vs6.getD 1 undef)) fun t41 => aw P (Instr.storeAt 3 t41 t40) (fun _ h => q P h (binOp .quo 3 t8 (Value.int .i64 256)) fun t43 => q P h (binOp .add 3 (vs6.getD 1 undef) (Value.int .i64 1)) fun t16 => nx6 [t43, t16] h) h;
q P h (Builtin.len_ #[45] 3 #[t1]) fun t29 => q P h (binOp .lss 3 (vs6.getD 1 undef) t29) fun t30 => cnd t30 (q P h (Instr.indexAt 45 t1 (vs6.getD 1 undef)) fun t34 => q P h (Instr.loadAt 3 t34) fun t35 => q P h (binOp .add 3 t8 t35) fun t36 => J12 t36 h) (J12 t8 h);
q P h (Builtin.len_ #[45] 3 #[t0]) fun t19 => q P h (binOp .lss 3 (vs6.getD 1 undef) t19) fun t20 => cnd t20 (q P h (Instr.indexAt 45 t0 (vs6.getD 1 undef)) fun t24 => q P h (Instr.loadAt 3 t24) fun t25 => q P h (binOp .add 3 (vs6.getD 0 undef) t25) fun t26 => J10 t26 h) (J10 (vs6.getD 0 undef) h)) (K t11 h)) h
theorem F_orlopref05_add {K : Value → Hp → Prop} {h : Hp} {t0 t1 t2 : Value} (s : s_orlopref05_add K h t0 t1 t2) : Cn P 32 #[t0, t1, t2] h K :=
  Cn_ofs mixed Try.func32 (by kernel_rfl) (args := [t0, t1, t2]) (by kernel_rfl) s

/-- function 33: orlop.orlopref01.Get -/
def s_orlopref01_Get (K : Value → Hp → Prop) (h : Hp) (t0 t1 : Value) : Prop := q P h (binOp .sub 3 t1 (Value.int .i64 1)) fun t8 => 
Lp [(Value.int .u64 0), t8] h fun nx5 vs5 h =>
q P h (binOp .geq 3 (vs5.getD 1 undef) (Value.int .i64 0)) fun t10 => cnd t10 (q P h (binOp .mul 38 (vs5.getD 0 undef) (Value.int .u64 256)) fun t14 => q P h (Builtin.len_ #[22] 3 #[t0]) fun t17 => q P h (binOp .lss 3 (vs5.getD 1 undef) t17) fun t18 => cnd t18 (q P h (Instr.indexAt 22 t0 (vs5.getD 1 undef)) fun t22 => q P h (Instr.loadAt 5 t22) fun t23 => q P h (convert 5 38 t23) fun t24 => q P h (binOp .add 38 t14 t24) fun t25 => q P h (binOp .sub 3 (vs5.getD 1 undef) (Value.int .i64 1)) fun t12 => nx5 [t25, t12] h) (q P h (binOp .sub 3 (vs5.getD 1 undef) (Value.int .i64 1)) fun t12 => nx5 [t14, t12] h)) (K (vs5.getD 0 undef) h)
theorem F_orlopref01_Get {K : Value → Hp → Prop} {h : Hp} {t0 t1 : Value} (s : s_orlopref01_Get K h t0 t1) : Cn P 33 #[t0, t1] h K :=
  Cn_ofs mixed Try.func33 (by kernel_rfl) (args := [t0, t1]) (by kernel_rfl) s

/-- function 34: orlop.orlopref04.quarter -/
def s_orlopref04_quarter (K : Value → Hp → Prop) (h : Hp) (t0 t1 t2 t3 : Value) : Prop := q P h (binOp .add 33 t0 t1) fun t14 => q P h (binOp .xor 33 t3 t14) fun t17 => Cn P 49 #[t17, (Value.int .i64 16)] h fun t18 h => q P h (binOp .add 33 t2 t18) fun t21 => q P h (binOp .xor 33 t1 t21) fun t24 => Cn P 49 #[t24, (Value.int .i64 12)] h fun t25 h => q P h (binOp .add 33 t14 t25) fun t28 => q P h (binOp .xor 33 t18 t28) fun t31 => Cn P 49 #[t31, (Value.int .i64 8)] h fun t32 h => q P h (binOp .add 33 t21 t32) fun t35 => q P h (binOp .xor 33 t25 t35) fun t38 => Cn P 49 #[t38, (Value.int .i64 7)] h fun t39 h => K (Value.tuple #[t28, t39, t35, t32]) h
theorem F_orlopref04_quarter {K : Value → Hp → Prop} {h : Hp} {t0 t1 t2 t3 : Value} (s : s_orlopref04_quarter K h t0 t1 t2 t3) : Cn P 34 #[t0, t1, t2, t3] h K :=
  Cn_ofs mixed Try.func34 (by kernel_rfl) (args := [t0, t1, t2, t3]) (by kernel_rfl) s

/-- function 35: orlop.chacha.begin -/
def s_chacha_begin (K : Value → Hp → Prop) (h : Hp) (t0 t1 t2 : Value) : Prop := aw P (Instr.alloc 54 true (.tuple #[])) (fun t6 h => q P h (Instr.build 54 #[(0, (Value.int .u32 1634760805)), (1, (Value.int .u32 857760878)), (2, (Value.int .u32 2036477234)), (3, (Value.int .u32 1797285236))]) fun t10 => aw P (Instr.alloc 54 true (.tuple #[])) (fun t7 h => aw P (Instr.storeAt 54 t7 t10) (fun _ h => 
Lp [(Value.int .i64 0)] h fun nx5 vs5 h =>
q P h (binOp .lss 3 (vs5.getD 0 undef) (Value.int .i64 8)) fun t12 => cnd t12 (q P h (binOp .add 3 (Value.int .i64 4) (vs5.getD 0 undef)) fun t15 => q P h (binOp .mul 3 (Value.int .i64 4) (vs5.getD 0 undef)) fun t18 => q P h (Instr.sliceAt 22 t0 (some t18) none none) fun t19 => Cn P 50 #[t19] h fun t20 h => q P h (Instr.indexAt 54 t7 t15) fun t21 => aw P (Instr.storeAt 33 t21 t20) (fun _ h => q P h (binOp .add 3 (vs5.getD 0 undef) (Value.int .i64 1)) fun t22 => nx5 [t22] h) h) (q P h (Instr.indexAt 54 t7 (Value.int .i64 12)) fun t24 => aw P (Instr.storeAt 33 t24 t2) (fun _ h => 
Lp [(Value.int .i64 0)] h fun nx13 vs13 h =>
q P h (binOp .lss 3 (vs13.getD 0 undef) (Value.int .i64 3)) fun t26 => cnd t26 (q P h (binOp .add 3 (Value.int .i64 13) (vs13.getD 0 undef)) fun t29 => q P h (binOp .mul 3 (Value.int .i64 4) (vs13.getD 0 undef)) fun t32 => q P h (Instr.sliceAt 22 t1 (some t32) none none) fun t33 => Cn P 50 #[t33] h fun t34 h => q P h (Instr.indexAt 54 t7 t29) fun t35 => aw P (Instr.storeAt 33 t35 t34) (fun _ h => q P h (binOp .add 3 (vs13.getD 0 undef) (Value.int .i64 1)) fun t36 => nx13 [t36] h) h) (q P h (Instr.loadAt 54 t7) fun t37 => aw P (Instr.storeAt 54 t6 t37) (fun _ h => q P h ((asAddr t6).bind (loadVar 54)) fun r0 => K r0 h) h)) h)) h) h) h
theorem F_chacha_begin {K : Value → Hp → Prop} {h : Hp} {t0 t1 t2 : Value} (s : s_chacha_begin K h t0 t1 t2) : Cn P 35 #[t0, t1, t2] h K :=
  Cn_ofs mixed Try.func35 (by kernel_rfl) (args := [t0, t1, t2]) (by kernel_rfl) s

/-- function 36: orlop.chacha.quarters -/
def s_chacha_quarters (K : Value → Hp → Prop) (h : Hp) : Prop := aw P (Instr.alloc 57 true (.tuple #[])) (fun t0 h => q P h (Instr.build 56 #[(0, (Value.int .i64 0)), (1, (Value.int .i64 4)), (2, (Value.int .i64 8)), (3, (Value.int .i64 12))]) fun t1 => q P h (Instr.build 56 #[(0, (Value.int .i64 1)), (1, (Value.int .i64 5)), (2, (Value.int .i64 9)), (3, (Value.int .i64 13))]) fun t2 => q P h (Instr.build 56 #[(0, (Value.int .i64 2)), (1, (Value.int .i64 6)), (2, (Value.int .i64 10)), (3, (Value.int .i64 14))]) fun t3 => q P h (Instr.build 56 #[(0, (Value.int .i64 3)), (1, (Value.int .i64 7)), (2, (Value.int .i64 11)), (3, (Value.int .i64 15))]) fun t4 => q P h (Instr.build 56 #[(0, (Value.int .i64 0)), (1, (Value.int .i64 5)), (2, (Value.int .i64 10)), (3, (Value.int .i64 15))]) fun t5 => q P h (Instr.build 56 #[(0, (Value.int .i64 1)), (1, (Value.int .i64 6)), (2, (Value.int .i64 11)), (3, (Value.int .i64 12))]) fun t6 => q P h (Instr.build 56 #[(0, (Value.int .i64 2)), (1, (Value.int .i64 7)), (2, (Value.int .i64 8)), (3, (Value.int .i64 13))]) fun t7 => q P h (Instr.build 56 #[(0, (Value.int .i64 3)), (1, (Value.int .i64 4)), (2, (Value.int .i64 9)), (3, (Value.int .i64 14))]) fun t8 => q P h (Instr.build 57 #[(0, t1), (1, t2), (2, t3), (3, t4), (4, t5), (5, t6), (6, t7), (7, t8)]) fun t9 => aw P (Instr.storeAt 57 t0 t9) (fun _ h => q P h ((asAddr t0).bind (loadVar 57)) fun r0 => K r0 h) h) h
theorem F_chacha_quarters {K : Value → Hp → Prop} {h : Hp} (s : s_chacha_quarters K h) : Cn P 36 #[] h K :=
  Cn_ofs mixed Try.func36 (by kernel_rfl) (args := []) (by kernel_rfl) s

/-- function 37: (*orlop.chacha.state).quarter -/
def s_chacha_state_quarter (K : Value → Hp → Prop) (h : Hp) (t0 t1 : Value) : Prop := aw P (Instr.box 56 t1) (fun t3 h => q P h (Instr.indexAt 56 t3 (Value.int .i64 0)) fun t5 => q P h (Instr.loadAt 3 t5) fun t6 => q P h (Instr.indexAt 56 t3 (Value.int .i64 1)) fun t7 => q P h (Instr.loadAt 3 t7) fun t8 => q P h (Instr.indexAt 56 t3 (Value.int .i64 3)) fun t9 => q P h (Instr.loadAt 3 t9) fun t10 => Cn P 51 #[t0, t6, t8, t10, (Value.int .i64 16)] h fun t11 h => q P h (Instr.indexAt 56 t3 (Value.int .i64 2)) fun t13 => q P h (Instr.loadAt 3 t13) fun t14 => q P h (Instr.indexAt 56 t3 (Value.int .i64 3)) fun t15 => q P h (Instr.loadAt 3 t15) fun t16 => q P h (Instr.indexAt 56 t3 (Value.int .i64 1)) fun t17 => q P h (Instr.loadAt 3 t17) fun t18 => Cn P 51 #[t0, t14, t16, t18, (Value.int .i64 12)] h fun t19 h => q P h (Instr.indexAt 56 t3 (Value.int .i64 0)) fun t21 => q P h (Instr.loadAt 3 t21) fun t22 => q P h (Instr.indexAt 56 t3 (Value.int .i64 1)) fun t23 => q P h (Instr.loadAt 3 t23) fun t24 => q P h (Instr.indexAt 56 t3 (Value.int .i64 3)) fun t25 => q P h (Instr.loadAt 3 t25) fun t26 => Cn P 51 #[t0, t22, t24, t26, (Value.int .i64 8)] h fun t27 h => q P h (Instr.indexAt 56 t3 (Value.int .i64 2)) fun t29 => q P h (Instr.loadAt 3 t29) fun t30 => q P h (Instr.indexAt 56 t3 (Value.int .i64 3)) fun t31 => q P h (Instr.loadAt 3 t31) fun t32 => q P h (Instr.indexAt 56 t3 (Value.int .i64 1)) fun t33 => q P h (Instr.loadAt 3 t33) fun t34 => Cn P 51 #[t0, t30, t32, t34, (Value.int .i64 7)] h fun t35 h => K (Value.tuple #[]) h) h
theorem F_chacha_state_quarter {K : Value → Hp → Prop} {h : Hp} {t0 t1 : Value} (s : s_chacha_state_quarter K h t0 t1) : Cn P 37 #[t0, t1] h K :=
  Cn_ofs mixed Try.func37 (by kernel_rfl) (args := [t0, t1]) (by kernel_rfl) s

/-- function 38: orlop.word.Put32 -/
def s_word_Put32 (K : Value → Hp → Prop) (h : Hp) (t0 : Value) : Prop := q P h (convert 33 38 t0) fun t4 => Cn P 39 #[t4, (Value.int .i64 4)] h fun t5 h => K t5 h
theorem F_word_Put32 {K : Value → Hp → Prop} {h : Hp} {t0 : Value} (s : s_word_Put32 K h t0) : Cn P 38 #[t0] h K :=
  Cn_ofs mixed Try.func38 (by kernel_rfl) (args := [t0]) (by kernel_rfl) s

/-- function 39: orlop.word.little -/
def s_word_little (K : Value → Hp → Prop) (h : Hp) (t0 t1 : Value) : Prop := aw P (Instr.makeSlice 22 t1 t1) (fun t8 h => 
Lp [(Value.int .i64 0)] h fun nx5 vs5 h =>
q P h (binOp .lss 3 (vs5.getD 0 undef) t1) fun t11 => cnd t11 (q P h (binOp .mul 3 (Value.int .i64 8) (vs5.getD 0 undef)) fun t17 => q P h (binOp .shr 38 t0 t17) fun t18 => q P h (convert 38 5 t18) fun t19 => q P h (Instr.indexAt 22 t8 (vs5.getD 0 undef)) fun t20 => aw P (Instr.storeAt 5 t20 t19) (fun _ h => q P h (binOp .add 3 (vs5.getD 0 undef) (Value.int .i64 1)) fun t21 => nx5 [t21] h) h) (K t8 h)) h
theorem F_word_little {K : Value → Hp → Prop} {h : Hp} {t0 t1 : Value} (s : s_word_little K h t0 t1) : Cn P 39 #[t0, t1] h K :=
  Cn_ofs mixed Try.func39 (by kernel_rfl) (args := [t0, t1]) (by kernel_rfl) s

/-- function 40: slices.Clone[[]byte,byte] -/
def s_slices_Clone_byte_byte (K : Value → Hp → Prop) (h : Hp) (t0 : Value) : Prop := q P h (eqop .eql 22 (.tmp 3) (.const (Value.slice none 0 0)) t0 (Value.slice none 0 0)) fun t4 => cnd t4 (K (Value.slice none 0 0) h) (aw P (Instr.buildSlice 22 0 #[]) (fun t5 h => aw P (Builtin.append_ #[22, 22] 22 #[t5, t0]) (fun t7 h => K t7 h) h) h)
theorem F_slices_Clone_byte_byte {K : Value → Hp → Prop} {h : Hp} {t0 : Value} (s : s_slices_Clone_byte_byte K h t0) : Cn P 40 #[t0] h K :=
  Cn_ofs mixed Try.func40 (by kernel_rfl) (args := [t0]) (by kernel_rfl) s

/-- function 41: orlop.poly.load -/
def s_poly_load (K : Value → Hp → Prop) (h : Hp) (t0 : Value) : Prop := aw P (Instr.alloc 63 true (.tuple #[])) (fun t2 h => aw P (Instr.alloc 63 true (.tuple #[])) (fun t3 h => 
Lp [(Value.int .i64 0)] h fun nx5 vs5 h =>
q P h (binOp .lss 3 (vs5.getD 0 undef) (Value.int .i64 5)) fun t7 => cnd t7 (q P h (binOp .mul 3 (Value.int .i64 26) (vs5.getD 0 undef)) fun t10 => q P h (binOp .quo 3 t10 (Value.int .i64 8)) fun t14 => q P h (Builtin.len_ #[22] 3 #[t0]) fun t16 => q P h (Builtin.min_ #[3, 3] 3 #[t14, t16]) fun t17 => q P h (Instr.sliceAt 22 t0 (some t17) none none) fun t18 => Cn P 52 #[t18] h fun t19 h => q P h (binOp .rem 3 t10 (Value.int .i64 8)) fun t21 => q P h (binOp .shr 38 t19 t21) fun t22 => q P h (binOp .and 38 t22 (Value.int .u64 67108863)) fun t23 => q P h (Instr.indexAt 63 t3 (vs5.getD 0 undef)) fun t24 => aw P (Instr.storeAt 38 t24 t23) (fun _ h => q P h (binOp .add 3 (vs5.getD 0 undef) (Value.int .i64 1)) fun t25 => nx5 [t25] h) h) (q P h (Instr.loadAt 63 t3) fun t26 => aw P (Instr.storeAt 63 t2 t26) (fun _ h => q P h ((asAddr t2).bind (loadVar 63)) fun r0 => K r0 h) h)) h) h
theorem F_poly_load {K : Value → Hp → Prop} {h : Hp} {t0 : Value} (s : s_poly_load K h t0) : Cn P 41 #[t0] h K :=
  Cn_ofs mixed Try.func41 (by kernel_rfl) (args := [t0]) (by kernel_rfl) s

/-- function 42: slices.Chunk[[]byte,byte] -/
def s_slices_Chunk_byte_byte (K : Value → Hp → Prop) (h : Hp) (t0 t1 : Value) : Prop := aw P (Instr.box 22 t0) (fun t2 h => aw P (Instr.box 3 t1) (fun t3 h => q P h (Instr.loadAt 3 t3) fun t5 => q P h (binOp .lss 3 t5 (Value.int .i64 1)) fun t6 => cnd t6 (q P h (Instr.makeInterface 9 (Value.string ⟨#[99, 97, 110, 110, 111, 116, 32, 98, 101, 32, 108, 101, 115, 115, 32, 116, 104, 97, 110, 32, 49]⟩)) fun t7 => False) (K (Value.func (.func 53) #[] #[t2, t3]) h)) h) h
theorem F_slices_Chunk_byte_byte {K : Value → Hp → Prop} {h : Hp} {t0 t1 : Value} (s : s_slices_Chunk_byte_byte K h t0 t1) : Cn P 42 #[t0, t1] h K :=
  Cn_ofs mixed Try.func42 (by kernel_rfl) (args := [t0, t1]) (by kernel_rfl) s

/-- function 43: (*orlop.poly.number).add -/
def s_poly_number_add (K : Value → Hp → Prop) (h : Hp) (t0 t1 : Value) : Prop := aw P (Instr.box 63 t1) (fun t3 h => 
Lp [(Value.int .i64 0)] h fun nx3 vs3 h =>
q P h (binOp .lss 3 (vs3.getD 0 undef) (Value.int .i64 5)) fun t6 => cnd t6 (q P emp (nilCk t0) fun t10 => q P emp (Instr.indexAt 63 t10 (vs3.getD 0 undef)) fun t11 => q P h (Instr.loadAt 38 t11) fun t12 => q P emp (Instr.indexAt 63 t3 (vs3.getD 0 undef)) fun t14 => q P h (Instr.loadAt 38 t14) fun t15 => q P emp (binOp .add 38 t12 t15) fun t16 => q P emp (nilCk t0) fun t17 => q P emp (Instr.indexAt 63 t17 (vs3.getD 0 undef)) fun t18 => aw P (Instr.storeAt 38 t18 t16) (fun _ h => q P h (binOp .add 3 (vs3.getD 0 undef) (Value.int .i64 1)) fun t19 => nx3 [t19] h) h) (K (Value.tuple #[]) h)) h
theorem F_poly_number_add {K : Value → Hp → Prop} {h : Hp} {t0 t1 : Value} (s : s_poly_number_add K h t0 t1) : Cn P 43 #[t0, t1] h K :=
  Cn_ofs mixed Try.func43 (by kernel_rfl) (args := [t0, t1]) (by kernel_rfl) s

/-- function 44: (*orlop.poly.number).times -/
def s_poly_number_times (K : Value → Hp → Prop) (h : Hp) (t0 t1 : Value) : Prop := aw P (Instr.box 63 t1) (fun t3 h => aw P (Instr.alloc 63 true (.tuple #[])) (fun t4 h => 
Lp [(Value.int .i64 0)] h fun nx5 vs5 h =>
q P h (binOp .lss 3 (vs5.getD 0 undef) (Value.int .i64 5)) fun t9 => cnd t9 (
Lp [(Value.int .i64 0)] h fun nx11 vs11 h =>
q P h (binOp .lss 3 (vs11.getD 0 undef) (Value.int .i64 5)) fun t12 => cnd t12 (q P emp (nilCk t0) fun t16 => q P emp (Instr.indexAt 63 t16 (vs5.getD 0 undef)) fun t17 => q P h (Instr.loadAt 38 t17) fun t18 => q P emp (Instr.indexAt 63 t3 (vs11.getD 0 undef)) fun t20 => q P h (Instr.loadAt 38 t20) fun t21 => q P emp (binOp .mul 38 t18 t21) fun t22 => 
let J17 : Value → Hp → Prop := fun t7 h => q P h (binOp .add 3 (vs5.getD 0 undef) (vs11.getD 0 undef)) fun t31 => q P h (binOp .rem 3 t31 (Value.int .i64 5)) fun t32 => q P h (Instr.indexAt 63 t4 t32) fun t33 => q P h (Instr.loadAt 38 t33) fun t34 => q P h (binOp .add 38 t34 t7) fun t36 => q P h (Instr.indexAt 63 t4 t32) fun t37 => aw P (Instr.storeAt 38 t37 t36) (fun _ h => q P h (binOp .add 3 (vs11.getD 0 undef) (Value.int .i64 1)) fun t38 => nx11 [t38] h) h;
q P h (binOp .add 3 (vs5.getD 0 undef) (vs11.getD 0 undef)) fun t25 => q P h (binOp .geq 3 t25 (Value.int .i64 5)) fun t26 => cnd t26 (q P h (binOp .mul 38 t22 (Value.int .u64 5)) fun t28 => J17 t28 h) (J17 t22 h)) (q P h (binOp .add 3 (vs5.getD 0 undef) (Value.int .i64 1)) fun t39 => nx5 [t39] h)) (q P h (Instr.loadAt 63 t4) fun t41 => q P h (nilCk t0) fun t42 => aw P (Instr.storeAt 63 t42 t41) (fun _ h => Cn P 54 #[t0] h fun t44 h => K (Value.tuple #[]) h) h)) h) h
theorem F_poly_number_times {K : Value → Hp → Prop} {h : Hp} {t0 t1 : Value} (s : s_poly_number_times K h t0 t1) : Cn P 44 #[t0, t1] h K :=
  Cn_ofs mixed Try.func44 (by kernel_rfl) (args := [t0, t1]) (by kernel_rfl) s

/-- function 45: (*orlop.poly.number).reduce -/
def s_poly_number_reduce (K : Value → Hp → Prop) (h : Hp) (t0 : Value) : Prop := Cn P 54 #[t0] h fun t5 h => Cn P 54 #[t0] h fun t7 h => q P h (nilCk t0) fun t9 => q P h (Instr.loadAt 63 t9) fun t10 => aw P (Instr.alloc 63 true (.tuple #[])) (fun t2 h => aw P (Instr.storeAt 63 t2 t10) (fun _ h => q P h (Instr.indexAt 63 t2 (Value.int .i64 0)) fun t11 => q P h (Instr.loadAt 38 t11) fun t12 => q P h (binOp .add 38 t12 (Value.int .u64 5)) fun t13 => q P h (Instr.indexAt 63 t2 (Value.int .i64 0)) fun t14 => aw P (Instr.storeAt 38 t14 t13) (fun _ h => 
Lp [(Value.int .i64 0)] h fun nx7 vs7 h =>
q P h (binOp .lss 3 (vs7.getD 0 undef) (Value.int .i64 4)) fun t16 => cnd t16 (q P emp (binOp .add 3 (vs7.getD 0 undef) (Value.int .i64 1)) fun t19 => q P emp (Instr.indexAt 63 t2 t19) fun t20 => q P h (Instr.loadAt 38 t20) fun t21 => q P emp (Instr.indexAt 63 t2 (vs7.getD 0 undef)) fun t23 => q P h (Instr.loadAt 38 t23) fun t24 => q P emp (binOp .shr 38 t24 (Value.int .u64 26)) fun t25 => q P emp (binOp .add 38 t21 t25) fun t26 => q P emp (Instr.indexAt 63 t2 t19) fun t27 => aw P (Instr.storeAt 38 t27 t26) (fun _ h => q P h (Instr.indexAt 63 t2 (vs7.getD 0 undef)) fun t29 => q P h (Instr.loadAt 38 t29) fun t30 => q P h (binOp .and 38 t30 (Value.int .u64 67108863)) fun t31 => q P h (Instr.indexAt 63 t2 (vs7.getD 0 undef)) fun t32 => aw P (Instr.storeAt 38 t32 t31) (fun _ h => q P h (binOp .add 3 (vs7.getD 0 undef) (Value.int .i64 1)) fun t33 => nx7 [t33] h) h) h) (q P h (Instr.indexAt 63 t2 (Value.int .i64 4)) fun t34 => q P h (Instr.loadAt 38 t34) fun t35 => q P h (binOp .shr 38 t35 (Value.int .u64 26)) fun t36 => q P h (eqop .neq 38 (.tmp 36) (.const (Value.int .u64 0)) t36 (Value.int .u64 0)) fun t37 => cnd t37 (q P h (Instr.indexAt 63 t2 (Value.int .i64 4)) fun t38 => q P h (Instr.loadAt 38 t38) fun t39 => q P h (binOp .and 38 t39 (Value.int .u64 67108863)) fun t40 => q P h (Instr.indexAt 63 t2 (Value.int .i64 4)) fun t41 => aw P (Instr.storeAt 38 t41 t40) (fun _ h => q P h (Instr.loadAt 63 t2) fun t43 => q P h (nilCk t0) fun t44 => aw P (Instr.storeAt 63 t44 t43) (fun _ h => K (Value.tuple #[]) h) h) h) (K (Value.tuple #[]) h))) h) h) h
theorem F_poly_number_reduce {K : Value → Hp → Prop} {h : Hp} {t0 : Value} (s : s_poly_number_reduce K h t0) : Cn P 45 #[t0] h K :=
  Cn_ofs mixed Try.func45 (by kernel_rfl) (args := [t0]) (by kernel_rfl) s

/-- function 46: (*orlop.poly.number).bytes -/
def s_poly_number_bytes (K : Value → Hp → Prop) (h : Hp) (t0 t1 : Value) : Prop := q P emp (nilCk t0) fun t10 => q P emp (Instr.indexAt 63 t10 (Value.int .i64 0)) fun t11 => q P h (Instr.loadAt 38 t11) fun t12 => q P emp (nilCk t0) fun t14 => q P emp (Instr.indexAt 63 t14 (Value.int .i64 1)) fun t15 => q P h (Instr.loadAt 38 t15) fun t16 => q P emp (binOp .shl 38 t16 (Value.int .u64 26)) fun t17 => q P emp (binOp .or 38 t12 t17) fun t18 => q P emp (nilCk t0) fun t20 => q P emp (Instr.indexAt 63 t20 (Value.int .i64 2)) fun t21 => q P h (Instr.loadAt 38 t21) fun t22 => q P emp (binOp .shl 38 t22 (Value.int .u64 52)) fun t23 => q P emp (binOp .or 38 t18 t23) fun t24 => q P emp (nilCk t0) fun t26 => q P emp (Instr.indexAt 63 t26 (Value.int .i64 2)) fun t27 => q P h (Instr.loadAt 38 t27) fun t28 => q P emp (binOp .shr 38 t28 (Value.int .u64 12)) fun t29 => q P emp (nilCk t0) fun t31 => q P emp (Instr.indexAt 63 t31 (Value.int .i64 3)) fun t32 => q P h (Instr.loadAt 38 t32) fun t33 => q P emp (binOp .shl 38 t33 (Value.int .u64 14)) fun t34 => q P emp (binOp .or 38 t29 t34) fun t35 => q P emp (nilCk t0) fun t37 => q P emp (Instr.indexAt 63 t37 (Value.int .i64 4)) fun t38 => q P h (Instr.loadAt 38 t38) fun t39 => q P emp (binOp .shl 38 t39 (Value.int .u64 40)) fun t40 => q P emp (binOp .or 38 t35 t40) fun t41 => q P h (Instr.sliceAt 22 t1 (some (Value.int .i64 8)) none none) fun t45 => Cn P 52 #[t1] h fun t43 h => peek P h (Instr.sliceAt 22 t1 (some (Value.int .i64 8)) none none) = some t45 ∧ Cn P 52 #[t45] h fun t46 h => q P h (binOp .add 38 t24 t43) fun t49 => q P h (binOp .add 38 t41 t46) fun t52 => q P h (binOp .lss 38 t49 t43) fun t55 => cnd t55 (q P h (binOp .add 38 t52 (Value.int .u64 1)) fun t57 => Cn P 26 #[t49] h fun t59 h => Cn P 26 #[t57] h fun t61 h => aw P (Builtin.append_ #[22, 22] 22 #[t59, t61]) (fun t62 h => K t62 h) h) (Cn P 26 #[t49] h fun t59 h => Cn P 26 #[t52] h fun t61 h => aw P (Builtin.append_ #[22, 22] 22 #[t59, t61]) (fun t62 h => K t62 h) h)
theorem F_poly_number_bytes {K : Value → Hp → Prop} {h : Hp} {t0 t1 : Value} (s : s_poly_number_bytes K h t0 t1) : Cn P 46 #[t0, t1] h K :=
  Cn_ofs mixed Try.func46 (by kernel_rfl) (args := [t0, t1]) (by kernel_rfl) s

/-- function 47: orlop.orlopref05.prime -/
def s_orlopref05_prime (K : Value → Hp → Prop) (h : Hp) : Prop := aw P (Instr.makeSlice 45 (Value.int .i64 17) (Value.int .i64 17)) (fun t3 h => 
Lp [(Value.int .i64 0)] h fun nx5 vs5 h =>
q P h (binOp .lss 3 (vs5.getD 0 undef) (Value.int .i64 16)) fun t5 => cnd t5 (q P h (Instr.indexAt 45 t3 (vs5.getD 0 undef)) fun t10 => aw P (Instr.storeAt 3 t10 (Value.int .i64 255)) (fun _ h => q P h (binOp .add 3 (vs5.getD 0 undef) (Value.int .i64 1)) fun t7 => nx5 [t7] h) h) (q P h (Instr.indexAt 45 t3 (Value.int .i64 0)) fun t12 => aw P (Instr.storeAt 3 t12 (Value.int .i64 251)) (fun _ h => q P h (Instr.indexAt 45 t3 (Value.int .i64 16)) fun t14 => aw P (Instr.storeAt 3 t14 (Value.int .i64 3)) (fun _ h => K t3 h) h) h)) h
theorem F_orlopref05_prime {K : Value → Hp → Prop} {h : Hp} (s : s_orlopref05_prime K h) : Cn P 47 #[] h K :=
  Cn_ofs mixed Try.func47 (by kernel_rfl) (args := []) (by kernel_rfl) s

/-- function 48: orlop.orlopref05.less -/
def s_orlopref05_less (K : Value → Hp → Prop) (h : Hp) (t0 t1 : Value) : Prop := 
Lp [(Value.bool false), (Value.int .i64 16)] h fun nx4 vs4 h =>
q P h (binOp .geq 3 (vs4.getD 1 undef) (Value.int .i64 0)) fun t7 => cnd t7 (q P emp (Instr.indexAt 45 t0 (vs4.getD 1 undef)) fun t12 => q P h (Instr.loadAt 3 t12) fun t13 => q P emp (Instr.indexAt 45 t1 (vs4.getD 1 undef)) fun t16 => q P h (Instr.loadAt 3 t16) fun t17 => q P h (eqop .neq 3 (.tmp 13) (.tmp 17) t13 t17) fun t18 => cnd t18 (q P emp (Instr.indexAt 45 t0 (vs4.getD 1 undef)) fun t21 => q P h (Instr.loadAt 3 t21) fun t22 => q P emp (Instr.indexAt 45 t1 (vs4.getD 1 undef)) fun t25 => q P h (Instr.loadAt 3 t25) fun t26 => q P emp (binOp .lss 3 t22 t26) fun t27 => K t27 h) (q P h (binOp .sub 3 (vs4.getD 1 undef) (Value.int .i64 1)) fun t9 => nx4 [(vs4.getD 0 undef), t9] h)) (K (Value.bool false) h)
theorem F_orlopref05_less {K : Value → Hp → Prop} {h : Hp} {t0 t1 : Value} (s : s_orlopref05_less K h t0 t1) : Cn P 48 #[t0, t1] h K :=
  Cn_ofs mixed Try.func48 (by kernel_rfl) (args := [t0, t1]) (by kernel_rfl) s

/-- function 49: orlop.orlopref04.rol -/
def s_orlopref04_rol (K : Value → Hp → Prop) (h : Hp) (t0 t1 : Value) : Prop := q P h (convert 3 78 t1) fun t7 => q P h (binOp .shl 33 t0 t7) fun t8 => q P h (binOp .sub 3 (Value.int .i64 32) t1) fun t11 => q P h (convert 3 78 t11) fun t12 => q P h (binOp .shr 33 t0 t12) fun t13 => q P h (binOp .or 33 t8 t13) fun t14 => K t14 h
theorem F_orlopref04_rol {K : Value → Hp → Prop} {h : Hp} {t0 t1 : Value} (s : s_orlopref04_rol K h t0 t1) : Cn P 49 #[t0, t1] h K :=
  Cn_ofs mixed Try.func49 (by kernel_rfl) (args := [t0, t1]) (by kernel_rfl) s

/-- function 50: orlop.word.Get32 -/
def s_word_Get32 (K : Value → Hp → Prop) (h : Hp) (t0 : Value) : Prop := Cn P 55 #[t0, (Value.int .i64 4)] h fun t4 h => q P h (convert 38 33 t4) fun t5 => K t5 h
theorem F_word_Get32 {K : Value → Hp → Prop} {h : Hp} {t0 : Value} (s : s_word_Get32 K h t0) : Cn P 50 #[t0] h K :=
  Cn_ofs mixed Try.func50 (by kernel_rfl) (args := [t0]) (by kernel_rfl) s

/-- function 51: (*orlop.chacha.state).half -/
def s_chacha_state_half (K : Value → Hp → Prop) (h : Hp) (t0 t1 t2 t3 t4 : Value) : Prop := q P emp (nilCk t0) fun t12 => q P emp (Instr.indexAt 54 t12 t1) fun t13 => q P h (Instr.loadAt 33 t13) fun t14 => q P emp (nilCk t0) fun t17 => q P emp (Instr.indexAt 54 t17 t2) fun t18 => q P h (Instr.loadAt 33 t18) fun t19 => q P emp (binOp .add 33 t14 t19) fun t20 => q P emp (nilCk t0) fun t21 => q P emp (Instr.indexAt 54 t21 t1) fun t22 => aw P (Instr.storeAt 33 t22 t20) (fun _ h => q P emp (nilCk t0) fun t27 => q P emp (Instr.indexAt 54 t27 t3) fun t28 => q P h (Instr.loadAt 33 t28) fun t29 => q P emp (nilCk t0) fun t32 => q P emp (Instr.indexAt 54 t32 t1) fun t33 => q P h (Instr.loadAt 33 t33) fun t34 => q P emp (binOp .xor 33 t29 t34) fun t35 => q P emp (nilCk t0) fun t38 => Cn P 56 #[t35, t4] h fun t37 h => q P emp (Instr.indexAt 54 t38 t3) fun t39 => aw P (Instr.storeAt 33 t39 t37) (fun _ h => K (Value.tuple #[]) h) h) h
theorem F_chacha_state_half {K : Value → Hp → Prop} {h : Hp} {t0 t1 t2 t3 t4 : Value} (s : s_chacha_state_half K h t0 t1 t2 t3 t4) : Cn P 51 #[t0, t1, t2, t3, t4] h K :=
  Cn_ofs mixed Try.func51 (by kernel_rfl) (args := [t0, t1, t2, t3, t4]) (by kernel_rfl) s

/-- function 52: orlop.word.Get64 -/
def s_word_Get64 (K : Value → Hp → Prop) (h : Hp) (t0 : Value) : Prop := Cn P 55 #[t0, (Value.int .i64 8)] h fun t4 h => K t4 h
theorem F_word_Get64 {K : Value → Hp → Prop} {h : Hp} {t0 : Value} (s : s_word_Get64 K h t0) : Cn P 52 #[t0] h K :=
  Cn_ofs mixed Try.func52 (by kernel_rfl) (args := [t0]) (by kernel_rfl) s

/-- function 53: slices.Chunk[[]byte,byte]$1 -/
def s_slices_Chunk_byte_byte_1 (K : Value → Hp → Prop) (h : Hp) (t0 t1 t2 : Value) : Prop := 
Lp [(Value.int .i64 0)] h fun nx2 vs2 h =>
q P h (Instr.loadAt 22 t1) fun t7 => q P h (Builtin.len_ #[22] 3 #[t7]) fun t8 => q P h (binOp .lss 3 (vs2.getD 0 undef) t8) fun t9 => cnd t9 (q P h (Instr.loadAt 3 t2) fun t13 => q P h (Instr.loadAt 22 t1) fun t14 => q P h (Instr.sliceAt 22 t14 (some (vs2.getD 0 undef)) none none) fun t16 => q P h (Builtin.len_ #[22] 3 #[t16]) fun t17 => q P h (Builtin.min_ #[3, 3] 3 #[t13, t17]) fun t18 => q P h (Instr.loadAt 22 t1) fun t20 => q P h (binOp .add 3 (vs2.getD 0 undef) t18) fun t24 => q P h (binOp .add 3 (vs2.getD 0 undef) t18) fun t27 => q P h (Instr.sliceAt 22 t20 (some (vs2.getD 0 undef)) (some t24) (some t27)) fun t28 => callP P t0 [t28] h fun t29 h => q P h (Op.unary .not t29) fun t30 => cnd t30 (K (Value.tuple #[]) h) (q P h (Instr.loadAt 3 t2) fun t11 => q P h (binOp .add 3 (vs2.getD 0 undef) t11) fun t12 => nx2 [t12] h)) (K (Value.tuple #[]) h)
theorem F_slices_Chunk_byte_byte_1 {K : Value → Hp → Prop} {h : Hp} {t0 t1 t2 : Value} (s : s_slices_Chunk_byte_byte_1 K h t0 t1 t2) : Cn P 53 #[t0, t1, t2] h K :=
  Cn_ofs mixed Try.func53 (by kernel_rfl) (args := [t0, t1, t2]) (by kernel_rfl) s

/-- function 54: (*orlop.poly.number).carry -/
def s_poly_number_carry (K : Value → Hp → Prop) (h : Hp) (t0 : Value) : Prop := 
Lp [(Value.int .u64 0), (Value.int .i64 0)] h fun nx4 vs4 h =>
q P h (binOp .lss 3 (vs4.getD 1 undef) (Value.int .i64 5)) fun t5 => cnd t5 (q P emp (nilCk t0) fun t9 => q P emp (Instr.indexAt 63 t9 (vs4.getD 1 undef)) fun t10 => q P h (Instr.loadAt 38 t10) fun t11 => q P emp (binOp .add 38 t11 (vs4.getD 0 undef)) fun t13 => q P emp (nilCk t0) fun t14 => q P emp (Instr.indexAt 63 t14 (vs4.getD 1 undef)) fun t15 => aw P (Instr.storeAt 38 t15 t13) (fun _ h => q P h (nilCk t0) fun t18 => q P h (Instr.indexAt 63 t18 (vs4.getD 1 undef)) fun t19 => q P h (Instr.loadAt 38 t19) fun t20 => q P h (binOp .shr 38 t20 (Value.int .u64 26)) fun t21 => q P emp (nilCk t0) fun t24 => q P emp (Instr.indexAt 63 t24 (vs4.getD 1 undef)) fun t25 => q P h (Instr.loadAt 38 t25) fun t26 => q P emp (binOp .and 38 t26 (Value.int .u64 67108863)) fun t27 => q P emp (nilCk t0) fun t28 => q P emp (Instr.indexAt 63 t28 (vs4.getD 1 undef)) fun t29 => aw P (Instr.storeAt 38 t29 t27) (fun _ h => q P h (binOp .add 3 (vs4.getD 1 undef) (Value.int .i64 1)) fun t30 => nx4 [t21, t30] h) h) h) (q P emp (nilCk t0) fun t32 => q P emp (Instr.indexAt 63 t32 (Value.int .i64 0)) fun t33 => q P h (Instr.loadAt 38 t33) fun t34 => q P emp (binOp .mul 38 (Value.int .u64 5) (vs4.getD 0 undef)) fun t36 => q P emp (binOp .add 38 t34 t36) fun t37 => q P emp (nilCk t0) fun t38 => q P emp (Instr.indexAt 63 t38 (Value.int .i64 0)) fun t39 => aw P (Instr.storeAt 38 t39 t37) (fun _ h => q P emp (nilCk t0) fun t41 => q P emp (Instr.indexAt 63 t41 (Value.int .i64 1)) fun t42 => q P h (Instr.loadAt 38 t42) fun t43 => q P emp (nilCk t0) fun t45 => q P emp (Instr.indexAt 63 t45 (Value.int .i64 0)) fun t46 => q P h (Instr.loadAt 38 t46) fun t47 => q P emp (binOp .shr 38 t47 (Value.int .u64 26)) fun t48 => q P emp (binOp .add 38 t43 t48) fun t49 => q P emp (nilCk t0) fun t50 => q P emp (Instr.indexAt 63 t50 (Value.int .i64 1)) fun t51 => aw P (Instr.storeAt 38 t51 t49) (fun _ h => q P emp (nilCk t0) fun t53 => q P emp (Instr.indexAt 63 t53 (Value.int .i64 0)) fun t54 => q P h (Instr.loadAt 38 t54) fun t55 => q P emp (binOp .and 38 t55 (Value.int .u64 67108863)) fun t56 => q P emp (nilCk t0) fun t57 => q P emp (Instr.indexAt 63 t57 (Value.int .i64 0)) fun t58 => aw P (Instr.storeAt 38 t58 t56) (fun _ h => K (Value.tuple #[]) h) h) h) h)
theorem F_poly_number_carry {K : Value → Hp → Prop} {h : Hp} {t0 : Value} (s : s_poly_number_carry K h t0) : Cn P 54 #[t0] h K :=
  Cn_ofs mixed Try.func54 (by kernel_rfl) (args := [t0]) (by kernel_rfl) s

/-- function 55: orlop.word.get -/
def s_word_get (K : Value → Hp → Prop) (h : Hp) (t0 t1 : Value) : Prop := 
Lp [(Value.int .u64 0), (Value.int .i64 0)] h fun nx5 vs5 h =>
q P h (binOp .lss 3 (vs5.getD 1 undef) t1) fun t9 => cnd t9 (Cn P 57 #[t0, (vs5.getD 1 undef)] h fun t14 h => q P h (binOp .mul 3 (Value.int .i64 8) (vs5.getD 1 undef)) fun t16 => q P h (binOp .shl 38 t14 t16) fun t17 => q P h (binOp .or 38 (vs5.getD 0 undef) t17) fun t18 => q P h (binOp .add 3 (vs5.getD 1 undef) (Value.int .i64 1)) fun t19 => nx5 [t18, t19] h) (K (vs5.getD 0 undef) h)
theorem F_word_get {K : Value → Hp → Prop} {h : Hp} {t0 t1 : Value} (s : s_word_get K h t0 t1) : Cn P 55 #[t0, t1] h K :=
  Cn_ofs mixed Try.func55 (by kernel_rfl) (args := [t0, t1]) (by kernel_rfl) s

/-- function 56: math.bits.RotateLeft32 -/
def s_bits_RotateLeft32 (K : Value → Hp → Prop) (h : Hp) (t0 t1 : Value) : Prop := q P h (convert 3 78 t1) fun t7 => q P h (binOp .and 78 t7 (Value.int .u64 31)) fun t8 => q P h (binOp .shl 33 t0 t8) fun t11 => q P h (binOp .sub 78 (Value.int .u64 32) t8) fun t14 => q P h (binOp .shr 33 t0 t14) fun t15 => q P h (binOp .or 33 t11 t15) fun t16 => K t16 h
theorem F_bits_RotateLeft32 {K : Value → Hp → Prop} {h : Hp} {t0 t1 : Value} (s : s_bits_RotateLeft32 K h t0 t1) : Cn P 56 #[t0, t1] h K :=
  Cn_ofs mixed Try.func56 (by kernel_rfl) (args := [t0, t1]) (by kernel_rfl) s

/-- function 57: orlop.word.at -/
def s_word_at (K : Value → Hp → Prop) (h : Hp) (t0 t1 : Value) : Prop := q P h (Builtin.len_ #[22] 3 #[t0]) fun t7 => q P h (binOp .lss 3 t1 t7) fun t8 => cnd t8 (q P h (Instr.indexAt 22 t0 t1) fun t11 => q P h (Instr.loadAt 5 t11) fun t12 => q P h (convert 5 38 t12) fun t13 => K t13 h) (K (Value.int .u64 0) h)
theorem F_word_at {K : Value → Hp → Prop} {h : Hp} {t0 t1 : Value} (s : s_word_at K h t0 t1) : Cn P 57 #[t0, t1] h K :=
  Cn_ofs mixed Try.func57 (by kernel_rfl) (args := [t0, t1]) (by kernel_rfl) s

end Go.Proofs.Ytoepmfgahcbmiaa
