/- cachePlays_holds cachePlays proved lifted over: part 1 of its proof; each part's own remarks stand with its declarations. Conditions: each lemma names its own. -/
import Derived.Test.YtbglokdjlbknaaaCachePlays0
import Derived.Test.YtbglokdjlbknaaaProg
set_option linter.unusedSimpArgs false
set_option linter.unusedVariables false
set_option linter.unusedVariables false
set_option maxRecDepth 100000
namespace Go.Proofs.Ytbglokdjlbknaaa
open Go Go.SL
noncomputable abbrev P : Program := Try.prog
abbrev n_orloplaw22_CachePlays : Nat := 5
abbrev n_orloplaw22_awake : Nat := 6
abbrev n_cache_New : Nat := 7
abbrev n_cache_Cache_Put : Nat := 8
abbrev n_cache_Cache_Used : Nat := 9
abbrev n_cache_Cache_Touch : Nat := 10
abbrev n_orlopref22_New : Nat := 11
abbrev n_orlopref22_Cache_Put : Nat := 12
abbrev n_orlopref22_Cache_Touch : Nat := 13
abbrev n_orlopref22_Texts : Nat := 14
abbrev n_cache_Cache_Drop : Nat := 15
abbrev n_orlopref22_Cache_Drop : Nat := 16
abbrev n_orlopref22_Same : Nat := 17
abbrev n_cache_Cache_Items : Nat := 18
abbrev n_orlopref22_Cache_Used : Nat := 19
abbrev n_cache_Cache_remove : Nat := 20
abbrev n_heap_Push : Nat := 21
abbrev n_heap_Fix : Nat := 22
abbrev n_orlopref22_Cache_at : Nat := 23
abbrev n_slices_Clone_cache_items_cache_item : Nat := 24
abbrev n_slices_SortFunc_cache_items_cache_item : Nat := 25
abbrev n_cache_Cache_Items_1 : Nat := 26
abbrev n_cmp_Compare_int : Nat := 27
abbrev n_heap_Remove : Nat := 28
abbrev n_heap_up : Nat := 29
abbrev n_heap_down : Nat := 30
abbrev n_slices_pdqsortCmpFunc_cache_item : Nat := 31
abbrev n_bits_Len : Nat := 32
abbrev n_cmp_isNaN_int : Nat := 33
abbrev n_slices_insertionSortCmpFunc_cache_item : Nat := 34
abbrev n_slices_heapSortCmpFunc_cache_item : Nat := 35
abbrev n_slices_breakPatternsCmpFunc_cache_item : Nat := 36
abbrev n_slices_choosePivotCmpFunc_cache_item : Nat := 37
abbrev n_slices_reverseRangeCmpFunc_cache_item : Nat := 38
abbrev n_slices_partialInsertionSortCmpFunc_cache_item : Nat := 39
abbrev n_slices_partitionEqualCmpFunc_cache_item : Nat := 40
abbrev n_slices_partitionCmpFunc_cache_item : Nat := 41
abbrev n_slices_siftDownCmpFunc_cache_item : Nat := 44
abbrev n_slices_nextPowerOfTwo : Nat := 45
abbrev n_slices_xorshift_Next : Nat := 46
abbrev n_slices_medianAdjacentCmpFunc_cache_item : Nat := 47
abbrev n_slices_medianCmpFunc_cache_item : Nat := 48
abbrev n_slices_order2CmpFunc_cache_item : Nat := 49
abbrev n_cache_items_Len : Nat := 66
abbrev n_cache_items_Less : Nat := 67
abbrev n_cache_items_Swap : Nat := 68
abbrev n_cache_items_Pop : Nat := 69
abbrev n_cache_items_Push : Nat := 70
abbrev t_int : Nat := 3
abbrev t_string : Nat := 9
abbrev t_Pt_cache_Cache : Nat := 25
abbrev t_Sl_string : Nat := 27
abbrev t_api_Item : Nat := 38
abbrev t_Sl_api_Item : Nat := 39
abbrev t_orlopref22_Cache : Nat := 41
abbrev t_Sl_orloplaw22_Do : Nat := 43
abbrev t_orloplaw22_Do : Nat := 45
abbrev t_Sl_Pt_cache_item : Nat := 51
abbrev t_cache_items : Nat := 52
abbrev t_cache_Cache : Nat := 54
abbrev t_Pt_cache_item : Nat := 55
abbrev t_cache_item : Nat := 57
abbrev t_Pt_cache_items : Nat := 60
abbrev t_slices_xorshift : Nat := 92
theorem mixed : P.follows .mixedOrders = true := by kernel_rfl
theorem u3 : P.underlying 3 = some (.int .i64) := by kernel_rfl
theorem z3 : sz P 3 = some 1 := by kernel_rfl
theorem u4 : P.underlying 4 = some .bool := by kernel_rfl
theorem z4 : sz P 4 = some 1 := by kernel_rfl
theorem u5 : P.underlying 5 = some (.int .u8) := by kernel_rfl
theorem z5 : sz P 5 = some 1 := by kernel_rfl
theorem u9 : P.underlying 9 = some .string := by kernel_rfl
theorem z9 : sz P 9 = some 1 := by kernel_rfl
theorem u22 : P.underlying 22 = some (.int .u16) := by kernel_rfl
theorem z22 : sz P 22 = some 1 := by kernel_rfl
theorem u23 : P.underlying 23 = some (.slice 22) := by kernel_rfl
theorem u25 : P.underlying 25 = some (.pointer 54) := by kernel_rfl
theorem u27 : P.underlying 27 = some (.slice 9) := by kernel_rfl
theorem u28 : P.underlying 28 = some (.int .i64) := by kernel_rfl
theorem u32 : P.underlying 32 = some (.slice 5) := by kernel_rfl
theorem z38 : sz P 38 = some 2 := by kernel_rfl
theorem u38 : P.underlying 38 = some (.struct (match P.underlying 38 with | some (.struct fs) => fs | _ => #[])) := by kernel_rfl
theorem u39 : P.underlying 39 = some (.slice 38) := by kernel_rfl
theorem z39 : sz P 39 = some 1 := by kernel_rfl
theorem u43 : P.underlying 43 = some (.slice 45) := by kernel_rfl
theorem u45 : P.underlying 45 = some (.struct (match P.underlying 45 with | some (.struct fs) => fs | _ => #[])) := by kernel_rfl
theorem u50 : P.underlying 50 = some (.map 9 55) := by kernel_rfl
theorem u51 : P.underlying 51 = some (.slice 55) := by kernel_rfl
theorem u52 : P.underlying 52 = some (.slice 55) := by kernel_rfl
theorem z52 : sz P 52 = some 1 := by kernel_rfl
theorem u55 : P.underlying 55 = some (.pointer 57) := by kernel_rfl
theorem z55 : sz P 55 = some 1 := by kernel_rfl
theorem u60 : P.underlying 60 = some (.pointer 52) := by kernel_rfl
theorem u75 : P.underlying 75 = some (.int .u64) := by kernel_rfl
theorem u81 : P.underlying 81 = some (.int .i64) := by kernel_rfl
theorem u89 : P.underlying 89 = some (.int .u32) := by kernel_rfl
theorem u91 : P.underlying 91 = some (.int .u64) := by kernel_rfl
theorem u92 : P.underlying 92 = some (.int .u64) := by kernel_rfl
theorem z92 : sz P 92 = some 1 := by kernel_rfl
theorem zr3 : zr P 3 = some (.int .i64 0) := by kernel_rfl
theorem nfo9 : (P.info? 9).map (fun i => (i.zero, i.size, i.bytes)) = some (some (.string ByteArray.empty), 1, 16) := by kernel_rfl
theorem zr9 : zr P 9 = some (.string ByteArray.empty) := by kernel_rfl
theorem nfo55 : (P.info? 55).map (fun i => (i.zero, i.size, i.bytes)) = some (some (.pointer none), 1, 8) := by kernel_rfl
theorem zr55 : zr P 55 = some (.pointer none) := by kernel_rfl
theorem zr92 : zr P 92 = some (.int .u64 0) := by kernel_rfl
theorem ld3 {h : Hp} {K : Value → Prop} (a : Addr) : q P h (Instr.loadAt 3 (.pointer (some a))) K = withVal (h.cell a) K := q_ld u3 rfl a
theorem ld4 {h : Hp} {K : Value → Prop} (a : Addr) : q P h (Instr.loadAt 4 (.pointer (some a))) K = withVal (h.cell a) K := q_ld u4 rfl a
theorem eb4 {h : Hp} {K : Value → Prop} (x y : Operand) (a b : Bool) : q P h (eqop .eql 4 x y (.bool a) (.bool b)) K = K (.bool (a == b)) := q_eqlB x y a b u4
theorem nb4 {h : Hp} {K : Value → Prop} (x y : Operand) (a b : Bool) : q P h (eqop .neq 4 x y (.bool a) (.bool b)) K = K (.bool (!(a == b))) := q_neqB x y a b u4
theorem ld5 {h : Hp} {K : Value → Prop} (a : Addr) : q P h (Instr.loadAt 5 (.pointer (some a))) K = withVal (h.cell a) K := q_ld u5 rfl a
theorem ld9 {h : Hp} {K : Value → Prop} (a : Addr) : q P h (Instr.loadAt 9 (.pointer (some a))) K = withVal (h.cell a) K := q_ld u9 rfl a
theorem ln9 {h : Hp} {K : Value → Prop} {T : TypeId} (s : ByteArray) : q P h (Builtin.len_ #[9] T #[.string s]) K = K (.int .i64 s.size) := q_lenStr u9 s
theorem ld22 {h : Hp} {K : Value → Prop} (a : Addr) : q P h (Instr.loadAt 22 (.pointer (some a))) K = withVal (h.cell a) K := q_ld u22 rfl a
theorem ld23 {h : Hp} {K : Value → Prop} (a : Addr) : q P h (Instr.loadAt 23 (.pointer (some a))) K = withVal (h.cell a) K := q_ld u23 rfl a
theorem ix23 {h : Hp} {K : Value → Prop} (a : Addr) (n c : Nat) (k : IntKind) (i : Int) (h0 : 0 ≤ i) (h1 : i < n) : q P h (Instr.indexAt 23 (.slice (some a) n c) (.int k i)) K = K (.pointer (some (a.add i.toNat))) := by rw [q_idxS u23 z22 a n c k i h0 h1, Nat.mul_one]
theorem ln23 {h : Hp} {K : Value → Prop} {T : TypeId} (a : Option Addr) (n c : Nat) : q P h (Builtin.len_ #[23] T #[.slice a n c]) K = K (.int .i64 n) := q_lenS u23 a n c
theorem en23 {h : Hp} {K : Value → Prop} (x y : Operand) (a : Option Addr) (n c : Nat) : q P h (eqop .eql 23 x y (.slice a n c) (.slice none 0 0)) K = K (.bool a.isNone) := q_eqlNil x y a n c u23
theorem ld25 {h : Hp} {K : Value → Prop} (a : Addr) : q P h (Instr.loadAt 25 (.pointer (some a))) K = withVal (h.cell a) K := q_ld u25 rfl a
theorem ld27 {h : Hp} {K : Value → Prop} (a : Addr) : q P h (Instr.loadAt 27 (.pointer (some a))) K = withVal (h.cell a) K := q_ld u27 rfl a
theorem ix27 {h : Hp} {K : Value → Prop} (a : Addr) (n c : Nat) (k : IntKind) (i : Int) (h0 : 0 ≤ i) (h1 : i < n) : q P h (Instr.indexAt 27 (.slice (some a) n c) (.int k i)) K = K (.pointer (some (a.add i.toNat))) := by rw [q_idxS u27 z9 a n c k i h0 h1, Nat.mul_one]
theorem ln27 {h : Hp} {K : Value → Prop} {T : TypeId} (a : Option Addr) (n c : Nat) : q P h (Builtin.len_ #[27] T #[.slice a n c]) K = K (.int .i64 n) := q_lenS u27 a n c
theorem en27 {h : Hp} {K : Value → Prop} (x y : Operand) (a : Option Addr) (n c : Nat) : q P h (eqop .eql 27 x y (.slice a n c) (.slice none 0 0)) K = K (.bool a.isNone) := q_eqlNil x y a n c u27
theorem ld28 {h : Hp} {K : Value → Prop} (a : Addr) : q P h (Instr.loadAt 28 (.pointer (some a))) K = withVal (h.cell a) K := q_ld u28 rfl a
theorem ld32 {h : Hp} {K : Value → Prop} (a : Addr) : q P h (Instr.loadAt 32 (.pointer (some a))) K = withVal (h.cell a) K := q_ld u32 rfl a
theorem ix32 {h : Hp} {K : Value → Prop} (a : Addr) (n c : Nat) (k : IntKind) (i : Int) (h0 : 0 ≤ i) (h1 : i < n) : q P h (Instr.indexAt 32 (.slice (some a) n c) (.int k i)) K = K (.pointer (some (a.add i.toNat))) := by rw [q_idxS u32 z5 a n c k i h0 h1, Nat.mul_one]
theorem ln32 {h : Hp} {K : Value → Prop} {T : TypeId} (a : Option Addr) (n c : Nat) : q P h (Builtin.len_ #[32] T #[.slice a n c]) K = K (.int .i64 n) := q_lenS u32 a n c
theorem en32 {h : Hp} {K : Value → Prop} (x y : Operand) (a : Option Addr) (n c : Nat) : q P h (eqop .eql 32 x y (.slice a n c) (.slice none 0 0)) K = K (.bool a.isNone) := q_eqlNil x y a n c u32
theorem ld39 {h : Hp} {K : Value → Prop} (a : Addr) : q P h (Instr.loadAt 39 (.pointer (some a))) K = withVal (h.cell a) K := q_ld u39 rfl a
theorem ln39 {h : Hp} {K : Value → Prop} {T : TypeId} (a : Option Addr) (n c : Nat) : q P h (Builtin.len_ #[39] T #[.slice a n c]) K = K (.int .i64 n) := q_lenS u39 a n c
theorem en39 {h : Hp} {K : Value → Prop} (x y : Operand) (a : Option Addr) (n c : Nat) : q P h (eqop .eql 39 x y (.slice a n c) (.slice none 0 0)) K = K (.bool a.isNone) := q_eqlNil x y a n c u39
theorem ld43 {h : Hp} {K : Value → Prop} (a : Addr) : q P h (Instr.loadAt 43 (.pointer (some a))) K = withVal (h.cell a) K := q_ld u43 rfl a
theorem ln43 {h : Hp} {K : Value → Prop} {T : TypeId} (a : Option Addr) (n c : Nat) : q P h (Builtin.len_ #[43] T #[.slice a n c]) K = K (.int .i64 n) := q_lenS u43 a n c
theorem en43 {h : Hp} {K : Value → Prop} (x y : Operand) (a : Option Addr) (n c : Nat) : q P h (eqop .eql 43 x y (.slice a n c) (.slice none 0 0)) K = K (.bool a.isNone) := q_eqlNil x y a n c u43
theorem ld50 {h : Hp} {K : Value → Prop} (a : Addr) : q P h (Instr.loadAt 50 (.pointer (some a))) K = withVal (h.cell a) K := q_ld u50 rfl a
theorem ld51 {h : Hp} {K : Value → Prop} (a : Addr) : q P h (Instr.loadAt 51 (.pointer (some a))) K = withVal (h.cell a) K := q_ld u51 rfl a
theorem ix51 {h : Hp} {K : Value → Prop} (a : Addr) (n c : Nat) (k : IntKind) (i : Int) (h0 : 0 ≤ i) (h1 : i < n) : q P h (Instr.indexAt 51 (.slice (some a) n c) (.int k i)) K = K (.pointer (some (a.add i.toNat))) := by rw [q_idxS u51 z55 a n c k i h0 h1, Nat.mul_one]
theorem ln51 {h : Hp} {K : Value → Prop} {T : TypeId} (a : Option Addr) (n c : Nat) : q P h (Builtin.len_ #[51] T #[.slice a n c]) K = K (.int .i64 n) := q_lenS u51 a n c
theorem en51 {h : Hp} {K : Value → Prop} (x y : Operand) (a : Option Addr) (n c : Nat) : q P h (eqop .eql 51 x y (.slice a n c) (.slice none 0 0)) K = K (.bool a.isNone) := q_eqlNil x y a n c u51
theorem ld52 {h : Hp} {K : Value → Prop} (a : Addr) : q P h (Instr.loadAt 52 (.pointer (some a))) K = withVal (h.cell a) K := q_ld u52 rfl a
theorem ix52 {h : Hp} {K : Value → Prop} (a : Addr) (n c : Nat) (k : IntKind) (i : Int) (h0 : 0 ≤ i) (h1 : i < n) : q P h (Instr.indexAt 52 (.slice (some a) n c) (.int k i)) K = K (.pointer (some (a.add i.toNat))) := by rw [q_idxS u52 z55 a n c k i h0 h1, Nat.mul_one]
theorem ln52 {h : Hp} {K : Value → Prop} {T : TypeId} (a : Option Addr) (n c : Nat) : q P h (Builtin.len_ #[52] T #[.slice a n c]) K = K (.int .i64 n) := q_lenS u52 a n c
theorem en52 {h : Hp} {K : Value → Prop} (x y : Operand) (a : Option Addr) (n c : Nat) : q P h (eqop .eql 52 x y (.slice a n c) (.slice none 0 0)) K = K (.bool a.isNone) := q_eqlNil x y a n c u52
theorem ld55 {h : Hp} {K : Value → Prop} (a : Addr) : q P h (Instr.loadAt 55 (.pointer (some a))) K = withVal (h.cell a) K := q_ld u55 rfl a
theorem ld60 {h : Hp} {K : Value → Prop} (a : Addr) : q P h (Instr.loadAt 60 (.pointer (some a))) K = withVal (h.cell a) K := q_ld u60 rfl a
theorem ld75 {h : Hp} {K : Value → Prop} (a : Addr) : q P h (Instr.loadAt 75 (.pointer (some a))) K = withVal (h.cell a) K := q_ld u75 rfl a
theorem ld81 {h : Hp} {K : Value → Prop} (a : Addr) : q P h (Instr.loadAt 81 (.pointer (some a))) K = withVal (h.cell a) K := q_ld u81 rfl a
theorem ld89 {h : Hp} {K : Value → Prop} (a : Addr) : q P h (Instr.loadAt 89 (.pointer (some a))) K = withVal (h.cell a) K := q_ld u89 rfl a
theorem ld91 {h : Hp} {K : Value → Prop} (a : Addr) : q P h (Instr.loadAt 91 (.pointer (some a))) K = withVal (h.cell a) K := q_ld u91 rfl a
theorem ld92 {h : Hp} {K : Value → Prop} (a : Addr) : q P h (Instr.loadAt 92 (.pointer (some a))) K = withVal (h.cell a) K := q_ld u92 rfl a
theorem cv3_5 {h : Hp} {K : Value → Prop} {k : IntKind} (a : Int) : q P h (convert 3 5 (.int k a)) K = K (.int .u8 (IntKind.u8.wrap a)) := q_conv a u3 u5
theorem cv3_75 {h : Hp} {K : Value → Prop} {k : IntKind} (a : Int) : q P h (convert 3 75 (.int k a)) K = K (.int .u64 (IntKind.u64.wrap a)) := q_conv a u3 u75
theorem cv3_92 {h : Hp} {K : Value → Prop} {k : IntKind} (a : Int) : q P h (convert 3 92 (.int k a)) K = K (.int .u64 (IntKind.u64.wrap a)) := q_conv a u3 u92
theorem cv5_3 {h : Hp} {K : Value → Prop} {k : IntKind} (a : Int) : q P h (convert 5 3 (.int k a)) K = K (.int .i64 (IntKind.i64.wrap a)) := q_conv a u5 u3
theorem cv22_3 {h : Hp} {K : Value → Prop} {k : IntKind} (a : Int) : q P h (convert 22 3 (.int k a)) K = K (.int .i64 (IntKind.i64.wrap a)) := q_conv a u22 u3
theorem cv75_3 {h : Hp} {K : Value → Prop} {k : IntKind} (a : Int) : q P h (convert 75 3 (.int k a)) K = K (.int .i64 (IntKind.i64.wrap a)) := q_conv a u75 u3
theorem cv75_89 {h : Hp} {K : Value → Prop} {k : IntKind} (a : Int) : q P h (convert 75 89 (.int k a)) K = K (.int .u32 (IntKind.u32.wrap a)) := q_conv a u75 u89
theorem cv89_5 {h : Hp} {K : Value → Prop} {k : IntKind} (a : Int) : q P h (convert 89 5 (.int k a)) K = K (.int .u8 (IntKind.u8.wrap a)) := q_conv a u89 u5
theorem cv91_5 {h : Hp} {K : Value → Prop} {k : IntKind} (a : Int) : q P h (convert 91 5 (.int k a)) K = K (.int .u8 (IntKind.u8.wrap a)) := q_conv a u91 u5
/-- The readings' rules at this seat's types. -/
theorem RL :
  (∀ {h : Hp} {K : Value → Prop} (a : Addr), q P h (Instr.loadAt 3 (.pointer (some a))) K = withVal (h.cell a) K) ∧
  (∀ {h : Hp} {K : Value → Prop} (a : Addr), q P h (Instr.loadAt 4 (.pointer (some a))) K = withVal (h.cell a) K) ∧
  (∀ {h : Hp} {K : Value → Prop} (x y : Operand) (a b : Bool), q P h (eqop .eql 4 x y (.bool a) (.bool b)) K = K (.bool (a == b))) ∧
  (∀ {h : Hp} {K : Value → Prop} (x y : Operand) (a b : Bool), q P h (eqop .neq 4 x y (.bool a) (.bool b)) K = K (.bool (!(a == b)))) ∧
  (∀ {h : Hp} {K : Value → Prop} (a : Addr), q P h (Instr.loadAt 5 (.pointer (some a))) K = withVal (h.cell a) K) ∧
  (∀ {h : Hp} {K : Value → Prop} (a : Addr), q P h (Instr.loadAt 9 (.pointer (some a))) K = withVal (h.cell a) K) ∧
  (∀ {h : Hp} {K : Value → Prop} {T : TypeId} (s : ByteArray), q P h (Builtin.len_ #[9] T #[.string s]) K = K (.int .i64 s.size)) ∧
  (∀ {h : Hp} {K : Value → Prop} (a : Addr), q P h (Instr.loadAt 22 (.pointer (some a))) K = withVal (h.cell a) K) ∧
  (∀ {h : Hp} {K : Value → Prop} (a : Addr), q P h (Instr.loadAt 23 (.pointer (some a))) K = withVal (h.cell a) K) ∧
  (∀ {h : Hp} {K : Value → Prop} (a : Addr) (n c : Nat) (k : IntKind) (i : Int) (h0 : 0 ≤ i) (h1 : i < n), q P h (Instr.indexAt 23 (.slice (some a) n c) (.int k i)) K = K (.pointer (some (a.add i.toNat)))) ∧
  (∀ {h : Hp} {K : Value → Prop} {T : TypeId} (a : Option Addr) (n c : Nat), q P h (Builtin.len_ #[23] T #[.slice a n c]) K = K (.int .i64 n)) ∧
  (∀ {h : Hp} {K : Value → Prop} (x y : Operand) (a : Option Addr) (n c : Nat), q P h (eqop .eql 23 x y (.slice a n c) (.slice none 0 0)) K = K (.bool a.isNone)) ∧
  (∀ {h : Hp} {K : Value → Prop} (a : Addr), q P h (Instr.loadAt 25 (.pointer (some a))) K = withVal (h.cell a) K) ∧
  (∀ {h : Hp} {K : Value → Prop} (a : Addr), q P h (Instr.loadAt 27 (.pointer (some a))) K = withVal (h.cell a) K) ∧
  (∀ {h : Hp} {K : Value → Prop} (a : Addr) (n c : Nat) (k : IntKind) (i : Int) (h0 : 0 ≤ i) (h1 : i < n), q P h (Instr.indexAt 27 (.slice (some a) n c) (.int k i)) K = K (.pointer (some (a.add i.toNat)))) ∧
  (∀ {h : Hp} {K : Value → Prop} {T : TypeId} (a : Option Addr) (n c : Nat), q P h (Builtin.len_ #[27] T #[.slice a n c]) K = K (.int .i64 n)) ∧
  (∀ {h : Hp} {K : Value → Prop} (x y : Operand) (a : Option Addr) (n c : Nat), q P h (eqop .eql 27 x y (.slice a n c) (.slice none 0 0)) K = K (.bool a.isNone)) ∧
  (∀ {h : Hp} {K : Value → Prop} (a : Addr), q P h (Instr.loadAt 28 (.pointer (some a))) K = withVal (h.cell a) K) ∧
  (∀ {h : Hp} {K : Value → Prop} (a : Addr), q P h (Instr.loadAt 32 (.pointer (some a))) K = withVal (h.cell a) K) ∧
  (∀ {h : Hp} {K : Value → Prop} (a : Addr) (n c : Nat) (k : IntKind) (i : Int) (h0 : 0 ≤ i) (h1 : i < n), q P h (Instr.indexAt 32 (.slice (some a) n c) (.int k i)) K = K (.pointer (some (a.add i.toNat)))) ∧
  (∀ {h : Hp} {K : Value → Prop} {T : TypeId} (a : Option Addr) (n c : Nat), q P h (Builtin.len_ #[32] T #[.slice a n c]) K = K (.int .i64 n)) ∧
  (∀ {h : Hp} {K : Value → Prop} (x y : Operand) (a : Option Addr) (n c : Nat), q P h (eqop .eql 32 x y (.slice a n c) (.slice none 0 0)) K = K (.bool a.isNone)) ∧
  (∀ {h : Hp} {K : Value → Prop} (a : Addr), q P h (Instr.loadAt 39 (.pointer (some a))) K = withVal (h.cell a) K) ∧
  (∀ {h : Hp} {K : Value → Prop} {T : TypeId} (a : Option Addr) (n c : Nat), q P h (Builtin.len_ #[39] T #[.slice a n c]) K = K (.int .i64 n)) ∧
  (∀ {h : Hp} {K : Value → Prop} (x y : Operand) (a : Option Addr) (n c : Nat), q P h (eqop .eql 39 x y (.slice a n c) (.slice none 0 0)) K = K (.bool a.isNone)) ∧
  (∀ {h : Hp} {K : Value → Prop} (a : Addr), q P h (Instr.loadAt 43 (.pointer (some a))) K = withVal (h.cell a) K) ∧
  (∀ {h : Hp} {K : Value → Prop} {T : TypeId} (a : Option Addr) (n c : Nat), q P h (Builtin.len_ #[43] T #[.slice a n c]) K = K (.int .i64 n)) ∧
  (∀ {h : Hp} {K : Value → Prop} (x y : Operand) (a : Option Addr) (n c : Nat), q P h (eqop .eql 43 x y (.slice a n c) (.slice none 0 0)) K = K (.bool a.isNone)) ∧
  (∀ {h : Hp} {K : Value → Prop} (a : Addr), q P h (Instr.loadAt 50 (.pointer (some a))) K = withVal (h.cell a) K) ∧
  (∀ {h : Hp} {K : Value → Prop} (a : Addr), q P h (Instr.loadAt 51 (.pointer (some a))) K = withVal (h.cell a) K) ∧
  (∀ {h : Hp} {K : Value → Prop} (a : Addr) (n c : Nat) (k : IntKind) (i : Int) (h0 : 0 ≤ i) (h1 : i < n), q P h (Instr.indexAt 51 (.slice (some a) n c) (.int k i)) K = K (.pointer (some (a.add i.toNat)))) ∧
  (∀ {h : Hp} {K : Value → Prop} {T : TypeId} (a : Option Addr) (n c : Nat), q P h (Builtin.len_ #[51] T #[.slice a n c]) K = K (.int .i64 n)) ∧
  (∀ {h : Hp} {K : Value → Prop} (x y : Operand) (a : Option Addr) (n c : Nat), q P h (eqop .eql 51 x y (.slice a n c) (.slice none 0 0)) K = K (.bool a.isNone)) ∧
  (∀ {h : Hp} {K : Value → Prop} (a : Addr), q P h (Instr.loadAt 52 (.pointer (some a))) K = withVal (h.cell a) K) ∧
  (∀ {h : Hp} {K : Value → Prop} (a : Addr) (n c : Nat) (k : IntKind) (i : Int) (h0 : 0 ≤ i) (h1 : i < n), q P h (Instr.indexAt 52 (.slice (some a) n c) (.int k i)) K = K (.pointer (some (a.add i.toNat)))) ∧
  (∀ {h : Hp} {K : Value → Prop} {T : TypeId} (a : Option Addr) (n c : Nat), q P h (Builtin.len_ #[52] T #[.slice a n c]) K = K (.int .i64 n)) ∧
  (∀ {h : Hp} {K : Value → Prop} (x y : Operand) (a : Option Addr) (n c : Nat), q P h (eqop .eql 52 x y (.slice a n c) (.slice none 0 0)) K = K (.bool a.isNone)) ∧
  (∀ {h : Hp} {K : Value → Prop} (a : Addr), q P h (Instr.loadAt 55 (.pointer (some a))) K = withVal (h.cell a) K) ∧
  (∀ {h : Hp} {K : Value → Prop} (a : Addr), q P h (Instr.loadAt 60 (.pointer (some a))) K = withVal (h.cell a) K) ∧
  (∀ {h : Hp} {K : Value → Prop} (a : Addr), q P h (Instr.loadAt 75 (.pointer (some a))) K = withVal (h.cell a) K) ∧
  (∀ {h : Hp} {K : Value → Prop} (a : Addr), q P h (Instr.loadAt 81 (.pointer (some a))) K = withVal (h.cell a) K) ∧
  (∀ {h : Hp} {K : Value → Prop} (a : Addr), q P h (Instr.loadAt 89 (.pointer (some a))) K = withVal (h.cell a) K) ∧
  (∀ {h : Hp} {K : Value → Prop} (a : Addr), q P h (Instr.loadAt 91 (.pointer (some a))) K = withVal (h.cell a) K) ∧
  (∀ {h : Hp} {K : Value → Prop} (a : Addr), q P h (Instr.loadAt 92 (.pointer (some a))) K = withVal (h.cell a) K) ∧
  (∀ {h : Hp} {K : Value → Prop} {k : IntKind} (a : Int), q P h (convert 3 5 (.int k a)) K = K (.int .u8 (IntKind.u8.wrap a))) ∧
  (∀ {h : Hp} {K : Value → Prop} {k : IntKind} (a : Int), q P h (convert 3 75 (.int k a)) K = K (.int .u64 (IntKind.u64.wrap a))) ∧
  (∀ {h : Hp} {K : Value → Prop} {k : IntKind} (a : Int), q P h (convert 3 92 (.int k a)) K = K (.int .u64 (IntKind.u64.wrap a))) ∧
  (∀ {h : Hp} {K : Value → Prop} {k : IntKind} (a : Int), q P h (convert 5 3 (.int k a)) K = K (.int .i64 (IntKind.i64.wrap a))) ∧
  (∀ {h : Hp} {K : Value → Prop} {k : IntKind} (a : Int), q P h (convert 22 3 (.int k a)) K = K (.int .i64 (IntKind.i64.wrap a))) ∧
  (∀ {h : Hp} {K : Value → Prop} {k : IntKind} (a : Int), q P h (convert 75 3 (.int k a)) K = K (.int .i64 (IntKind.i64.wrap a))) ∧
  (∀ {h : Hp} {K : Value → Prop} {k : IntKind} (a : Int), q P h (convert 75 89 (.int k a)) K = K (.int .u32 (IntKind.u32.wrap a))) ∧
  (∀ {h : Hp} {K : Value → Prop} {k : IntKind} (a : Int), q P h (convert 89 5 (.int k a)) K = K (.int .u8 (IntKind.u8.wrap a))) ∧
  (∀ {h : Hp} {K : Value → Prop} {k : IntKind} (a : Int), q P h (convert 91 5 (.int k a)) K = K (.int .u8 (IntKind.u8.wrap a))) :=
  ⟨@ld3, @ld4, @eb4, @nb4, @ld5, @ld9, @ln9, @ld22, @ld23, @ix23, @ln23, @en23, @ld25, @ld27, @ix27, @ln27, @en27, @ld28, @ld32, @ix32, @ln32, @en32, @ld39, @ln39, @en39, @ld43, @ln43, @en43, @ld50, @ld51, @ix51, @ln51, @en51, @ld52, @ix52, @ln52, @en52, @ld55, @ld60, @ld75, @ld81, @ld89, @ld91, @ld92, @cv3_5, @cv3_75, @cv3_92, @cv5_3, @cv22_3, @cv75_3, @cv75_89, @cv89_5, @cv91_5⟩
theorem u_int : P.underlying 3 = some (.int .i64) := u3
theorem z_int : sz P 3 = some 1 := z3
theorem zr_int : zr P 3 = some (.int .i64 0) := zr3
theorem u_string : P.underlying 9 = some .string := u9
theorem z_string : sz P 9 = some 1 := z9
theorem nfo_string : (P.info? 9).map (fun i => (i.zero, i.size, i.bytes)) = some (some (.string ByteArray.empty), 1, 16) := nfo9
theorem zr_string : zr P 9 = some (.string ByteArray.empty) := zr9
theorem u_Sl_string : P.underlying 27 = some (.slice 9) := u27
theorem u_api_Item : P.underlying 38 = some (.struct (match P.underlying 38 with | some (.struct fs) => fs | _ => #[])) := u38
theorem z_api_Item : sz P 38 = some 2 := z38
theorem u_Sl_api_Item : P.underlying 39 = some (.slice 38) := u39
theorem z_Sl_api_Item : sz P 39 = some 1 := z39
theorem u_Sl_orloplaw22_Do : P.underlying 43 = some (.slice 45) := u43
theorem u_orloplaw22_Do : P.underlying 45 = some (.struct (match P.underlying 45 with | some (.struct fs) => fs | _ => #[])) := u45
theorem u_map_string_Pt_cache_item : P.underlying 50 = some (.map 9 55) := u50
theorem u_Sl_Pt_cache_item : P.underlying 51 = some (.slice 55) := u51
theorem u_cache_items : P.underlying 52 = some (.slice 55) := u52
theorem z_cache_items : sz P 52 = some 1 := z52
theorem u_Pt_cache_item : P.underlying 55 = some (.pointer 57) := u55
theorem z_Pt_cache_item : sz P 55 = some 1 := z55
theorem nfo_Pt_cache_item : (P.info? 55).map (fun i => (i.zero, i.size, i.bytes)) = some (some (.pointer none), 1, 8) := nfo55
theorem zr_Pt_cache_item : zr P 55 = some (.pointer none) := zr55
theorem z_slices_xorshift : sz P 92 = some 1 := z92
theorem zr_slices_xorshift : zr P 92 = some (.int .u64 0) := zr92
/-- function 5: orlop.orloplaw22.CachePlays -/
def s_orloplaw22_CachePlays (K : Value → Hp → Prop) (h : Hp) (t0 t1 : Value) : Prop := Cn P 6 #[] h fun t13 h => q P h (Op.unary .not t13) fun t14 => cnd t14 (K (Value.bool false) h) (Cn P 7 #[t0] h fun t16 h => Cn P 11 #[t0] h fun t18 h => 
Lp [(Value.bool false), (Value.int .i64 0)] h fun nx9 vs9 h =>

let J10 : Hp → Prop := fun h => q P h (Instr.indexAt 43 t1 (vs9.getD 1 undef)) fun t31 => q P h (Instr.loadAt 45 t31) fun t32 => aw P (Instr.alloc 45 true (.tuple #[])) (fun t8 h => aw P (Instr.storeAt 45 t8 t32) (fun _ h => 
let J14 : Value → Hp → Prop := fun t4 h => q P emp (nilCk t18) fun t87 => q P h (Instr.fieldAt 41 t87 1) fun t88 => q P h (Instr.loadAt 39 t88) fun t89 => Cn P 18 #[t16] h fun t85 h => peek P h (Instr.loadAt 39 t88) = some t89 ∧ peek P h (Instr.fieldAt 41 t87 1) = some t88 ∧ Cn P 17 #[t85, t89] h fun t90 h => q P emp (Op.unary .not t90) fun t91 => gd t91 false (Cn P 9 #[t16] h fun t94 h => Cn P 19 #[t18] h fun t96 h => q P h (eqop .neq 3 (.tmp 94) (.tmp 96) t94 t96) fun t97 => gd t97 false (q P emp (nilCk t18) fun t103 => q P h (Instr.fieldAt 41 t103 0) fun t104 => q P h (Instr.loadAt 3 t104) fun t105 => Cn P 9 #[t16] h fun t101 h => peek P h (Instr.loadAt 3 t104) = some t105 ∧ peek P h (Instr.fieldAt 41 t103 0) = some t104 ∧ q P emp (binOp .gtr 3 t101 t105) fun t106 => gd t106 false (Cn P 9 #[t16] h fun t110 h => q P emp (binOp .lss 3 t110 (Value.int .i64 0)) fun t111 => cnd t111 (K (Value.bool false) h) (q P h (binOp .add 3 (vs9.getD 1 undef) (Value.int .i64 1)) fun t28 => nx9 [t4, t28] h)) (cnd (Value.bool true) (K (Value.bool false) h) (q P h (binOp .add 3 (vs9.getD 1 undef) (Value.int .i64 1)) fun t28 => nx9 [t4, t28] h))) (cnd (Value.bool true) (K (Value.bool false) h) (q P h (binOp .add 3 (vs9.getD 1 undef) (Value.int .i64 1)) fun t28 => nx9 [t4, t28] h))) (cnd (Value.bool true) (K (Value.bool false) h) (q P h (binOp .add 3 (vs9.getD 1 undef) (Value.int .i64 1)) fun t28 => nx9 [t4, t28] h));
q P h (Instr.fieldAt 45 t8 0) fun t33 => q P h (Instr.loadAt 3 t33) fun t34 => q P h (eqop .eql 3 (.tmp 34) (.const (Value.int .i64 0)) t34 (Value.int .i64 0)) fun t45 => cnd t45 (q P h (Instr.fieldAt 45 t8 1) fun t48 => q P h (Instr.loadAt 9 t48) fun t49 => q P h (Instr.fieldAt 45 t8 2) fun t50 => q P h (Instr.loadAt 3 t50) fun t51 => Cn P 8 #[t16, t49, t51] h fun t52 h => q P h (Instr.extract t52 0) fun t53 => q P h (Instr.extract t52 1) fun t54 => q P h (Instr.fieldAt 45 t8 1) fun t57 => q P h (Instr.loadAt 9 t57) fun t58 => q P h (Instr.fieldAt 45 t8 2) fun t59 => q P h (Instr.loadAt 3 t59) fun t60 => Cn P 12 #[t18, t58, t60] h fun t61 h => q P h (Instr.extract t61 0) fun t62 => q P h (Instr.extract t61 1) fun t63 => q P h (eqop .neq 28 (.tmp 64) (.tmp 65) t54 t63) fun t66 => gd t66 false (Cn P 14 #[t53, t62] h fun t70 h => q P h (Op.unary .not t70) fun t71 => cnd t71 (K (Value.bool false) h) (J14 (vs9.getD 0 undef) h)) (cnd (Value.bool true) (K (Value.bool false) h) (J14 (vs9.getD 0 undef) h))) (q P h (eqop .eql 3 (.tmp 34) (.const (Value.int .i64 1)) t34 (Value.int .i64 1)) fun t74 => cnd t74 (q P h (Instr.fieldAt 45 t8 1) fun t76 => q P h (Instr.loadAt 9 t76) fun t77 => q P h (Instr.fieldAt 45 t8 1) fun t80 => q P h (Instr.loadAt 9 t80) fun t81 => Cn P 10 #[t16, t77] h fun t78 h => peek P h (Instr.loadAt 9 t80) = some t81 ∧ peek P h (Instr.fieldAt 45 t8 1) = some t80 ∧ Cn P 13 #[t18, t81] h fun t82 h => q P h (eqop .neq 4 (.tmp 78) (.tmp 82) t78 t82) fun t83 => cnd t83 (K (Value.bool false) h) (J14 (vs9.getD 0 undef) h)) (q P h (Instr.fieldAt 45 t8 1) fun t36 => q P h (Instr.loadAt 9 t36) fun t37 => q P h (Instr.fieldAt 45 t8 1) fun t40 => q P h (Instr.loadAt 9 t40) fun t41 => Cn P 15 #[t16, t37] h fun t38 h => peek P h (Instr.loadAt 9 t40) = some t41 ∧ peek P h (Instr.fieldAt 45 t8 1) = some t40 ∧ Cn P 16 #[t18, t41] h fun t42 h => q P h (eqop .neq 4 (.tmp 38) (.tmp 42) t38 t42) fun t43 => cnd t43 (K (Value.bool false) h) (J14 (vs9.getD 0 undef) h)))) h) h;
q P h (Builtin.len_ #[43] 3 #[t1]) fun t21 => q P h (binOp .lss 3 (vs9.getD 1 undef) t21) fun t22 => gd t22 true (q P h (binOp .lss 3 (vs9.getD 1 undef) (Value.int .i64 100)) fun t25 => cnd t25 (J10 h) (K (Value.bool true) h)) (cnd (Value.bool false) (J10 h) (K (Value.bool true) h)))
theorem F_orloplaw22_CachePlays {K : Value → Hp → Prop} {h : Hp} {t0 t1 : Value} (s : s_orloplaw22_CachePlays K h t0 t1) : Cn P 5 #[t0, t1] h K :=
  Cn_ofs mixed Try.func5 (by kernel_rfl) (args := [t0, t1]) (by kernel_rfl) s
/-- function 6: orlop.orloplaw22.awake -/
def s_orloplaw22_awake (K : Value → Hp → Prop) (h : Hp) : Prop := Cn P 7 #[(Value.int .i64 10)] h fun t7 h => q P h (eqop .eql 25 (.tmp 8) (.const (Value.pointer none)) t7 (Value.pointer none)) fun t9 => cnd t9 (K (Value.bool false) h) (Cn P 8 #[t7, (Value.string ⟨#[97]⟩), (Value.int .i64 4)] h fun t11 h => Cn P 8 #[t7, (Value.string ⟨#[98]⟩), (Value.int .i64 4)] h fun t13 h => Cn P 10 #[t7, (Value.string ⟨#[97]⟩)] h fun t15 h => Cn P 8 #[t7, (Value.string ⟨#[99]⟩), (Value.int .i64 4)] h fun t18 h => q P h (Instr.extract t18 0) fun t19 => q P h (Instr.extract t18 1) fun t20 => Cn P 8 #[t7, (Value.string ⟨#[100]⟩), (Value.int .i64 11)] h fun t23 h => q P h (Instr.extract t23 0) fun t24 => q P h (Instr.extract t23 1) fun t25 => gd t15 true (q P h (eqop .eql 28 (.tmp 28) (.const (Value.int .i64 0)) t20 (Value.int .i64 0)) fun t29 => gd t29 true (q P h (Builtin.len_ #[27] 3 #[t19]) fun t33 => q P h (eqop .eql 3 (.tmp 33) (.const (Value.int .i64 1)) t33 (Value.int .i64 1)) fun t34 => gd t34 true (q P h (Instr.indexAt 27 t19 (Value.int .i64 0)) fun t38 => q P h (Instr.loadAt 9 t38) fun t39 => q P h (eqop .eql 9 (.tmp 39) (.const (Value.string ⟨#[98]⟩)) t39 (Value.string ⟨#[98]⟩)) fun t40 => gd t40 true (q P h (eqop .eql 28 (.tmp 43) (.const (Value.int .i64 3)) t25 (Value.int .i64 3)) fun t44 => gd t44 true (Cn P 9 #[t7] h fun t48 h => q P h (eqop .eql 3 (.tmp 48) (.const (Value.int .i64 8)) t48 (Value.int .i64 8)) fun t49 => K t49 h) (K (Value.bool false) h)) (K (Value.bool false) h)) (K (Value.bool false) h)) (K (Value.bool false) h)) (K (Value.bool false) h))
theorem F_orloplaw22_awake {K : Value → Hp → Prop} {h : Hp} (s : s_orloplaw22_awake K h) : Cn P 6 #[] h K :=
  Cn_ofs mixed Try.func6 (by kernel_rfl) (args := []) (by kernel_rfl) s
/-- function 7: orlop.cache.New -/
def s_cache_New (K : Value → Hp → Prop) (h : Hp) (t0 : Value) : Prop := q P h (Builtin.max_ #[3, 3] 3 #[t0, (Value.int .i64 0)]) fun t4 => aw P (Instr.makeMap 50 none) (fun t5 h => q P h (Instr.build 54 #[(0, t4), (4, t5)]) fun t6 => aw P (Instr.box 54 t6) (fun t7 h => K t7 h) h) h
theorem F_cache_New {K : Value → Hp → Prop} {h : Hp} {t0 : Value} (s : s_cache_New K h t0) : Cn P 7 #[t0] h K :=
  Cn_ofs mixed Try.func7 (by kernel_rfl) (args := [t0]) (by kernel_rfl) s
/-- function 8: (*orlop.cache.Cache).Put -/
def s_cache_Cache_Put (K : Value → Hp → Prop) (h : Hp) (t0 t1 t2 : Value) : Prop := q P h (binOp .lss 3 t2 (Value.int .i64 0)) fun t13 => cnd t13 (K (Value.tuple #[(Value.slice none 0 0), (Value.int .i64 1)]) h) (q P h (nilCk t0) fun t17 => q P h (Instr.fieldAt 54 t17 0) fun t18 => q P h (Instr.loadAt 3 t18) fun t19 => q P h (binOp .gtr 3 t2 t19) fun t20 => cnd t20 (K (Value.tuple #[(Value.slice none 0 0), (Value.int .i64 3)]) h) (Cn P 15 #[t0, t1] h fun t23 h => 
Lp [(Value.slice none 0 0)] h fun nx10 vs10 h =>
q P emp (nilCk t0) fun t25 => q P h (Instr.fieldAt 54 t25 1) fun t26 => q P h (Instr.loadAt 3 t26) fun t27 => q P emp (nilCk t0) fun t29 => q P h (Instr.fieldAt 54 t29 0) fun t30 => q P h (Instr.loadAt 3 t30) fun t31 => q P emp (binOp .sub 3 t31 t2) fun t33 => q P emp (binOp .gtr 3 t27 t33) fun t34 => cnd t34 (q P h (nilCk t0) fun t36 => q P h (Instr.fieldAt 54 t36 3) fun t37 => q P h (Instr.loadAt 52 t37) fun t38 => q P h (Instr.indexAt 52 t38 (Value.int .i64 0)) fun t39 => q P h (Instr.loadAt 55 t39) fun t40 => q P h (nilCk t40) fun t43 => q P h (Instr.fieldAt 57 t43 0) fun t44 => q P h (Instr.fieldAt 38 t44 0) fun t45 => q P h (Instr.loadAt 9 t45) fun t46 => aw P (Instr.buildSlice 27 1 #[(0, t46)]) (fun t47 h => aw P (Builtin.append_ #[27, 27] 27 #[(vs10.getD 0 undef), t47]) (fun t48 h => Cn P 20 #[t0, t40] h fun t51 h => nx10 [t48] h) h) h) (q P h (nilCk t0) fun t53 => q P h (Instr.fieldAt 54 t53 2) fun t54 => q P h (Instr.loadAt 3 t54) fun t55 => q P h (binOp .add 3 t55 (Value.int .i64 1)) fun t56 => q P h (nilCk t0) fun t57 => q P h (Instr.fieldAt 54 t57 2) fun t58 => aw P (Instr.storeAt 3 t58 t56) (fun _ h => q P h (Instr.build 38 #[(0, t1), (1, t2)]) fun t61 => q P h (nilCk t0) fun t63 => q P h (Instr.fieldAt 54 t63 2) fun t64 => q P h (Instr.loadAt 3 t64) fun t65 => q P h (Instr.build 57 #[(0, t61), (1, t65)]) fun t66 => aw P (Instr.box 57 t66) (fun t67 h => q P h (nilCk t0) fun t69 => q P h (Instr.fieldAt 54 t69 3) fun t70 => q P h (Instr.makeInterface 60 t70) fun t71 => q P h (Instr.makeInterface 55 t67) fun t73 => Cn P 21 #[t71, t73] h fun t74 h => q P h (nilCk t0) fun t76 => q P h (Instr.fieldAt 54 t76 4) fun t77 => q P h (Instr.loadAt 50 t77) fun t78 => aw P (Instr.mapUpdate 50 t78 t1 t67) (fun _ h => q P h (nilCk t0) fun t82 => q P h (Instr.fieldAt 54 t82 1) fun t83 => q P h (Instr.loadAt 3 t83) fun t84 => q P h (binOp .add 3 t84 t2) fun t86 => q P h (nilCk t0) fun t87 => q P h (Instr.fieldAt 54 t87 1) fun t88 => aw P (Instr.storeAt 3 t88 t86) (fun _ h => K (Value.tuple #[(vs10.getD 0 undef), (Value.int .i64 0)]) h) h) h) h) h)))
theorem F_cache_Cache_Put {K : Value → Hp → Prop} {h : Hp} {t0 t1 t2 : Value} (s : s_cache_Cache_Put K h t0 t1 t2) : Cn P 8 #[t0, t1, t2] h K :=
  Cn_ofs mixed Try.func8 (by kernel_rfl) (args := [t0, t1, t2]) (by kernel_rfl) s
/-- function 9: (*orlop.cache.Cache).Used -/
def s_cache_Cache_Used (K : Value → Hp → Prop) (h : Hp) (t0 : Value) : Prop := q P h (nilCk t0) fun t4 => q P h (Instr.fieldAt 54 t4 1) fun t5 => q P h (Instr.loadAt 3 t5) fun t6 => K t6 h
theorem F_cache_Cache_Used {K : Value → Hp → Prop} {h : Hp} {t0 : Value} (s : s_cache_Cache_Used K h t0) : Cn P 9 #[t0] h K :=
  Cn_ofs mixed Try.func9 (by kernel_rfl) (args := [t0]) (by kernel_rfl) s
/-- function 10: (*orlop.cache.Cache).Touch -/
def s_cache_Cache_Touch (K : Value → Hp → Prop) (h : Hp) (t0 t1 : Value) : Prop := q P h (nilCk t0) fun t9 => q P h (Instr.fieldAt 54 t9 4) fun t10 => q P h (Instr.loadAt 50 t10) fun t11 => q P h (Instr.lookup 50 t11 t1 true) fun t13 => q P h (Instr.extract t13 0) fun t14 => q P h (Instr.extract t13 1) fun t15 => cnd t15 (q P h (nilCk t0) fun t18 => q P h (Instr.fieldAt 54 t18 2) fun t19 => q P h (Instr.loadAt 3 t19) fun t20 => q P h (binOp .add 3 t20 (Value.int .i64 1)) fun t21 => q P h (nilCk t0) fun t22 => q P h (Instr.fieldAt 54 t22 2) fun t23 => aw P (Instr.storeAt 3 t23 t21) (fun _ h => q P h (nilCk t0) fun t26 => q P h (Instr.fieldAt 54 t26 2) fun t27 => q P h (Instr.loadAt 3 t27) fun t28 => q P h (nilCk t14) fun t29 => q P h (Instr.fieldAt 57 t29 1) fun t30 => aw P (Instr.storeAt 3 t30 t28) (fun _ h => q P emp (nilCk t0) fun t32 => q P h (Instr.fieldAt 54 t32 3) fun t33 => q P emp (Instr.makeInterface 60 t33) fun t34 => q P emp (nilCk t14) fun t36 => q P h (Instr.fieldAt 57 t36 2) fun t37 => q P h (Instr.loadAt 3 t37) fun t38 => Cn P 22 #[t34, t38] h fun t39 h => K t15 h) h) h) (K t15 h)
theorem F_cache_Cache_Touch {K : Value → Hp → Prop} {h : Hp} {t0 t1 : Value} (s : s_cache_Cache_Touch K h t0 t1) : Cn P 10 #[t0, t1] h K :=
  Cn_ofs mixed Try.func10 (by kernel_rfl) (args := [t0, t1]) (by kernel_rfl) s
/-- function 11: orlop.orlopref22.New -/
def s_orlopref22_New (K : Value → Hp → Prop) (h : Hp) (t0 : Value) : Prop := q P h (binOp .lss 3 t0 (Value.int .i64 0)) fun t4 => cnd t4 (q P h (Instr.build 41 #[]) fun t5 => aw P (Instr.box 41 t5) (fun t6 h => K t6 h) h) (q P h (Instr.build 41 #[(0, t0)]) fun t8 => aw P (Instr.box 41 t8) (fun t9 h => K t9 h) h)
theorem F_orlopref22_New {K : Value → Hp → Prop} {h : Hp} {t0 : Value} (s : s_orlopref22_New K h t0) : Cn P 11 #[t0] h K :=
  Cn_ofs mixed Try.func11 (by kernel_rfl) (args := [t0]) (by kernel_rfl) s
/-- function 12: (*orlop.orlopref22.Cache).Put -/
def s_orlopref22_Cache_Put (K : Value → Hp → Prop) (h : Hp) (t0 t1 t2 : Value) : Prop := q P h (binOp .lss 3 t2 (Value.int .i64 0)) fun t10 => cnd t10 (K (Value.tuple #[(Value.slice none 0 0), (Value.int .i64 1)]) h) (q P h (nilCk t0) fun t13 => q P h (Instr.fieldAt 41 t13 0) fun t14 => q P h (Instr.loadAt 3 t14) fun t15 => q P h (binOp .gtr 3 t2 t15) fun t16 => cnd t16 (K (Value.tuple #[(Value.slice none 0 0), (Value.int .i64 3)]) h) (Cn P 16 #[t0, t1] h fun t19 h => 
Lp [(Value.slice none 0 0)] h fun nx11 vs11 h =>
q P emp (nilCk t0) fun t23 => q P h (Instr.fieldAt 41 t23 0) fun t24 => q P h (Instr.loadAt 3 t24) fun t25 => q P emp (binOp .sub 3 t25 t2) fun t27 => Cn P 19 #[t0] h fun t21 h => peek P h (Instr.loadAt 3 t24) = some t25 ∧ peek P h (Instr.fieldAt 41 t23 0) = some t24 ∧ q P emp (binOp .gtr 3 t21 t27) fun t28 => cnd t28 (q P h (nilCk t0) fun t31 => q P h (Instr.fieldAt 41 t31 1) fun t32 => q P h (Instr.loadAt 39 t32) fun t33 => q P h (Instr.indexAt 39 t33 (Value.int .i64 0)) fun t34 => q P h (Instr.fieldAt 38 t34 0) fun t35 => q P h (Instr.loadAt 9 t35) fun t36 => aw P (Instr.buildSlice 27 1 #[(0, t36)]) (fun t37 h => aw P (Builtin.append_ #[27, 27] 27 #[(vs11.getD 0 undef), t37]) (fun t38 h => aw P (Instr.buildSlice 39 0 #[]) (fun t40 h => q P h (nilCk t0) fun t42 => q P h (Instr.fieldAt 41 t42 1) fun t43 => q P h (Instr.loadAt 39 t43) fun t44 => q P h (Instr.sliceAt 39 t44 (some (Value.int .i64 1)) none none) fun t45 => aw P (Builtin.append_ #[39, 39] 39 #[t40, t45]) (fun t46 h => q P h (nilCk t0) fun t47 => q P h (Instr.fieldAt 41 t47 1) fun t48 => aw P (Instr.storeAt 39 t48 t46) (fun _ h => nx11 [t38] h) h) h) h) h) h) (q P h (nilCk t0) fun t51 => q P h (Instr.fieldAt 41 t51 1) fun t52 => q P h (Instr.loadAt 39 t52) fun t53 => q P h (Instr.build 38 #[(0, t1), (1, t2)]) fun t56 => aw P (Instr.buildSlice 39 1 #[(0, t56)]) (fun t57 h => aw P (Builtin.append_ #[39, 39] 39 #[t53, t57]) (fun t58 h => q P h (nilCk t0) fun t59 => q P h (Instr.fieldAt 41 t59 1) fun t60 => aw P (Instr.storeAt 39 t60 t58) (fun _ h => K (Value.tuple #[(vs11.getD 0 undef), (Value.int .i64 0)]) h) h) h) h)))
theorem F_orlopref22_Cache_Put {K : Value → Hp → Prop} {h : Hp} {t0 t1 t2 : Value} (s : s_orlopref22_Cache_Put K h t0 t1 t2) : Cn P 12 #[t0, t1, t2] h K :=
  Cn_ofs mixed Try.func12 (by kernel_rfl) (args := [t0, t1, t2]) (by kernel_rfl) s
/-- function 13: (*orlop.orlopref22.Cache).Touch -/
def s_orlopref22_Cache_Touch (K : Value → Hp → Prop) (h : Hp) (t0 t1 : Value) : Prop := Cn P 23 #[t0, t1] h fun t9 h => q P h (binOp .lss 3 t9 (Value.int .i64 0)) fun t11 => cnd t11 (K (Value.bool false) h) (q P h (nilCk t0) fun t13 => q P h (Instr.fieldAt 41 t13 1) fun t14 => q P h (Instr.loadAt 39 t14) fun t15 => q P h (Instr.indexAt 39 t15 t9) fun t17 => q P h (Instr.loadAt 38 t17) fun t18 => aw P (Instr.alloc 38 true (.tuple #[])) (fun t6 h => aw P (Instr.storeAt 38 t6 t18) (fun _ h => Cn P 16 #[t0, t1] h fun t21 h => q P emp (nilCk t0) fun t24 => q P h (Instr.fieldAt 41 t24 1) fun t25 => q P h (Instr.loadAt 39 t25) fun t26 => q P h (Instr.loadAt 38 t6) fun t27 => aw P (Instr.buildSlice 39 1 #[(0, t27)]) (fun t28 h => peek P h (Instr.loadAt 39 t25) = some t26 ∧ peek P h (Instr.fieldAt 41 t24 1) = some t25 ∧ aw P (Builtin.append_ #[39, 39] 39 #[t26, t28]) (fun t29 h => q P emp (nilCk t0) fun t30 => q P h (Instr.fieldAt 41 t30 1) fun t31 => aw P (Instr.storeAt 39 t31 t29) (fun _ h => K (Value.bool true) h) h) h) h) h) h)
theorem F_orlopref22_Cache_Touch {K : Value → Hp → Prop} {h : Hp} {t0 t1 : Value} (s : s_orlopref22_Cache_Touch K h t0 t1) : Cn P 13 #[t0, t1] h K :=
  Cn_ofs mixed Try.func13 (by kernel_rfl) (args := [t0, t1]) (by kernel_rfl) s
/-- function 14: orlop.orlopref22.Texts -/
def s_orlopref22_Texts (K : Value → Hp → Prop) (h : Hp) (t0 t1 : Value) : Prop := q P h (Builtin.len_ #[27] 3 #[t0]) fun t7 => q P h (Builtin.len_ #[27] 3 #[t1]) fun t9 => q P h (eqop .neq 3 (.tmp 7) (.tmp 9) t7 t9) fun t10 => cnd t10 (K (Value.bool false) h) (
Lp [(Value.bool false), (Value.int .i64 0)] h fun nx7 vs7 h =>
q P h (Builtin.len_ #[27] 3 #[t0]) fun t13 => q P h (binOp .lss 3 (vs7.getD 1 undef) t13) fun t14 => cnd t14 (q P emp (Instr.indexAt 27 t0 (vs7.getD 1 undef)) fun t19 => q P h (Instr.loadAt 9 t19) fun t20 => q P emp (Instr.indexAt 27 t1 (vs7.getD 1 undef)) fun t23 => q P h (Instr.loadAt 9 t23) fun t24 => q P h (eqop .neq 9 (.tmp 20) (.tmp 24) t20 t24) fun t25 => cnd t25 (K (Value.bool false) h) (q P h (binOp .add 3 (vs7.getD 1 undef) (Value.int .i64 1)) fun t16 => nx7 [(vs7.getD 0 undef), t16] h)) (K (Value.bool true) h))
theorem F_orlopref22_Texts {K : Value → Hp → Prop} {h : Hp} {t0 t1 : Value} (s : s_orlopref22_Texts K h t0 t1) : Cn P 14 #[t0, t1] h K :=
  Cn_ofs mixed Try.func14 (by kernel_rfl) (args := [t0, t1]) (by kernel_rfl) s
/-- function 15: (*orlop.cache.Cache).Drop -/
def s_cache_Cache_Drop (K : Value → Hp → Prop) (h : Hp) (t0 t1 : Value) : Prop := q P h (nilCk t0) fun t9 => q P h (Instr.fieldAt 54 t9 4) fun t10 => q P h (Instr.loadAt 50 t10) fun t11 => q P h (Instr.lookup 50 t11 t1 true) fun t13 => q P h (Instr.extract t13 0) fun t14 => q P h (Instr.extract t13 1) fun t15 => cnd t15 (Cn P 20 #[t0, t14] h fun t19 h => K t15 h) (K t15 h)
theorem F_cache_Cache_Drop {K : Value → Hp → Prop} {h : Hp} {t0 t1 : Value} (s : s_cache_Cache_Drop K h t0 t1) : Cn P 15 #[t0, t1] h K :=
  Cn_ofs mixed Try.func15 (by kernel_rfl) (args := [t0, t1]) (by kernel_rfl) s
/-- function 16: (*orlop.orlopref22.Cache).Drop -/
def s_orlopref22_Cache_Drop (K : Value → Hp → Prop) (h : Hp) (t0 t1 : Value) : Prop := Cn P 23 #[t0, t1] h fun t8 h => q P h (binOp .lss 3 t8 (Value.int .i64 0)) fun t10 => cnd t10 (K (Value.bool false) h) (q P emp (nilCk t0) fun t14 => q P h (Instr.fieldAt 41 t14 1) fun t15 => q P h (Instr.loadAt 39 t15) fun t16 => q P h (Instr.sliceAt 39 t16 none (some t8) none) fun t18 => q P emp (nilCk t0) fun t21 => q P h (Instr.fieldAt 41 t21 1) fun t22 => q P h (Instr.loadAt 39 t22) fun t23 => q P emp (binOp .add 3 t8 (Value.int .i64 1)) fun t25 => q P h (Instr.sliceAt 39 t23 (some t25) none none) fun t26 => aw P (Instr.buildSlice 39 0 #[]) (fun t12 h => peek P h (Instr.sliceAt 39 t23 (some t25) none none) = some t26 ∧ peek P h (Instr.loadAt 39 t22) = some t23 ∧ peek P h (Instr.fieldAt 41 t21 1) = some t22 ∧ peek P h (Instr.sliceAt 39 t16 none (some t8) none) = some t18 ∧ peek P h (Instr.loadAt 39 t15) = some t16 ∧ peek P h (Instr.fieldAt 41 t14 1) = some t15 ∧ aw P (Builtin.append_ #[39, 39] 39 #[t12, t18]) (fun t19 h => peek P h (Instr.sliceAt 39 t23 (some t25) none none) = some t26 ∧ peek P h (Instr.loadAt 39 t22) = some t23 ∧ peek P h (Instr.fieldAt 41 t21 1) = some t22 ∧ aw P (Builtin.append_ #[39, 39] 39 #[t19, t26]) (fun t27 h => q P emp (nilCk t0) fun t28 => q P h (Instr.fieldAt 41 t28 1) fun t29 => aw P (Instr.storeAt 39 t29 t27) (fun _ h => K (Value.bool true) h) h) h) h) h)
theorem F_orlopref22_Cache_Drop {K : Value → Hp → Prop} {h : Hp} {t0 t1 : Value} (s : s_orlopref22_Cache_Drop K h t0 t1) : Cn P 16 #[t0, t1] h K :=
  Cn_ofs mixed Try.func16 (by kernel_rfl) (args := [t0, t1]) (by kernel_rfl) s
/-- function 17: orlop.orlopref22.Same -/
def s_orlopref22_Same (K : Value → Hp → Prop) (h : Hp) (t0 t1 : Value) : Prop := q P h (Builtin.len_ #[39] 3 #[t0]) fun t7 => q P h (Builtin.len_ #[39] 3 #[t1]) fun t9 => q P h (eqop .neq 3 (.tmp 7) (.tmp 9) t7 t9) fun t10 => cnd t10 (K (Value.bool false) h) (
Lp [(Value.bool false), (Value.int .i64 0)] h fun nx7 vs7 h =>
q P h (Builtin.len_ #[39] 3 #[t0]) fun t13 => q P h (binOp .lss 3 (vs7.getD 1 undef) t13) fun t14 => cnd t14 (q P emp (Instr.indexAt 39 t0 (vs7.getD 1 undef)) fun t19 => q P h (Instr.loadAt 38 t19) fun t20 => q P emp (Instr.indexAt 39 t1 (vs7.getD 1 undef)) fun t23 => q P h (Instr.loadAt 38 t23) fun t24 => q P h (eqop .neq 38 (.tmp 20) (.tmp 24) t20 t24) fun t25 => cnd t25 (K (Value.bool false) h) (q P h (binOp .add 3 (vs7.getD 1 undef) (Value.int .i64 1)) fun t16 => nx7 [(vs7.getD 0 undef), t16] h)) (K (Value.bool true) h))
theorem F_orlopref22_Same {K : Value → Hp → Prop} {h : Hp} {t0 t1 : Value} (s : s_orlopref22_Same K h t0 t1) : Cn P 17 #[t0, t1] h K :=
  Cn_ofs mixed Try.func17 (by kernel_rfl) (args := [t0, t1]) (by kernel_rfl) s
/-- function 18: (*orlop.cache.Cache).Items -/
def s_cache_Cache_Items (K : Value → Hp → Prop) (h : Hp) (t0 : Value) : Prop := q P h (nilCk t0) fun t8 => q P h (Instr.fieldAt 54 t8 3) fun t9 => q P h (Instr.loadAt 52 t9) fun t10 => Cn P 24 #[t10] h fun t11 h => Cn P 25 #[t11, (Value.func (.func 26) #[] #[])] h fun t13 h => q P h (Builtin.len_ #[52] 3 #[t11]) fun t15 => 
Lp [(Value.slice none 0 0), (Value.int .i64 0)] h fun nx7 vs7 h =>
q P h (binOp .lss 3 (vs7.getD 1 undef) t15) fun t17 => cnd t17 (q P h (Instr.indexAt 52 t11 (vs7.getD 1 undef)) fun t18 => q P h (Instr.loadAt 55 t18) fun t19 => q P h (nilCk t19) fun t22 => q P h (Instr.fieldAt 57 t22 0) fun t23 => q P h (Instr.loadAt 38 t23) fun t24 => aw P (Instr.buildSlice 39 1 #[(0, t24)]) (fun t25 h => aw P (Builtin.append_ #[39, 39] 39 #[(vs7.getD 0 undef), t25]) (fun t26 h => q P h (binOp .add 3 (vs7.getD 1 undef) (Value.int .i64 1)) fun t27 => nx7 [t26, t27] h) h) h) (K (vs7.getD 0 undef) h)
theorem F_cache_Cache_Items {K : Value → Hp → Prop} {h : Hp} {t0 : Value} (s : s_cache_Cache_Items K h t0) : Cn P 18 #[t0] h K :=
  Cn_ofs mixed Try.func18 (by kernel_rfl) (args := [t0]) (by kernel_rfl) s
/-- function 19: (*orlop.orlopref22.Cache).Used -/
def s_orlopref22_Cache_Used (K : Value → Hp → Prop) (h : Hp) (t0 : Value) : Prop := 
Lp [(Value.int .i64 0), (Value.int .i64 0)] h fun nx5 vs5 h =>
q P h (nilCk t0) fun t7 => q P h (Instr.fieldAt 41 t7 1) fun t8 => q P h (Instr.loadAt 39 t8) fun t9 => q P h (Builtin.len_ #[39] 3 #[t9]) fun t10 => q P h (binOp .lss 3 (vs5.getD 1 undef) t10) fun t11 => cnd t11 (q P h (nilCk t0) fun t16 => q P h (Instr.fieldAt 41 t16 1) fun t17 => q P h (Instr.loadAt 39 t17) fun t18 => q P h (Instr.indexAt 39 t18 (vs5.getD 1 undef)) fun t20 => q P h (Instr.fieldAt 38 t20 1) fun t21 => q P h (Instr.loadAt 3 t21) fun t22 => q P h (binOp .add 3 (vs5.getD 0 undef) t22) fun t23 => q P h (binOp .add 3 (vs5.getD 1 undef) (Value.int .i64 1)) fun t13 => nx5 [t23, t13] h) (K (vs5.getD 0 undef) h)
theorem F_orlopref22_Cache_Used {K : Value → Hp → Prop} {h : Hp} {t0 : Value} (s : s_orlopref22_Cache_Used K h t0) : Cn P 19 #[t0] h K :=
  Cn_ofs mixed Try.func19 (by kernel_rfl) (args := [t0]) (by kernel_rfl) s
/-- function 20: (*orlop.cache.Cache).remove -/
def s_cache_Cache_remove (K : Value → Hp → Prop) (h : Hp) (t0 t1 : Value) : Prop := q P emp (nilCk t0) fun t5 => q P h (Instr.fieldAt 54 t5 3) fun t6 => q P emp (Instr.makeInterface 60 t6) fun t7 => q P emp (nilCk t1) fun t9 => q P h (Instr.fieldAt 57 t9 2) fun t10 => q P h (Instr.loadAt 3 t10) fun t11 => Cn P 28 #[t7, t11] h fun t12 h => q P emp (nilCk t0) fun t14 => q P h (Instr.fieldAt 54 t14 4) fun t15 => q P h (Instr.loadAt 50 t15) fun t16 => q P emp (nilCk t1) fun t18 => q P h (Instr.fieldAt 57 t18 0) fun t19 => q P h (Instr.fieldAt 38 t19 0) fun t20 => q P h (Instr.loadAt 9 t20) fun t21 => aw P (Builtin.delete_ #[50, 9] 0 #[t16, t21]) (fun _ h => q P emp (nilCk t0) fun t23 => q P h (Instr.fieldAt 54 t23 1) fun t24 => q P h (Instr.loadAt 3 t24) fun t25 => q P emp (nilCk t1) fun t27 => q P h (Instr.fieldAt 57 t27 0) fun t28 => q P h (Instr.fieldAt 38 t28 1) fun t29 => q P h (Instr.loadAt 3 t29) fun t30 => q P emp (binOp .sub 3 t25 t30) fun t31 => q P emp (nilCk t0) fun t32 => q P h (Instr.fieldAt 54 t32 1) fun t33 => aw P (Instr.storeAt 3 t33 t31) (fun _ h => K (Value.tuple #[]) h) h) h
theorem F_cache_Cache_remove {K : Value → Hp → Prop} {h : Hp} {t0 t1 : Value} (s : s_cache_Cache_remove K h t0 t1) : Cn P 20 #[t0, t1] h K :=
  Cn_ofs mixed Try.func20 (by kernel_rfl) (args := [t0, t1]) (by kernel_rfl) s
/-- function 21: container.heap.Push -/
def s_heap_Push (K : Value → Hp → Prop) (h : Hp) (t0 t1 : Value) : Prop := aw P (callMethod t0 "Push" #[t1]) (nextP P fun t6 h => aw P (callMethod t0 "Len" #[]) (nextP P fun t9 h => q P h (binOp .sub 3 t9 (Value.int .i64 1)) fun t10 => Cn P 29 #[t0, t10] h fun t11 h => K (Value.tuple #[]) h) h) h
theorem F_heap_Push {K : Value → Hp → Prop} {h : Hp} {t0 t1 : Value} (s : s_heap_Push K h t0 t1) : Cn P 21 #[t0, t1] h K :=
  Cn_ofs mixed Try.func21 (by kernel_rfl) (args := [t0, t1]) (by kernel_rfl) s
/-- function 22: container.heap.Fix -/
def s_heap_Fix (K : Value → Hp → Prop) (h : Hp) (t0 t1 : Value) : Prop := aw P (callMethod t0 "Len" #[]) (nextP P fun t7 h => Cn P 30 #[t0, t1, t7] h fun t8 h => q P h (Op.unary .not t8) fun t9 => cnd t9 (Cn P 29 #[t0, t1] h fun t12 h => K (Value.tuple #[]) h) (K (Value.tuple #[]) h)) h
theorem F_heap_Fix {K : Value → Hp → Prop} {h : Hp} {t0 t1 : Value} (s : s_heap_Fix K h t0 t1) : Cn P 22 #[t0, t1] h K :=
  Cn_ofs mixed Try.func22 (by kernel_rfl) (args := [t0, t1]) (by kernel_rfl) s
/-- function 23: (*orlop.orlopref22.Cache).at -/
def s_orlopref22_Cache_at (K : Value → Hp → Prop) (h : Hp) (t0 t1 : Value) : Prop := 
Lp [(Value.int .i64 0), (Value.int .i64 0)] h fun nx4 vs4 h =>
q P h (nilCk t0) fun t8 => q P h (Instr.fieldAt 41 t8 1) fun t9 => q P h (Instr.loadAt 39 t9) fun t10 => q P h (Builtin.len_ #[39] 3 #[t10]) fun t11 => q P h (binOp .lss 3 (vs4.getD 1 undef) t11) fun t12 => cnd t12 (q P h (nilCk t0) fun t16 => q P h (Instr.fieldAt 41 t16 1) fun t17 => q P h (Instr.loadAt 39 t17) fun t18 => q P h (Instr.indexAt 39 t18 (vs4.getD 1 undef)) fun t20 => q P h (Instr.fieldAt 38 t20 0) fun t21 => q P h (Instr.loadAt 9 t21) fun t22 => q P h (eqop .eql 9 (.tmp 22) (.tmp 23) t22 t1) fun t24 => cnd t24 (K (vs4.getD 1 undef) h) (q P h (binOp .add 3 (vs4.getD 1 undef) (Value.int .i64 1)) fun t14 => nx4 [(vs4.getD 0 undef), t14] h)) (K (Value.int .i64 (-1)) h)
theorem F_orlopref22_Cache_at {K : Value → Hp → Prop} {h : Hp} {t0 t1 : Value} (s : s_orlopref22_Cache_at K h t0 t1) : Cn P 23 #[t0, t1] h K :=
  Cn_ofs mixed Try.func23 (by kernel_rfl) (args := [t0, t1]) (by kernel_rfl) s
/-- function 24: slices.Clone[orlop.cache.items,*orlop.cache.item] -/
def s_slices_Clone_cache_items_cache_item (K : Value → Hp → Prop) (h : Hp) (t0 : Value) : Prop := q P h (eqop .eql 52 (.tmp 3) (.const (Value.slice none 0 0)) t0 (Value.slice none 0 0)) fun t4 => cnd t4 (K (Value.slice none 0 0) h) (aw P (Instr.buildSlice 52 0 #[]) (fun t5 h => aw P (Builtin.append_ #[52, 52] 52 #[t5, t0]) (fun t7 h => K t7 h) h) h)
theorem F_slices_Clone_cache_items_cache_item {K : Value → Hp → Prop} {h : Hp} {t0 : Value} (s : s_slices_Clone_cache_items_cache_item K h t0) : Cn P 24 #[t0] h K :=
  Cn_ofs mixed Try.func24 (by kernel_rfl) (args := [t0]) (by kernel_rfl) s
/-- function 25: slices.SortFunc[orlop.cache.items,*orlop.cache.item] -/
def s_slices_SortFunc_cache_items_cache_item (K : Value → Hp → Prop) (h : Hp) (t0 t1 : Value) : Prop := q P h (Builtin.len_ #[52] 3 #[t0]) fun t6 => q P h (convert 3 75 t6) fun t10 => Cn P 32 #[t10] h fun t11 h => Cn P 31 #[t0, (Value.int .i64 0), t6, t11, t1] h fun t13 h => K (Value.tuple #[]) h
theorem F_slices_SortFunc_cache_items_cache_item {K : Value → Hp → Prop} {h : Hp} {t0 t1 : Value} (s : s_slices_SortFunc_cache_items_cache_item K h t0 t1) : Cn P 25 #[t0, t1] h K :=
  Cn_ofs mixed Try.func25 (by kernel_rfl) (args := [t0, t1]) (by kernel_rfl) s
/-- function 26: (*orlop.cache.Cache).Items$1 -/
def s_cache_Cache_Items_1 (K : Value → Hp → Prop) (h : Hp) (t0 t1 : Value) : Prop := q P emp (nilCk t0) fun t6 => q P h (Instr.fieldAt 57 t6 1) fun t7 => q P h (Instr.loadAt 3 t7) fun t8 => q P emp (nilCk t1) fun t10 => q P h (Instr.fieldAt 57 t10 1) fun t11 => q P h (Instr.loadAt 3 t11) fun t12 => Cn P 27 #[t8, t12] h fun t13 h => K t13 h
theorem F_cache_Cache_Items_1 {K : Value → Hp → Prop} {h : Hp} {t0 t1 : Value} (s : s_cache_Cache_Items_1 K h t0 t1) : Cn P 26 #[t0, t1] h K :=
  Cn_ofs mixed Try.func26 (by kernel_rfl) (args := [t0, t1]) (by kernel_rfl) s
/-- function 27: cmp.Compare[int] -/
def s_cmp_Compare_int (K : Value → Hp → Prop) (h : Hp) (t0 t1 : Value) : Prop := Cn P 33 #[t0] h fun t8 h => Cn P 33 #[t1] h fun t10 h => cnd t8 (cnd t10 (K (Value.int .i64 0) h) (K (Value.int .i64 (-1)) h)) (cnd t10 (K (Value.int .i64 1) h) (q P h (binOp .lss 3 t0 t1) fun t16 => cnd t16 (K (Value.int .i64 (-1)) h) (q P h (binOp .gtr 3 t0 t1) fun t19 => cnd t19 (K (Value.int .i64 1) h) (K (Value.int .i64 0) h))))
theorem F_cmp_Compare_int {K : Value → Hp → Prop} {h : Hp} {t0 t1 : Value} (s : s_cmp_Compare_int K h t0 t1) : Cn P 27 #[t0, t1] h K :=
  Cn_ofs mixed Try.func27 (by kernel_rfl) (args := [t0, t1]) (by kernel_rfl) s
/-- function 28: container.heap.Remove -/
def s_heap_Remove (K : Value → Hp → Prop) (h : Hp) (t0 t1 : Value) : Prop := aw P (callMethod t0 "Len" #[]) (nextP P fun t7 h => q P h (binOp .sub 3 t7 (Value.int .i64 1)) fun t8 => q P h (eqop .neq 3 (.tmp 9) (.tmp 10) t8 t1) fun t11 => cnd t11 (aw P (callMethod t0 "Swap" #[t1, t8]) (nextP P fun t15 h => Cn P 30 #[t0, t1, t8] h fun t19 h => q P h (Op.unary .not t19) fun t20 => cnd t20 (Cn P 29 #[t0, t1] h fun t23 h => aw P (callMethod t0 "Pop" #[]) (nextP P fun t25 h => K t25 h) h) (aw P (callMethod t0 "Pop" #[]) (nextP P fun t25 h => K t25 h) h)) h) (aw P (callMethod t0 "Pop" #[]) (nextP P fun t25 h => K t25 h) h)) h
theorem F_heap_Remove {K : Value → Hp → Prop} {h : Hp} {t0 t1 : Value} (s : s_heap_Remove K h t0 t1) : Cn P 28 #[t0, t1] h K :=
  Cn_ofs mixed Try.func28 (by kernel_rfl) (args := [t0, t1]) (by kernel_rfl) s
/-- function 29: container.heap.up -/
def s_heap_up (K : Value → Hp → Prop) (h : Hp) (t0 t1 : Value) : Prop := 
Lp [t1] h fun nx1 vs1 h =>
q P h (binOp .sub 3 (vs1.getD 0 undef) (Value.int .i64 1)) fun t6 => q P h (binOp .quo 3 t6 (Value.int .i64 2)) fun t7 => q P h (eqop .eql 3 (.tmp 8) (.tmp 9) t7 (vs1.getD 0 undef)) fun t10 => gd t10 false (aw P (callMethod t0 "Less" #[(vs1.getD 0 undef), t7]) (nextP P fun t15 h => q P h (Op.unary .not t15) fun t16 => cnd t16 (K (Value.tuple #[]) h) (aw P (callMethod t0 "Swap" #[t7, (vs1.getD 0 undef)]) (nextP P fun t21 h => nx1 [t7] h) h)) h) (cnd (Value.bool true) (K (Value.tuple #[]) h) (aw P (callMethod t0 "Swap" #[t7, (vs1.getD 0 undef)]) (nextP P fun t21 h => nx1 [t7] h) h))
theorem F_heap_up {K : Value → Hp → Prop} {h : Hp} {t0 t1 : Value} (s : s_heap_up K h t0 t1) : Cn P 29 #[t0, t1] h K :=
  Cn_ofs mixed Try.func29 (by kernel_rfl) (args := [t0, t1]) (by kernel_rfl) s
/-- function 30: container.heap.down -/
def s_heap_down (K : Value → Hp → Prop) (h : Hp) (t0 t1 t2 : Value) : Prop := 
Lp [t1] h fun nx4 vs4 h =>
q P h (binOp .mul 3 (Value.int .i64 2) (vs4.getD 0 undef)) fun t13 => q P h (binOp .add 3 t13 (Value.int .i64 1)) fun t14 => 
let J6 : Hp → Prop := fun h => 
let J9 : Value → Hp → Prop := fun t9 h => aw P (callMethod t0 "Less" #[t9, (vs4.getD 0 undef)]) (nextP P fun t38 h => q P h (Op.unary .not t38) fun t39 => cnd t39 (q P h (binOp .gtr 3 (vs4.getD 0 undef) t1) fun t47 => K t47 h) (aw P (callMethod t0 "Swap" #[(vs4.getD 0 undef), t9]) (nextP P fun t43 h => nx4 [t9] h) h)) h;
q P h (binOp .add 3 t14 (Value.int .i64 1)) fun t24 => q P h (binOp .lss 3 t24 t2) fun t27 => gd t27 true (aw P (callMethod t0 "Less" #[t24, t14]) (nextP P fun t32 h => cnd t32 (J9 t24 h) (J9 t14 h)) h) (cnd (Value.bool false) (J9 t24 h) (J9 t14 h));
q P h (binOp .geq 3 t14 t2) fun t17 => gd t17 false (q P h (binOp .lss 3 t14 (Value.int .i64 0)) fun t20 => cnd t20 (q P h (binOp .gtr 3 (vs4.getD 0 undef) t1) fun t47 => K t47 h) (J6 h)) (cnd (Value.bool true) (q P h (binOp .gtr 3 (vs4.getD 0 undef) t1) fun t47 => K t47 h) (J6 h))
theorem F_heap_down {K : Value → Hp → Prop} {h : Hp} {t0 t1 t2 : Value} (s : s_heap_down K h t0 t1 t2) : Cn P 30 #[t0, t1, t2] h K :=
  Cn_ofs mixed Try.func30 (by kernel_rfl) (args := [t0, t1, t2]) (by kernel_rfl) s
/-- function 31: slices.pdqsortCmpFunc[*orlop.cache.item] -/
def s_slices_pdqsortCmpFunc_cache_item (K : Value → Hp → Prop) (h : Hp) (t0 t1 t2 t3 t4 : Value) : Prop := 
Lp [t3, t1, (Value.bool true), (Value.bool true), t2] h fun nx3 vs3 h =>
q P h (binOp .sub 3 (vs3.getD 4 undef) (vs3.getD 1 undef)) fun t23 => q P h (binOp .leq 3 t23 (Value.int .i64 12)) fun t25 => cnd t25 (Cn P 34 #[t0, (vs3.getD 1 undef), (vs3.getD 4 undef), t4] h fun t30 h => K (Value.tuple #[]) h) (q P h (eqop .eql 3 (.tmp 31) (.const (Value.int .i64 0)) (vs3.getD 0 undef) (Value.int .i64 0)) fun t32 => cnd t32 (Cn P 35 #[t0, (vs3.getD 1 undef), (vs3.getD 4 undef), t4] h fun t37 h => K (Value.tuple #[]) h) (
let J11 : Value → Hp → Prop := fun t3 h => Cn P 37 #[t0, (vs3.getD 1 undef), (vs3.getD 4 undef), t4] h fun t52 h => q P h (Instr.extract t52 0) fun t53 => q P h (Instr.extract t52 1) fun t54 => 
let J15 : Value → Value → Hp → Prop := fun t13 t14 h => 
let J19 : Hp → Prop := fun h => 
let J26 : Value → Hp → Prop := fun t97 h => cnd t97 (Cn P 40 #[t0, (vs3.getD 1 undef), (vs3.getD 4 undef), t13, t4] h fun t103 h => nx3 [t3, t103, (vs3.getD 2 undef), (vs3.getD 3 undef), (vs3.getD 4 undef)] h) (Cn P 41 #[t0, (vs3.getD 1 undef), (vs3.getD 4 undef), t13, t4] h fun t111 h => q P h (Instr.extract t111 0) fun t112 => q P h (Instr.extract t111 1) fun t113 => q P h (binOp .sub 3 t112 (vs3.getD 1 undef)) fun t117 => q P h (binOp .sub 3 (vs3.getD 4 undef) t112) fun t120 => q P h (binOp .quo 3 t23 (Value.int .i64 8)) fun t122 => q P h (binOp .lss 3 t117 t120) fun t125 => cnd t125 (q P h (binOp .geq 3 t117 t122) fun t128 => Cn P 31 #[t0, (vs3.getD 1 undef), t112, t3, t4] h fun t134 h => q P h (binOp .add 3 t112 (Value.int .i64 1)) fun t136 => nx3 [t3, t136, t113, t128, (vs3.getD 4 undef)] h) (q P h (binOp .geq 3 t120 t122) fun t139 => q P h (binOp .add 3 t112 (Value.int .i64 1)) fun t142 => Cn P 31 #[t0, t142, (vs3.getD 4 undef), t3, t4] h fun t146 h => nx3 [t3, (vs3.getD 1 undef), t113, t139, t112] h));
q P emp (binOp .gtr 3 (vs3.getD 1 undef) (Value.int .i64 0)) fun t82 => gd t82 true (q P emp (binOp .sub 3 (vs3.getD 1 undef) (Value.int .i64 1)) fun t87 => q P emp (Instr.indexAt 51 t0 t87) fun t88 => q P h (Instr.loadAt 55 t88) fun t89 => q P emp (Instr.indexAt 51 t0 t13) fun t92 => q P h (Instr.loadAt 55 t92) fun t93 => callP P t4 [t89, t93] h fun t94 h => q P emp (binOp .lss 3 t94 (Value.int .i64 0)) fun t95 => q P emp (Op.unary .not t95) fun t96 => J26 t96 h) (J26 (Value.bool false) h);
gd (vs3.getD 3 undef) true (gd (vs3.getD 2 undef) true (q P h (eqop .eql 81 (.tmp 73) (.const (Value.int .i64 1)) t14 (Value.int .i64 1)) fun t74 => cnd t74 (Cn P 39 #[t0, (vs3.getD 1 undef), (vs3.getD 4 undef), t4] h fun t80 h => cnd t80 (K (Value.tuple #[]) h) (J19 h)) (J19 h)) (cnd (Value.bool false) (Cn P 39 #[t0, (vs3.getD 1 undef), (vs3.getD 4 undef), t4] h fun t80 h => cnd t80 (K (Value.tuple #[]) h) (J19 h)) (J19 h))) (cnd (Value.bool false) (Cn P 39 #[t0, (vs3.getD 1 undef), (vs3.getD 4 undef), t4] h fun t80 h => cnd t80 (K (Value.tuple #[]) h) (J19 h)) (J19 h));
q P h (eqop .eql 81 (.tmp 55) (.const (Value.int .i64 2)) t54 (Value.int .i64 2)) fun t56 => cnd t56 (Cn P 38 #[t0, (vs3.getD 1 undef), (vs3.getD 4 undef), t4] h fun t61 h => q P h (binOp .sub 3 (vs3.getD 4 undef) (Value.int .i64 1)) fun t63 => q P h (binOp .sub 3 t53 (vs3.getD 1 undef)) fun t66 => q P h (binOp .sub 3 t63 t66) fun t67 => J15 t67 (Value.int .i64 1) h) (J15 t53 t54 h);
q P h (Op.unary .not (vs3.getD 3 undef)) fun t39 => cnd t39 (Cn P 36 #[t0, (vs3.getD 1 undef), (vs3.getD 4 undef), t4] h fun t44 h => q P h (binOp .sub 3 (vs3.getD 0 undef) (Value.int .i64 1)) fun t46 => J11 t46 h) (J11 (vs3.getD 0 undef) h)))
theorem F_slices_pdqsortCmpFunc_cache_item {K : Value → Hp → Prop} {h : Hp} {t0 t1 t2 t3 t4 : Value} (s : s_slices_pdqsortCmpFunc_cache_item K h t0 t1 t2 t3 t4) : Cn P 31 #[t0, t1, t2, t3, t4] h K :=
  Cn_ofs mixed Try.func31 (by kernel_rfl) (args := [t0, t1, t2, t3, t4]) (by kernel_rfl) s
/-- function 32: math.bits.Len -/
def s_bits_Len (K : Value → Hp → Prop) (h : Hp) (t0 : Value) : Prop := cnd (Value.bool false) (q P h (convert 75 89 t0) fun t4 => Cn P 42 #[t4] h fun t5 h => K t5 h) (Cn P 43 #[t0] h fun t7 h => K t7 h)
theorem F_bits_Len {K : Value → Hp → Prop} {h : Hp} {t0 : Value} (s : s_bits_Len K h t0) : Cn P 32 #[t0] h K :=
  Cn_ofs mixed Try.func32 (by kernel_rfl) (args := [t0]) (by kernel_rfl) s
/-- function 33: cmp.isNaN[int] -/
def s_cmp_isNaN_int (K : Value → Hp → Prop) (h : Hp) (t0 : Value) : Prop := q P h (eqop .neq 3 (.tmp 3) (.tmp 4) t0 t0) fun t5 => K t5 h
theorem F_cmp_isNaN_int {K : Value → Hp → Prop} {h : Hp} {t0 : Value} (s : s_cmp_isNaN_int K h t0) : Cn P 33 #[t0] h K :=
  Cn_ofs mixed Try.func33 (by kernel_rfl) (args := [t0]) (by kernel_rfl) s
/-- function 34: slices.insertionSortCmpFunc[*orlop.cache.item] -/
def s_slices_insertionSortCmpFunc_cache_item (K : Value → Hp → Prop) (h : Hp) (t0 t1 t2 t3 : Value) : Prop := q P h (binOp .add 3 t1 (Value.int .i64 1)) fun t11 => 
Lp [t11] h fun nx2 vs2 h =>
q P h (binOp .lss 3 (vs2.getD 0 undef) t2) fun t14 => cnd t14 (
Lp [(vs2.getD 0 undef)] h fun nx7 vs7 h =>

let J8 : Hp → Prop := fun h => q P emp (binOp .sub 3 (vs7.getD 0 undef) (Value.int .i64 1)) fun t41 => q P emp (binOp .sub 3 (vs7.getD 0 undef) (Value.int .i64 1)) fun t44 => q P emp (Instr.indexAt 51 t0 t44) fun t45 => q P h (Instr.loadAt 55 t45) fun t46 => q P emp (Instr.indexAt 51 t0 (vs7.getD 0 undef)) fun t49 => q P h (Instr.loadAt 55 t49) fun t50 => q P emp (Instr.indexAt 51 t0 (vs7.getD 0 undef)) fun t51 => aw P (Instr.storeAt 55 t51 t46) (fun _ h => q P emp (Instr.indexAt 51 t0 t41) fun t52 => aw P (Instr.storeAt 55 t52 t50) (fun _ h => q P h (binOp .sub 3 (vs7.getD 0 undef) (Value.int .i64 1)) fun t36 => nx7 [t36] h) h) h;
q P emp (binOp .gtr 3 (vs7.getD 0 undef) t1) fun t20 => gd t20 true (q P emp (Instr.indexAt 51 t0 (vs7.getD 0 undef)) fun t25 => q P h (Instr.loadAt 55 t25) fun t26 => q P emp (binOp .sub 3 (vs7.getD 0 undef) (Value.int .i64 1)) fun t29 => q P emp (Instr.indexAt 51 t0 t29) fun t30 => q P h (Instr.loadAt 55 t30) fun t31 => callP P t3 [t26, t31] h fun t32 h => q P emp (binOp .lss 3 t32 (Value.int .i64 0)) fun t33 => cnd t33 (J8 h) (q P h (binOp .add 3 (vs2.getD 0 undef) (Value.int .i64 1)) fun t16 => nx2 [t16] h)) (cnd (Value.bool false) (J8 h) (q P h (binOp .add 3 (vs2.getD 0 undef) (Value.int .i64 1)) fun t16 => nx2 [t16] h))) (K (Value.tuple #[]) h)
theorem F_slices_insertionSortCmpFunc_cache_item {K : Value → Hp → Prop} {h : Hp} {t0 t1 t2 t3 : Value} (s : s_slices_insertionSortCmpFunc_cache_item K h t0 t1 t2 t3) : Cn P 34 #[t0, t1, t2, t3] h K :=
  Cn_ofs mixed Try.func34 (by kernel_rfl) (args := [t0, t1, t2, t3]) (by kernel_rfl) s
/-- function 35: slices.heapSortCmpFunc[*orlop.cache.item] -/
def s_slices_heapSortCmpFunc_cache_item (K : Value → Hp → Prop) (h : Hp) (t0 t1 t2 t3 : Value) : Prop := q P h (binOp .sub 3 t2 t1) fun t16 => q P h (binOp .sub 3 t16 (Value.int .i64 1)) fun t18 => q P h (binOp .quo 3 t18 (Value.int .i64 2)) fun t19 => 
Lp [t19] h fun nx6 vs6 h =>
q P h (binOp .geq 3 (vs6.getD 0 undef) (Value.int .i64 0)) fun t21 => cnd t21 (Cn P 44 #[t0, (vs6.getD 0 undef), t16, t1, t3] h fun t29 h => q P h (binOp .sub 3 (vs6.getD 0 undef) (Value.int .i64 1)) fun t23 => nx6 [t23] h) (q P h (binOp .sub 3 t16 (Value.int .i64 1)) fun t31 => 
Lp [t31] h fun nx11 vs11 h =>
q P h (binOp .geq 3 (vs11.getD 0 undef) (Value.int .i64 0)) fun t33 => cnd t33 (q P emp (binOp .add 3 t1 (vs11.getD 0 undef)) fun t41 => q P emp (binOp .add 3 t1 (vs11.getD 0 undef)) fun t45 => q P emp (Instr.indexAt 51 t0 t45) fun t46 => q P h (Instr.loadAt 55 t46) fun t47 => q P emp (Instr.indexAt 51 t0 t1) fun t50 => q P h (Instr.loadAt 55 t50) fun t51 => q P emp (Instr.indexAt 51 t0 t1) fun t52 => aw P (Instr.storeAt 55 t52 t47) (fun _ h => q P emp (Instr.indexAt 51 t0 t41) fun t53 => aw P (Instr.storeAt 55 t53 t51) (fun _ h => Cn P 44 #[t0, (Value.int .i64 0), (vs11.getD 0 undef), t1, t3] h fun t59 h => q P h (binOp .sub 3 (vs11.getD 0 undef) (Value.int .i64 1)) fun t35 => nx11 [t35] h) h) h) (K (Value.tuple #[]) h))
theorem F_slices_heapSortCmpFunc_cache_item {K : Value → Hp → Prop} {h : Hp} {t0 t1 t2 t3 : Value} (s : s_slices_heapSortCmpFunc_cache_item K h t0 t1 t2 t3) : Cn P 35 #[t0, t1, t2, t3] h K :=
  Cn_ofs mixed Try.func35 (by kernel_rfl) (args := [t0, t1, t2, t3]) (by kernel_rfl) s
/-- function 36: slices.breakPatternsCmpFunc[*orlop.cache.item] -/
def s_slices_breakPatternsCmpFunc_cache_item (K : Value → Hp → Prop) (h : Hp) (t0 t1 t2 t3 : Value) : Prop := q P h (binOp .sub 3 t2 t1) fun t15 => q P h (binOp .geq 3 t15 (Value.int .i64 8)) fun t17 => cnd t17 (q P h (convert 3 92 t15) fun t19 => aw P (Instr.alloc 92 true (.tuple #[])) (fun t9 h => aw P (Instr.storeAt 92 t9 t19) (fun _ h => Cn P 45 #[t15] h fun t21 h => q P h (binOp .quo 3 t15 (Value.int .i64 4)) fun t24 => q P h (binOp .mul 3 t24 (Value.int .i64 2)) fun t25 => q P h (binOp .add 3 t1 t25) fun t26 => q P h (binOp .sub 3 t26 (Value.int .i64 1)) fun t27 => 
Lp [t27] h fun nx6 vs6 h =>
q P h (binOp .quo 3 t15 (Value.int .i64 4)) fun t31 => q P h (binOp .mul 3 t31 (Value.int .i64 2)) fun t32 => q P h (binOp .add 3 t1 t32) fun t33 => q P h (binOp .add 3 t33 (Value.int .i64 1)) fun t34 => q P h (binOp .leq 3 (vs6.getD 0 undef) t34) fun t35 => cnd t35 (Cn P 46 #[t9] h fun t38 h => q P h (binOp .sub 75 t21 (Value.int .u64 1)) fun t40 => q P h (binOp .and 75 t38 t40) fun t41 => q P h (convert 75 3 t41) fun t42 => 
let J11 : Value → Hp → Prop := fun t12 h => q P emp (binOp .add 3 t1 t12) fun t54 => q P emp (binOp .add 3 t1 t12) fun t58 => q P emp (Instr.indexAt 51 t0 t58) fun t59 => q P h (Instr.loadAt 55 t59) fun t60 => q P emp (Instr.indexAt 51 t0 (vs6.getD 0 undef)) fun t63 => q P h (Instr.loadAt 55 t63) fun t64 => q P emp (Instr.indexAt 51 t0 (vs6.getD 0 undef)) fun t65 => aw P (Instr.storeAt 55 t65 t60) (fun _ h => q P emp (Instr.indexAt 51 t0 t54) fun t66 => aw P (Instr.storeAt 55 t66 t64) (fun _ h => q P h (binOp .add 3 (vs6.getD 0 undef) (Value.int .i64 1)) fun t37 => nx6 [t37] h) h) h;
q P h (binOp .geq 3 t42 t15) fun t45 => cnd t45 (q P h (binOp .sub 3 t42 t15) fun t48 => J11 t48 h) (J11 t42 h)) (K (Value.tuple #[]) h)) h) h) (K (Value.tuple #[]) h)
theorem F_slices_breakPatternsCmpFunc_cache_item {K : Value → Hp → Prop} {h : Hp} {t0 t1 t2 t3 : Value} (s : s_slices_breakPatternsCmpFunc_cache_item K h t0 t1 t2 t3) : Cn P 36 #[t0, t1, t2, t3] h K :=
  Cn_ofs mixed Try.func36 (by kernel_rfl) (args := [t0, t1, t2, t3]) (by kernel_rfl) s
/-- function 37: slices.choosePivotCmpFunc[*orlop.cache.item] -/
def s_slices_choosePivotCmpFunc_cache_item (K : Value → Hp → Prop) (h : Hp) (t0 t1 t2 t3 : Value) : Prop := q P h (binOp .sub 3 t2 t1) fun t17 => aw P (Instr.alloc 3 true (.tuple #[])) (fun t11 h => q P h (binOp .quo 3 t17 (Value.int .i64 4)) fun t20 => q P h (binOp .mul 3 t20 (Value.int .i64 1)) fun t21 => q P h (binOp .add 3 t1 t21) fun t22 => q P h (binOp .quo 3 t17 (Value.int .i64 4)) fun t25 => q P h (binOp .mul 3 t25 (Value.int .i64 2)) fun t26 => q P h (binOp .add 3 t1 t26) fun t27 => q P h (binOp .quo 3 t17 (Value.int .i64 4)) fun t30 => q P h (binOp .mul 3 t30 (Value.int .i64 3)) fun t31 => q P h (binOp .add 3 t1 t31) fun t32 => 
let J7 : Value → Hp → Prop := fun t13 h => q P h (Instr.loadAt 3 t11) fun t55 => q P h (eqop .eql 3 (.tmp 55) (.const (Value.int .i64 0)) t55 (Value.int .i64 0)) fun t58 => cnd t58 (K (Value.tuple #[t13, (Value.int .i64 1)]) h) (q P h (eqop .eql 3 (.tmp 55) (.const (Value.int .i64 12)) t55 (Value.int .i64 12)) fun t61 => cnd t61 (K (Value.tuple #[t13, (Value.int .i64 2)]) h) (K (Value.tuple #[t13, (Value.int .i64 0)]) h));
q P h (binOp .geq 3 t17 (Value.int .i64 8)) fun t34 => cnd t34 (q P h (binOp .geq 3 t17 (Value.int .i64 50)) fun t36 => cnd t36 (Cn P 47 #[t0, t22, t11, t3] h fun t40 h => Cn P 47 #[t0, t27, t11, t3] h fun t44 h => Cn P 47 #[t0, t32, t11, t3] h fun t48 h => Cn P 48 #[t0, t40, t44, t48, t11, t3] h fun t54 h => J7 t54 h) (Cn P 48 #[t0, t22, t27, t32, t11, t3] h fun t54 h => J7 t54 h)) (J7 t27 h)) h
theorem F_slices_choosePivotCmpFunc_cache_item {K : Value → Hp → Prop} {h : Hp} {t0 t1 t2 t3 : Value} (s : s_slices_choosePivotCmpFunc_cache_item K h t0 t1 t2 t3) : Cn P 37 #[t0, t1, t2, t3] h K :=
  Cn_ofs mixed Try.func37 (by kernel_rfl) (args := [t0, t1, t2, t3]) (by kernel_rfl) s
/-- function 38: slices.reverseRangeCmpFunc[*orlop.cache.item] -/
def s_slices_reverseRangeCmpFunc_cache_item (K : Value → Hp → Prop) (h : Hp) (t0 t1 t2 t3 : Value) : Prop := q P h (binOp .sub 3 t2 (Value.int .i64 1)) fun t12 => 
Lp [t1, t12] h fun nx3 vs3 h =>
q P h (binOp .lss 3 (vs3.getD 0 undef) (vs3.getD 1 undef)) fun t15 => cnd t15 (q P emp (Instr.indexAt 51 t0 (vs3.getD 1 undef)) fun t22 => q P h (Instr.loadAt 55 t22) fun t23 => q P emp (Instr.indexAt 51 t0 (vs3.getD 0 undef)) fun t26 => q P h (Instr.loadAt 55 t26) fun t27 => q P emp (Instr.indexAt 51 t0 (vs3.getD 0 undef)) fun t28 => aw P (Instr.storeAt 55 t28 t23) (fun _ h => q P emp (Instr.indexAt 51 t0 (vs3.getD 1 undef)) fun t29 => aw P (Instr.storeAt 55 t29 t27) (fun _ h => q P h (binOp .add 3 (vs3.getD 0 undef) (Value.int .i64 1)) fun t31 => q P h (binOp .sub 3 (vs3.getD 1 undef) (Value.int .i64 1)) fun t33 => nx3 [t31, t33] h) h) h) (K (Value.tuple #[]) h)
theorem F_slices_reverseRangeCmpFunc_cache_item {K : Value → Hp → Prop} {h : Hp} {t0 t1 t2 t3 : Value} (s : s_slices_reverseRangeCmpFunc_cache_item K h t0 t1 t2 t3) : Cn P 38 #[t0, t1, t2, t3] h K :=
  Cn_ofs mixed Try.func38 (by kernel_rfl) (args := [t0, t1, t2, t3]) (by kernel_rfl) s
/-- function 39: slices.partialInsertionSortCmpFunc[*orlop.cache.item] -/
def s_slices_partialInsertionSortCmpFunc_cache_item (K : Value → Hp → Prop) (h : Hp) (t0 t1 t2 t3 : Value) : Prop := q P h (binOp .add 3 t1 (Value.int .i64 1)) fun t14 => 
Lp [t14, (Value.bool false), (Value.int .i64 0)] h fun nx5 vs5 h =>
q P h (binOp .lss 3 (vs5.getD 2 undef) (Value.int .i64 5)) fun t16 => cnd t16 (
let J9 : Value → Hp → Prop := fun t9 h => q P h (eqop .eql 3 (.tmp 39) (.tmp 40) t9 t2) fun t41 => cnd t41 (K (Value.bool true) h) (q P h (binOp .sub 3 t2 t1) fun t44 => q P h (binOp .lss 3 t44 (Value.int .i64 50)) fun t45 => cnd t45 (K (Value.bool false) h) (q P emp (binOp .sub 3 t9 (Value.int .i64 1)) fun t50 => q P emp (binOp .sub 3 t9 (Value.int .i64 1)) fun t53 => q P emp (Instr.indexAt 51 t0 t53) fun t54 => q P h (Instr.loadAt 55 t54) fun t55 => q P emp (Instr.indexAt 51 t0 t9) fun t58 => q P h (Instr.loadAt 55 t58) fun t59 => q P emp (Instr.indexAt 51 t0 t9) fun t60 => aw P (Instr.storeAt 55 t60 t55) (fun _ h => q P emp (Instr.indexAt 51 t0 t50) fun t61 => aw P (Instr.storeAt 55 t61 t59) (fun _ h => 
let J20 : Hp → Prop := fun h => q P h (binOp .sub 3 t2 t9) fun t103 => q P h (binOp .geq 3 t103 (Value.int .i64 2)) fun t104 => cnd t104 (q P h (binOp .add 3 t9 (Value.int .i64 1)) fun t106 => 
Lp [t106] h fun nx31 vs31 h =>
q P h (binOp .lss 3 (vs31.getD 0 undef) t2) fun t109 => cnd t109 (q P emp (Instr.indexAt 51 t0 (vs31.getD 0 undef)) fun t115 => q P h (Instr.loadAt 55 t115) fun t116 => q P emp (binOp .sub 3 (vs31.getD 0 undef) (Value.int .i64 1)) fun t119 => q P emp (Instr.indexAt 51 t0 t119) fun t120 => q P h (Instr.loadAt 55 t120) fun t121 => callP P t3 [t116, t121] h fun t122 h => q P emp (binOp .lss 3 t122 (Value.int .i64 0)) fun t123 => q P emp (Op.unary .not t123) fun t124 => cnd t124 (q P h (binOp .add 3 (vs5.getD 2 undef) (Value.int .i64 1)) fun t18 => nx5 [t9, (vs5.getD 1 undef), t18] h) (q P emp (binOp .sub 3 (vs31.getD 0 undef) (Value.int .i64 1)) fun t129 => q P emp (binOp .sub 3 (vs31.getD 0 undef) (Value.int .i64 1)) fun t132 => q P emp (Instr.indexAt 51 t0 t132) fun t133 => q P h (Instr.loadAt 55 t133) fun t134 => q P emp (Instr.indexAt 51 t0 (vs31.getD 0 undef)) fun t137 => q P h (Instr.loadAt 55 t137) fun t138 => q P emp (Instr.indexAt 51 t0 (vs31.getD 0 undef)) fun t139 => aw P (Instr.storeAt 55 t139 t134) (fun _ h => q P emp (Instr.indexAt 51 t0 t129) fun t140 => aw P (Instr.storeAt 55 t140 t138) (fun _ h => q P h (binOp .add 3 (vs31.getD 0 undef) (Value.int .i64 1)) fun t111 => nx31 [t111] h) h) h)) (q P h (binOp .add 3 (vs5.getD 2 undef) (Value.int .i64 1)) fun t18 => nx5 [t9, (vs5.getD 1 undef), t18] h)) (q P h (binOp .add 3 (vs5.getD 2 undef) (Value.int .i64 1)) fun t18 => nx5 [t9, (vs5.getD 1 undef), t18] h);
q P h (binOp .sub 3 t9 t1) fun t64 => q P h (binOp .geq 3 t64 (Value.int .i64 2)) fun t65 => cnd t65 (q P h (binOp .sub 3 t9 (Value.int .i64 1)) fun t67 => 
Lp [t67] h fun nx23 vs23 h =>
q P h (binOp .geq 3 (vs23.getD 0 undef) (Value.int .i64 1)) fun t69 => cnd t69 (q P emp (Instr.indexAt 51 t0 (vs23.getD 0 undef)) fun t75 => q P h (Instr.loadAt 55 t75) fun t76 => q P emp (binOp .sub 3 (vs23.getD 0 undef) (Value.int .i64 1)) fun t79 => q P emp (Instr.indexAt 51 t0 t79) fun t80 => q P h (Instr.loadAt 55 t80) fun t81 => callP P t3 [t76, t81] h fun t82 h => q P emp (binOp .lss 3 t82 (Value.int .i64 0)) fun t83 => q P emp (Op.unary .not t83) fun t84 => cnd t84 (J20 h) (q P emp (binOp .sub 3 (vs23.getD 0 undef) (Value.int .i64 1)) fun t89 => q P emp (binOp .sub 3 (vs23.getD 0 undef) (Value.int .i64 1)) fun t92 => q P emp (Instr.indexAt 51 t0 t92) fun t93 => q P h (Instr.loadAt 55 t93) fun t94 => q P emp (Instr.indexAt 51 t0 (vs23.getD 0 undef)) fun t97 => q P h (Instr.loadAt 55 t97) fun t98 => q P emp (Instr.indexAt 51 t0 (vs23.getD 0 undef)) fun t99 => aw P (Instr.storeAt 55 t99 t94) (fun _ h => q P emp (Instr.indexAt 51 t0 t89) fun t100 => aw P (Instr.storeAt 55 t100 t98) (fun _ h => q P h (binOp .sub 3 (vs23.getD 0 undef) (Value.int .i64 1)) fun t71 => nx23 [t71] h) h) h)) (J20 h)) (J20 h)) h) h));

Lp [(vs5.getD 0 undef)] h fun nx10 vs10 h =>
q P emp (binOp .lss 3 (vs10.getD 0 undef) t2) fun t21 => gd t21 true (q P emp (Instr.indexAt 51 t0 (vs10.getD 0 undef)) fun t26 => q P h (Instr.loadAt 55 t26) fun t27 => q P emp (binOp .sub 3 (vs10.getD 0 undef) (Value.int .i64 1)) fun t30 => q P emp (Instr.indexAt 51 t0 t30) fun t31 => q P h (Instr.loadAt 55 t31) fun t32 => callP P t3 [t27, t32] h fun t33 h => q P emp (binOp .lss 3 t33 (Value.int .i64 0)) fun t34 => q P emp (Op.unary .not t34) fun t35 => cnd t35 (q P h (binOp .add 3 (vs10.getD 0 undef) (Value.int .i64 1)) fun t38 => nx10 [t38] h) (J9 (vs10.getD 0 undef) h)) (cnd (Value.bool false) (q P h (binOp .add 3 (vs10.getD 0 undef) (Value.int .i64 1)) fun t38 => nx10 [t38] h) (J9 (vs10.getD 0 undef) h))) (K (Value.bool false) h)
theorem F_slices_partialInsertionSortCmpFunc_cache_item {K : Value → Hp → Prop} {h : Hp} {t0 t1 t2 t3 : Value} (s : s_slices_partialInsertionSortCmpFunc_cache_item K h t0 t1 t2 t3) : Cn P 39 #[t0, t1, t2, t3] h K :=
  Cn_ofs mixed Try.func39 (by kernel_rfl) (args := [t0, t1, t2, t3]) (by kernel_rfl) s
/-- function 40: slices.partitionEqualCmpFunc[*orlop.cache.item] -/
def s_slices_partitionEqualCmpFunc_cache_item (K : Value → Hp → Prop) (h : Hp) (t0 t1 t2 t3 t4 : Value) : Prop := q P emp (Instr.indexAt 51 t0 t3) fun t19 => q P h (Instr.loadAt 55 t19) fun t20 => q P emp (Instr.indexAt 51 t0 t1) fun t23 => q P h (Instr.loadAt 55 t23) fun t24 => q P emp (Instr.indexAt 51 t0 t1) fun t25 => aw P (Instr.storeAt 55 t25 t20) (fun _ h => q P emp (Instr.indexAt 51 t0 t3) fun t26 => aw P (Instr.storeAt 55 t26 t24) (fun _ h => q P h (binOp .add 3 t1 (Value.int .i64 1)) fun t28 => q P h (binOp .sub 3 t2 (Value.int .i64 1)) fun t30 => 
Lp [t28, t30] h fun nx5 vs5 h =>

let J6 : Value → Hp → Prop := fun t11 h => 
let J10 : Value → Hp → Prop := fun t12 h => q P h (binOp .gtr 3 t11 t12) fun t70 => cnd t70 (K t11 h) (q P emp (Instr.indexAt 51 t0 t12) fun t77 => q P h (Instr.loadAt 55 t77) fun t78 => q P emp (Instr.indexAt 51 t0 t11) fun t81 => q P h (Instr.loadAt 55 t81) fun t82 => q P emp (Instr.indexAt 51 t0 t11) fun t83 => aw P (Instr.storeAt 55 t83 t78) (fun _ h => q P emp (Instr.indexAt 51 t0 t12) fun t84 => aw P (Instr.storeAt 55 t84 t82) (fun _ h => q P h (binOp .add 3 t11 (Value.int .i64 1)) fun t86 => q P h (binOp .sub 3 t12 (Value.int .i64 1)) fun t88 => nx5 [t86, t88] h) h) h);

Lp [(vs5.getD 1 undef)] h fun nx11 vs11 h =>
q P emp (binOp .leq 3 t11 (vs11.getD 0 undef)) fun t52 => gd t52 true (q P emp (Instr.indexAt 51 t0 t1) fun t57 => q P h (Instr.loadAt 55 t57) fun t58 => q P emp (Instr.indexAt 51 t0 (vs11.getD 0 undef)) fun t61 => q P h (Instr.loadAt 55 t61) fun t62 => callP P t4 [t58, t62] h fun t63 h => q P emp (binOp .lss 3 t63 (Value.int .i64 0)) fun t64 => cnd t64 (q P h (binOp .sub 3 (vs11.getD 0 undef) (Value.int .i64 1)) fun t67 => nx11 [t67] h) (J10 (vs11.getD 0 undef) h)) (cnd (Value.bool false) (q P h (binOp .sub 3 (vs11.getD 0 undef) (Value.int .i64 1)) fun t67 => nx11 [t67] h) (J10 (vs11.getD 0 undef) h));

Lp [(vs5.getD 0 undef)] h fun nx7 vs7 h =>
q P emp (binOp .leq 3 (vs7.getD 0 undef) (vs5.getD 1 undef)) fun t33 => gd t33 true (q P emp (Instr.indexAt 51 t0 t1) fun t38 => q P h (Instr.loadAt 55 t38) fun t39 => q P emp (Instr.indexAt 51 t0 (vs7.getD 0 undef)) fun t42 => q P h (Instr.loadAt 55 t42) fun t43 => callP P t4 [t39, t43] h fun t44 h => q P emp (binOp .lss 3 t44 (Value.int .i64 0)) fun t45 => q P emp (Op.unary .not t45) fun t46 => cnd t46 (q P h (binOp .add 3 (vs7.getD 0 undef) (Value.int .i64 1)) fun t49 => nx7 [t49] h) (J6 (vs7.getD 0 undef) h)) (cnd (Value.bool false) (q P h (binOp .add 3 (vs7.getD 0 undef) (Value.int .i64 1)) fun t49 => nx7 [t49] h) (J6 (vs7.getD 0 undef) h))) h) h
theorem F_slices_partitionEqualCmpFunc_cache_item {K : Value → Hp → Prop} {h : Hp} {t0 t1 t2 t3 t4 : Value} (s : s_slices_partitionEqualCmpFunc_cache_item K h t0 t1 t2 t3 t4) : Cn P 40 #[t0, t1, t2, t3, t4] h K :=
  Cn_ofs mixed Try.func40 (by kernel_rfl) (args := [t0, t1, t2, t3, t4]) (by kernel_rfl) s
/-- function 41: slices.partitionCmpFunc[*orlop.cache.item] -/
def s_slices_partitionCmpFunc_cache_item (K : Value → Hp → Prop) (h : Hp) (t0 t1 t2 t3 t4 : Value) : Prop := q P emp (Instr.indexAt 51 t0 t3) fun t20 => q P h (Instr.loadAt 55 t20) fun t21 => q P emp (Instr.indexAt 51 t0 t1) fun t24 => q P h (Instr.loadAt 55 t24) fun t25 => q P emp (Instr.indexAt 51 t0 t1) fun t26 => aw P (Instr.storeAt 55 t26 t21) (fun _ h => q P emp (Instr.indexAt 51 t0 t3) fun t27 => aw P (Instr.storeAt 55 t27 t25) (fun _ h => q P h (binOp .add 3 t1 (Value.int .i64 1)) fun t29 => q P h (binOp .sub 3 t2 (Value.int .i64 1)) fun t31 => 
let J4 : Value → Hp → Prop := fun t12 h => 
let J8 : Value → Hp → Prop := fun t13 h => q P h (binOp .gtr 3 t12 t13) fun t71 => cnd t71 (q P emp (Instr.indexAt 51 t0 t1) fun t78 => q P h (Instr.loadAt 55 t78) fun t79 => q P emp (Instr.indexAt 51 t0 t13) fun t82 => q P h (Instr.loadAt 55 t82) fun t83 => q P emp (Instr.indexAt 51 t0 t13) fun t84 => aw P (Instr.storeAt 55 t84 t79) (fun _ h => q P emp (Instr.indexAt 51 t0 t1) fun t85 => aw P (Instr.storeAt 55 t85 t83) (fun _ h => K (Value.tuple #[t13, (Value.bool true)]) h) h) h) (q P emp (Instr.indexAt 51 t0 t13) fun t93 => q P h (Instr.loadAt 55 t93) fun t94 => q P emp (Instr.indexAt 51 t0 t12) fun t97 => q P h (Instr.loadAt 55 t97) fun t98 => q P emp (Instr.indexAt 51 t0 t12) fun t99 => aw P (Instr.storeAt 55 t99 t94) (fun _ h => q P emp (Instr.indexAt 51 t0 t13) fun t100 => aw P (Instr.storeAt 55 t100 t98) (fun _ h => q P h (binOp .add 3 t12 (Value.int .i64 1)) fun t102 => q P h (binOp .sub 3 t13 (Value.int .i64 1)) fun t104 => 
Lp [t102, t104] h fun nx20 vs20 h =>

let J21 : Value → Hp → Prop := fun t12 h => 
let J25 : Value → Hp → Prop := fun t13 h => q P h (binOp .gtr 3 t12 t13) fun t144 => cnd t144 (q P emp (Instr.indexAt 51 t0 t1) fun t169 => q P h (Instr.loadAt 55 t169) fun t170 => q P emp (Instr.indexAt 51 t0 t13) fun t173 => q P h (Instr.loadAt 55 t173) fun t174 => q P emp (Instr.indexAt 51 t0 t13) fun t175 => aw P (Instr.storeAt 55 t175 t170) (fun _ h => q P emp (Instr.indexAt 51 t0 t1) fun t176 => aw P (Instr.storeAt 55 t176 t174) (fun _ h => K (Value.tuple #[t13, (Value.bool false)]) h) h) h) (q P emp (Instr.indexAt 51 t0 t13) fun t151 => q P h (Instr.loadAt 55 t151) fun t152 => q P emp (Instr.indexAt 51 t0 t12) fun t155 => q P h (Instr.loadAt 55 t155) fun t156 => q P emp (Instr.indexAt 51 t0 t12) fun t157 => aw P (Instr.storeAt 55 t157 t152) (fun _ h => q P emp (Instr.indexAt 51 t0 t13) fun t158 => aw P (Instr.storeAt 55 t158 t156) (fun _ h => q P h (binOp .add 3 t12 (Value.int .i64 1)) fun t160 => q P h (binOp .sub 3 t13 (Value.int .i64 1)) fun t162 => nx20 [t160, t162] h) h) h);

Lp [(vs20.getD 1 undef)] h fun nx26 vs26 h =>
q P emp (binOp .leq 3 t12 (vs26.getD 0 undef)) fun t125 => gd t125 true (q P emp (Instr.indexAt 51 t0 (vs26.getD 0 undef)) fun t130 => q P h (Instr.loadAt 55 t130) fun t131 => q P emp (Instr.indexAt 51 t0 t1) fun t134 => q P h (Instr.loadAt 55 t134) fun t135 => callP P t4 [t131, t135] h fun t136 h => q P emp (binOp .lss 3 t136 (Value.int .i64 0)) fun t137 => q P emp (Op.unary .not t137) fun t138 => cnd t138 (q P h (binOp .sub 3 (vs26.getD 0 undef) (Value.int .i64 1)) fun t141 => nx26 [t141] h) (J25 (vs26.getD 0 undef) h)) (cnd (Value.bool false) (q P h (binOp .sub 3 (vs26.getD 0 undef) (Value.int .i64 1)) fun t141 => nx26 [t141] h) (J25 (vs26.getD 0 undef) h));

Lp [(vs20.getD 0 undef)] h fun nx22 vs22 h =>
q P emp (binOp .leq 3 (vs22.getD 0 undef) (vs20.getD 1 undef)) fun t107 => gd t107 true (q P emp (Instr.indexAt 51 t0 (vs22.getD 0 undef)) fun t112 => q P h (Instr.loadAt 55 t112) fun t113 => q P emp (Instr.indexAt 51 t0 t1) fun t116 => q P h (Instr.loadAt 55 t116) fun t117 => callP P t4 [t113, t117] h fun t118 h => q P emp (binOp .lss 3 t118 (Value.int .i64 0)) fun t119 => cnd t119 (q P h (binOp .add 3 (vs22.getD 0 undef) (Value.int .i64 1)) fun t122 => nx22 [t122] h) (J21 (vs22.getD 0 undef) h)) (cnd (Value.bool false) (q P h (binOp .add 3 (vs22.getD 0 undef) (Value.int .i64 1)) fun t122 => nx22 [t122] h) (J21 (vs22.getD 0 undef) h))) h) h);

Lp [t31] h fun nx9 vs9 h =>
q P emp (binOp .leq 3 t12 (vs9.getD 0 undef)) fun t52 => gd t52 true (q P emp (Instr.indexAt 51 t0 (vs9.getD 0 undef)) fun t57 => q P h (Instr.loadAt 55 t57) fun t58 => q P emp (Instr.indexAt 51 t0 t1) fun t61 => q P h (Instr.loadAt 55 t61) fun t62 => callP P t4 [t58, t62] h fun t63 h => q P emp (binOp .lss 3 t63 (Value.int .i64 0)) fun t64 => q P emp (Op.unary .not t64) fun t65 => cnd t65 (q P h (binOp .sub 3 (vs9.getD 0 undef) (Value.int .i64 1)) fun t68 => nx9 [t68] h) (J8 (vs9.getD 0 undef) h)) (cnd (Value.bool false) (q P h (binOp .sub 3 (vs9.getD 0 undef) (Value.int .i64 1)) fun t68 => nx9 [t68] h) (J8 (vs9.getD 0 undef) h));

Lp [t29] h fun nx5 vs5 h =>
q P emp (binOp .leq 3 (vs5.getD 0 undef) t31) fun t34 => gd t34 true (q P emp (Instr.indexAt 51 t0 (vs5.getD 0 undef)) fun t39 => q P h (Instr.loadAt 55 t39) fun t40 => q P emp (Instr.indexAt 51 t0 t1) fun t43 => q P h (Instr.loadAt 55 t43) fun t44 => callP P t4 [t40, t44] h fun t45 h => q P emp (binOp .lss 3 t45 (Value.int .i64 0)) fun t46 => cnd t46 (q P h (binOp .add 3 (vs5.getD 0 undef) (Value.int .i64 1)) fun t49 => nx5 [t49] h) (J4 (vs5.getD 0 undef) h)) (cnd (Value.bool false) (q P h (binOp .add 3 (vs5.getD 0 undef) (Value.int .i64 1)) fun t49 => nx5 [t49] h) (J4 (vs5.getD 0 undef) h))) h) h
theorem F_slices_partitionCmpFunc_cache_item {K : Value → Hp → Prop} {h : Hp} {t0 t1 t2 t3 t4 : Value} (s : s_slices_partitionCmpFunc_cache_item K h t0 t1 t2 t3 t4) : Cn P 41 #[t0, t1, t2, t3, t4] h K :=
  Cn_ofs mixed Try.func41 (by kernel_rfl) (args := [t0, t1, t2, t3, t4]) (by kernel_rfl) s
/-- function 43: math.bits.Len64 -/
def s_bits_Len64 (K : Value → Hp → Prop) (h : Hp) (t0 : Value) : Prop := 
let J2 : Value → Value → Hp → Prop := fun t0 t2 h => 
let J5 : Value → Value → Hp → Prop := fun t0 t2 h => 
let J8 : Value → Value → Hp → Prop := fun t0 t2 h => q P h (convert 91 5 t0) fun t21 => q P h (Instr.index 9 (Value.string ⟨[0, 1, 2, 2, 3, 3, 3, 3, 4, 4, 4, 4, 4, 4, 4, 4, 5, 5, 5, 5, 5, 5, 5, 5, 5, 5, 5, 5, 5, 5, 5, 5, 6, 6, 6, 6, 6, 6, 6, 6, 6, 6, 6, 6, 6, 6, 6, 6, 6, 6, 6, 6, 6, 6, 6, 6, 6, 6, 6, 6, 6, 6, 6, 6, 7, 7, 7, 7, 7, 7, 7, 7, 7, 7, 7, 7, 7, 7, 7, 7, 7, 7, 7, 7, 7, 7, 7, 7, 7, 7, 7, 7, 7, 7, 7, 7, 7, 7, 7, 7, 7, 7, 7, 7, 7, 7, 7, 7, 7, 7, 7, 7, 7, 7, 7, 7, 7, 7, 7, 7, 7, 7, 7, 7, 7, 7, 7, 7, 8, 8, 8, 8, 8, 8, 8, 8, 8, 8, 8, 8, 8, 8, 8, 8, 8, 8, 8, 8, 8, 8, 8, 8, 8, 8, 8, 8, 8, 8, 8, 8, 8, 8, 8, 8, 8, 8, 8, 8, 8, 8, 8, 8, 8, 8, 8, 8, 8, 8, 8, 8, 8, 8, 8, 8, 8, 8, 8, 8, 8, 8, 8, 8, 8, 8, 8, 8, 8, 8, 8, 8, 8, 8, 8, 8, 8, 8, 8, 8, 8, 8, 8, 8, 8, 8, 8, 8, 8, 8, 8, 8, 8, 8, 8, 8, 8, 8, 8, 8, 8, 8, 8, 8, 8, 8, 8, 8, 8, 8, 8, 8, 8, 8, 8, 8, 8, 8, 8, 8, 8, 8, 8, 8, 8, 8, 8, 8].toArray⟩) t21) fun t22 => q P h (convert 5 3 t22) fun t23 => q P h (binOp .add 3 t2 t23) fun t24 => K t24 h;
q P h (binOp .geq 91 t0 (Value.int .u64 256)) fun t14 => cnd t14 (q P h (binOp .shr 91 t0 (Value.int .u64 8)) fun t16 => q P h (binOp .add 3 t2 (Value.int .i64 8)) fun t18 => J8 t16 t18 h) (J8 t0 t2 h);
q P h (binOp .geq 91 t0 (Value.int .u64 65536)) fun t8 => cnd t8 (q P h (binOp .shr 91 t0 (Value.int .u64 16)) fun t10 => q P h (binOp .add 3 t2 (Value.int .i64 16)) fun t12 => J5 t10 t12 h) (J5 t0 t2 h);
q P h (binOp .geq 91 t0 (Value.int .u64 4294967296)) fun t4 => cnd t4 (q P h (binOp .shr 91 t0 (Value.int .u64 32)) fun t6 => J2 t6 (Value.int .i64 32) h) (J2 t0 (Value.int .i64 0) h)
theorem F_bits_Len64 {K : Value → Hp → Prop} {h : Hp} {t0 : Value} (s : s_bits_Len64 K h t0) : Cn P 43 #[t0] h K :=
  Cn_ofs mixed Try.func43 (by kernel_rfl) (args := [t0]) (by kernel_rfl) s
/-- function 44: slices.siftDownCmpFunc[*orlop.cache.item] -/
def s_slices_siftDownCmpFunc_cache_item (K : Value → Hp → Prop) (h : Hp) (t0 t1 t2 t3 t4 : Value) : Prop := 
Lp [t1] h fun nx2 vs2 h =>
q P h (binOp .mul 3 (Value.int .i64 2) (vs2.getD 0 undef)) fun t14 => q P h (binOp .add 3 t14 (Value.int .i64 1)) fun t15 => q P h (binOp .geq 3 t15 t2) fun t18 => cnd t18 (K (Value.tuple #[]) h) (
let J6 : Value → Hp → Prop := fun t11 h => q P emp (binOp .add 3 t3 (vs2.getD 0 undef)) fun t47 => q P emp (Instr.indexAt 51 t0 t47) fun t48 => q P h (Instr.loadAt 55 t48) fun t49 => q P emp (binOp .add 3 t3 t11) fun t53 => q P emp (Instr.indexAt 51 t0 t53) fun t54 => q P h (Instr.loadAt 55 t54) fun t55 => callP P t4 [t49, t55] h fun t56 h => q P emp (binOp .lss 3 t56 (Value.int .i64 0)) fun t57 => q P emp (Op.unary .not t57) fun t58 => cnd t58 (K (Value.tuple #[]) h) (q P emp (binOp .add 3 t3 (vs2.getD 0 undef)) fun t62 => q P emp (binOp .add 3 t3 t11) fun t66 => q P emp (binOp .add 3 t3 t11) fun t70 => q P emp (Instr.indexAt 51 t0 t70) fun t71 => q P h (Instr.loadAt 55 t71) fun t72 => q P emp (binOp .add 3 t3 (vs2.getD 0 undef)) fun t76 => q P emp (Instr.indexAt 51 t0 t76) fun t77 => q P h (Instr.loadAt 55 t77) fun t78 => q P emp (Instr.indexAt 51 t0 t62) fun t79 => aw P (Instr.storeAt 55 t79 t72) (fun _ h => q P emp (Instr.indexAt 51 t0 t66) fun t80 => aw P (Instr.storeAt 55 t80 t78) (fun _ h => nx2 [t11] h) h) h);
q P emp (binOp .add 3 t15 (Value.int .i64 1)) fun t20 => q P emp (binOp .lss 3 t20 t2) fun t22 => gd t22 true (q P emp (binOp .add 3 t3 t15) fun t28 => q P emp (Instr.indexAt 51 t0 t28) fun t29 => q P h (Instr.loadAt 55 t29) fun t30 => q P emp (binOp .add 3 t3 t15) fun t34 => q P emp (binOp .add 3 t34 (Value.int .i64 1)) fun t35 => q P emp (Instr.indexAt 51 t0 t35) fun t36 => q P h (Instr.loadAt 55 t36) fun t37 => callP P t4 [t30, t37] h fun t38 h => q P emp (binOp .lss 3 t38 (Value.int .i64 0)) fun t39 => cnd t39 (q P h (binOp .add 3 t15 (Value.int .i64 1)) fun t42 => J6 t42 h) (J6 t15 h)) (cnd (Value.bool false) (q P h (binOp .add 3 t15 (Value.int .i64 1)) fun t42 => J6 t42 h) (J6 t15 h)))
theorem F_slices_siftDownCmpFunc_cache_item {K : Value → Hp → Prop} {h : Hp} {t0 t1 t2 t3 t4 : Value} (s : s_slices_siftDownCmpFunc_cache_item K h t0 t1 t2 t3 t4) : Cn P 44 #[t0, t1, t2, t3, t4] h K :=
  Cn_ofs mixed Try.func44 (by kernel_rfl) (args := [t0, t1, t2, t3, t4]) (by kernel_rfl) s
/-- function 45: slices.nextPowerOfTwo -/
def s_slices_nextPowerOfTwo (K : Value → Hp → Prop) (h : Hp) (t0 : Value) : Prop := q P h (convert 3 75 t0) fun t4 => Cn P 32 #[t4] h fun t5 h => q P h (binOp .shl 75 (Value.int .u64 1) t5) fun t6 => K t6 h
theorem F_slices_nextPowerOfTwo {K : Value → Hp → Prop} {h : Hp} {t0 : Value} (s : s_slices_nextPowerOfTwo K h t0) : Cn P 45 #[t0] h K :=
  Cn_ofs mixed Try.func45 (by kernel_rfl) (args := [t0]) (by kernel_rfl) s
/-- function 46: (*slices.xorshift).Next -/
def s_slices_xorshift_Next (K : Value → Hp → Prop) (h : Hp) (t0 : Value) : Prop := q P emp (nilCk t0) fun t4 => q P h (Instr.loadAt 92 t4) fun t5 => q P emp (nilCk t0) fun t7 => q P h (Instr.loadAt 92 t7) fun t8 => q P emp (binOp .shl 92 t8 (Value.int .u64 13)) fun t9 => q P emp (binOp .xor 92 t5 t9) fun t10 => q P emp (nilCk t0) fun t11 => aw P (Instr.storeAt 92 t11 t10) (fun _ h => q P emp (nilCk t0) fun t13 => q P h (Instr.loadAt 92 t13) fun t14 => q P emp (nilCk t0) fun t16 => q P h (Instr.loadAt 92 t16) fun t17 => q P emp (binOp .shr 92 t17 (Value.int .u64 7)) fun t18 => q P emp (binOp .xor 92 t14 t18) fun t19 => q P emp (nilCk t0) fun t20 => aw P (Instr.storeAt 92 t20 t19) (fun _ h => q P emp (nilCk t0) fun t22 => q P h (Instr.loadAt 92 t22) fun t23 => q P emp (nilCk t0) fun t25 => q P h (Instr.loadAt 92 t25) fun t26 => q P emp (binOp .shl 92 t26 (Value.int .u64 17)) fun t27 => q P emp (binOp .xor 92 t23 t27) fun t28 => q P emp (nilCk t0) fun t29 => aw P (Instr.storeAt 92 t29 t28) (fun _ h => q P h (nilCk t0) fun t31 => q P h (Instr.loadAt 92 t31) fun t32 => K t32 h) h) h) h
theorem F_slices_xorshift_Next {K : Value → Hp → Prop} {h : Hp} {t0 : Value} (s : s_slices_xorshift_Next K h t0) : Cn P 46 #[t0] h K :=
  Cn_ofs mixed Try.func46 (by kernel_rfl) (args := [t0]) (by kernel_rfl) s
/-- function 47: slices.medianAdjacentCmpFunc[*orlop.cache.item] -/
def s_slices_medianAdjacentCmpFunc_cache_item (K : Value → Hp → Prop) (h : Hp) (t0 t1 t2 t3 : Value) : Prop := q P h (binOp .sub 3 t1 (Value.int .i64 1)) fun t11 => q P h (binOp .add 3 t1 (Value.int .i64 1)) fun t14 => Cn P 48 #[t0, t11, t1, t14, t2, t3] h fun t17 h => K t17 h
theorem F_slices_medianAdjacentCmpFunc_cache_item {K : Value → Hp → Prop} {h : Hp} {t0 t1 t2 t3 : Value} (s : s_slices_medianAdjacentCmpFunc_cache_item K h t0 t1 t2 t3) : Cn P 47 #[t0, t1, t2, t3] h K :=
  Cn_ofs mixed Try.func47 (by kernel_rfl) (args := [t0, t1, t2, t3]) (by kernel_rfl) s
/-- function 48: slices.medianCmpFunc[*orlop.cache.item] -/
def s_slices_medianCmpFunc_cache_item (K : Value → Hp → Prop) (h : Hp) (t0 t1 t2 t3 t4 t5 : Value) : Prop := Cn P 49 #[t0, t1, t2, t4, t5] h fun t19 h => q P h (Instr.extract t19 0) fun t20 => q P h (Instr.extract t19 1) fun t21 => Cn P 49 #[t0, t21, t3, t4, t5] h fun t28 h => q P h (Instr.extract t28 0) fun t29 => q P h (Instr.extract t28 1) fun t30 => Cn P 49 #[t0, t20, t29, t4, t5] h fun t37 h => q P h (Instr.extract t37 0) fun t38 => q P h (Instr.extract t37 1) fun t39 => K t39 h
theorem F_slices_medianCmpFunc_cache_item {K : Value → Hp → Prop} {h : Hp} {t0 t1 t2 t3 t4 t5 : Value} (s : s_slices_medianCmpFunc_cache_item K h t0 t1 t2 t3 t4 t5) : Cn P 48 #[t0, t1, t2, t3, t4, t5] h K :=
  Cn_ofs mixed Try.func48 (by kernel_rfl) (args := [t0, t1, t2, t3, t4, t5]) (by kernel_rfl) s
/-- function 49: slices.order2CmpFunc[*orlop.cache.item] -/
def s_slices_order2CmpFunc_cache_item (K : Value → Hp → Prop) (h : Hp) (t0 t1 t2 t3 t4 : Value) : Prop := q P emp (Instr.indexAt 51 t0 t2) fun t15 => q P h (Instr.loadAt 55 t15) fun t16 => q P emp (Instr.indexAt 51 t0 t1) fun t19 => q P h (Instr.loadAt 55 t19) fun t20 => callP P t4 [t16, t20] h fun t21 h => q P emp (binOp .lss 3 t21 (Value.int .i64 0)) fun t22 => cnd t22 (q P h (nilCk t3) fun t24 => q P h (Instr.loadAt 3 t24) fun t25 => q P h (binOp .add 3 t25 (Value.int .i64 1)) fun t26 => q P h (nilCk t3) fun t27 => aw P (Instr.storeAt 3 t27 t26) (fun _ h => K (Value.tuple #[t2, t1]) h) h) (K (Value.tuple #[t1, t2]) h)
theorem F_slices_order2CmpFunc_cache_item {K : Value → Hp → Prop} {h : Hp} {t0 t1 t2 t3 t4 : Value} (s : s_slices_order2CmpFunc_cache_item K h t0 t1 t2 t3 t4) : Cn P 49 #[t0, t1, t2, t3, t4] h K :=
  Cn_ofs mixed Try.func49 (by kernel_rfl) (args := [t0, t1, t2, t3, t4]) (by kernel_rfl) s
/-- function 66: (orlop.cache.items).Len -/
def s_cache_items_Len (K : Value → Hp → Prop) (h : Hp) (t0 : Value) : Prop := q P h (Builtin.len_ #[52] 3 #[t0]) fun t4 => K t4 h
theorem F_cache_items_Len {K : Value → Hp → Prop} {h : Hp} {t0 : Value} (s : s_cache_items_Len K h t0) : Cn P 66 #[t0] h K :=
  Cn_ofs mixed Try.func66 (by kernel_rfl) (args := [t0]) (by kernel_rfl) s
/-- function 67: (orlop.cache.items).Less -/
def s_cache_items_Less (K : Value → Hp → Prop) (h : Hp) (t0 t1 t2 : Value) : Prop := q P emp (Instr.indexAt 52 t0 t1) fun t9 => q P h (Instr.loadAt 55 t9) fun t10 => q P emp (nilCk t10) fun t11 => q P h (Instr.fieldAt 57 t11 1) fun t12 => q P h (Instr.loadAt 3 t12) fun t13 => q P emp (Instr.indexAt 52 t0 t2) fun t16 => q P h (Instr.loadAt 55 t16) fun t17 => q P emp (nilCk t17) fun t18 => q P h (Instr.fieldAt 57 t18 1) fun t19 => q P h (Instr.loadAt 3 t19) fun t20 => q P emp (binOp .lss 3 t13 t20) fun t21 => K t21 h
theorem F_cache_items_Less {K : Value → Hp → Prop} {h : Hp} {t0 t1 t2 : Value} (s : s_cache_items_Less K h t0 t1 t2) : Cn P 67 #[t0, t1, t2] h K :=
  Cn_ofs mixed Try.func67 (by kernel_rfl) (args := [t0, t1, t2]) (by kernel_rfl) s
/-- function 68: (orlop.cache.items).Swap -/
def s_cache_items_Swap (K : Value → Hp → Prop) (h : Hp) (t0 t1 t2 : Value) : Prop := q P emp (Instr.indexAt 52 t0 t2) fun t12 => q P h (Instr.loadAt 55 t12) fun t13 => q P emp (Instr.indexAt 52 t0 t1) fun t16 => q P h (Instr.loadAt 55 t16) fun t17 => q P emp (Instr.indexAt 52 t0 t1) fun t18 => aw P (Instr.storeAt 55 t18 t13) (fun _ h => q P emp (Instr.indexAt 52 t0 t2) fun t19 => aw P (Instr.storeAt 55 t19 t17) (fun _ h => q P emp (Instr.indexAt 52 t0 t1) fun t22 => q P h (Instr.loadAt 55 t22) fun t23 => q P emp (Instr.indexAt 52 t0 t2) fun t26 => q P h (Instr.loadAt 55 t26) fun t27 => q P emp (nilCk t23) fun t30 => q P h (Instr.fieldAt 57 t30 2) fun t31 => aw P (Instr.storeAt 3 t31 t1) (fun _ h => q P emp (nilCk t27) fun t32 => q P h (Instr.fieldAt 57 t32 2) fun t33 => aw P (Instr.storeAt 3 t33 t2) (fun _ h => K (Value.tuple #[]) h) h) h) h) h
theorem F_cache_items_Swap {K : Value → Hp → Prop} {h : Hp} {t0 t1 t2 : Value} (s : s_cache_items_Swap K h t0 t1 t2) : Cn P 68 #[t0, t1, t2] h K :=
  Cn_ofs mixed Try.func68 (by kernel_rfl) (args := [t0, t1, t2]) (by kernel_rfl) s
/-- function 69: (*orlop.cache.items).Pop -/
def s_cache_items_Pop (K : Value → Hp → Prop) (h : Hp) (t0 : Value) : Prop := q P h (nilCk t0) fun t6 => q P h (Instr.loadAt 52 t6) fun t7 => q P h (Builtin.len_ #[52] 3 #[t7]) fun t8 => q P h (binOp .sub 3 t8 (Value.int .i64 1)) fun t9 => q P h (nilCk t0) fun t11 => q P h (Instr.loadAt 52 t11) fun t12 => q P h (Instr.indexAt 52 t12 t9) fun t14 => q P h (Instr.loadAt 55 t14) fun t15 => q P h (nilCk t0) fun t18 => q P h (Instr.loadAt 52 t18) fun t19 => q P h (Instr.sliceAt 52 t19 none (some t9) none) fun t21 => q P h (nilCk t0) fun t22 => aw P (Instr.storeAt 52 t22 t21) (fun _ h => q P h (Instr.makeInterface 55 t15) fun t24 => K t24 h) h
theorem F_cache_items_Pop {K : Value → Hp → Prop} {h : Hp} {t0 : Value} (s : s_cache_items_Pop K h t0) : Cn P 69 #[t0] h K :=
  Cn_ofs mixed Try.func69 (by kernel_rfl) (args := [t0]) (by kernel_rfl) s
/-- function 70: (*orlop.cache.items).Push -/
def s_cache_items_Push (K : Value → Hp → Prop) (h : Hp) (t0 t1 : Value) : Prop := q P h (Instr.typeAssert t1 20 55 true) fun t8 => q P h (Instr.extract t8 0) fun t9 => q P h (Instr.extract t8 1) fun t10 => cnd t10 (q P h (nilCk t0) fun t14 => q P h (Instr.loadAt 52 t14) fun t15 => q P h (Builtin.len_ #[52] 3 #[t15]) fun t16 => q P h (nilCk t9) fun t17 => q P h (Instr.fieldAt 57 t17 2) fun t18 => aw P (Instr.storeAt 3 t18 t16) (fun _ h => q P h (nilCk t0) fun t21 => q P h (Instr.loadAt 52 t21) fun t22 => aw P (Instr.buildSlice 52 1 #[(0, t9)]) (fun t24 h => aw P (Builtin.append_ #[52, 52] 52 #[t22, t24]) (fun t25 h => q P h (nilCk t0) fun t26 => aw P (Instr.storeAt 52 t26 t25) (fun _ h => K (Value.tuple #[]) h) h) h) h) h) (K (Value.tuple #[]) h)
theorem F_cache_items_Push {K : Value → Hp → Prop} {h : Hp} {t0 t1 : Value} (s : s_cache_items_Push K h t0 t1) : Cn P 70 #[t0, t1] h K :=
  Cn_ofs mixed Try.func70 (by kernel_rfl) (args := [t0, t1]) (by kernel_rfl) s
end Go.Proofs.Ytbglokdjlbknaaa
set_option linter.unusedSimpArgs false
set_option linter.unusedVariables false
namespace Go.SL
open Go
/-- All that is known stays known. -/
def Hp.ext (h h' : Hp) : Prop := ∀ b o, h b = some o → h' b = some o
theorem Hp.ext.refl (h : Hp) : Hp.ext h h := fun _ _ e => e
theorem Hp.ext.trans {a b c : Hp} (x : Hp.ext a b) (y : Hp.ext b c) : Hp.ext a c := fun i o e => y i o (x i o e)
theorem ext_set {h : Hp} {r : Nat} (o : AObj) (hr : h r = none) : Hp.ext h (h.set r o) := fun i x e => by
  have : i ≠ r := by rintro rfl; rw [hr] at e; cases e
  rw [Hp.set_ne _ _ this]; exact e
theorem Hp.ext.le {h h' : Hp} (x : Hp.ext h h') : Hp.le h h' := fun b o e => ⟨o, x b o e, .refl o⟩
theorem Hp.ext.cle {h h' : Hp} (x : Hp.ext h h') : Hp.cle h h' := fun a v e => by
  unfold Hp.cell at e ⊢
  split at e
  · cases e
  · rename_i hs
    rw [if_neg hs]
    cases hb : h a.block with
    | none => rw [hb] at e; cases e
    | some o => rw [x _ _ hb]; rw [hb] at e; exact e
theorem Hp.ext.none {h h' : Hp} (x : Hp.ext h h') {b : Nat} (e : h' b = none) : h b = none := by
  cases hb : h b with
  | none => rfl
  | some o => rw [x b o hb] at e; cases e
theorem New.ext {h : Hp} {e s : Nat} {v : Value} {h' : Hp} {xs : List Value} {n : Nat} (w : New h e s v h' xs n) : Hp.ext h h' := by
  rcases w.2 with ⟨_, _, rfl⟩ | ⟨b, c, f, hb, _, _, rfl, _⟩
  · exact .refl _
  · exact ext_set _ hb
theorem Nn.ext {h : Hp} {e : Nat} {k : IntKind} {v : Value} {h' : Hp} {l : List Nat} (w : Nn h e k v h' l) : Hp.ext h h' := New.ext w
theorem del_set (h : Hp) {b : Nat} {o : AObj} (e : h b = some o) : (h.del b).set b o = h := by
  funext i
  unfold Hp.set Hp.del
  by_cases hi : i = b
  · subst hi; simp [e]
  · simp [hi]
theorem del_at (h : Hp) (b : Nat) : (h.del b) b = none := by simp [Hp.del]
/-- A row of the call's own that stands somewhere, as a new one. -/
theorem New.at {h : Hp} {b : Nat} {e s n c : Nat} {xs : List Value} {f : Nat × Nat} (hb : h b = some (.row e xs (c * s) (some f))) (hl : xs.length = n * s) (hc : n ≤ c) (hf : ∀ i, i < c * s → ¬ (f.1 ≤ i ∧ i < f.2)) :
    New (h.del b) e s (.slice (some ⟨b, 0, none⟩) n c) h xs n := ⟨hl, .inr ⟨b, c, f, del_at h b, hc, rfl, (del_set h hb).symm, hf⟩⟩
section
variable {P : Program} {h : Hp}
/-! ### Methods -/
theorem awp_method {t : TypeId} {v : Value} {name : String} {args : Array Value} {K : Next → Hp → Prop} {g : FuncId} {r : Value}
    (hm : peek P h (method (P.types.size + Made.depth) t v name) = some (g, r)) (c : Callable P g) (k : K (.enter g (#[r] ++ args)) h) : awp P (callMethod (.iface t v) name args) K h := by
  show awp P (Sem.program fun p => Sem.bind (method (p.types.size + Made.depth) t v name) fun x => callFunc x.1 (#[x.2] ++ args)) K h
  show awp P (Sem.bind (method (P.types.size + Made.depth) t v name) fun x => callFunc x.1 (#[x.2] ++ args)) K h
  rw [awp_bind, peek_awp P _ _ _ hm, awp_call c]
  exact k
/-- A call of a method of an interface. -/
theorem aw_method {t : TypeId} {v : Value} {name : String} {args : Array Value} {K : Value → Hp → Prop} {g : FuncId} {r : Value}
    (hm : peek P h (method (P.types.size + Made.depth) t v name) = some (g, r)) (c : Cn P g (#[r] ++ args) h K) : aw P (callMethod (.iface t v) name args) (nextP P K) h :=
  awp_method hm c.1 ⟨h, .refl _, c⟩
/-! ### Maps whose keys are strings -/
/-- The entries, by their keys. -/
def mget (es : List MapEntry) (k : ByteArray) : Option (Nat × Value) :=
  match es with
  | [] => none
  | e :: es => match e.key with
    | .string s => if (k == s) = true then some (0, e.val) else (mget es k).map fun p => (p.1 + 1, p.2)
    | _ => none
def strKeys (es : List MapEntry) : Prop := ∀ e ∈ es, ∃ s, e.key = .string s
theorem findNow_str {es : List MapEntry} (hs : strKeys es) (k : ByteArray) : ∀ i, Instr.findNow .string (.string k) es i = some ((mget es k).map fun p => (p.1 + i, p.2)) := by
  induction es with
  | nil => intro i; rfl
  | cons e es ih =>
    intro i
    obtain ⟨s, he⟩ := hs e (List.mem_cons_self ..)
    have ih := ih (fun x hx => hs x (List.mem_cons_of_mem _ hx)) (i + 1)
    simp only [Instr.findNow, Instr.sameNow, he, mget]
    cases hk : (k == s)
    · simp only [Bool.false_eq_true, if_false, ih, Option.map_map]
      congr 2
      funext p
      simp only [Function.comp]
      congr 1
      omega
    · simp
theorem pk_findKey {t : TypeId} (ht : P.underlying t = some .string) {es : List MapEntry} (hs : strKeys es) (k : ByteArray) : peek P h (Instr.findKey t (.string k) es) = some (mget es k) := by
  show peek P h (Sem.bind (underlying t) _) = _
  rw [peek_bind, pk_und ht, Option.bind_some, findNow_str hs k 0]
  show some ((mget es k).map fun p => (p.1 + 0, p.2)) = _
  congr 1
  cases mget es k <;> rfl
theorem pk_checkKey {t : TypeId} (ht : P.underlying t = some .string) (b : Bool) (k : ByteArray) : peek P h (Instr.checkKey b 10000 t (.string k)) = some () := by
  show peek P h (Sem.bind (underlying t) _) = _
  rw [peek_bind, pk_und ht, Option.bind_some]
  rfl
theorem q_lookup {t kt e : TypeId} {r c : Nat} {es : Array MapEntry} {z : Value} {K : Value → Prop} (ht : P.underlying t = some (.map kt e)) (hk : P.underlying kt = some .string) (hz : zr P e = some z) (hr : h r = some (.obj (.map es c))) (hs : strKeys es.toList) (k : ByteArray) :
    q P h (Instr.lookup t (.map (some r)) (.string k) true) K = K (.tuple #[((mget es.toList k).map (·.2)).getD z, .bool (mget es.toList k).isSome]) := q_of (by
  show peek P h (Sem.bind (underlying t) _) = _
  rw [peek_bind, pk_und ht, Option.bind_some]
  show peek P h (Sem.bind (getObj r) _) = _
  have : peek P h (getObj r) = some (.map es c) := by
    unfold getObj
    simp only [peek, hr]
  rw [peek_bind, this, Option.bind_some]
  show peek P h (Sem.bind (Instr.checkKey es.isEmpty 10000 kt (.string k)) _) = _
  rw [peek_bind, pk_checkKey hk, Option.bind_some]
  show peek P h (Sem.bind (Instr.findKey kt (.string k) es.toList) _) = _
  rw [peek_bind, pk_findKey hk hs, Option.bind_some]
  cases mget es.toList k with
  | none =>
    show peek P h (Sem.bind (zeroValue e) _) = _
    rw [peek_bind, pk_zero hz]
    rfl
  | some p => rfl) K
/-- A key that isn't there yet is put. -/
theorem aw_mapNew {t kt e : TypeId} {r c : Nat} {es : Array MapEntry} {K : Unit → Hp → Prop} (ht : P.underlying t = some (.map kt e)) (hk : P.underlying kt = some .string) (hr : h r = some (.obj (.map es c))) (hs : strKeys es.toList) (k : ByteArray) (v : Value)
    (hn : mget es.toList k = none) (kk : K () (h.set r (.obj (.map (es.push ⟨.string k, v, c⟩) (c + 1))))) : aw P (Instr.mapUpdate t (.map (some r)) (.string k) v) K h := by
  refine aw_of ?_
  show awp P (Sem.bind (underlying t) _) K h
  rw [awp_bind, peek_awp P _ _ _ (pk_und ht)]
  show awp P (Sem.bind (getObj r) _) K h
  have hg : peek P h (getObj r) = some (.map es c) := by
    unfold getObj
    simp only [peek, hr]
  rw [awp_bind, peek_awp P _ _ _ hg]
  show awp P (Sem.bind (Instr.checkKey false 10000 kt (.string k)) _) K h
  rw [awp_bind, peek_awp P _ _ _ (pk_checkKey hk false k)]
  show awp P (Sem.bind (Instr.findKey kt (.string k) es.toList) _) K h
  rw [awp_bind, peek_awp P _ _ _ (pk_findKey hk hs k), hn]
  show awp P (setObj r (.map (es.push ⟨.string k, v, c⟩) (c + 1))) K h
  show (match h r with | some (.obj _) => isCells _ = false ∧ awp P (.pure ()) K _ | _ => False)
  rw [hr]
  exact ⟨rfl, kk⟩
theorem aw_makeMap {t : TypeId} {K : Value → Hp → Prop} (k : ∀ r, h r = none → K (.map (some r)) (h.set r (.obj (.map #[] 0)))) : aw P (Instr.makeMap t none) K h := by
  refine aw_of ?_
  show awp P (Sem.bind (newObj (.map #[] 0)) fun r => Sem.pure (.map (some r))) K h
  rw [awp_bind]
  exact fun r hr => k r hr
theorem mget_push {es : Array MapEntry} (hs : strKeys es.toList) (k k' : ByteArray) (v : Value) (c : Nat) :
    mget (es.push ⟨.string k, v, c⟩).toList k' = (mget es.toList k').or (if (k' == k) = true then some (es.size, v) else none) := by
  have : ∀ l : List MapEntry, strKeys l → mget (l ++ [⟨.string k, v, c⟩]) k' = (mget l k').or (if (k' == k) = true then some (l.length, v) else none) := by
    intro l
    induction l with
    | nil => intro _; simp only [List.nil_append, mget]; split <;> rfl
    | cons e l ih =>
      intro hl
      obtain ⟨s, he⟩ := hl e (List.mem_cons_self ..)
      have ih := ih fun x hx => hl x (List.mem_cons_of_mem _ hx)
      simp only [List.cons_append, mget, he]
      split
      · rfl
      · rw [ih]
        cases mget l k' with
        | none => simp only [Option.none_or, Option.map_none]; split <;> rfl
        | some p => rfl
  simpa using this es.toList hs
theorem strKeys_push {es : Array MapEntry} (hs : strKeys es.toList) (k : ByteArray) (v : Value) (c : Nat) : strKeys (es.push ⟨.string k, v, c⟩).toList := by
  intro e he
  rw [Array.toList_push, List.mem_append, List.mem_singleton] at he
  rcases he with he | rfl
  · exact hs e he
  · exact ⟨k, rfl⟩
/-! ### Copies -/
/-! ### Slices of structs -/
/-- A slice's literal of one struct. -/
theorem aw_litA {t e s : Nat} {z : Value} {ys : List Value} {K : Value → Hp → Prop} (ht : P.underlying t = some (.slice e)) (hs : sz P e = some s) (hzr : zr P e = some z) (hz : z.cells.size = s) (hy : ys.length = s) (h0 : 0 < s) (hn : s ≤ 1000)
    (k : ∀ v h', New h e s v h' ys 1 → K v h') : aw P (Instr.buildSlice t 1 #[(0, .agg ys.toArray)]) K h := by
  refine aw_of ?_
  show awp P (Sem.bind (underlying t) _) _ h
  rw [awp_bind, peek_awp P _ _ _ (pk_und ht)]
  show awp P (Sem.bind (sizeOf e) _) _ h
  rw [awp_bind, peek_awp P _ _ _ (pk_size hs)]
  show awp P (if 1 * s > 2 ^ 24 then _ else _) _ h
  rw [if_neg (by omega)]
  show awp P (if 1 * s = 0 then _ else _) _ h
  rw [if_neg (by omega)]
  show awp P (Sem.bind (zeroValue e) _) _ h
  rw [awp_bind, peek_awp P _ _ _ (pk_zero hzr)]
  have hfill : Instr.fill (fun i => some (i * s, s)) ((Array.range (1 * s)).map (fun x => z.cells[x % z.cells.size]!)) [(0, .agg ys.toArray)] = some ys.toArray := by
    simp only [Instr.fill, Value.cells, List.size_toArray, hy, Nat.zero_mul, Nat.zero_add, Array.size_map, Array.size_range, Nat.one_mul]
    rw [if_neg (by simp)]
    congr 1
    have key : ∀ (l : List Value) (j : Nat) (cs : Array Value), j + l.length ≤ cs.size → (l.zipIdx j).foldl (fun cs (p : Value × Nat) => cs.setIfInBounds p.2 p.1) cs = (cs.toList.take j ++ l ++ cs.toList.drop (j + l.length)).toArray := by
      intro l
      induction l with
      | nil => intro j cs _; simp
      | cons y l ih =>
        intro j cs hj
        simp only [List.length_cons] at hj
        rw [List.zipIdx_cons, List.foldl_cons, ih (j + 1) _ (by simp; omega)]
        congr 1
        simp only [Array.toList_setIfInBounds]
        rw [List.take_succ_eq_append_getElem (by rw [List.length_set, Array.length_toList]; omega), List.getElem_set_self, List.take_set_of_le (Nat.le_refl _), List.drop_set_of_lt (by omega)]
        simp only [List.append_assoc, List.singleton_append, List.cons_append, List.nil_append, List.length_cons]
        rw [show j + 1 + l.length = j + (l.length + 1) by omega]
    have := key ys 0 ((Array.range s).map (fun x => z.cells[x % z.cells.size]!)) (by simp [hy])
    have e1 : ys.toArray.zipIdx.foldl (fun cs (p : Value × Nat) => cs.setIfInBounds p.2 p.1) ((Array.range s).map (fun x => z.cells[x % z.cells.size]!)) = (ys.zipIdx 0).foldl (fun cs (p : Value × Nat) => cs.setIfInBounds p.2 p.1) ((Array.range s).map (fun x => z.cells[x % z.cells.size]!)) := by
      simp
    refine e1.trans (this.trans ?_)
    rw [List.take_zero, List.nil_append, Nat.zero_add, List.drop_of_length_le (by simp [hy]), List.append_nil]
  show awp P (match Instr.fill (fun i => some (i * s, s)) ((Array.range (1 * s)).map (fun x => z.cells[x % z.cells.size]!)) [(0, .agg ys.toArray)] with
      | some cells => Sem.bind (newRow e cells) fun a => Sem.pure (.slice (some a) 1 1)
      | _ => stuck "buildSlice: a part of the wrong size") K h
  rw [hfill]
  show awp P (Sem.bind (newRow e _) _) K h
  rw [awp_bind]
  intro r hr
  refine k _ _ ⟨by rw [Nat.one_mul]; exact hy, .inr ⟨r, 1, (0, 0), hr, Nat.le_refl _, rfl, ?_, fun i _ => by simp⟩⟩
  simp [absOf, hy]
end
end Go.SL
set_option linter.unusedSimpArgs false
set_option linter.unusedVariables false
namespace Go.SL
open Go
/-- Shapes: numbers, truths, texts, slices, structs (parts in a row), arrays. -/
inductive Ty where
  | int (k : IntKind)
  | bool
  | str
  | sl (e : Ty)
  | arr (n : Nat) (e : Ty)
  | rcd (fs : Ty)
  | nil
  | cons (a b : Ty)
def Ty.size : Ty → Nat
  | .int _ => 1
  | .bool => 1
  | .str => 1
  | .sl _ => 1
  | .arr n e => n * e.size
  | .rcd fs => fs.size
  | .nil => 0
  | .cons a b => a.size + b.size
/-- Rows of cells, one behind the other, behind a slice. -/
def SlAt (R : Hp) (s : Nat) (v : Value) (items : List (List Value)) : Prop :=
  ∃ a c, v = .slice a items.length c ∧ items.length ≤ c ∧ (items = [] ∨ ∃ b o, a = some ⟨b, o, none⟩ ∧ ∀ (i : Nat) (x : List Value), items[i]? = some x → ∀ (j : Nat) (y : Value), x[j]? = some y → R.cell ⟨b, o + i * s + j, none⟩ = some y)
theorem SlAt.mono {R R' : Hp} {s : Nat} {v : Value} {items : List (List Value)} (a : SlAt R s v items) (c : Hp.cle R R') : SlAt R' s v items := by
  obtain ⟨x, n, h1, h2, h3⟩ := a
  refine ⟨x, n, h1, h2, ?_⟩
  rcases h3 with h3 | ⟨b, o, h4, h5⟩
  · exact .inl h3
  · exact .inr ⟨b, o, h4, fun i x e j y ey => c _ _ (h5 i x e j y ey)⟩
theorem SlAt.shape {R : Hp} {s : Nat} {v : Value} {items : List (List Value)} (a : SlAt R s v items) : ∃ x c, v = .slice x items.length c ∧ items.length ≤ c := let ⟨x, c, e, hc, _⟩ := a; ⟨x, c, e, hc⟩
/-- Cells that are a thing of that shape. -/
def Ty.Rd (R : Hp) : Ty → List Value → Prop
  | .int k, vs => ∃ n, vs = [.int k n] ∧ (Lit.int k n).wf = true
  | .bool, vs => ∃ b, vs = [.bool b]
  | .str, vs => ∃ s : ByteArray, vs = [.string s] ∧ s.size ≤ 9223372036854775807
  | .sl e, vs => ∃ (v : Value) (items : List (List Value)), vs = [v] ∧ SlAt R e.size v items ∧ items.length ≤ 9223372036854775807 ∧ ∀ x ∈ items, x.length = e.size ∧ e.Rd R x
  | .arr n e, vs => ∃ items : List (List Value), vs = items.flatten ∧ items.length = n ∧ ∀ x ∈ items, x.length = e.size ∧ e.Rd R x
  | .rcd fs, vs => fs.Rd R vs
  | .nil, vs => vs = []
  | .cons a b, vs => ∃ x y, vs = x ++ y ∧ x.length = a.size ∧ a.Rd R x ∧ b.Rd R y
theorem Ty.Rd.mono {R R' : Hp} (c : Hp.cle R R') : ∀ {ty : Ty} {vs : List Value}, ty.Rd R vs → ty.Rd R' vs
  | .int _, _, h => h
  | .bool, _, h => h
  | .str, _, h => h
  | .sl _, _, ⟨v, items, e, a, hl, h⟩ => ⟨v, items, e, a.mono c, hl, fun x hx => ⟨(h x hx).1, Ty.Rd.mono c (h x hx).2⟩⟩
  | .arr _ _, _, ⟨items, e, l, h⟩ => ⟨items, e, l, fun x hx => ⟨(h x hx).1, Ty.Rd.mono c (h x hx).2⟩⟩
  | .rcd fs, _, h => Ty.Rd.mono (ty := fs) c h
  | .nil, _, h => h
  | .cons _ _, _, ⟨x, y, e, l, h1, h2⟩ => ⟨x, y, e, l, Ty.Rd.mono c h1, Ty.Rd.mono c h2⟩
theorem flatten_len {s : Nat} : ∀ {items : List (List Value)}, (∀ x ∈ items, x.length = s) → items.flatten.length = items.length * s
  | [], _ => by simp
  | x :: l, h => by
    rw [List.flatten_cons, List.length_append, flatten_len fun y hy => h y (List.mem_cons_of_mem _ hy), h x (by simp), List.length_cons, Nat.succ_mul, Nat.add_comm]
theorem Ty.Rd.len {R : Hp} : ∀ {ty : Ty} {vs : List Value}, ty.Rd R vs → vs.length = ty.size
  | .int _, _, ⟨_, e, _⟩ => by rw [e]; rfl
  | .bool, _, ⟨_, e⟩ => by rw [e]; rfl
  | .str, _, ⟨_, e, _⟩ => by rw [e]; rfl
  | .sl _, _, ⟨_, _, e, _⟩ => by rw [e]; rfl
  | .arr n e, _, ⟨items, h1, h2, h3⟩ => by rw [h1, flatten_len fun x hx => (h3 x hx).1, h2]; rfl
  | .rcd fs, _, h => Ty.Rd.len (ty := fs) h
  | .nil, _, h => by rw [show _ = [] from h]; rfl
  | .cons a b, _, ⟨x, y, e, l, _, h2⟩ => by rw [e, List.length_append, l, Ty.Rd.len h2]; rfl
theorem Ty.Rd.flat {R : Hp} : ∀ {ty : Ty} {vs : List Value}, ty.Rd R vs → ∀ y ∈ vs, SL.flat y = true
  | .int _, _, ⟨_, e, _⟩, y, hy => by rw [e, List.mem_singleton] at hy; rw [hy]; rfl
  | .bool, _, ⟨_, e⟩, y, hy => by rw [e, List.mem_singleton] at hy; rw [hy]; rfl
  | .str, _, ⟨_, e, _⟩, y, hy => by rw [e, List.mem_singleton] at hy; rw [hy]; rfl
  | .sl _, _, ⟨_, _, e, a, _⟩, y, hy => by obtain ⟨_, _, ev, _⟩ := a; rw [e, List.mem_singleton] at hy; rw [hy, ev]; rfl
  | .arr n e, _, ⟨items, h1, h2, h3⟩, y, hy => by
    rw [h1] at hy
    obtain ⟨x, hx, hy⟩ := List.mem_flatten.1 hy
    exact Ty.Rd.flat (h3 x hx).2 y hy
  | .rcd fs, _, h, y, hy => Ty.Rd.flat (ty := fs) h y hy
  | .nil, _, h, y, hy => by rw [show _ = [] from h] at hy; cases hy
  | .cons a b, _, ⟨x, z, e, l, h1, h2⟩, y, hy => by
    rw [e] at hy
    rcases List.mem_append.1 hy with q | q
    · exact Ty.Rd.flat h1 y q
    · exact Ty.Rd.flat h2 y q
/-- Does a type of the program have a shape? Of a struct's parts: from a place on. -/
def tyB (P : Program) : Ty → TypeId ⊕ (Nat × List Field) → Bool
  | .int k, .inl t => match P.underlying t with
    | some (.int k') => k' == k
    | _ => false
  | .bool, .inl t => match P.underlying t with
    | some .bool => true
    | _ => false
  | .str, .inl t => match P.underlying t with
    | some .string => true
    | _ => false
  | .sl e, .inl t => match P.underlying t with
    | some (.slice te) => P.cellsOf te == e.size && decide (0 < e.size) && tyB P e (.inl te)
    | _ => false
  | .arr n e, .inl t => match P.underlying t with
    | some (.array m te) => m == n && P.cellsOf te == e.size && P.cellsOf t == n * e.size && tyB P e (.inl te)
    | _ => false
  | .rcd fs, .inl t => match P.underlying t with
    | some (.struct fa) => P.cellsOf t == fs.size && tyB P fs (.inr (0, fa.toList))
    | _ => false
  | .nil, .inr (_, l) => l.isEmpty
  | .cons a b, .inr (o, l) => match l with
    | f :: l => f.offset == o && P.cellsOf f.type == a.size && tyB P a (.inl f.type) && tyB P b (.inr (o + a.size, l))
    | [] => false
  | _, _ => false
/-- Bytes. -/
abbrev Ty.bytes : Ty := .sl (.int .u8)
/-- A struct's first part, and the others. -/
theorem Ty.Rd.one {R : Hp} {a b : Ty} {vs : List Value} (h1 : a.size = 1) (h : (Ty.cons a b).Rd R vs) : ∃ v rest, vs = v :: rest ∧ a.Rd R [v] ∧ b.Rd R rest := by
  obtain ⟨x, y, rfl, l, ha, hb⟩ := h
  rw [h1] at l
  match x, l with
  | [v], _ => exact ⟨v, y, rfl, ha, hb⟩
section
variable {P : Program} {h : Hp}
/-- A thing out of a row is copied into a row of its own. -/
theorem aw_itemAt {R : Hp} {t e s : Nat} {v : Value} {items : List (List Value)} {i : Nat} {x zs : List Value} {d : TypeDesc} {F : Value → Hp → Prop} (ht : P.underlying t = some (.slice e)) (hs : sz P e = some s) (hd : P.underlying e = some d) (hg : aggB d = true)
    (hz : zr P e = some (.agg zs.toArray)) (lz : zs.length = s) (A : SlAt R s v items) (c : Hp.cle R h) (hi : items[i]? = some x) (lx : x.length = s) (fx : ∀ y ∈ x, flat y = true)
    (k : ∀ r, h r = none → F (.pointer (some ⟨r, 0, none⟩)) (h.set r (.row e x s (some (0, 0))))) :
    q P h (Instr.indexAt t v (.int .i64 (i : Int))) fun t31 => q P h (Instr.loadAt e t31) fun t32 => aw P (Instr.alloc e true (.tuple #[])) (fun t8 h => aw P (Instr.storeAt e t8 t32) (fun _ h => F t8 h) h) h := by
  obtain ⟨a, cc, rfl, hc, hA⟩ := A
  have hlt : i < items.length := (List.getElem?_eq_some_iff.1 hi).1
  rcases hA with h0 | ⟨b, o, rfl, hcl⟩
  · rw [h0] at hlt; cases hlt
  rw [q_idxS ht hs ⟨b, o, none⟩ items.length cc .i64 i (by omega) (by omega), Int.toNat_natCast, add_off]
  rw [q_ldAgg (ys := x) hd hg (by rw [lx]; exact hs) (b := b) (o := o + i * s) (fun j y e => c _ _ (hcl i x hi j y e))]
  refine aw_allocL zs hz rfl fun r hr => ?_
  refine aw_storeRow (ys := x) (by rw [lx]; exact hs) (Hp.set_same ..) (by rw [lz, lx]) fx (fun i _ => by simp) ?_
  rw [Hp.set_set, lz]
  exact k r hr
end
end Go.SL
set_option linter.unusedSimpArgs false
set_option linter.unusedVariables false
set_option maxRecDepth 100000
set_option maxHeartbeats 1000000
namespace Go.SL
open Go
section
variable {P : Program}
theorem lt_dec (i n : Nat) : decide ((i : Int) < (n : Int)) = decide (i < n) := by
  rw [decide_eq_decide]; omega
theorem ext0 {h : Hp} {K : Value → Prop} (a b : Value) : q P h (Instr.extract (.tuple #[a, b]) 0) K = K a := q_ext #[a, b] 0 a rfl
theorem ext1 {h : Hp} {K : Value → Prop} (a b : Value) : q P h (Instr.extract (.tuple #[a, b]) 1) K = K b := q_ext #[a, b] 1 b rfl
theorem ne_dec (a n : Nat) : (((a : Nat) : Int) != ((n : Nat) : Int)) = decide (a ≠ n) := by
  rw [Bool.eq_iff_iff, bne_iff_ne, decide_eq_true_eq]; omega
/-- What is to be read (R) is known, what is owned (S) is known and not among it. -/
structure Own (R h : Hp) (S : List Nat) : Prop where
  sub : Hp.ext R h
  dis : ∀ b, b ∈ S → R b = none
  kn : ∀ b, b ∈ S → ∃ o, h b = some o
/-- A step: what is to be read (R) grows, what is owned (S) changes, all else that is known (h) stays. -/
structure Stp (R h R' h' : Hp) (S S' : List Nat) : Prop where
  ext : Hp.ext R R'
  keep : ∀ b o, b ∉ S → h b = some o → h' b = some o
  frS : ∀ b o, b ∉ S → h b = some o → b ∉ S'
  frR : ∀ b o, b ∉ S → h b = some o → R b = none → R' b = none
  own : Own R' h' S'
theorem Stp.refl {R h : Hp} {S : List Nat} (w : Own R h S) : Stp R h R h S S := ⟨.refl _, fun _ _ _ e => e, fun _ _ n _ => n, fun _ _ _ _ e => e, w⟩
theorem Stp.trans {R h R1 h1 R2 h2 : Hp} {S S1 S2 : List Nat} (a : Stp R h R1 h1 S S1) (b : Stp R1 h1 R2 h2 S1 S2) : Stp R h R2 h2 S S2 where
  ext := a.ext.trans b.ext
  own := b.own
  keep := fun x o n e => b.keep x o (a.frS x o n e) (a.keep x o n e)
  frS := fun x o n e => b.frS x o (a.frS x o n e) (a.keep x o n e)
  frR := fun x o n e r => b.frR x o (a.frS x o n e) (a.keep x o n e) (a.frR x o n e r)
/-- What is owned beside stays so. -/
theorem Stp.frame {R h R' h' : Hp} {S S' S2 : List Nat} (a : Stp R h R' h' S S') (w : Own R h S2) (n : ∀ b, b ∈ S2 → b ∉ S) : Own R' h' S2 ∧ (∀ b, b ∈ S2 → b ∉ S') ∧ ∀ b, b ∈ S2 → h' b = h b := by
  refine ⟨⟨a.own.sub, fun b hb => ?_, fun b hb => ?_⟩, fun b hb => ?_, fun b hb => ?_⟩ <;> obtain ⟨o, e⟩ := w.kn b hb
  · exact a.frR b o (n b hb) e (w.dis b hb)
  · exact ⟨o, a.keep b o (n b hb) e⟩
  · exact a.frS b o (n b hb) e
  · rw [e]; exact a.keep b o (n b hb) e
/-- A step, with what is owned beside. -/
theorem Stp.wide {R h R' h' : Hp} {S S' S2 : List Nat} (a : Stp R h R' h' S S') (w : Own R h S2) (n : ∀ b, b ∈ S2 → b ∉ S) : Stp R h R' h' (S ++ S2) (S' ++ S2) where
  ext := a.ext
  keep := fun b o hn e => a.keep b o (fun q => hn (List.mem_append_left _ q)) e
  frS := fun b o hn e q => (List.mem_append.1 q).elim (a.frS b o (fun q => hn (List.mem_append_left _ q)) e) (fun q => hn (List.mem_append_right _ q))
  frR := fun b o hn e r => a.frR b o (fun q => hn (List.mem_append_left _ q)) e r
  own := by
    obtain ⟨w2, _, _⟩ := a.frame w n
    exact ⟨w2.sub, fun b hb => (List.mem_append.1 hb).elim (a.own.dis b) (w2.dis b), fun b hb => (List.mem_append.1 hb).elim (a.own.kn b) (w2.kn b)⟩
theorem Own.nil {R h : Hp} {S : List Nat} (w : Own R h S) : Own R h [] := ⟨w.sub, fun b hb => (by cases hb), fun b hb => (by cases hb)⟩
/-- A step that only makes what is to be read: a block. -/
theorem Stp.block {R h : Hp} {S : List Nat} {r : Nat} (o : AObj) (w : Own R h S) (hr : h r = none) : Stp R h (R.set r o) (h.set r o) S S := by
  have hRb : R r = none := w.sub.none hr
  refine ⟨ext_set _ hRb, fun x o' hn e => ?_, fun x o' hn e => hn, fun x o' hn e r' => ?_, ⟨fun x o' e => ?_, fun x hx => ?_, fun x hx => ?_⟩⟩
  · rw [Hp.set_ne _ _ (by rintro rfl; rw [hr] at e; cases e)]; exact e
  · rw [Hp.set_ne _ _ (by rintro rfl; rw [hr] at e; cases e)]; exact r'
  · by_cases q : x = r
    · subst q; rw [Hp.set_same] at e ⊢; exact e
    · rw [Hp.set_ne _ _ q] at e ⊢; exact w.sub x o' e
  · rw [Hp.set_ne _ _ (by rintro rfl; obtain ⟨o2, e⟩ := w.kn x hx; rw [hr] at e; cases e)]; exact w.dis x hx
  · obtain ⟨o2, e⟩ := w.kn x hx
    exact ⟨o2, by rw [Hp.set_ne _ _ (by rintro rfl; rw [hr] at e; cases e)]; exact e⟩
/-- A new row, to be read. -/
theorem Stp.new {R h : Hp} {S : List Nat} {t s n : Nat} {v : Value} {h' : Hp} {xs : List Value} (w : Own R h S) (nw : New h t s v h' xs n) : ∃ R', Stp R h R' h' S S ∧ Rds R' s v xs n := by
  rcases nw.2 with ⟨rfl, rfl, rfl⟩ | ⟨b, c, f, hb, hc, rfl, rfl, hf⟩
  · exact ⟨R, .refl w, nw.1, none, 0, rfl, Nat.le_refl _, .inl rfl⟩
  · exact ⟨_, Stp.block _ w hb, nw.1, _, c, rfl, hc, .inr ⟨b, 0, rfl, fun i x e => by rw [cell_row (Hp.set_same ..), Nat.zero_add]; exact e⟩⟩
theorem Own.rn {R h : Hp} {S : List Nat} {k : IntKind} {v : Value} {l : List Nat} (w : Own R h S) (r : Rn R k v l) : Rn h k v l := r.mono w.sub.cle
/-- A row of the call's own that may be appended to, or nil; the block that it lies in. -/
def OutAt (t s : Nat) (h : Hp) (v : Value) (xs : List Value) (n : Nat) (So : List Nat) : Prop :=
  (v = .slice none 0 0 ∧ n = 0 ∧ xs = [] ∧ So = []) ∨
  ∃ b c f, h b = some (.row t xs (c * s) (some f)) ∧ v = .slice (some ⟨b, 0, none⟩) n c ∧ n ≤ c ∧ (∀ i, i < c * s → ¬ (f.1 ≤ i ∧ i < f.2)) ∧ So = [b] ∧ xs.length = n * s
theorem OutAt.of {t s : Nat} {h h' : Hp} {v : Value} {xs : List Value} {n : Nat} (w : New h t s v h' xs n) : ∃ So, OutAt t s h' v xs n So ∧ (∀ x, x ∈ So → h x = none) := by
  rcases w.2 with ⟨rfl, rfl, rfl⟩ | ⟨b, c, f, hb, hc, rfl, rfl, hf⟩
  · exact ⟨[], .inl ⟨rfl, rfl, List.eq_nil_of_length_eq_zero (by have := w.1; omega), rfl⟩, fun x hx => by cases hx⟩
  · exact ⟨[b], .inr ⟨b, c, f, Hp.set_same .., rfl, hc, hf, rfl, w.1⟩, fun x hx => by rw [List.mem_singleton.1 hx]; exact hb⟩
theorem OutAt.new {t s : Nat} {h : Hp} {v : Value} {xs : List Value} {n : Nat} {So : List Nat} (a : OutAt t s h v xs n So) : ∃ X, New X t s v h xs n ∧ (∀ x, x ∉ So → X x = h x) ∧ (∀ x, x ∈ So → X x = none) := by
  rcases a with ⟨rfl, rfl, rfl, rfl⟩ | ⟨b, c, f, hb, rfl, hc, hf, rfl, hl⟩
  · exact ⟨h, ⟨by simp, .inl ⟨rfl, rfl, rfl⟩⟩, fun _ _ => rfl, fun x hx => by cases hx⟩
  · refine ⟨h.del b, New.at hb hl hc hf, fun x hx => Hp.del_ne _ (by simpa using hx), fun x hx => by rw [List.mem_singleton.1 hx]; exact del_at _ _⟩
theorem OutAt.keep {t s : Nat} {h h' : Hp} {v : Value} {xs : List Value} {n : Nat} {So : List Nat} (a : OutAt t s h v xs n So) (k : ∀ x, x ∈ So → h' x = h x) : OutAt t s h' v xs n So := by
  rcases a with a | ⟨b, c, f, hb, hv, hc, hf, hS, hl⟩
  · exact .inl a
  · exact .inr ⟨b, c, f, by rw [k b (by simp [hS])]; exact hb, hv, hc, hf, hS, hl⟩
theorem OutAt.rds {t s : Nat} {h : Hp} {v : Value} {xs : List Value} {n : Nat} {So : List Nat} (a : OutAt t s h v xs n So) : Rds h s v xs n := by
  obtain ⟨X, w, _⟩ := a.new
  exact w.rds
theorem aw_appendO {t2 T ts e e2 s B n m : Nat} {h : Hp} {v w : Value} {xs ys : List Value} {z : Value} {So : List Nat} {K : Value → Hp → Prop}
    (ht : P.underlying ts = some (.slice e)) (ht2 : P.underlying t2 = some (.slice e2)) (hi : (P.info? e).map (fun i => (i.zero, i.size, i.bytes)) = some (some z, s, B)) (hzs : z.cells.size = s) (hB1 : 1 ≤ B) (ho : OutAt e s h v xs n So) (hr : Rds h s w ys m) (hfl : ∀ y ∈ ys, flat y = true)
    (hB : (2 * (n + m) + 768) * B ≤ 2 ^ 48)
    (k : ∀ v' h' So', OutAt e s h' v' (xs ++ ys) (n + m) So' → (∀ x o, x ∉ So → h x = some o → h' x = some o) → (∀ x o, x ∉ So → h x = some o → x ∉ So') → K v' h') : aw P (Builtin.append_ #[ts, t2] T #[v, w]) K h := by
  obtain ⟨X, nX, X1, X2⟩ := ho.new
  refine aw_append ht ht2 hi hzs hB1 nX hr hfl hB (.refl _) fun v' h' n' => ?_
  obtain ⟨So', o', f'⟩ := OutAt.of n'
  refine k v' h' So' o' (fun x o hx e => ?_) (fun x o hx e q => ?_)
  · exact n'.ext _ _ (by rw [X1 x hx]; exact e)
  · have := f' x q
    rw [X1 x hx, e] at this
    cases this
/-- A step that only makes blocks that nobody asks for. -/
theorem Stp.ext0 {R h : Hp} {S : List Nat} {h' : Hp} (w : Own R h S) (x : Hp.ext h h') : Stp R h R h' S S :=
  ⟨.refl _, fun y oy _ ey => x y oy ey, fun y oy n _ => n, fun y oy _ _ r => r, ⟨fun y oy ey => x y oy (w.sub y oy ey), w.dis, fun y hy => let ⟨oy, ey⟩ := w.kn y hy; ⟨oy, x y oy ey⟩⟩⟩
theorem Own.sub' {R h : Hp} {S T : List Nat} (w : Own R h S) (m : ∀ x, x ∈ T → x ∈ S) : Own R h T := ⟨w.sub, fun b hb => w.dis b (m b hb), fun b hb => w.kn b (m b hb)⟩
theorem Own.app {R h : Hp} {S T : List Nat} (w : Own R h S) (v : Own R h T) : Own R h (S ++ T) := ⟨w.sub, fun b hb => (List.mem_append.1 hb).elim (w.dis b) (v.dis b), fun b hb => (List.mem_append.1 hb).elim (w.kn b) (v.kn b)⟩
theorem Stp.perm {R h R' h' : Hp} {S S' T T' : List Nat} (a : Stp R h R' h' S S') (m : ∀ x, x ∈ S ↔ x ∈ T) (m' : ∀ x, x ∈ S' ↔ x ∈ T') : Stp R h R' h' T T' :=
  ⟨a.ext, fun b o n e => a.keep b o (fun q => n ((m b).1 q)) e, fun b o n e q => a.frS b o (fun q => n ((m b).1 q)) e ((m' b).2 q), fun b o n e r => a.frR b o (fun q => n ((m b).1 q)) e r, a.own.sub' fun x hx => (m' x).2 hx⟩
/-- Less is owned behind a step. -/
theorem Stp.drop {R h R' h' : Hp} {S S' T' : List Nat} (a : Stp R h R' h' S S') (m : ∀ x, x ∈ T' → x ∈ S') : Stp R h R' h' S T' :=
  ⟨a.ext, a.keep, fun b o n e q => a.frS b o n e (m b q), a.frR, a.own.sub' m⟩
/-- A row that was owned is to be read from now on. -/
theorem Stp.fix {R h R' h' : Hp} {S S' T' : List Nat} {b : Nat} {o : AObj} (a : Stp R h R' h' S S') (hb : b ∈ S') (e : h' b = some o) (m : ∀ x, x ∈ T' → x ∈ S' ∧ x ≠ b) : Stp R h (R'.set b o) h' S T' := by
  have hR := a.own.dis b hb
  refine ⟨a.ext.trans (ext_set _ hR), a.keep, fun x ox n e q => a.frS x ox n e (m x q).1, fun x ox n ex r => ?_, ⟨fun x ox ex => ?_, fun x hx => ?_, fun x hx => a.own.kn x (m x hx).1⟩⟩
  · have := a.frS x ox n ex
    rw [Hp.set_ne _ _ (by rintro rfl; exact this hb)]
    exact a.frR x ox n ex r
  · by_cases q : x = b
    · subst q; rw [Hp.set_same] at ex; rw [← ex]; exact e
    · rw [Hp.set_ne _ _ q] at ex; exact a.own.sub x ox ex
  · rw [Hp.set_ne _ _ (m x hx).2]; exact a.own.dis x (m x hx).1
/-- A row that grows is owned. -/
theorem OutAt.step {t s n' : Nat} {R h h' : Hp} {v' : Value} {xs' : List Value} {So So' : List Nat} (w : Own R h So) (o' : OutAt t s h' v' xs' n' So') (kp : ∀ x o, x ∉ So → h x = some o → h' x = some o) (fr : ∀ x o, x ∉ So → h x = some o → x ∉ So') :
    Stp R h R h' So So' := by
  refine ⟨.refl _, kp, fr, fun x o _ _ r => r, ⟨fun x o e => ?_, fun x hx => ?_, fun x hx => ?_⟩⟩
  · refine kp x o (fun hx => ?_) (w.sub x o e)
    rw [w.dis x hx] at e; cases e
  · cases e : R x with
    | none => rfl
    | some o =>
      refine absurd hx (fr x o (fun hx => ?_) (w.sub x o e))
      rw [w.dis x hx] at e; cases e
  · rcases o' with ⟨_, _, _, rfl⟩ | ⟨b, c, f, hb, _, _, _, rfl, _⟩
    · cases hx
    · rw [List.mem_singleton.1 hx]; exact ⟨_, hb⟩
theorem pk_q {h : Hp} {m : Sem Value} {v : Value} (e : ∀ K : Value → Prop, q P h m K = K v) : peek P h m = some v := by
  obtain ⟨x, hx, e2⟩ := withVal_elim (K := fun x => x = v) ((e fun x => x = v).mpr rfl)
  rw [e2] at hx
  exact hx
/-- What was made since is owned, too. -/
theorem Stp.gain {R h R' h' : Hp} {S S' T : List Nat} (a : Stp R h R' h' S S') (w : Own R' h' T) (fr : ∀ x, x ∈ T → h x = none) : Stp R h R' h' S (S' ++ T) :=
  ⟨a.ext, a.keep, fun b o n e q => (List.mem_append.1 q).elim (a.frS b o n e) (fun q => by rw [fr b q] at e; cases e), a.frR, a.own.app w⟩
/-- A block of the call's own is made, to be owned. -/
theorem Own.mk1 {R h : Hp} {S : List Nat} {r : Nat} (o : AObj) (w : Own R h S) (hr : h r = none) : Own R (h.set r o) [r] ∧ Own R (h.set r o) S ∧ (∀ b, b ∈ S → b ∉ [r]) ∧ ∀ b, b ∈ S → (h.set r o) b = h b := by
  have hn : ∀ b, b ∈ S → b ≠ r := fun b hb q => by
    obtain ⟨x, e⟩ := w.kn b hb
    rw [q, hr] at e; cases e
  refine ⟨⟨w.sub.trans (ext_set _ hr), fun b hb => ?_, fun b hb => ?_⟩, ⟨w.sub.trans (ext_set _ hr), w.dis, fun b hb => ?_⟩, fun b hb q => hn b hb (List.mem_singleton.1 q), fun b hb => Hp.set_ne _ _ (hn b hb)⟩
  · rw [List.mem_singleton.1 hb]; exact w.sub.none hr
  · rw [List.mem_singleton.1 hb]; exact ⟨_, Hp.set_same ..⟩
  · rw [Hp.set_ne _ _ (hn b hb)]; exact w.kn b hb
theorem Hp.set_id {h : Hp} {b : Nat} {o : AObj} (e : h b = some o) : h.set b o = h := by
  funext i
  by_cases q : i = b
  · subst q; rw [Hp.set_same, e]
  · rw [Hp.set_ne _ _ q]
end
end Go.SL
set_option linter.unusedSimpArgs false
set_option linter.unusedVariables false
set_option maxRecDepth 100000
namespace Go.Proofs.Ytbglokdjlbknaaa
open Go Go.SL
theorem q_eqlS {h : Hp} {K : Value → Prop} (x y : Operand) (a b : ByteArray) : q P h (eqop .eql t_string x y (.string a) (.string b)) K = K (.bool (a.toList == b.toList)) := q_of (by
  unfold eqop
  rw [peek_bind]
  have : peek P h (eqGuard .eql t_string x y (.string a) (.string b)) = some () := rfl
  rw [this, Option.bind_some]
  simp only [binOp, Op.stringOp]; rfl) K
end Go.Proofs.Ytbglokdjlbknaaa
namespace Go.Pure
def le : Nat → Nat → List Nat
  | 0, _ => []
  | n + 1, v => v % 256 :: le n (v / 256)
def Bytes (l : List Nat) : Prop := ∀ x ∈ l, x < 256
theorem Bytes.take {l : List Nat} (h : Bytes l) (n : Nat) : Bytes (l.take n) := fun x hx => h x (List.mem_of_mem_take hx)
theorem Bytes.drop {l : List Nat} (h : Bytes l) (n : Nat) : Bytes (l.drop n) := fun x hx => h x (List.mem_of_mem_drop hx)
theorem Bytes.append {a b : List Nat} (h : Bytes a) (g : Bytes b) : Bytes (a ++ b) := fun x hx => (List.mem_append.1 hx).elim (h x) (g x)
theorem Bytes.getD {l : List Nat} (h : Bytes l) (i : Nat) : l.getD i 0 < 256 := by
  rw [List.getD_eq_getElem?_getD]
  cases hg : l[i]? with
  | none => simp
  | some x => exact h x (List.mem_of_getElem? hg)
end Go.Pure
set_option linter.unusedSimpArgs false
set_option linter.unusedVariables false
set_option linter.unusedSectionVars false
namespace Go.Pure
section
variable {α : Type} (u : α → Nat)
def swapL (l : List α) (i k : Nat) : List α :=
  match l[i]?, l[k]? with
  | some a, some b => (l.set i b).set k a
  | _, _ => l
def keyL (l : List α) (i : Nat) : Nat := match l[i]? with
  | some a => u a
  | none => 0
theorem swapL_eq {l : List α} {i k : Nat} {a b : α} (hi : l[i]? = some a) (hk : l[k]? = some b) : swapL l i k = (l.set i b).set k a := by simp [swapL, hi, hk]
theorem swapL_len (l : List α) (i k : Nat) : (swapL l i k).length = l.length := by
  unfold swapL
  split <;> simp
theorem swapL_get {l : List α} {i k : Nat} (hi : i < l.length) (hk : k < l.length) (j : Nat) : (swapL l i k)[j]? = if j = k then l[i]? else if j = i then l[k]? else l[j]? := by
  rw [swapL_eq (List.getElem?_eq_getElem hi) (List.getElem?_eq_getElem hk), List.getElem?_set, List.getElem?_set, List.length_set]
  by_cases h1 : j = k
  · subst h1; simp [hk, hi]
  · rw [if_neg (Ne.symm h1), if_neg h1]
    by_cases h2 : j = i
    · subst h2; simp [hi, hk]
    · rw [if_neg (Ne.symm h2), if_neg h2]
theorem keyL_swap {l : List α} {i k : Nat} (hi : i < l.length) (hk : k < l.length) (j : Nat) : keyL u (swapL l i k) j = if j = k then keyL u l i else if j = i then keyL u l k else keyL u l j := by
  unfold keyL
  rw [swapL_get hi hk]
  by_cases h1 : j = k
  · rw [if_pos h1, if_pos h1]
  · rw [if_neg h1, if_neg h1]
    by_cases h2 : j = i
    · rw [if_pos h2, if_pos h2]
    · rw [if_neg h2, if_neg h2]
theorem set_swap_perm : ∀ (l : List α) (i k : Nat) (a b : α), i < k → l[i]? = some a → l[k]? = some b → ((l.set i b).set k a).Perm l
  | [], i, k, a, b, _, h, _ => by simp at h
  | x :: l, 0, k + 1, a, b, _, h1, h2 => by
    simp only [List.getElem?_cons_zero, Option.some.injEq] at h1
    subst h1
    simp only [List.getElem?_cons_succ] at h2
    simp only [List.set_cons_zero, List.set_cons_succ]
    have hk : k < l.length := (List.getElem?_eq_some_iff.1 h2).1
    have hb : l[k] = b := (List.getElem?_eq_some_iff.1 h2).2
    have e1 : l = l.take k ++ b :: l.drop (k + 1) := by
      rw [← hb, ← List.drop_eq_getElem_cons hk, List.take_append_drop]
    have e2 : l.set k x = l.take k ++ x :: l.drop (k + 1) := by
      rw [List.set_eq_take_append_cons_drop, if_pos hk]
    rw [e2]
    conv => rhs; rw [e1]
    have p1 : (b :: (l.take k ++ x :: l.drop (k + 1))).Perm (x :: b :: (l.take k ++ l.drop (k + 1))) :=
      (List.Perm.cons b List.perm_middle).trans (List.Perm.swap x b _)
    have p2 : (x :: (l.take k ++ b :: l.drop (k + 1))).Perm (x :: b :: (l.take k ++ l.drop (k + 1))) := List.Perm.cons x List.perm_middle
    exact p1.trans p2.symm
  | x :: l, i + 1, k + 1, a, b, hik, h1, h2 => by
    simp only [List.getElem?_cons_succ] at h1 h2
    simp only [List.set_cons_succ]
    exact List.Perm.cons x (set_swap_perm l i k a b (by omega) h1 h2)
theorem swapL_perm (l : List α) (i k : Nat) : (swapL l i k).Perm l := by
  unfold swapL
  split
  · rename_i a b h1 h2
    rcases Nat.lt_trichotomy i k with h | h | h
    · exact set_swap_perm l i k a b h h1 h2
    · subst h
      rw [h1] at h2
      cases h2
      have e : (l.set i a).set i a = l := by
        rw [List.set_set]
        apply List.ext_getElem?
        intro j
        rw [List.getElem?_set]
        split
        · rename_i q; subst q; split
          · exact h1.symm
          · rename_i h; exact absurd (List.getElem?_eq_some_iff.1 h1).1 h
        · rfl
      rw [e]
    · have := set_swap_perm l k i b a h h2 h1
      rwa [List.set_comm _ _ (by omega)] at this
  · exact List.Perm.refl _
/-! ### Up and down -/
def upL : Nat → List α → Nat → List α
  | 0, l, _ => l
  | f + 1, l, j => if (j - 1) / 2 = j then l else if keyL u l j < keyL u l ((j - 1) / 2) then upL f (swapL l ((j - 1) / 2) j) ((j - 1) / 2) else l
/-- The less of two children. -/
def childL (l : List α) (i n : Nat) : Nat := if 2 * i + 1 + 1 < n ∧ keyL u l (2 * i + 1 + 1) < keyL u l (2 * i + 1) then 2 * i + 1 + 1 else 2 * i + 1
def downL : Nat → List α → Nat → Nat → List α × Nat
  | 0, l, i, _ => (l, i)
  | f + 1, l, i, n => if n ≤ 2 * i + 1 then (l, i) else
    if keyL u l (childL u l i n) < keyL u l i then downL f (swapL l i (childL u l i n)) (childL u l i n) n else (l, i)
theorem upL_len : ∀ (f : Nat) (l : List α) (j : Nat), (upL u f l j).length = l.length
  | 0, _, _ => rfl
  | f + 1, l, j => by
    simp only [upL]
    split
    · rfl
    · split
      · rw [upL_len, swapL_len]
      · rfl
theorem upL_perm : ∀ (f : Nat) (l : List α) (j : Nat), (upL u f l j).Perm l
  | 0, _, _ => List.Perm.refl _
  | f + 1, l, j => by
    simp only [upL]
    split
    · exact List.Perm.refl _
    · split
      · exact (upL_perm f _ _).trans (swapL_perm _ _ _)
      · exact List.Perm.refl _
theorem downL_len : ∀ (f : Nat) (l : List α) (i n : Nat), (downL u f l i n).1.length = l.length
  | 0, _, _, _ => rfl
  | f + 1, l, i, n => by
    simp only [downL]
    split
    · rfl
    · split
      · rw [downL_len, swapL_len]
      · rfl
theorem downL_perm : ∀ (f : Nat) (l : List α) (i n : Nat), (downL u f l i n).1.Perm l
  | 0, _, _, _ => List.Perm.refl _
  | f + 1, l, i, n => by
    simp only [downL]
    split
    · exact List.Perm.refl _
    · split
      · exact (downL_perm f _ _ _).trans (swapL_perm _ _ _)
      · exact List.Perm.refl _
theorem childL_lt {l : List α} {i n : Nat} (h : 2 * i + 1 < n) : childL u l i n < n ∧ i < childL u l i n ∧ (childL u l i n - 1) / 2 = i := by
  unfold childL
  split <;> omega
theorem childL_le {l : List α} {i n k : Nat} (hk : k < n) (hp : (k - 1) / 2 = i) (h0 : 0 < k) : keyL u l (childL u l i n) ≤ keyL u l k := by
  have : k = 2 * i + 1 ∨ k = 2 * i + 1 + 1 := by omega
  unfold childL
  split
  · rename_i h
    rcases this with rfl | rfl
    · exact Nat.le_of_lt h.2
    · exact Nat.le_refl _
  · rename_i h
    rcases this with rfl | rfl
    · exact Nat.le_refl _
    · simp only [not_and, Nat.not_lt] at h
      exact h hk
/-- What lies beyond isn't touched. -/
theorem upL_get : ∀ (f : Nat) (l : List α) (j : Nat), j < l.length → ∀ k, j < k → (upL u f l j)[k]? = l[k]?
  | 0, _, _, _, _, _ => rfl
  | f + 1, l, j, hj, k, hk => by
    simp only [upL]
    split
    · rfl
    · split
      · rw [upL_get f _ _ (by rw [swapL_len]; omega) k (by omega), swapL_get (by omega) hj, if_neg (by omega), if_neg (by omega)]
      · rfl
theorem downL_get : ∀ (f : Nat) (l : List α) (i n : Nat), i < n → n ≤ l.length → ∀ k, n ≤ k → (downL u f l i n).1[k]? = l[k]?
  | 0, _, _, _, _, _, _, _ => rfl
  | f + 1, l, i, n, hi, hn, k, hk => by
    simp only [downL]
    split
    · rfl
    · rename_i h
      have hc := childL_lt u (l := l) (show 2 * i + 1 < n by omega)
      split
      · rw [downL_get f _ _ n hc.1 (by rw [swapL_len]; exact hn) k hk, swapL_get (by omega) (by omega), if_neg (by omega), if_neg (by omega)]
      · rfl
/-! ### Their order -/
def HeapN (n : Nat) (l : List α) : Prop := ∀ k, 0 < k → k < n → keyL u l ((k - 1) / 2) ≤ keyL u l k
def UpOk (n j : Nat) (l : List α) : Prop :=
  (∀ k, 0 < k → k < n → k ≠ j → keyL u l ((k - 1) / 2) ≤ keyL u l k) ∧ (∀ k, 0 < k → k < n → (k - 1) / 2 = j → 0 < j → keyL u l ((j - 1) / 2) ≤ keyL u l k)
def DownOk (n i : Nat) (l : List α) : Prop :=
  (∀ k, 0 < k → k < n → (k - 1) / 2 ≠ i → keyL u l ((k - 1) / 2) ≤ keyL u l k) ∧ (∀ k, 0 < k → k < n → (k - 1) / 2 = i → 0 < i → keyL u l ((i - 1) / 2) ≤ keyL u l k)
def MidOk (n i : Nat) (l : List α) : Prop :=
  (∀ k, 0 < k → k < n → (k - 1) / 2 ≠ i → k ≠ i → keyL u l ((k - 1) / 2) ≤ keyL u l k) ∧ (∀ k, 0 < k → k < n → (k - 1) / 2 = i → 0 < i → keyL u l ((i - 1) / 2) ≤ keyL u l k)
theorem heap_min {n : Nat} {l : List α} (h : HeapN u n l) : ∀ k, k < n → keyL u l 0 ≤ keyL u l k := by
  intro k
  induction k using Nat.strongRecOn with
  | _ k ih =>
    intro hk
    by_cases h0 : k = 0
    · rw [h0]; exact Nat.le_refl _
    · exact Nat.le_trans (ih ((k - 1) / 2) (by omega) (by omega)) (h k (by omega) hk)
theorem upL_heap : ∀ (f : Nat) (l : List α) (n j : Nat), UpOk u n j l → j < n → n ≤ l.length → j ≤ f → HeapN u n (upL u f l j)
  | 0, l, n, j, h, hj, hn, hf => by
    intro k k0 kn
    exact h.1 k k0 kn (by omega)
  | f + 1, l, n, j, h, hj, hn, hf => by
    simp only [upL]
    split
    · rename_i e
      intro k k0 kn
      exact h.1 k k0 kn (by omega)
    · rename_i e
      have hij : (j - 1) / 2 < j := by omega
      split
      · rename_i hlt
        refine upL_heap f _ n _ ?_ (by omega) (by rw [swapL_len]; exact hn) (by omega)
        have ks := keyL_swap u (l := l) (i := (j - 1) / 2) (k := j) (by omega) (by omega)
        constructor
        · intro k k0 kn ki
          rw [ks, ks]
          by_cases kj : k = j
          · subst kj
            rw [if_neg (by omega), if_pos rfl, if_pos rfl]
            omega
          · rw [if_neg kj, if_neg ki]
            by_cases p1 : (k - 1) / 2 = j
            · rw [if_pos p1]
              exact h.2 k k0 kn p1 (by omega)
            · rw [if_neg p1]
              by_cases p2 : (k - 1) / 2 = (j - 1) / 2
              · rw [if_pos p2]
                have := h.1 k k0 kn kj
                rw [p2] at this
                omega
              · rw [if_neg p2]
                exact h.1 k k0 kn kj
        · intro k k0 kn kp i0
          rw [ks, ks, if_neg (by omega), if_neg (by omega)]
          have hp := h.1 ((j - 1) / 2) i0 (by omega) (by omega)
          by_cases kj : k = j
          · rw [if_pos kj]; exact hp
          · rw [if_neg kj, if_neg (by omega)]
            have := h.1 k k0 kn kj
            rw [kp] at this
            omega
      · rename_i hge
        intro k k0 kn
        by_cases kj : k = j
        · subst kj; omega
        · exact h.1 k k0 kn kj
theorem downL_step {n i : Nat} {l : List α} (h : MidOk u n i l) (hn : n ≤ l.length) (hi : 2 * i + 1 < n) (hlt : keyL u l (childL u l i n) < keyL u l i) : DownOk u n (childL u l i n) (swapL l i (childL u l i n)) := by
  obtain ⟨c1, c2, c3⟩ := childL_lt u (l := l) hi
  have cle := fun k hk hp h0 => childL_le u (l := l) (i := i) (n := n) (k := k) hk hp h0
  generalize childL u l i n = j at *
  have ks := keyL_swap u (l := l) (i := i) (k := j) (by omega) (by omega)
  constructor
  · intro k k0 kn kp
    rw [ks, ks]
    rw [if_neg kp]
    by_cases kj : k = j
    · subst kj
      rw [if_pos c3, if_pos rfl]
      omega
    · rw [if_neg kj]
      by_cases p : (k - 1) / 2 = i
      · rw [if_pos p, if_neg (by omega)]
        exact cle k kn p k0
      · rw [if_neg p]
        by_cases ki : k = i
        · rw [if_pos ki]
          have := h.2 j (by omega) c1 c3 (by omega)
          rw [ki]
          exact this
        · rw [if_neg ki]
          exact h.1 k k0 kn p ki
  · intro k k0 kn kp j0
    rw [ks, ks, c3, if_neg (by omega), if_pos rfl, if_neg (by omega), if_neg (by omega)]
    have := h.1 k k0 kn (by omega) (by omega)
    rw [kp] at this
    exact this
theorem DownOk.mid {n i : Nat} {l : List α} (h : DownOk u n i l) : MidOk u n i l := ⟨fun k k0 kn kp _ => h.1 k k0 kn kp, h.2⟩
theorem downL_heap : ∀ (f : Nat) (l : List α) (n i : Nat), DownOk u n i l → i < n → n ≤ l.length → n ≤ f + i → HeapN u n (downL u f l i n).1
  | 0, l, n, i, h, hi, hn, hf => by omega
  | f + 1, l, n, i, h, hi, hn, hf => by
    simp only [downL]
    split
    · rename_i e
      intro k k0 kn
      exact h.1 k k0 kn (by omega)
    · rename_i e
      have hc := childL_lt u (l := l) (show 2 * i + 1 < n by omega)
      split
      · rename_i hlt
        exact downL_heap f _ n _ (downL_step u h.mid hn (by omega) hlt) hc.1 (by rw [swapL_len]; exact hn) (by omega)
      · rename_i hge
        intro k k0 kn
        by_cases p : (k - 1) / 2 = i
        · have := childL_le u (l := l) kn p k0
          rw [p]
          show keyL u l i ≤ keyL u l k
          omega
        · exact h.1 k k0 kn p
theorem downL_ge : ∀ (f : Nat) (l : List α) (i n : Nat), i ≤ (downL u f l i n).2
  | 0, _, _, _ => Nat.le_refl _
  | f + 1, l, i, n => by
    simp only [downL]
    split
    · exact Nat.le_refl _
    · split
      · have := downL_ge f (swapL l i (childL u l i n)) (childL u l i n) n
        have hc := childL_lt u (l := l) (show 2 * i + 1 < n by omega)
        omega
      · exact Nat.le_refl _
/-- One whose place may be wrong finds it: down, or else up. -/
def mendL (l : List α) (i n : Nat) : List α := if i < (downL u n l i n).2 then (downL u n l i n).1 else upL u n (downL u n l i n).1 i
theorem mendL_len (l : List α) (i n : Nat) : (mendL u l i n).length = l.length := by
  unfold mendL
  split
  · exact downL_len u n l i n
  · rw [upL_len, downL_len]
theorem mendL_perm (l : List α) (i n : Nat) : (mendL u l i n).Perm l := by
  unfold mendL
  split
  · exact downL_perm u n l i n
  · exact (upL_perm u _ _ _).trans (downL_perm u n l i n)
theorem mendL_get {l : List α} {i n : Nat} (hi : i < n) (hn : n ≤ l.length) (k : Nat) (hk : n ≤ k) : (mendL u l i n)[k]? = l[k]? := by
  unfold mendL
  split
  · exact downL_get u n l i n hi hn k hk
  · rw [upL_get u n _ i (by rw [downL_len]; omega) k (by omega), downL_get u n l i n hi hn k hk]
theorem mendL_heap {l : List α} {i n : Nat} (h : MidOk u n i l) (hi : i < n) (hn : n ≤ l.length) : HeapN u n (mendL u l i n) := by
  obtain ⟨f, rfl⟩ : ∃ f, n = f + 1 := ⟨n - 1, by omega⟩
  have ed : downL u (f + 1) l i (f + 1) = if f + 1 ≤ 2 * i + 1 then (l, i) else if keyL u l (childL u l i (f + 1)) < keyL u l i then downL u f (swapL l i (childL u l i (f + 1))) (childL u l i (f + 1)) (f + 1) else (l, i) := rfl
  unfold mendL
  rw [ed]
  by_cases h1 : f + 1 ≤ 2 * i + 1
  · rw [if_pos h1, if_neg (by simp)]
    refine upL_heap u (f + 1) l (f + 1) i ⟨fun k k0 kn ki => h.1 k k0 kn (by omega) ki, fun k k0 kn kp => by omega⟩ hi hn (by omega)
  · rw [if_neg h1]
    have hc := childL_lt u (l := l) (i := i) (n := f + 1) (by omega)
    by_cases h2 : keyL u l (childL u l i (f + 1)) < keyL u l i
    · rw [if_pos h2]
      have hg := downL_ge u f (swapL l i (childL u l i (f + 1))) (childL u l i (f + 1)) (f + 1)
      rw [if_pos (by omega)]
      exact downL_heap u f _ (f + 1) _ (downL_step u h hn (by omega) h2) hc.1 (by rw [swapL_len]; exact hn) (by omega)
    · rw [if_neg h2, if_neg (by simp)]
      refine upL_heap u (f + 1) l (f + 1) i ⟨fun k k0 kn ki => ?_, h.2⟩ hi hn (by omega)
      by_cases p : (k - 1) / 2 = i
      · have := childL_le u (l := l) kn p k0
        rw [p]
        omega
      · exact h.1 k k0 kn p ki
/-- A heap, one of whose things is another one. -/
theorem heap_set {n i : Nat} {l : List α} {x : α} (h : HeapN u n l) : MidOk u n i (l.set i x) := by
  have ks : ∀ k, k ≠ i → keyL u (l.set i x) k = keyL u l k := fun k hk => by unfold keyL; rw [List.getElem?_set_ne (Ne.symm hk)]
  constructor
  · intro k k0 kn kp ki
    rw [ks _ kp, ks _ ki]
    exact h k k0 kn
  · intro k k0 kn kp i0
    rw [ks _ (by omega), ks _ (by omega)]
    have h1 := h k k0 kn
    have h2 := h i i0 (by omega)
    rw [kp] at h1
    omega
/-- One more. -/
def pushL (l : List α) (x : α) : List α := upL u (l.length + 1) (l ++ [x]) l.length
theorem pushL_perm (l : List α) (x : α) : (pushL u l x).Perm (x :: l) := (upL_perm u _ _ _).trans (List.perm_append_comm.trans (by exact List.Perm.refl _))
theorem pushL_len (l : List α) (x : α) : (pushL u l x).length = l.length + 1 := by simp [pushL, upL_len]
theorem pushL_heap {l : List α} (x : α) (h : HeapN u l.length l) : HeapN u (l.length + 1) (pushL u l x) := by
  have ks : ∀ k, k < l.length → keyL u (l ++ [x]) k = keyL u l k := fun k hk => by unfold keyL; rw [List.getElem?_append_left hk]
  refine upL_heap u _ _ _ _ ⟨fun k k0 kn kl => ?_, fun k k0 kn kp => by omega⟩ (by omega) (by simp) (by omega)
  rw [ks _ (by omega), ks _ (by omega)]
  exact h k k0 (by omega)
/-- One is taken out: it stands at the end, the others ahead. -/
def outL (l : List α) (i : Nat) : List α := if l.length - 1 = i then l else mendL u (swapL l i (l.length - 1)) i (l.length - 1)
theorem outL_len (l : List α) (i : Nat) : (outL u l i).length = l.length := by
  unfold outL
  split
  · rfl
  · rw [mendL_len, swapL_len]
theorem outL_perm (l : List α) (i : Nat) : (outL u l i).Perm l := by
  unfold outL
  split
  · exact List.Perm.refl _
  · exact (mendL_perm u _ _ _).trans (swapL_perm _ _ _)
theorem outL_last {l : List α} {i : Nat} (hi : i < l.length) : (outL u l i)[l.length - 1]? = l[i]? := by
  unfold outL
  split
  · rename_i e; rw [e]
  · rename_i e
    rw [mendL_get u (by omega) (by rw [swapL_len]; omega) _ (Nat.le_refl _), swapL_get hi (by omega), if_pos rfl]
theorem outL_heap {l : List α} {i : Nat} (hi : i < l.length) (h : HeapN u l.length l) : HeapN u (l.length - 1) (outL u l i) := by
  unfold outL
  split
  · intro k k0 kn
    exact h k k0 (by omega)
  · rename_i e
    refine mendL_heap u ?_ (by omega) (by rw [swapL_len]; omega)
    have ks := keyL_swap u (l := l) (i := i) (k := l.length - 1) hi (by omega)
    constructor
    · intro k k0 kn kp ki
      rw [ks, ks, if_neg (by omega), if_neg kp, if_neg (by omega), if_neg ki]
      exact h k k0 (by omega)
    · intro k k0 kn kp i0
      rw [ks, ks, if_neg (by omega), if_neg (by omega), if_neg (by omega), if_neg (by omega)]
      have h1 := h k k0 (by omega)
      have h2 := h i i0 hi
      rw [kp] at h1
      omega
end
end Go.Pure
set_option linter.unusedSimpArgs false
set_option linter.unusedVariables false
set_option maxRecDepth 100000
set_option maxHeartbeats 2000000
namespace Go.Proofs.Ytbglokdjlbknaaa
open Go Go.SL Go.Pure
/-- An item: where it lies, its name, its size, when it was used. -/
structure Ent where
  blk : Nat
  name : ByteArray
  size : Nat
  used : Nat
def entC (e : Ent) (i : Nat) : List Value := [.string e.name, .int .i64 (e.size : Int), .int .i64 (e.used : Int), .int .i64 (i : Int)]
def ptrE (e : Ent) : Value := .pointer (some ⟨e.blk, 0, none⟩)
theorem ci0 {h : Hp} {K : Value → Prop} (b : Nat) : q P h (Instr.fieldAt t_cache_item (.pointer (some ⟨b, 0, none⟩)) 0) K = K (.pointer (some ⟨b, 0, none⟩)) := q_of (by kernel_rfl) K
theorem ci1 {h : Hp} {K : Value → Prop} (b : Nat) : q P h (Instr.fieldAt t_cache_item (.pointer (some ⟨b, 0, none⟩)) 1) K = K (.pointer (some ⟨b, 2, none⟩)) := q_of (by kernel_rfl) K
theorem ci2 {h : Hp} {K : Value → Prop} (b : Nat) : q P h (Instr.fieldAt t_cache_item (.pointer (some ⟨b, 0, none⟩)) 2) K = K (.pointer (some ⟨b, 3, none⟩)) := q_of (by kernel_rfl) K
theorem ai0 {h : Hp} {K : Value → Prop} (b : Nat) : q P h (Instr.fieldAt t_api_Item (.pointer (some ⟨b, 0, none⟩)) 0) K = K (.pointer (some ⟨b, 0, none⟩)) := q_of (by kernel_rfl) K
theorem ai1 {h : Hp} {K : Value → Prop} (b : Nat) : q P h (Instr.fieldAt t_api_Item (.pointer (some ⟨b, 0, none⟩)) 1) K = K (.pointer (some ⟨b, 1, none⟩)) := q_of (by kernel_rfl) K
theorem cc0 {h : Hp} {K : Value → Prop} (b : Nat) : q P h (Instr.fieldAt t_cache_Cache (.pointer (some ⟨b, 0, none⟩)) 0) K = K (.pointer (some ⟨b, 0, none⟩)) := q_of (by kernel_rfl) K
theorem cc1 {h : Hp} {K : Value → Prop} (b : Nat) : q P h (Instr.fieldAt t_cache_Cache (.pointer (some ⟨b, 0, none⟩)) 1) K = K (.pointer (some ⟨b, 1, none⟩)) := q_of (by kernel_rfl) K
theorem cc2 {h : Hp} {K : Value → Prop} (b : Nat) : q P h (Instr.fieldAt t_cache_Cache (.pointer (some ⟨b, 0, none⟩)) 2) K = K (.pointer (some ⟨b, 2, none⟩)) := q_of (by kernel_rfl) K
theorem cc3 {h : Hp} {K : Value → Prop} (b : Nat) : q P h (Instr.fieldAt t_cache_Cache (.pointer (some ⟨b, 0, none⟩)) 3) K = K (.pointer (some ⟨b, 3, none⟩)) := q_of (by kernel_rfl) K
theorem cc4 {h : Hp} {K : Value → Prop} (b : Nat) : q P h (Instr.fieldAt t_cache_Cache (.pointer (some ⟨b, 0, none⟩)) 4) K = K (.pointer (some ⟨b, 4, none⟩)) := q_of (by kernel_rfl) K
theorem m_len {h : Hp} (c : Nat) : peek P h (method (P.types.size + Made.depth) t_Pt_cache_items (.pointer (some ⟨c, 3, none⟩)) "Len") = match h.cell ⟨c, 3, none⟩ with | some v => some (n_cache_items_Len, v) | none => none := by kernel_rfl
theorem m_less {h : Hp} (c : Nat) : peek P h (method (P.types.size + Made.depth) t_Pt_cache_items (.pointer (some ⟨c, 3, none⟩)) "Less") = match h.cell ⟨c, 3, none⟩ with | some v => some (n_cache_items_Less, v) | none => none := by kernel_rfl
theorem m_swap {h : Hp} (c : Nat) : peek P h (method (P.types.size + Made.depth) t_Pt_cache_items (.pointer (some ⟨c, 3, none⟩)) "Swap") = match h.cell ⟨c, 3, none⟩ with | some v => some (n_cache_items_Swap, v) | none => none := by kernel_rfl
theorem m_push {h : Hp} (c : Nat) : peek P h (method (P.types.size + Made.depth) t_Pt_cache_items (.pointer (some ⟨c, 3, none⟩)) "Push") = some (n_cache_items_Push, .pointer (some ⟨c, 3, none⟩)) := by kernel_rfl
theorem m_pop {h : Hp} (c : Nat) : peek P h (method (P.types.size + Made.depth) t_Pt_cache_items (.pointer (some ⟨c, 3, none⟩)) "Pop") = some (n_cache_items_Pop, .pointer (some ⟨c, 3, none⟩)) := by kernel_rfl
theorem ta_item {h : Hp} {K : Value → Prop} (b : Nat) : q P h (Instr.typeAssert (.iface t_Pt_cache_item (.pointer (some ⟨b, 0, none⟩))) 20 t_Pt_cache_item true) K = K (.tuple #[.pointer (some ⟨b, 0, none⟩), .bool true]) := q_of (by kernel_rfl) K
theorem mkI {h : Hp} {K : Value → Prop} (b : Nat) : q P h (Instr.makeInterface t_Pt_cache_items (.pointer (some ⟨b, 3, none⟩))) K = K (.iface t_Pt_cache_items (.pointer (some ⟨b, 3, none⟩))) := q_of (by kernel_rfl) K
theorem mkE {h : Hp} {K : Value → Prop} (b : Nat) : q P h (Instr.makeInterface t_Pt_cache_item (.pointer (some ⟨b, 0, none⟩))) K = K (.iface t_Pt_cache_item (.pointer (some ⟨b, 0, none⟩))) := q_of (by kernel_rfl) K
/-- The blocks of a cache's heap. -/
def HB (c : Nat) (Sh : List Nat) (xs : List Ent) : List Nat := c :: (Sh ++ xs.map Ent.blk)
theorem mem_HB {c : Nat} {Sh : List Nat} {xs : List Ent} {x : Nat} : x ∈ HB c Sh xs ↔ x = c ∨ x ∈ Sh ∨ ∃ e ∈ xs, e.blk = x := by simp [HB]
/-- A cache's heap, in memory. -/
structure HQ (h : Hp) (c : Nat) (a0 a1 a2 a4 : Value) (xs : List Ent) (vh : Value) (Sh : List Nat) : Prop where
  row : h c = some (.row t_cache_Cache [a0, a1, a2, vh, a4] 5 (some (0, 0)))
  out : OutAt t_Pt_cache_item 1 h vh (xs.map ptrE) xs.length Sh
  ent : ∀ (i : Nat) (e : Ent), xs[i]? = some e → h e.blk = some (.row t_cache_item (entC e i) 4 (some (0, 0)))
  nod : (HB c Sh xs).Nodup
theorem nod_ne {c : Nat} {Sh : List Nat} {xs : List Ent} (n : (HB c Sh xs).Nodup) : c ∉ Sh ∧ (∀ e ∈ xs, e.blk ≠ c ∧ e.blk ∉ Sh) ∧ ∀ (i j : Nat) (e f : Ent), xs[i]? = some e → xs[j]? = some f → i ≠ j → e.blk ≠ f.blk := by
  unfold HB at n
  rw [List.nodup_cons, List.nodup_append] at n
  obtain ⟨h1, h2, h3, h4⟩ := n
  refine ⟨fun q => h1 (List.mem_append_left _ q), fun e he => ⟨?_, fun q => h4 e.blk q e.blk (List.mem_map_of_mem he) rfl⟩, fun i j e f hi hj hij he => ?_⟩
  · rintro rfl; exact h1 (List.mem_append_right _ (List.mem_map_of_mem he))
  · have hi' : (xs.map Ent.blk)[i]? = some e.blk := by rw [List.getElem?_map, hi]; rfl
    have hj' : (xs.map Ent.blk)[j]? = some e.blk := by rw [List.getElem?_map, hj, he]; rfl
    obtain ⟨l1, e1⟩ := List.getElem?_eq_some_iff.1 hi'
    obtain ⟨l2, e2⟩ := List.getElem?_eq_some_iff.1 hj'
    have pw := List.pairwise_iff_getElem.1 h3
    rcases Nat.lt_or_gt_of_ne hij with q | q
    · exact pw i j l1 l2 q (e1.trans e2.symm)
    · exact pw j i l2 l1 q (e2.trans e1.symm)
/-- A step within what is owned. -/
theorem stp_in {R h h' : Hp} {S : List Nat} (w : Own R h S) (fr : ∀ b, b ∉ S → h' b = h b) (kn : ∀ b, b ∈ S → ∃ o, h' b = some o) : Stp R h R h' S S :=
  ⟨.refl _, fun b o n e => by rw [fr b n]; exact e, fun b o n _ => n, fun b o _ _ e => e, ⟨fun b o e => by
    rw [fr b (fun q => by rw [w.dis b q] at e; cases e)]; exact w.sub b o e, w.dis, kn⟩⟩
theorem HB_perm {c : Nat} {Sh : List Nat} {xs ys : List Ent} (p : ys.Perm xs) : ∀ x, x ∈ HB c Sh ys ↔ x ∈ HB c Sh xs := fun x => by
  rw [mem_HB, mem_HB]
  simp only [p.mem_iff]
theorem HB_nod {c : Nat} {Sh : List Nat} {xs ys : List Ent} (p : ys.Perm xs) (n : (HB c Sh xs).Nodup) : (HB c Sh ys).Nodup := by
  have : (HB c Sh ys).Perm (HB c Sh xs) := List.Perm.cons _ (List.Perm.append_left _ (p.map _))
  exact this.nodup_iff.2 n
theorem swapL_map {α β : Type} (f : α → β) (l : List α) (i k : Nat) : (swapL l i k).map f = swapL (l.map f) i k := by
  unfold swapL
  rw [List.getElem?_map, List.getElem?_map]
  cases l[i]? <;> cases l[k]? <;> simp [List.map_set]
abbrev HIf (c : Nat) : Value := .iface t_Pt_cache_items (.pointer (some ⟨c, 3, none⟩))
section
variable {h : Hp} {K : Value → Hp → Prop} {c : Nat} {a0 a1 a2 a4 vh : Value} {xs : List Ent} {Sh : List Nat}
theorem HQ.cell (a : HQ h c a0 a1 a2 a4 xs vh Sh) : h.cell ⟨c, 3, none⟩ = some vh := by rw [cell_row a.row]; rfl
theorem HQ.form (a : HQ h c a0 a1 a2 a4 xs vh Sh) (h0 : 0 < xs.length) : ∃ b cap f, h b = some (.row t_Pt_cache_item (xs.map ptrE) (cap * 1) (some f)) ∧ vh = .slice (some ⟨b, 0, none⟩) xs.length cap ∧ xs.length ≤ cap ∧ (∀ i, i < cap * 1 → ¬ (f.1 ≤ i ∧ i < f.2)) ∧ Sh = [b] := by
  rcases a.out with ⟨_, hn, _, _⟩ | ⟨b, cap, f, h1, h2, h3, h4, h5, _⟩
  · omega
  · exact ⟨b, cap, f, h1, h2, h3, h4, h5⟩
theorem M_len (a : HQ h c a0 a1 a2 a4 xs vh Sh) (k : K (.int .i64 (xs.length : Int)) h) : aw P (callMethod (HIf c) "Len" #[]) (nextP P K) h := by
  refine aw_method (g := n_cache_items_Len) (r := vh) (by rw [m_len, a.cell]) ?_
  show Cn P n_cache_items_Len #[vh] h K
  refine F_cache_items_Len ?_
  unfold s_cache_items_Len
  obtain ⟨_, aa, cc, e, _⟩ := a.out.rds
  rw [e, q_lenS u_cache_items]
  exact k
theorem M_less (a : HQ h c a0 a1 a2 a4 xs vh Sh) (i k' : Nat) (hi : i < xs.length) (hk : k' < xs.length) (k : K (.bool (decide (keyL Ent.used xs i < keyL Ent.used xs k'))) h) : aw P (callMethod (HIf c) "Less" #[.int .i64 (i : Int), .int .i64 (k' : Int)]) (nextP P K) h := by
  refine aw_method (g := n_cache_items_Less) (r := vh) (by rw [m_less, a.cell]) ?_
  show Cn P n_cache_items_Less #[vh, .int .i64 (i : Int), .int .i64 (k' : Int)] h K
  refine F_cache_items_Less ?_
  unfold s_cache_items_Less
  obtain ⟨b, cap, f, hb, rfl, hc, _, _⟩ := a.form (by omega)
  have ei := List.getElem?_eq_getElem hi
  have ek := List.getElem?_eq_getElem hk
  have c1 : h.cell ⟨b, i, none⟩ = some (ptrE xs[i]) := by rw [cell_row hb, List.getElem?_map, ei]; rfl
  have c2 : h.cell ⟨b, k', none⟩ = some (ptrE xs[k']) := by rw [cell_row hb, List.getElem?_map, ek]; rfl
  have u1 : h.cell ⟨(xs[i]).blk, 2, none⟩ = some (.int .i64 ((xs[i]).used : Int)) := by rw [cell_row (a.ent i _ ei)]; rfl
  have u2 : h.cell ⟨(xs[k']).blk, 2, none⟩ = some (.int .i64 ((xs[k']).used : Int)) := by rw [cell_row (a.ent k' _ ek)]; rfl
  simp (disch := omega) only [GL, RL, c1, c2, ptrE, ci1, u1, u2]
  have e : decide (((xs[i]).used : Int) < ((xs[k']).used : Int)) = decide (keyL Ent.used xs i < keyL Ent.used xs k') := by
    rw [lt_dec]
    unfold keyL
    rw [ei, ek]
  rw [e]
  exact k
theorem M_swap {R : Hp} (w : Own R h (HB c Sh xs)) (a : HQ h c a0 a1 a2 a4 xs vh Sh) (i k' : Nat) (hi : i < xs.length) (hk : k' < xs.length) (hne : i ≠ k')
    (k : ∀ h', Stp R h R h' (HB c Sh xs) (HB c Sh (swapL xs i k')) → HQ h' c a0 a1 a2 a4 (swapL xs i k') vh Sh → K (.tuple #[]) h') : aw P (callMethod (HIf c) "Swap" #[.int .i64 (i : Int), .int .i64 (k' : Int)]) (nextP P K) h := by
  refine aw_method (g := n_cache_items_Swap) (r := vh) (by rw [m_swap, a.cell]) ?_
  show Cn P n_cache_items_Swap #[vh, .int .i64 (i : Int), .int .i64 (k' : Int)] h K
  refine F_cache_items_Swap ?_
  unfold s_cache_items_Swap
  obtain ⟨b, cap, f, hb, rfl, hc, hf, rfl⟩ := a.form (by omega)
  have ei := List.getElem?_eq_getElem hi
  have ek := List.getElem?_eq_getElem hk
  obtain ⟨n1, n2, n3⟩ := nod_ne a.nod
  have c1 : h.cell ⟨b, i, none⟩ = some (ptrE xs[i]) := by rw [cell_row hb, List.getElem?_map, ei]; rfl
  have c2 : h.cell ⟨b, k', none⟩ = some (ptrE xs[k']) := by rw [cell_row hb, List.getElem?_map, ek]; rfl
  have ent := a.ent
  have hout := a.out
  have hrow := a.row
  generalize hxi : xs[i] = ei' at *
  generalize hxk : xs[k'] = ek' at *
  have mi : ei' ∈ xs := by rw [← hxi]; exact List.getElem_mem hi
  have mk : ek' ∈ xs := by rw [← hxk]; exact List.getElem_mem hk
  have bi := n2 _ mi
  have bk := n2 _ mk
  have bik := n3 i k' _ _ ei ek hne
  simp only [List.mem_singleton] at n1 bi bk
  have lx : (xs.map ptrE).length = xs.length := List.length_map ..
  simp (disch := omega) only [GL, RL, c1, c2]
  refine aw_store z_Pt_cache_item rfl (put_row hb (by omega) (hf _ (by omega)) _) ?_
  refine aw_store z_Pt_cache_item rfl (put_row (Hp.set_same ..) (by rw [List.length_set]; omega) (hf _ (by omega)) _) ?_
  rw [Hp.set_set]
  have erow : ((xs.map ptrE).set i (ptrE ek')).set k' (ptrE ei') = (swapL xs i k').map ptrE := by
    rw [swapL_map, swapL_eq (a := ptrE ei') (b := ptrE ek') (by rw [List.getElem?_map, ei]; rfl) (by rw [List.getElem?_map, ek]; rfl)]
  rw [erow]
  have ls := swapL_len xs i k'
  have g1 : ∀ fz, (h.set b (.row t_Pt_cache_item ((swapL xs i k').map ptrE) (cap * 1) fz)).cell ⟨b, i, none⟩ = some (ptrE ek') := fun fz => by
    rw [cell_row (Hp.set_same ..), List.getElem?_map, swapL_get hi hk, if_neg hne, if_pos rfl, ek]; rfl
  have g2 : ∀ fz, (h.set b (.row t_Pt_cache_item ((swapL xs i k').map ptrE) (cap * 1) fz)).cell ⟨b, k', none⟩ = some (ptrE ei') := fun fz => by
    rw [cell_row (Hp.set_same ..), List.getElem?_map, swapL_get hi hk, if_pos rfl, ei]; rfl
  simp (disch := omega) only [GL, RL, g1, g2, ptrE, ci2]
  have r1 := ent k' ek' ek
  have r2 := ent i ei' ei
  refine aw_store z_int rfl (put_row (b := ek'.blk) (off := 3) (vs := entC ek' k') (by rw [Hp.set_ne _ _ bk.2]; exact r1) (by simp [entC]) (by simp) _) ?_
  refine aw_store z_int rfl (put_row (b := ei'.blk) (off := 3) (vs := entC ei' i) (by rw [Hp.set_ne _ _ bik, Hp.set_ne _ _ bi.2]; exact r2) (by simp [entC]) (by simp) _) ?_
  have s1 : (entC ek' k').set 3 (.int .i64 (i : Int)) = entC ek' i := rfl
  have s2 : (entC ei' i).set 3 (.int .i64 (k' : Int)) = entC ei' k' := rfl
  rw [s1, s2]
  have pm := swapL_perm xs i k'
  refine k _ ((stp_in w (fun x hx => ?_) fun x hx => ?_).perm (fun x => Iff.rfl) fun x => (HB_perm pm x).symm) ⟨?_, .inr ⟨b, cap, f, ?_, by rw [ls], by rw [ls]; exact hc, hf, rfl, by rw [List.length_map, ls, Nat.mul_one]⟩, fun j e ej => ?_, HB_nod pm a.nod⟩
  · rw [mem_HB] at hx
    simp only [not_or, not_exists, not_and, List.mem_singleton] at hx
    rw [Hp.set_ne _ _ (Ne.symm (hx.2.2 ei' mi)), Hp.set_ne _ _ (Ne.symm (hx.2.2 ek' mk)), Hp.set_ne _ _ hx.2.1]
  · by_cases q1 : x = ei'.blk
    · rw [q1]; exact ⟨_, Hp.set_same ..⟩
    · rw [Hp.set_ne _ _ q1]
      by_cases q2 : x = ek'.blk
      · rw [q2]; exact ⟨_, Hp.set_same ..⟩
      · rw [Hp.set_ne _ _ q2]
        by_cases q3 : x = b
        · rw [q3]; exact ⟨_, Hp.set_same ..⟩
        · rw [Hp.set_ne _ _ q3]; exact w.kn x hx
  · rw [Hp.set_ne _ _ (Ne.symm bi.1), Hp.set_ne _ _ (Ne.symm bk.1), Hp.set_ne _ _ n1]; exact hrow
  · rw [Hp.set_ne _ _ (Ne.symm bi.2), Hp.set_ne _ _ (Ne.symm bk.2), Hp.set_same]
  · rw [swapL_get hi hk] at ej
    by_cases q1 : j = k'
    · subst q1
      rw [if_pos rfl, ei] at ej
      cases ej
      exact Hp.set_same ..
    · rw [if_neg q1] at ej
      by_cases q2 : j = i
      · subst q2
        rw [if_pos rfl, ek] at ej
        cases ej
        rw [Hp.set_ne _ _ (Ne.symm bik)]
        exact Hp.set_same ..
      · rw [if_neg q2] at ej
        have me : e ∈ xs := List.mem_of_getElem? ej
        have be := n2 _ me
        simp only [List.mem_singleton] at be
        rw [Hp.set_ne _ _ (n3 j i _ _ ej ei q2), Hp.set_ne _ _ (n3 j k' _ _ ej ek q1), Hp.set_ne _ _ be.2]
        exact ent j e ej
end
end Go.Proofs.Ytbglokdjlbknaaa
set_option linter.unusedSimpArgs false
set_option linter.unusedVariables false
set_option maxRecDepth 100000
set_option maxHeartbeats 2000000
namespace Go.Proofs.Ytbglokdjlbknaaa
open Go Go.SL Go.Pure
/-- A step, by what stays and what is new. -/
theorem stp_mk {R h h' : Hp} {S S' : List Nat} (w : Own R h S) (kp : ∀ b o, b ∉ S → h b = some o → h' b = some o) (fr : ∀ b o, b ∉ S → h b = some o → b ∉ S') (kn : ∀ b, b ∈ S' → ∃ o, h' b = some o) : Stp R h R h' S S' := by
  have ns : ∀ b o, R b = some o → b ∉ S := fun b o e q => by rw [w.dis b q] at e; cases e
  refine ⟨.refl _, kp, fr, fun b o _ _ e => e, ⟨fun b o e => kp b o (ns b o e) (w.sub b o e), fun b hb => ?_, kn⟩⟩
  cases e : R b with
  | none => rfl
  | some o => exact absurd hb (fr b o (ns b o e) (w.sub b o e))
section
variable {h : Hp} {K : Value → Hp → Prop} {c : Nat} {a0 a1 a2 a4 vh : Value} {xs : List Ent} {Sh : List Nat} {R : Hp}
theorem T_up (w : Own R h (HB c Sh xs)) (a : HQ h c a0 a1 a2 a4 xs vh Sh) (j f : Nat) (hj : j < xs.length) (hf : j ≤ f) (lx : xs.length ≤ 1000000)
    (k : ∀ h', Stp R h R h' (HB c Sh xs) (HB c Sh (upL Ent.used f xs j)) → HQ h' c a0 a1 a2 a4 (upL Ent.used f xs j) vh Sh → K (.tuple #[]) h') : Cn P n_heap_up #[HIf c, .int .i64 (j : Int)] h K := by
  refine F_heap_up ?_
  unfold s_heap_up
  refine Lp_mk (fun m vs h' => ∃ (f' : Nat) (ys : List Ent), m ≤ f' ∧ m < ys.length ∧ ys.length = xs.length ∧ upL Ent.used f xs j = upL Ent.used f' ys m ∧ Stp R h R h' (HB c Sh xs) (HB c Sh ys) ∧ HQ h' c a0 a1 a2 a4 ys vh Sh ∧ vs = [.int .i64 (m : Int)]) j
    ⟨f, xs, hf, hj, rfl, rfl, .refl w, a, rfl⟩ ?_
  rintro m vs h1 ⟨f', ys, hmf, hm, ly, eu, st, a1', rfl⟩
  have e2 : ((m : Int) - 1).tdiv 2 = (((m - 1) / 2 : Nat) : Int) := by
    by_cases h0 : m = 0
    · subst h0; rfl
    · rw [show (m : Int) - 1 = ((m - 1 : Nat) : Int) by omega, Int.tdiv_eq_ediv_of_nonneg (by omega)]; rfl
  have eb : ((((m - 1) / 2 : Nat) : Int) == (m : Int)) = decide ((m - 1) / 2 = m) := by rw [Bool.eq_iff_iff, beq_iff_eq, decide_eq_true_eq]; omega
  simp (disch := omega) only [GL, RL, wi64, e2, eb]
  by_cases q0 : (m - 1) / 2 = m
  · simp only [q0, decide_true, Bool.true_eq_false, if_false, if_true]
    have : upL Ent.used f' ys m = ys := by cases f' <;> simp [upL, q0]
    rw [this] at eu
    rw [eu] at k
    exact k h1 st a1'
  simp only [q0, decide_false, if_true]
  obtain ⟨f2, rfl⟩ : ∃ f2, f' = f2 + 1 := ⟨f' - 1, by omega⟩
  refine M_less a1' m ((m - 1) / 2) hm (by omega) ?_
  have eu2 : upL Ent.used (f2 + 1) ys m = if keyL Ent.used ys m < keyL Ent.used ys ((m - 1) / 2) then upL Ent.used f2 (swapL ys ((m - 1) / 2) m) ((m - 1) / 2) else ys := by
    simp only [upL]
    rw [if_neg q0]
  by_cases q1 : keyL Ent.used ys m < keyL Ent.used ys ((m - 1) / 2)
  · simp only [q1, decide_true, GL, RL, Bool.not_true, Bool.false_eq_true, if_false]
    rw [if_pos q1] at eu2
    refine M_swap st.own a1' ((m - 1) / 2) m (by omega) hm (by omega) fun h2 s2 a2 => ?_
    exact ⟨h2, .refl _, (m - 1) / 2, by omega, f2, _, by omega, by rw [swapL_len]; omega, by rw [swapL_len]; exact ly, by rw [eu, eu2], st.trans s2, a2, rfl⟩
  · simp only [q1, decide_false, GL, RL, Bool.not_false, if_true]
    rw [if_neg q1] at eu2
    rw [eu2] at eu
    rw [eu] at k
    exact k h1 st a1'
theorem T_down (w : Own R h (HB c Sh xs)) (a : HQ h c a0 a1 a2 a4 xs vh Sh) (i n : Nat) (hi : i < n) (hn : n ≤ xs.length) (lx : xs.length ≤ 1000000)
    (k : ∀ h', Stp R h R h' (HB c Sh xs) (HB c Sh (downL Ent.used n xs i n).1) → HQ h' c a0 a1 a2 a4 (downL Ent.used n xs i n).1 vh Sh → K (.bool (decide (i < (downL Ent.used n xs i n).2))) h') : Cn P n_heap_down #[HIf c, .int .i64 (i : Int), .int .i64 (n : Int)] h K := by
  refine F_heap_down ?_
  unfold s_heap_down
  refine Lp_mk (fun m vs h' => ∃ (f' i' : Nat) (ys : List Ent), m + i' = n ∧ i' < n ∧ n ≤ f' + i' ∧ ys.length = xs.length ∧ downL Ent.used n xs i n = downL Ent.used f' ys i' n ∧ Stp R h R h' (HB c Sh xs) (HB c Sh ys) ∧ HQ h' c a0 a1 a2 a4 ys vh Sh ∧ vs = [.int .i64 (i' : Int)]) (n - i)
    ⟨n, i, xs, by omega, hi, by omega, rfl, rfl, .refl w, a, rfl⟩ ?_
  rintro m vs h1 ⟨f', i', ys, hm, hi', hf', ly, eu, st, a1', rfl⟩
  obtain ⟨f2, rfl⟩ : ∃ f2, f' = f2 + 1 := ⟨f' - 1, by omega⟩
  have ed : downL Ent.used (f2 + 1) ys i' n = if n ≤ 2 * i' + 1 then (ys, i') else if keyL Ent.used ys (childL Ent.used ys i' n) < keyL Ent.used ys i' then downL Ent.used f2 (swapL ys i' (childL Ent.used ys i' n)) (childL Ent.used ys i' n) n else (ys, i') := rfl
  have e1 : (2 : Int) * (i' : Int) + 1 = ((2 * i' + 1 : Nat) : Int) := by omega
  have e1' : (2 : Int) * (i' : Int) = ((2 * i' : Nat) : Int) := by omega
  have e1'' : ((2 * i' : Nat) : Int) + 1 = ((2 * i' + 1 : Nat) : Int) := by omega
  have eg : decide ((n : Int) ≤ ((2 * i' + 1 : Nat) : Int)) = decide (n ≤ 2 * i' + 1) := by rw [decide_eq_decide]; omega
  have e0 : decide (((2 * i' + 1 : Nat) : Int) < 0) = false := by rw [decide_eq_false_iff_not]; omega
  have egt : decide ((i : Int) < (i' : Int)) = decide (i < i') := lt_dec i i'
  simp -zeta (disch := omega) only [GL, RL, wi64, e1', e1'']
  intro J6
  have stop : downL Ent.used (f2 + 1) ys i' n = (ys, i') → K (.bool (decide (i < i'))) h1 := fun e => by
    rw [e] at eu
    rw [eu] at k
    exact k h1 st a1'
  have p6 : 2 * i' + 1 < n → J6 h1 := by
    intro h2
    rw [if_neg (by omega)] at ed
    simp -zeta only [J6]
    clear J6
    intro J9
    have hc := childL_lt Ent.used (l := ys) (i := i') (n := n) h2
    have p9 : J9 (.int .i64 ((childL Ent.used ys i' n : Nat) : Int)) h1 := by
      unfold J9
      clear J9
      generalize childL Ent.used ys i' n = ch at ed hc ⊢
      refine M_less a1' ch i' (by omega) (by omega) ?_
      by_cases q1 : keyL Ent.used ys ch < keyL Ent.used ys i'
      · simp only [q1, decide_true, GL, RL, Bool.not_true, Bool.false_eq_true, if_false]
        rw [if_pos q1] at ed
        refine M_swap st.own a1' i' ch (by omega) (by omega) (by omega) fun h2' s2 a2 => ?_
        exact ⟨h2', .refl _, n - ch, by omega, f2, ch, _, by omega, by omega, by omega, by rw [swapL_len]; exact ly, by rw [eu, ed], st.trans s2, a2, rfl⟩
      · simp only [q1, decide_false, GL, RL, Bool.not_false, if_true, egt]
        rw [if_neg q1] at ed
        exact stop ed
    clear_value J9
    have e2 : ((2 * i' + 1 : Nat) : Int) + 1 = ((2 * i' + 1 + 1 : Nat) : Int) := by omega
    have el : decide (((2 * i' + 1 + 1 : Nat) : Int) < (n : Int)) = decide (2 * i' + 1 + 1 < n) := lt_dec _ _
    simp (disch := omega) only [GL, RL, wi64, e2, el]
    by_cases q2 : 2 * i' + 1 + 1 < n
    · simp only [q2, decide_true, if_true]
      refine M_less a1' (2 * i' + 1 + 1) (2 * i' + 1) (by omega) (by omega) ?_
      by_cases q3 : keyL Ent.used ys (2 * i' + 1 + 1) < keyL Ent.used ys (2 * i' + 1)
      · simp only [q3, decide_true, GL, if_true]
        have : childL Ent.used ys i' n = 2 * i' + 1 + 1 := by unfold childL; rw [if_pos ⟨q2, q3⟩]
        rw [this] at p9
        exact p9
      · simp only [q3, decide_false, GL, Bool.false_eq_true, if_false]
        have : childL Ent.used ys i' n = 2 * i' + 1 := by unfold childL; rw [if_neg (fun q => q3 q.2)]
        rw [this] at p9
        exact p9
    · simp only [q2, decide_false, Bool.false_eq_true, if_false]
      have : childL Ent.used ys i' n = 2 * i' + 1 := by unfold childL; rw [if_neg (fun q => q2 q.1)]
      rw [this] at p9
      exact p9
  clear_value J6
  simp only [eg, e0]
  by_cases q1 : n ≤ 2 * i' + 1
  · simp only [q1, decide_true, Bool.true_eq_false, if_false, if_true, egt]
    rw [if_pos q1] at ed
    exact stop ed
  · simp only [q1, decide_false, if_true, Bool.false_eq_true, if_false]
    exact p6 (by omega)
theorem T_mend (w : Own R h (HB c Sh xs)) (a : HQ h c a0 a1 a2 a4 xs vh Sh) (i n : Nat) (hi : i < n) (hn : n ≤ xs.length) (lx : xs.length ≤ 1000000)
    (k : ∀ h', Stp R h R h' (HB c Sh xs) (HB c Sh (mendL Ent.used xs i n)) → HQ h' c a0 a1 a2 a4 (mendL Ent.used xs i n) vh Sh → K (.tuple #[]) h') :
    Cn P n_heap_down #[HIf c, .int .i64 (i : Int), .int .i64 (n : Int)] h fun t8 h => q P h (Op.unary .not t8) fun t9 => cnd t9 (Cn P n_heap_up #[HIf c, .int .i64 (i : Int)] h fun t12 h => K (Value.tuple #[]) h) (K (Value.tuple #[]) h) := by
  refine T_down w a i n hi hn lx fun h1 s1 a1' => ?_
  have hl := downL_len Ent.used n xs i n
  by_cases q1 : i < (downL Ent.used n xs i n).2
  · simp only [q1, decide_true, GL, RL, Bool.not_true, Bool.false_eq_true, if_false]
    have e : mendL Ent.used xs i n = (downL Ent.used n xs i n).1 := by unfold mendL; rw [if_pos q1]
    rw [e] at k
    exact k h1 s1 a1'
  · simp only [q1, decide_false, GL, RL, Bool.not_false, if_true]
    have e : mendL Ent.used xs i n = upL Ent.used n (downL Ent.used n xs i n).1 i := by unfold mendL; rw [if_neg q1]
    rw [e] at k
    exact T_up s1.own a1' i n (by omega) (by omega) (by omega) fun h2 s2 a2 => k h2 (s1.trans s2) a2
theorem T_Fix (w : Own R h (HB c Sh xs)) (a : HQ h c a0 a1 a2 a4 xs vh Sh) (i : Nat) (hi : i < xs.length) (lx : xs.length ≤ 1000000)
    (k : ∀ h', Stp R h R h' (HB c Sh xs) (HB c Sh (mendL Ent.used xs i xs.length)) → HQ h' c a0 a1 a2 a4 (mendL Ent.used xs i xs.length) vh Sh → K (.tuple #[]) h') : Cn P n_heap_Fix #[HIf c, .int .i64 (i : Int)] h K := by
  refine F_heap_Fix ?_
  unfold s_heap_Fix
  refine M_len a ?_
  exact T_mend w a i xs.length hi (Nat.le_refl _) lx k
theorem M_push {e : Ent} (w : Own R h (e.blk :: HB c Sh xs)) (a : HQ h c a0 a1 a2 a4 xs vh Sh) (he : h e.blk = some (.row t_cache_item (entC e 0) 4 (some (0, 0)))) (hn : e.blk ∉ HB c Sh xs) (lx : xs.length ≤ 1000000)
    (k : ∀ vh' Sh' h', Stp R h R h' (e.blk :: HB c Sh xs) (HB c Sh' (xs ++ [e])) → HQ h' c a0 a1 a2 a4 (xs ++ [e]) vh' Sh' → K (.tuple #[]) h') : aw P (callMethod (HIf c) "Push" #[.iface t_Pt_cache_item (ptrE e)]) (nextP P K) h := by
  refine aw_method (g := n_cache_items_Push) (r := .pointer (some ⟨c, 3, none⟩)) (m_push c) ?_
  show Cn P n_cache_items_Push #[.pointer (some ⟨c, 3, none⟩), .iface t_Pt_cache_item (ptrE e)] h K
  refine F_cache_items_Push ?_
  unfold s_cache_items_Push
  have c3 := a.cell
  have hnc : e.blk ≠ c ∧ e.blk ∉ Sh ∧ ∀ x ∈ xs, x.blk ≠ e.blk := by
    rw [mem_HB] at hn
    simp only [not_or, not_exists, not_and] at hn
    exact ⟨hn.1, hn.2.1, hn.2.2⟩
  obtain ⟨_, aa, cc, ev, hcc, _⟩ := a.out.rds
  have lnv : ∀ {h : Hp} {K : Value → Prop}, q P h (Builtin.len_ #[t_cache_items] t_int #[vh]) K = K (.int .i64 (xs.length : Int)) := fun {h K} => by rw [ev]; exact q_lenS u_cache_items _ _ _
  simp (disch := omega) only [ptrE, ta_item, ext0, ext1, GL, RL, if_true, c3, lnv, ci2]
  refine aw_store z_int rfl (put_row (b := e.blk) (off := 3) he (by simp [entC]) (by simp) _) ?_
  have s1 : (entC e 0).set 3 (.int .i64 (xs.length : Int)) = entC e xs.length := rfl
  rw [s1]
  have c3' : (h.set e.blk (.row t_cache_item (entC e xs.length) 4 (some (0, 0)))).cell ⟨c, 3, none⟩ = some vh := by rw [cell_row (by rw [Hp.set_ne _ _ (Ne.symm hnc.1)]; exact a.row)]; rfl
  simp (disch := omega) only [GL, RL, c3']
  obtain ⟨h1, hh1⟩ : ∃ h1, h.set e.blk (.row t_cache_item (entC e xs.length) 4 (some (0, 0))) = h1 := ⟨_, rfl⟩
  rw [hh1]
  have f1 : ∀ x, x ≠ e.blk → h1 x = h x := fun x hx => by rw [← hh1, Hp.set_ne _ _ hx]
  have e1 : h1 e.blk = some (.row t_cache_item (entC e xs.length) 4 (some (0, 0))) := by rw [← hh1]; exact Hp.set_same ..
  have o1 : OutAt t_Pt_cache_item 1 h1 vh (xs.map ptrE) xs.length Sh := a.out.keep fun x hx => f1 x (by rintro rfl; exact hnc.2.1 hx)
  refine aw_lit (ps := [(0, .pointer (some ⟨e.blk, 0, none⟩))]) (n := 1) u_cache_items z_Pt_cache_item zr_Pt_cache_item rfl (by omega) (by intro p hp; rw [List.mem_singleton.1 hp]; exact ⟨rfl, by show _ < 1; omega⟩) fun v24 h2 n2 _ => ?_
  have n2' : New h1 t_Pt_cache_item 1 v24 h2 [ptrE e] 1 := n2
  have x2 := n2'.ext
  have o2 : OutAt t_Pt_cache_item 1 h2 vh (xs.map ptrE) xs.length Sh := o1.keep fun x hx => by
    obtain ⟨o, eo⟩ := w.kn x (List.mem_cons_of_mem _ (mem_HB.2 (.inr (.inl hx))))
    have : h1 x = some o := by rw [f1 x (by rintro rfl; exact hnc.2.1 hx)]; exact eo
    rw [this, x2 _ _ this]
  refine aw_appendO (ts := t_cache_items) (t2 := t_cache_items) u_cache_items u_cache_items nfo_Pt_cache_item rfl (by omega) o2 n2'.rds (by intro y hy; rw [List.mem_singleton.1 hy]; rfl) (by omega) fun v25 h3 Sh' o3 kp3 fr3 => ?_
  have hcS : c ∉ Sh := (nod_ne a.nod).1
  have rc2 : h2 c = some (.row t_cache_Cache [a0, a1, a2, vh, a4] 5 (some (0, 0))) := x2 _ _ (by rw [f1 c (Ne.symm hnc.1)]; exact a.row)
  have rc3 := kp3 c _ hcS rc2
  have fl25 : flat v25 = true := o3.rds.2.elim fun _ q => by obtain ⟨_, e, _⟩ := q; rw [e]; rfl
  refine aw_store z_cache_items fl25 (put_row rc3 (by simp) (by simp) _) ?_
  have hc' : c ∉ Sh' := fr3 c _ hcS rc2
  have kb : ∀ x, x ∈ xs.map Ent.blk ∨ x = e.blk → x ≠ c ∧ x ∉ Sh ∧ ∃ o, h2 x = some o := fun x hx => by
    rcases hx with hx | rfl
    · obtain ⟨y, hy, rfl⟩ := List.mem_map.1 hx
      obtain ⟨i, hi, rfl⟩ := List.getElem_of_mem hy
      have := a.ent i _ (List.getElem?_eq_getElem hi)
      obtain ⟨_, n2, _⟩ := nod_ne a.nod
      exact ⟨(n2 _ hy).1, (n2 _ hy).2, _, x2 _ _ (by rw [f1 _ (hnc.2.2 _ hy)]; exact this)⟩
    · exact ⟨hnc.1, hnc.2.1, _, x2 _ _ e1⟩
  have keep4 : ∀ x o, x ≠ c → x ∉ Sh → h2 x = some o → (h3.set c (.row t_cache_Cache [a0, a1, a2, v25, a4] 5 (some (0, 0)))) x = some o := fun x o hx hS eo => by
    rw [Hp.set_ne _ _ hx]; exact kp3 x o hS eo
  refine k v25 Sh' _ (stp_mk w (fun x o hx eo => ?_) (fun x o hx eo => ?_) fun x hx => ?_) ⟨Hp.set_same .., ?_, fun j y ej => ?_, ?_⟩
  · simp only [List.mem_cons, not_or, mem_HB] at hx
    exact keep4 x o hx.2.1 hx.2.2.1 (x2 _ _ (by rw [f1 x hx.1]; exact eo))
  · simp only [List.mem_cons, not_or, mem_HB, not_exists, not_and] at hx
    rw [mem_HB]
    simp only [not_or, not_exists, not_and, List.mem_append, List.mem_singleton]
    refine ⟨hx.2.1, fr3 x o hx.2.2.1 (x2 _ _ (by rw [f1 x hx.1]; exact eo)), ?_⟩
    rintro y (hy | rfl)
    · exact hx.2.2.2 y hy
    · exact Ne.symm hx.1
  · rw [mem_HB] at hx
    rcases hx with rfl | hx | ⟨y, hy, rfl⟩
    · exact ⟨_, Hp.set_same ..⟩
    · rcases o3 with ⟨_, _, _, rfl⟩ | ⟨b, cap, f, hb, _, _, _, rfl, _⟩
      · cases hx
      · rw [List.mem_singleton] at hx
        subst hx
        exact ⟨_, by rw [Hp.set_ne _ _ (by rintro rfl; exact hc' (by simp))]; exact hb⟩
    · have := kb y.blk (by
        rcases List.mem_append.1 hy with q | q
        · exact .inl (List.mem_map_of_mem q)
        · rw [List.mem_singleton.1 q]; exact .inr rfl)
      obtain ⟨q1, q2, o, eo⟩ := this
      exact ⟨o, keep4 _ _ q1 q2 eo⟩
  · have : (xs ++ [e]).map ptrE = xs.map ptrE ++ [ptrE e] := by simp
    rw [this, List.length_append]
    exact o3.keep fun x hx => Hp.set_ne _ _ (by rintro rfl; exact hc' hx)
  · by_cases q : j < xs.length
    · rw [List.getElem?_append_left q] at ej
      have hy := List.mem_of_getElem? ej
      obtain ⟨_, n2, _⟩ := nod_ne a.nod
      exact keep4 _ _ (n2 _ hy).1 (n2 _ hy).2 (x2 _ _ (by rw [f1 _ (hnc.2.2 _ hy)]; exact a.ent j y ej))
    · rw [List.getElem?_append_right (by omega)] at ej
      have hj : j - xs.length = 0 := by
        have := (List.getElem?_eq_some_iff.1 ej).1
        simp at this; omega
      rw [hj] at ej
      cases ej
      obtain rfl : j = xs.length := by omega
      exact keep4 _ _ hnc.1 hnc.2.1 (x2 _ _ e1)
  · have nd := a.nod
    unfold HB at nd ⊢
    rw [List.nodup_cons, List.nodup_append] at nd ⊢
    obtain ⟨d1, d2, d3, d4⟩ := nd
    have em : (xs ++ [e]).map Ent.blk = xs.map Ent.blk ++ [e.blk] := by simp
    have dis : ∀ x ∈ Sh', ∀ y, (y ∈ xs.map Ent.blk ∨ y = e.blk) → x ≠ y := fun x hx y hy => by
      rintro rfl
      obtain ⟨_, q2, o, eo⟩ := kb x hy
      exact fr3 x o q2 eo hx
    refine ⟨?_, ?_, ?_, ?_⟩
    · rw [em, List.mem_append, List.mem_append, not_or, not_or]
      exact ⟨hc', fun q => d1 (List.mem_append_right _ q), fun q => hnc.1 (List.mem_singleton.1 q).symm⟩
    · rcases o3 with ⟨_, _, _, rfl⟩ | ⟨b, cap, f, hb, _, _, _, rfl, _⟩
      · exact List.nodup_nil
      · simp
    · rw [em, List.nodup_append]
      refine ⟨d3, by simp, fun x hx y hy => ?_⟩
      rw [List.mem_singleton.1 hy]
      obtain ⟨z, hz, rfl⟩ := List.mem_map.1 hx
      exact hnc.2.2 z hz
    · rw [em]
      intro x hx y hy
      refine dis x hx y ?_
      rcases List.mem_append.1 hy with q | q
      · exact .inl q
      · exact .inr (List.mem_singleton.1 q)
theorem T_heapPush {e : Ent} (w : Own R h (e.blk :: HB c Sh xs)) (a : HQ h c a0 a1 a2 a4 xs vh Sh) (he : h e.blk = some (.row t_cache_item (entC e 0) 4 (some (0, 0)))) (hn : e.blk ∉ HB c Sh xs) (lx : xs.length ≤ 999999)
    (k : ∀ vh' Sh' h', Stp R h R h' (e.blk :: HB c Sh xs) (HB c Sh' (pushL Ent.used xs e)) → HQ h' c a0 a1 a2 a4 (pushL Ent.used xs e) vh' Sh' → K (.tuple #[]) h') : Cn P n_heap_Push #[HIf c, .iface t_Pt_cache_item (ptrE e)] h K := by
  refine F_heap_Push ?_
  unfold s_heap_Push
  refine M_push w a he hn (by omega) fun vh' Sh' h1 s1 a1' => ?_
  refine M_len a1' ?_
  have e1 : (((xs ++ [e]).length : Nat) : Int) - 1 = (xs.length : Int) := by simp
  have ll : (xs ++ [e]).length = xs.length + 1 := by simp
  simp (disch := omega) only [GL, RL, wi64, e1]
  exact T_up s1.own a1' xs.length (xs.length + 1) (by omega) (by omega) (by omega) fun h2 s2 a2 => k vh' Sh' h2 (s1.trans s2) a2
theorem M_pop {e : Ent} {ys : List Ent} (ey : xs = ys ++ [e]) (w : Own R h (HB c Sh xs)) (a : HQ h c a0 a1 a2 a4 xs vh Sh)
    (k : ∀ vh' h', Stp R h R h' (HB c Sh xs) (e.blk :: HB c Sh ys) → HQ h' c a0 a1 a2 a4 ys vh' Sh → h' e.blk = some (.row t_cache_item (entC e ys.length) 4 (some (0, 0))) → K (.iface t_Pt_cache_item (ptrE e)) h') (lx : xs.length ≤ 1000000) :
    aw P (callMethod (HIf c) "Pop" #[]) (nextP P K) h := by
  refine aw_method (g := n_cache_items_Pop) (r := .pointer (some ⟨c, 3, none⟩)) (m_pop c) ?_
  show Cn P n_cache_items_Pop #[.pointer (some ⟨c, 3, none⟩)] h K
  refine Cn_wk (F_cache_items_Pop ?_)
  unfold s_cache_items_Pop
  have lxy : xs.length = ys.length + 1 := by rw [ey]; simp
  obtain ⟨b, cap, f, hb, rfl, hc, hf, rfl⟩ := a.form (by omega)
  have c3 := a.cell
  have e1 : ((xs.length : Nat) : Int) - 1 = (ys.length : Int) := by omega
  have ee : xs[ys.length]? = some e := by rw [ey]; simp
  have c1 : h.cell ⟨b, ys.length, none⟩ = some (ptrE e) := by rw [cell_row hb, List.getElem?_map, ee]; rfl
  simp (disch := omega) only [GL, RL, c3, wi64, e1, c1]
  rw [q_slHi (hi := ys.length) u_cache_items z_Pt_cache_item _ _ cap .i64 (by omega)]
  have ecut : SL.cut (some ⟨b, 0, none⟩) cap 0 1 = some ⟨b, 0, none⟩ := by unfold SL.cut; rw [if_neg (by omega)]; rfl
  rw [ecut]
  refine aw_store z_cache_items rfl (put_row a.row (by simp) (by simp) _) ?_
  simp only [ptrE, mkE]
  obtain ⟨n1, n2, n3⟩ := nod_ne a.nod
  simp only [List.mem_singleton] at n1
  have me : e ∈ xs := List.mem_of_getElem? ee
  have be := n2 _ me
  simp only [List.mem_singleton] at be
  have emap : xs.map ptrE = ys.map ptrE ++ [ptrE e] := by rw [ey]; simp
  have bne : b ≠ c := Ne.symm n1
  refine ⟨(h.set b (.row t_Pt_cache_item (ys.map ptrE) (cap * 1) (some f))).set c (.row t_cache_Cache [a0, a1, a2, .slice (some ⟨b, 0, none⟩) ys.length cap, a4] 5 (some (0, 0))), le_set fun x o eo => ?_, k _ _ (stp_mk w (fun x o hx eo => ?_) (fun x o hx eo => ?_) fun x hx => ?_) ⟨Hp.set_same .., .inr ⟨b, cap, f, by rw [Hp.set_ne _ _ bne, Hp.set_same], rfl, by omega, hf, rfl, by simp⟩, fun j y ej => ?_, ?_⟩ ?_⟩
  · by_cases q : x = b
    · subst q
      rw [Hp.set_same] at eo
      cases eo
      exact ⟨_, hb, rfl, rfl, by rw [emap]; exact List.prefix_append _ _, .inl rfl⟩
    · rw [Hp.set_ne _ _ q] at eo
      exact ⟨o, eo, .refl _⟩
  · rw [mem_HB] at hx
    simp only [not_or, List.mem_singleton] at hx
    rw [Hp.set_ne _ _ hx.1, Hp.set_ne _ _ hx.2.1]; exact eo
  · rw [mem_HB] at hx
    simp only [not_or, List.mem_singleton, not_exists, not_and] at hx
    simp only [List.mem_cons, mem_HB, not_or, List.mem_singleton, not_exists, not_and]
    exact ⟨fun q => hx.2.2 e me q.symm, hx.1, ⟨hx.2.1, List.not_mem_nil⟩, fun y hy => hx.2.2 y (by rw [ey]; exact List.mem_append_left _ hy)⟩
  · have : x ∈ HB c [b] xs := by
      rw [mem_HB]
      simp only [List.mem_cons, mem_HB, List.not_mem_nil, or_false] at hx
      rcases hx with rfl | rfl | rfl | ⟨y, hy, rfl⟩
      · exact .inr (.inr ⟨e, me, rfl⟩)
      · exact .inl rfl
      · exact .inr (.inl (by simp))
      · exact .inr (.inr ⟨y, by rw [ey]; exact List.mem_append_left _ hy, rfl⟩)
    obtain ⟨o, eo⟩ := w.kn x this
    by_cases q1 : x = c
    · rw [q1]; exact ⟨_, Hp.set_same ..⟩
    · rw [Hp.set_ne _ _ q1]
      by_cases q2 : x = b
      · rw [q2]; exact ⟨_, Hp.set_same ..⟩
      · rw [Hp.set_ne _ _ q2]; exact ⟨o, eo⟩
  · have hy : y ∈ xs := by rw [ey]; exact List.mem_append_left _ (List.mem_of_getElem? ej)
    have by' := n2 _ hy
    simp only [List.mem_singleton] at by'
    rw [Hp.set_ne _ _ by'.1, Hp.set_ne _ _ by'.2]
    refine a.ent j y ?_
    rw [ey, List.getElem?_append_left (List.getElem?_eq_some_iff.1 ej).1]
    exact ej
  · have nd := a.nod
    unfold HB at nd ⊢
    rw [ey, List.map_append, ← List.append_assoc, ← List.cons_append, List.nodup_append] at nd
    exact nd.1
  · rw [Hp.set_ne _ _ be.1, Hp.set_ne _ _ be.2]
    exact a.ent _ _ ee
theorem T_heapRemove {e : Ent} (i : Nat) (ei : xs[i]? = some e) (w : Own R h (HB c Sh xs)) (a : HQ h c a0 a1 a2 a4 xs vh Sh) (lx : xs.length ≤ 1000000)
    (k : ∀ ys vh' h', outL Ent.used xs i = ys ++ [e] → Stp R h R h' (HB c Sh xs) (e.blk :: HB c Sh ys) → HQ h' c a0 a1 a2 a4 ys vh' Sh → h' e.blk = some (.row t_cache_item (entC e ys.length) 4 (some (0, 0))) → K (.iface t_Pt_cache_item (ptrE e)) h') :
    Cn P n_heap_Remove #[HIf c, .int .i64 (i : Int)] h K := by
  refine F_heap_Remove ?_
  unfold s_heap_Remove
  have hi : i < xs.length := (List.getElem?_eq_some_iff.1 ei).1
  refine M_len a ?_
  have e1 : ((xs.length : Nat) : Int) - 1 = ((xs.length - 1 : Nat) : Int) := by omega
  have en : (((xs.length - 1 : Nat) : Int) != (i : Int)) = decide (xs.length - 1 ≠ i) := ne_dec _ _
  have hl := outL_len Ent.used xs i
  have hlast := outL_last Ent.used hi
  rw [ei] at hlast
  have split : ∃ ys, outL Ent.used xs i = ys ++ [e] := by
    refine ⟨(outL Ent.used xs i).take (xs.length - 1), ?_⟩
    have h1 : (outL Ent.used xs i).take (xs.length - 1 + 1) = (outL Ent.used xs i).take (xs.length - 1) ++ [e] := by
      have hlt : xs.length - 1 < (outL Ent.used xs i).length := by omega
      rw [List.take_succ_eq_append_getElem hlt]
      congr 1
      have := List.getElem?_eq_getElem hlt
      rw [this] at hlast
      rw [Option.some.inj hlast]
    rw [← h1, List.take_of_length_le (by omega)]
  obtain ⟨ys, hys⟩ := split
  have fin : ∀ h1, Stp R h R h1 (HB c Sh xs) (HB c Sh (outL Ent.used xs i)) → HQ h1 c a0 a1 a2 a4 (outL Ent.used xs i) vh Sh → aw P (callMethod (HIf c) "Pop" #[]) (nextP P fun t25 h => K t25 h) h1 := fun h1 s1 a1' =>
    M_pop hys s1.own a1' (fun vh' h2 s2 a2 he => k ys vh' h2 hys (s1.trans s2) a2 he) (by omega)
  simp (disch := omega) only [GL, RL, wi64, e1, en]
  by_cases q : xs.length - 1 = i
  · have eo : outL Ent.used xs i = xs := by unfold outL; rw [if_pos q]
    simp only [q, ne_eq, not_true_eq_false, decide_false, Bool.false_eq_true, if_false]
    exact fin h (by rw [eo]; exact .refl w) (by rw [eo]; exact a)
  · have eo : outL Ent.used xs i = mendL Ent.used (swapL xs i (xs.length - 1)) i (xs.length - 1) := by unfold outL; rw [if_neg q]
    simp only [q, ne_eq, not_false_eq_true, decide_true, if_true]
    refine M_swap w a i (xs.length - 1) hi (by omega) (by omega) fun h1 s1 a1' => ?_
    rw [eo] at fin
    refine T_down s1.own a1' i (xs.length - 1) (by omega) (by rw [swapL_len]; omega) (by rw [swapL_len]; exact lx) fun h2 s2 a2 => ?_
    have hl2 := downL_len Ent.used (xs.length - 1) (swapL xs i (xs.length - 1)) i (xs.length - 1)
    rw [swapL_len] at hl2
    by_cases q1 : i < (downL Ent.used (xs.length - 1) (swapL xs i (xs.length - 1)) i (xs.length - 1)).2
    · simp only [q1, decide_true, GL, RL, Bool.not_true, Bool.false_eq_true, if_false]
      have e2 : mendL Ent.used (swapL xs i (xs.length - 1)) i (xs.length - 1) = (downL Ent.used (xs.length - 1) (swapL xs i (xs.length - 1)) i (xs.length - 1)).1 := by unfold mendL; rw [if_pos q1]
      rw [e2] at fin
      exact fin h2 (s1.trans s2) a2
    · simp only [q1, decide_false, GL, RL, Bool.not_false, if_true]
      have e2 : mendL Ent.used (swapL xs i (xs.length - 1)) i (xs.length - 1) = upL Ent.used (xs.length - 1) (downL Ent.used (xs.length - 1) (swapL xs i (xs.length - 1)) i (xs.length - 1)).1 i := by unfold mendL; rw [if_neg q1]
      rw [e2] at fin
      exact T_up s2.own a2 i (xs.length - 1) (by omega) (by omega) (by omega) fun h3 s3 a3 => fin h3 ((s1.trans s2).trans s3) a3
end
end Go.Proofs.Ytbglokdjlbknaaa
set_option linter.unusedSimpArgs false
set_option linter.unusedVariables false
namespace Go.SL
open Go
theorem ba_beq (a b : ByteArray) : (a == b) = decide (a = b) := by
  obtain ⟨a⟩ := a
  obtain ⟨b⟩ := b
  show (a == b) = _
  rw [Bool.eq_iff_iff, beq_iff_eq, decide_eq_true_eq]
  exact ⟨fun h => by rw [h], fun h => by injection h⟩
/-- What stands behind a key. -/
def mval (es : List MapEntry) (k : ByteArray) : Option Value := (mget es k).map (·.2)
def keyS (e : MapEntry) : ByteArray := match e.key with
  | .string s => s
  | _ => ByteArray.empty
theorem strKeys_cons {e : MapEntry} {es : List MapEntry} (h : strKeys (e :: es)) : e.key = .string (keyS e) ∧ strKeys es := by
  obtain ⟨s, hs⟩ := h e (by simp)
  exact ⟨by unfold keyS; rw [hs], fun x hx => h x (List.mem_cons_of_mem _ hx)⟩
theorem mget_cons {e : MapEntry} {es : List MapEntry} (h : strKeys (e :: es)) (k : ByteArray) : mget (e :: es) k = if k = keyS e then some (0, e.val) else (mget es k).map fun p => (p.1 + 1, p.2) := by
  obtain ⟨h1, _⟩ := strKeys_cons h
  have e1 : mget (e :: es) k = match e.key with
    | .string s => if (k == s) = true then some (0, e.val) else (mget es k).map fun p => (p.1 + 1, p.2)
    | _ => none := rfl
  rw [e1, h1]
  dsimp only
  rw [ba_beq]
  by_cases q : k = keyS e
  · rw [if_pos q, if_pos (by rw [decide_eq_true_eq]; exact q)]
  · rw [if_neg q, if_neg (by rw [decide_eq_true_eq]; exact q)]
theorem mget_none_of {es : List MapEntry} (h : strKeys es) (k : ByteArray) (n : k ∉ es.map keyS) : mget es k = none := by
  induction es with
  | nil => rfl
  | cons e es ih =>
    simp only [List.map_cons, List.mem_cons, not_or] at n
    rw [mget_cons h, if_neg n.1, ih (strKeys_cons h).2 n.2]
    rfl
/-- Keys that are unlike: one is taken out. -/
theorem mval_erase : ∀ {es : List MapEntry} (h : strKeys es) (nd : (es.map keyS).Nodup) {k : ByteArray} {i : Nat} {v : Value} (e : mget es k = some (i, v)) (n : ByteArray),
    mval (es.eraseIdx i) n = if n = k then none else mval es n
  | [], _, _, _, _, _, e, _ => by cases e
  | x :: es, h, nd, k, i, v, e, n => by
    obtain ⟨h1, h2⟩ := strKeys_cons h
    rw [List.map_cons, List.nodup_cons] at nd
    rw [mget_cons h] at e
    by_cases q : k = keyS x
    · rw [if_pos q] at e
      cases e
      rw [List.eraseIdx_cons_zero]
      unfold mval
      by_cases q2 : n = k
      · rw [if_pos q2, q2, q, mget_none_of h2 _ nd.1]
        rfl
      · rw [if_neg q2, mget_cons h, if_neg (by rw [← q]; exact q2), Option.map_map]
        rfl
    · rw [if_neg q] at e
      cases hg : mget es k with
      | none => rw [hg] at e; cases e
      | some p =>
        rw [hg] at e
        simp only [Option.map_some, Option.some.injEq, Prod.mk.injEq] at e
        obtain ⟨rfl, rfl⟩ := e
        have ih := mval_erase h2 nd.2 hg n
        have hs : strKeys (x :: es.eraseIdx p.1) := fun y hy => by
          rcases List.mem_cons.1 hy with rfl | hy
          · exact ⟨_, h1⟩
          · exact h2 y (List.mem_of_mem_eraseIdx hy)
        rw [List.eraseIdx_cons_succ]
        unfold mval at ih ⊢
        rw [mget_cons hs, mget_cons h]
        by_cases q2 : n = keyS x
        · rw [if_pos q2, if_pos q2, if_neg (by rw [q2]; exact Ne.symm q)]
        · rw [if_neg q2, if_neg q2, Option.map_map, Option.map_map]
          exact ih
theorem nodup_erase {es : List MapEntry} (nd : (es.map keyS).Nodup) (i : Nat) : ((es.eraseIdx i).map keyS).Nodup :=
  nd.sublist ((List.eraseIdx_sublist es i).map _)
theorem strKeys_erase {es : List MapEntry} (h : strKeys es) (i : Nat) : strKeys (es.eraseIdx i) := fun y hy => h y (List.mem_of_mem_eraseIdx hy)
theorem nodup_push {es : Array MapEntry} (h : strKeys es.toList) (nd : (es.toList.map keyS).Nodup) {k : ByteArray} (n : mget es.toList k = none) (v : Value) (c : Nat) : ((es.push ⟨.string k, v, c⟩).toList.map keyS).Nodup := by
  rw [Array.toList_push, List.map_append, List.nodup_append]
  refine ⟨nd, by simp, fun a ha b hb => ?_⟩
  simp only [List.map_cons, List.map_nil, List.mem_singleton] at hb
  have hb : b = k := hb
  intro ea
  rw [ea, hb] at ha
  have : ∀ {es : List MapEntry}, strKeys es → k ∈ es.map keyS → mget es k ≠ none := by
    intro es
    induction es with
    | nil => intro _ h; cases h
    | cons x es ih =>
      intro hs hm
      rw [mget_cons hs]
      by_cases q : k = keyS x
      · rw [if_pos q]; simp
      · rw [if_neg q]
        simp only [List.map_cons, List.mem_cons] at hm
        have := ih (strKeys_cons hs).2 (hm.resolve_left q)
        intro h0
        exact this (by simpa using h0)
  exact this h ha n
theorem mval_push {es : Array MapEntry} (hs : strKeys es.toList) {k : ByteArray} (n : mget es.toList k = none) (v : Value) (c : Nat) (x : ByteArray) : mval (es.push ⟨.string k, v, c⟩).toList x = if x = k then some v else mval es.toList x := by
  unfold mval
  rw [mget_push hs]
  by_cases q : x = k
  · subst q
    rw [n, if_pos (by rw [ba_beq, decide_eq_true_eq]), if_pos rfl]
    rfl
  · rw [if_neg (by rw [ba_beq, decide_eq_true_eq]; exact q), if_neg q]
    cases mget es.toList x <;> rfl
section
variable {P : Program} {h : Hp}
/-- A key is taken out. -/
theorem aw_delete {t kt e T T2 : TypeId} {r c i : Nat} {v : Value} {es : Array MapEntry} {K : Value → Hp → Prop} (ht : P.underlying t = some (.map kt e)) (hk : P.underlying kt = some .string) (hr : h r = some (.obj (.map es c))) (hs : strKeys es.toList) (k : ByteArray)
    (hf : mget es.toList k = some (i, v)) (kk : K (.tuple #[]) (h.set r (.obj (.map (es.eraseIdxIfInBounds i) c)))) : aw P (Builtin.delete_ #[t, T2] T #[.map (some r), .string k]) K h := by
  refine aw_of ?_
  show awp P (Sem.bind (underlying t) _) _ h
  rw [awp_bind, peek_awp P _ _ _ (pk_und ht)]
  show awp P (Sem.getObj r _) _ h
  simp only [awp, hr]
  show awp P (Sem.bind (Instr.checkKey es.isEmpty 10000 kt (.string k)) _) _ h
  rw [awp_bind, peek_awp P _ _ _ (pk_checkKey hk es.isEmpty k)]
  show awp P (Sem.bind (Instr.findKey kt (.string k) es.toList) _) _ h
  rw [awp_bind, peek_awp P _ _ _ (pk_findKey hk hs k), hf]
  show awp P (Sem.setObj r _ _) _ h
  simp only [awp, hr]
  exact ⟨rfl, kk⟩
theorem q_lookupV {t kt e : TypeId} {r c : Nat} {es : Array MapEntry} {z : Value} {K : Value → Prop} (ht : P.underlying t = some (.map kt e)) (hk : P.underlying kt = some .string) (hz : zr P e = some z) (hr : h r = some (.obj (.map es c))) (hs : strKeys es.toList) (k : ByteArray) :
    q P h (Instr.lookup t (.map (some r)) (.string k) true) K = K (.tuple #[(mval es.toList k).getD z, .bool (mval es.toList k).isSome]) := by
  rw [q_lookup ht hk hz hr hs k]
  unfold mval
  cases mget es.toList k <;> rfl
end
end Go.SL
set_option linter.unusedSimpArgs false
set_option linter.unusedVariables false
set_option maxRecDepth 100000
set_option maxHeartbeats 4000000
namespace Go.Proofs.Ytbglokdjlbknaaa
open Go Go.SL Go.Pure
def sumS (L : List Ent) : Nat := (L.map Ent.size).sum
/-- A cache: its heap, its names; L: its items, the oldest first. -/
structure CL (h : Hp) (c q now : Nat) (L xs : List Ent) (vh : Value) (Sh : List Nat) (r : Nat) (es : Array MapEntry) (clk : Nat) : Prop where
  hq : HQ h c (.int .i64 (q : Int)) (.int .i64 ((sumS L : Nat) : Int)) (.int .i64 (now : Int)) (.map (some r)) xs vh Sh
  mp : h r = some (.obj (.map es clk))
  sk : strKeys es.toList
  kn : (es.toList.map keyS).Nodup
  mo : ∀ n v, mval es.toList n = some v ↔ ∃ e ∈ xs, e.name = n ∧ ptrE e = v
  rn : r ∉ HB c Sh xs
  hp : HeapN Ent.used xs.length xs
  pm : xs.Perm L
  so : L.Pairwise fun a b => a.used < b.used
  nw : ∀ e ∈ L, e.used ≤ now
  le : sumS L ≤ q
  qb : q ≤ 9223372036854775807
  lb : L.length ≤ 900000
def CAt (h : Hp) (c q now : Nat) (L : List Ent) (S : List Nat) : Prop := ∃ xs vh Sh r es clk, CL h c q now L xs vh Sh r es clk ∧ S = r :: HB c Sh xs
theorem ptrE_inj {xs : List Ent} {c : Nat} {Sh : List Nat} (n : (HB c Sh xs).Nodup) {e f : Ent} (he : e ∈ xs) (hf : f ∈ xs) (h : ptrE e = ptrE f) : e = f := by
  obtain ⟨i, hi, rfl⟩ := List.getElem_of_mem he
  obtain ⟨j, hj, rfl⟩ := List.getElem_of_mem hf
  by_cases q : i = j
  · subst q; rfl
  · have := (nod_ne n).2.2 i j _ _ (List.getElem?_eq_getElem hi) (List.getElem?_eq_getElem hj) q
    simp only [ptrE, Value.pointer.injEq, Option.some.injEq, Addr.mk.injEq] at h
    exact absurd h.1 this
/-- Names are unlike. -/
theorem CL.names {h : Hp} {c q now : Nat} {L xs : List Ent} {vh : Value} {Sh : List Nat} {r : Nat} {es : Array MapEntry} {clk : Nat} (a : CL h c q now L xs vh Sh r es clk) {e f : Ent} (he : e ∈ xs) (hf : f ∈ xs) (hn : e.name = f.name) : e = f := by
  have h1 := (a.mo e.name (ptrE e)).2 ⟨e, he, rfl, rfl⟩
  have h2 := (a.mo e.name (ptrE f)).2 ⟨f, hf, hn.symm, rfl⟩
  rw [h1] at h2
  exact ptrE_inj a.hq.nod he hf (Option.some.inj h2)
theorem sumS_app (A B : List Ent) : sumS (A ++ B) = sumS A + sumS B := by simp [sumS]
theorem sumS_cons (e : Ent) (B : List Ent) : sumS (e :: B) = e.size + sumS B := by simp [sumS]
section
variable {h : Hp} {K : Value → Hp → Prop} {c q now : Nat} {R : Hp}
theorem T_remove {S : List Nat} {A B : List Ent} {e : Ent} {xs : List Ent} {vh : Value} {Sh : List Nat} {r : Nat} {es : Array MapEntry} {clk : Nat} (w : Own R h (r :: HB c Sh xs)) (a : CL h c q now (A ++ e :: B) xs vh Sh r es clk)
    (k : ∀ h' S', Stp R h R h' (r :: HB c Sh xs) S' → CAt h' c q now (A ++ B) S' → K (.tuple #[]) h') : Cn P n_cache_Cache_remove #[.pointer (some ⟨c, 0, none⟩), ptrE e] h K := by
  refine F_cache_Cache_remove ?_
  unfold s_cache_Cache_remove
  have eL : e ∈ xs := a.pm.mem_iff.2 (by simp)
  obtain ⟨i, hi, rfl⟩ := List.getElem_of_mem eL
  have ei := List.getElem?_eq_getElem hi
  generalize xs[i] = e at *
  have re := a.hq.ent i e ei
  have ce3 : h.cell ⟨e.blk, 3, none⟩ = some (.int .i64 (i : Int)) := by rw [cell_row re]; rfl
  simp (disch := omega) only [ptrE, GL, RL, cc3, mkI, ci2, ce3]
  have wH : Own R h (HB c Sh xs) := w.sub' fun x hx => List.mem_cons_of_mem _ hx
  have wr : Own R h [r] := w.sub' fun x hx => by rw [List.mem_singleton.1 hx]; simp
  have lxs : xs.length ≤ 900000 := by rw [a.pm.length_eq]; exact a.lb
  refine T_heapRemove i ei wH a.hq (by omega) fun ys vh' h1 hys s1 hq1 he1 => ?_
  obtain ⟨wr1, dr1, sr1⟩ := s1.frame wr fun x hx => by rw [List.mem_singleton.1 hx]; exact a.rn
  have mp1 : h1 r = some (.obj (.map es clk)) := by rw [sr1 r (by simp)]; exact a.mp
  have nre : r ≠ e.blk := fun q => dr1 r (by simp) (by rw [q]; simp)
  have nrH : r ∉ HB c Sh ys := fun q => dr1 r (by simp) (List.mem_cons_of_mem _ q)
  have nrc : r ≠ c := fun q => nrH (by rw [q]; simp [HB])
  have neH : e.blk ∉ HB c Sh ys := by
    have p : (HB c Sh (ys ++ [e])).Perm (HB c Sh xs) := List.Perm.cons _ (List.Perm.append_left _ ((hys ▸ outL_perm Ent.used xs i).map _))
    have n := p.nodup_iff.2 a.hq.nod
    unfold HB at n ⊢
    rw [List.map_append, ← List.append_assoc, ← List.cons_append, List.nodup_append] at n
    intro q
    exact n.2.2 _ q _ (by simp) rfl
  have c14 : h1.cell ⟨c, 4, none⟩ = some (.map (some r)) := by rw [cell_row hq1.row]; rfl
  have ce0 : h1.cell ⟨e.blk, 0, none⟩ = some (.string e.name) := by rw [cell_row he1]; rfl
  have pys : (ys ++ [e]).Perm xs := hys ▸ outL_perm Ent.used xs i
  have hv := (a.mo e.name (ptrE e)).2 ⟨e, eL, rfl, rfl⟩
  obtain ⟨j, hj⟩ : ∃ j, mget es.toList e.name = some (j, ptrE e) := by
    unfold mval at hv
    cases hm : mget es.toList e.name with
    | none => rw [hm] at hv; cases hv
    | some p => rw [hm] at hv; exact ⟨p.1, by rw [← Option.some.inj hv]⟩
  simp (disch := omega) only [GL, RL, cc4, c14, ci0, ai0, ce0]
  refine aw_delete (v := ptrE e) (i := j) u_map_string_Pt_cache_item u_string mp1 a.sk e.name hj ?_
  have ets : (es.eraseIdxIfInBounds j).toList = es.toList.eraseIdx j := by simp
  have cc1' : (h1.set r (.obj (.map (es.eraseIdxIfInBounds j) clk))).cell ⟨c, 1, none⟩ = some (.int .i64 ((sumS (A ++ e :: B) : Nat) : Int)) := by
    rw [cell_row (by rw [Hp.set_ne _ _ (Ne.symm nrc)]; exact hq1.row)]; rfl
  have ce1' : (h1.set r (.obj (.map (es.eraseIdxIfInBounds j) clk))).cell ⟨e.blk, 1, none⟩ = some (.int .i64 (e.size : Int)) := by
    rw [cell_row (by rw [Hp.set_ne _ _ (Ne.symm nre)]; exact he1)]; rfl
  have esum : sumS (A ++ e :: B) = sumS (A ++ B) + e.size := by rw [sumS_app, sumS_app, sumS_cons]; omega
  have eint : ((sumS (A ++ e :: B) : Nat) : Int) - (e.size : Int) = ((sumS (A ++ B) : Nat) : Int) := by rw [esum]; omega
  have hle := a.le
  have hqb := a.qb
  simp (disch := omega) only [GL, RL, cc1, cc1', ci0, ai1, ce1', eint, wi64]
  refine aw_store z_int rfl (put_row (b := c) (off := 1) (by rw [Hp.set_ne _ _ (Ne.symm nrc)]; exact hq1.row) (by simp) (by simp) _) ?_
  obtain ⟨h3, hh3⟩ : ∃ h3, (h1.set r (.obj (.map (es.eraseIdxIfInBounds j) clk))).set c (.row t_cache_Cache ([Value.int .i64 (q : Int), .int .i64 ((sumS (A ++ e :: B) : Nat) : Int), .int .i64 (now : Int), vh', .map (some r)].set 1 (.int .i64 ((sumS (A ++ B) : Nat) : Int))) 5 (some (0, 0))) = h3 := ⟨_, rfl⟩
  rw [hh3]
  have f3 : ∀ x, x ≠ c → x ≠ r → h3 x = h1 x := fun x hc hr => by rw [← hh3, Hp.set_ne _ _ hc, Hp.set_ne _ _ hr]
  have pm' : ys.Perm (A ++ B) := by
    have : (e :: ys).Perm (e :: (A ++ B)) := (List.perm_append_comm (l₁ := [e]) (l₂ := ys)).trans (pys.trans (a.pm.trans List.perm_middle))
    exact this.cons_inv
  have s1w := s1.wide wr fun x hx => by rw [List.mem_singleton.1 hx]; exact a.rn
  have nd := nod_ne hq1.nod
  have s3 : Stp R h1 R h3 ((e.blk :: HB c Sh ys) ++ [r]) (r :: HB c Sh ys) := by
    refine stp_mk s1w.own (fun x o hx eo => ?_) (fun x o hx eo => ?_) fun x hx => ?_
    · simp only [List.cons_append, List.mem_cons, List.mem_append, List.mem_singleton, not_or, mem_HB, List.not_mem_nil] at hx
      rw [f3 x hx.2.1.1 hx.2.2.1]; exact eo
    · simp only [List.cons_append, List.mem_cons, List.mem_append, List.mem_singleton, not_or, List.not_mem_nil] at hx ⊢
      exact ⟨hx.2.2.1, hx.2.1⟩
    · by_cases q1 : x = c
      · rw [q1, ← hh3]; exact ⟨_, Hp.set_same ..⟩
      · by_cases q2 : x = r
        · rw [q2, ← hh3, Hp.set_ne _ _ nrc]; exact ⟨_, Hp.set_same ..⟩
        · rw [f3 x q1 q2]
          exact s1w.own.kn x (List.mem_append_left _ (List.mem_cons_of_mem _ ((List.mem_cons.1 hx).resolve_left q2)))
  refine k h3 (r :: HB c Sh ys) (((s1w.perm (T := r :: HB c Sh xs) (T' := (e.blk :: HB c Sh ys) ++ [r]) (fun x => by simp [or_comm]) fun x => Iff.rfl)).trans s3) ⟨ys, vh', Sh, r, es.eraseIdxIfInBounds j, clk, ⟨⟨?_, ?_, fun j y ej => ?_, hq1.nod⟩, ?_, ?_, ?_, fun n v => ?_, nrH, ?_, pm', ?_, fun x hx => a.nw x ?_, by omega, hqb, ?_⟩, rfl⟩
  · rw [← hh3]; exact Hp.set_same ..
  · exact hq1.out.keep fun x hx => f3 x (by rintro rfl; exact nd.1 hx) (by rintro rfl; exact nrH (mem_HB.2 (.inr (.inl hx))))
  · have hy := List.mem_of_getElem? ej
    rw [f3 _ (nd.2.1 y hy).1 (by intro q; exact nrH (mem_HB.2 (.inr (.inr ⟨y, hy, q⟩))))]
    exact hq1.ent j y ej
  · rw [← hh3, Hp.set_ne _ _ nrc]; exact Hp.set_same ..
  · rw [ets]; exact strKeys_erase a.sk j
  · rw [ets]; exact nodup_erase a.kn j
  · rw [ets, mval_erase a.sk a.kn hj]
    by_cases qn : n = e.name
    · rw [if_pos qn]
      constructor
      · intro q; cases q
      · rintro ⟨y, hy, hyn, _⟩
        have hyx : y ∈ xs := pys.mem_iff.1 (List.mem_append_left _ hy)
        have := a.names hyx eL (hyn.trans qn)
        subst this
        exact absurd (mem_HB.2 (.inr (.inr ⟨_, hy, rfl⟩))) neH
    · rw [if_neg qn, a.mo]
      constructor
      · rintro ⟨y, hy, hyn, hyv⟩
        refine ⟨y, ?_, hyn, hyv⟩
        rcases List.mem_append.1 (pys.mem_iff.2 hy) with g | g
        · exact g
        · rw [List.mem_singleton.1 g] at hyn; exact absurd hyn.symm qn
      · rintro ⟨y, hy, hyn, hyv⟩
        exact ⟨y, pys.mem_iff.1 (List.mem_append_left _ hy), hyn, hyv⟩
  · have := outL_heap Ent.used hi a.hp
    rw [hys] at this
    have ly : ys.length = xs.length - 1 := by have := pys.length_eq; simp at this; omega
    rw [← ly] at this
    intro k k0 kn
    have t := this k k0 kn
    have ke : ∀ m, m < ys.length → keyL Ent.used (ys ++ [e]) m = keyL Ent.used ys m := fun m hm => by unfold keyL; rw [List.getElem?_append_left hm]
    rw [ke _ kn, ke _ (by omega)] at t
    exact t
  · have := a.so
    rw [List.pairwise_append] at this ⊢
    rw [List.pairwise_cons] at this
    exact ⟨this.1, this.2.1.2, fun x hx y hy => this.2.2 x hx y (List.mem_cons_of_mem _ hy)⟩
  · rcases List.mem_append.1 hx with g | g
    · exact List.mem_append_left _ g
    · exact List.mem_append_right _ (List.mem_cons_of_mem _ g)
  · have := a.lb
    simp only [List.length_append, List.length_cons] at this ⊢
    omega
/-- What is found by its name. -/
theorem CL.look {L xs : List Ent} {vh : Value} {Sh : List Nat} {r : Nat} {es : Array MapEntry} {clk : Nat} (a : CL h c q now L xs vh Sh r es clk) (n : ByteArray) :
    (mval es.toList n = none ∧ ∀ e ∈ L, e.name ≠ n) ∨ ∃ A e B, mval es.toList n = some (ptrE e) ∧ L = A ++ e :: B ∧ e.name = n ∧ ∀ x ∈ A ++ B, x.name ≠ n := by
  cases hm : mval es.toList n with
  | none =>
    refine .inl ⟨rfl, fun e he hn => ?_⟩
    have := (a.mo n (ptrE e)).2 ⟨e, a.pm.mem_iff.2 he, hn, rfl⟩
    rw [hm] at this; cases this
  | some v =>
    obtain ⟨e, he, hn, rfl⟩ := (a.mo n v).1 hm
    obtain ⟨A, B, rfl⟩ := List.append_of_mem (a.pm.mem_iff.1 he)
    refine .inr ⟨A, e, B, rfl, rfl, hn, fun x hx hxn => ?_⟩
    have hx' : x ∈ A ++ e :: B := by
      rcases List.mem_append.1 hx with g | g
      · exact List.mem_append_left _ g
      · exact List.mem_append_right _ (List.mem_cons_of_mem _ g)
    have := a.names (a.pm.mem_iff.2 hx') he (hxn.trans hn.symm)
    subst this
    have so := a.so
    rw [List.pairwise_append, List.pairwise_cons] at so
    rcases List.mem_append.1 hx with g | g
    · exact absurd (so.2.2 x g x (by simp)) (Nat.lt_irrefl _)
    · exact absurd (so.2.1.1 x g) (Nat.lt_irrefl _)
theorem T_Drop {S : List Nat} {L : List Ent} (n : ByteArray) (w : Own R h S) (a : CAt h c q now L S)
    (k0 : (∀ e ∈ L, e.name ≠ n) → K (.bool false) h)
    (k1 : ∀ A e B h' S', L = A ++ e :: B → e.name = n → (∀ x ∈ A ++ B, x.name ≠ n) → Stp R h R h' S S' → CAt h' c q now (A ++ B) S' → K (.bool true) h') : Cn P n_cache_Cache_Drop #[.pointer (some ⟨c, 0, none⟩), .string n] h K := by
  refine F_cache_Cache_Drop ?_
  unfold s_cache_Cache_Drop
  obtain ⟨xs, vh, Sh, r, es, clk, a, rfl⟩ := a
  have c4 : h.cell ⟨c, 4, none⟩ = some (.map (some r)) := by rw [cell_row a.hq.row]; rfl
  simp (disch := omega) only [GL, RL, cc4, c4]
  rw [q_lookupV u_map_string_Pt_cache_item u_string zr_Pt_cache_item a.mp a.sk n, ext0, ext1]
  rcases a.look n with ⟨hm, hn⟩ | ⟨A, e, B, hm, rfl, hn, hx⟩
  · rw [hm]
    simp only [Option.isSome_none, GL, Bool.false_eq_true, if_false]
    exact k0 hn
  · rw [hm]
    simp only [Option.isSome_some, Option.getD_some, GL, if_true]
    exact T_remove (S := []) w a fun h' S' s' a' => k1 A e B h' S' rfl hn hx s' a'
theorem T_Used {S : List Nat} {L : List Ent} (a : CAt h c q now L S) (k : K (.int .i64 ((sumS L : Nat) : Int)) h) : Cn P n_cache_Cache_Used #[.pointer (some ⟨c, 0, none⟩)] h K := by
  refine F_cache_Cache_Used ?_
  unfold s_cache_Cache_Used
  obtain ⟨xs, vh, Sh, r, es, clk, a, rfl⟩ := a
  have c1 : h.cell ⟨c, 1, none⟩ = some (.int .i64 ((sumS L : Nat) : Int)) := by rw [cell_row a.hq.row]; rfl
  simp (disch := omega) only [GL, RL, cc1, c1]
  exact k
end
end Go.Proofs.Ytbglokdjlbknaaa
set_option linter.unusedSimpArgs false
set_option linter.unusedVariables false
set_option maxRecDepth 100000
set_option maxHeartbeats 4000000
namespace Go.Proofs.Ytbglokdjlbknaaa
open Go Go.SL Go.Pure
theorem set_perm {α : Type} {xs : List α} {i : Nat} {e e' : α} {Z : List α} (h : xs[i]? = some e) (p : xs.Perm (e :: Z)) : (xs.set i e').Perm (e' :: Z) := by
  obtain ⟨hi, he⟩ := List.getElem?_eq_some_iff.1 h
  have e1 : xs = xs.take i ++ e :: xs.drop (i + 1) := by rw [← he, ← List.drop_eq_getElem_cons hi, List.take_append_drop]
  have e2 : xs.set i e' = xs.take i ++ e' :: xs.drop (i + 1) := by rw [List.set_eq_take_append_cons_drop, if_pos hi]
  rw [e1] at p
  have p1 : (xs.take i ++ xs.drop (i + 1)).Perm Z := (List.perm_middle.symm.trans p).cons_inv
  rw [e2]
  exact List.perm_middle.trans (p1.cons e')
/-- Used last. -/
def useE (e : Ent) (n : Nat) : Ent := { e with used := n }
/-- So many go that what is left has room. -/
def popE (lim : Nat) : List Ent → List Ent × List Ent
  | [] => ([], [])
  | e :: L => if sumS (e :: L) ≤ lim then ([], e :: L) else (e :: (popE lim L).1, (popE lim L).2)
theorem popE_stop {lim : Nat} {L : List Ent} (h : sumS L ≤ lim) : popE lim L = ([], L) := by
  cases L with
  | nil => rfl
  | cons e L => simp only [popE]; rw [if_pos h]
theorem flt_all {L : List Ent} {n : ByteArray} (h : ∀ e ∈ L, e.name ≠ n) : L.filter (fun e => e.name ≠ n) = L := by
  rw [List.filter_eq_self]
  intro e he
  simpa using h e he
theorem flt_mid {A B : List Ent} {e : Ent} {n : ByteArray} (hn : e.name = n) (h : ∀ x ∈ A ++ B, x.name ≠ n) : (A ++ e :: B).filter (fun e => e.name ≠ n) = A ++ B := by
  rw [List.filter_append, List.filter_cons, if_neg (by simp [hn]), flt_all fun x hx => h x (List.mem_append_left _ hx), flt_all fun x hx => h x (List.mem_append_right _ hx)]
section
variable {h : Hp} {K : Value → Hp → Prop} {c q now : Nat} {R : Hp}
theorem T_Touch {S : List Nat} {L : List Ent} (n : ByteArray) (hnow : now ≤ 1000000) (w : Own R h S) (a : CAt h c q now L S)
    (k0 : (∀ e ∈ L, e.name ≠ n) → K (.bool false) h)
    (k1 : ∀ A e B h' S', L = A ++ e :: B → e.name = n → (∀ x ∈ A ++ B, x.name ≠ n) → Stp R h R h' S S' → CAt h' c q (now + 1) ((A ++ B) ++ [useE e (now + 1)]) S' → K (.bool true) h') : Cn P n_cache_Cache_Touch #[.pointer (some ⟨c, 0, none⟩), .string n] h K := by
  refine F_cache_Cache_Touch ?_
  unfold s_cache_Cache_Touch
  obtain ⟨xs, vh, Sh, r, es, clk, a, rfl⟩ := a
  have c4 : h.cell ⟨c, 4, none⟩ = some (.map (some r)) := by rw [cell_row a.hq.row]; rfl
  have c2 : h.cell ⟨c, 2, none⟩ = some (.int .i64 (now : Int)) := by rw [cell_row a.hq.row]; rfl
  simp (disch := omega) only [GL, RL, cc4, c4]
  rw [q_lookupV u_map_string_Pt_cache_item u_string zr_Pt_cache_item a.mp a.sk n, ext0, ext1]
  rcases a.look n with ⟨hm, hn⟩ | ⟨A, e, B, hm, rfl, hn, hx⟩
  · rw [hm]
    simp only [Option.isSome_none, GL, Bool.false_eq_true, if_false]
    exact k0 hn
  rw [hm]
  have en : (now : Int) + 1 = ((now + 1 : Nat) : Int) := by omega
  have eL : e ∈ xs := a.pm.mem_iff.2 (by simp)
  obtain ⟨i, hi, hie⟩ := List.getElem_of_mem eL
  have ei : xs[i]? = some e := by rw [List.getElem?_eq_getElem hi, hie]
  have re := a.hq.ent i e ei
  have nd := nod_ne a.hq.nod
  have be := nd.2.1 e eL
  have lxs : xs.length ≤ 900000 := by rw [a.pm.length_eq]; exact a.lb
  simp (disch := omega) only [Option.isSome_some, Option.getD_some, GL, RL, if_true, cc2, c2, wi64, en]
  refine aw_store z_int rfl (put_row (b := c) (off := 2) a.hq.row (by simp) (by simp) _) ?_
  have e2 : ([Value.int .i64 (q : Int), .int .i64 ((sumS (A ++ e :: B) : Nat) : Int), .int .i64 (now : Int), vh, .map (some r)] : List Value).set 2 (.int .i64 ((now + 1 : Nat) : Int)) = [.int .i64 (q : Int), .int .i64 ((sumS (A ++ e :: B) : Nat) : Int), .int .i64 ((now + 1 : Nat) : Int), vh, .map (some r)] := rfl
  rw [e2]
  have c2' : (h.set c (.row t_cache_Cache [.int .i64 (q : Int), .int .i64 ((sumS (A ++ e :: B) : Nat) : Int), .int .i64 ((now + 1 : Nat) : Int), vh, .map (some r)] 5 (some (0, 0)))).cell ⟨c, 2, none⟩ = some (.int .i64 ((now + 1 : Nat) : Int)) := by rw [cell_row (Hp.set_same ..)]; rfl
  simp (disch := omega) only [GL, RL, cc2, c2', ptrE, ci1]
  refine aw_store z_int rfl (put_row (b := e.blk) (off := 2) (by rw [Hp.set_ne _ _ be.1]; exact re) (by simp [entC]) (by simp) _) ?_
  have s2 : (entC e i).set 2 (.int .i64 ((now + 1 : Nat) : Int)) = entC (useE e (now + 1)) i := rfl
  rw [s2]
  obtain ⟨h2, hh2⟩ : ∃ h2, (h.set c (.row t_cache_Cache [.int .i64 (q : Int), .int .i64 ((sumS (A ++ e :: B) : Nat) : Int), .int .i64 ((now + 1 : Nat) : Int), vh, .map (some r)] 5 (some (0, 0)))).set e.blk (.row t_cache_item (entC (useE e (now + 1)) i) 4 (some (0, 0))) = h2 := ⟨_, rfl⟩
  rw [hh2]
  have f2 : ∀ x, x ≠ c → x ≠ e.blk → h2 x = h x := fun x h1 h3 => by rw [← hh2, Hp.set_ne _ _ h3, Hp.set_ne _ _ h1]
  have g1 : h2 e.blk = some (.row t_cache_item (entC (useE e (now + 1)) i) 4 (some (0, 0))) := by rw [← hh2]; exact Hp.set_same ..
  have g2 : h2 c = some (.row t_cache_Cache [.int .i64 (q : Int), .int .i64 ((sumS (A ++ e :: B) : Nat) : Int), .int .i64 ((now + 1 : Nat) : Int), vh, .map (some r)] 5 (some (0, 0))) := by rw [← hh2, Hp.set_ne _ _ (Ne.symm be.1)]; exact Hp.set_same ..
  have mset : ∀ {β : Type} (f : Ent → β), f (useE e (now + 1)) = f e → (xs.set i (useE e (now + 1))).map f = xs.map f := fun {β} f hf => by
    rw [List.map_set, hf]
    apply List.ext_getElem?
    intro j
    rw [List.getElem?_set]
    split
    · rename_i hj
      subst hj
      rw [List.getElem?_map, ei, if_pos (by rw [List.length_map]; exact hi)]
      rfl
    · rfl
  have hbs : HB c Sh (xs.set i (useE e (now + 1))) = HB c Sh xs := by unfold HB; rw [mset Ent.blk rfl]
  have st : Stp R h R h2 (r :: HB c Sh xs) (r :: HB c Sh xs) := by
    refine stp_in w (fun x hx => f2 x (by rintro rfl; exact hx (by simp [HB])) (by rintro rfl; exact hx (List.mem_cons_of_mem _ (mem_HB.2 (.inr (.inr ⟨e, eL, rfl⟩)))))) fun x hx => ?_
    by_cases q1 : x = c
    · rw [q1]; exact ⟨_, g2⟩
    · by_cases q2 : x = e.blk
      · rw [q2]; exact ⟨_, g1⟩
      · rw [f2 x q1 q2]; exact w.kn x hx
  have hq2 : HQ h2 c (.int .i64 (q : Int)) (.int .i64 ((sumS (A ++ e :: B) : Nat) : Int)) (.int .i64 ((now + 1 : Nat) : Int)) (.map (some r)) (xs.set i (useE e (now + 1))) vh Sh := by
    refine ⟨g2, ?_, fun j y ej => ?_, by rw [hbs]; exact a.hq.nod⟩
    · rw [mset ptrE rfl, List.length_set]
      exact a.hq.out.keep fun x hx => f2 x (by rintro rfl; exact nd.1 hx) (by rintro rfl; exact be.2 hx)
    · rw [List.getElem?_set] at ej
      by_cases qj : i = j
      · subst qj
        rw [if_pos rfl, if_pos hi] at ej
        cases ej
        exact g1
      · rw [if_neg qj] at ej
        have my := List.mem_of_getElem? ej
        rw [f2 _ (nd.2.1 y my).1 (nd.2.2 j i y e ej ei (Ne.symm qj))]
        exact a.hq.ent j y ej
  have c3' : h2.cell ⟨e.blk, 3, none⟩ = some (.int .i64 (i : Int)) := by rw [cell_row g1]; rfl
  simp (disch := omega) only [GL, RL, cc3, mkI, ci2, c3']
  have wH : Own R h2 (HB c Sh (xs.set i (useE e (now + 1)))) := by rw [hbs]; exact st.own.sub' fun x hx => List.mem_cons_of_mem _ hx
  have wr : Own R h2 [r] := st.own.sub' fun x hx => by rw [List.mem_singleton.1 hx]; simp
  refine T_Fix wH hq2 i (by rw [List.length_set]; exact hi) (by rw [List.length_set]; omega) fun h3 s3 hq3 => ?_
  obtain ⟨wr3, dr3, sr3⟩ := s3.frame wr fun x hx => by rw [List.mem_singleton.1 hx, hbs]; exact a.rn
  have s3w := s3.wide wr fun x hx => by rw [List.mem_singleton.1 hx, hbs]; exact a.rn
  have pmm := mendL_perm Ent.used (xs.set i (useE e (now + 1))) i (xs.set i (useE e (now + 1))).length
  have lmm := mendL_len Ent.used (xs.set i (useE e (now + 1))) i (xs.set i (useE e (now + 1))).length
  have hheap : HeapN Ent.used xs.length (mendL Ent.used (xs.set i (useE e (now + 1))) i (xs.set i (useE e (now + 1))).length) := by
    have h0 := heap_set Ent.used (n := xs.length) (i := i) (x := useE e (now + 1)) a.hp
    have h1 := mendL_heap Ent.used h0 hi (by rw [List.length_set]; exact Nat.le_refl _)
    have el : (xs.set i (useE e (now + 1))).length = xs.length := List.length_set ..
    rw [el]
    exact h1
  generalize mendL Ent.used (xs.set i (useE e (now + 1))) i (xs.set i (useE e (now + 1))).length = ys at s3 hq3 s3w pmm lmm hheap dr3 sr3
  rw [List.length_set] at lmm
  have nwr : r ≠ c := fun q => a.rn (by rw [q]; simp [HB])
  have nre : r ≠ e.blk := fun q => a.rn (by rw [q]; exact mem_HB.2 (.inr (.inr ⟨e, eL, rfl⟩)))
  have pz : ys.Perm ((A ++ B) ++ [useE e (now + 1)]) := pmm.trans ((set_perm ei (a.pm.trans List.perm_middle)).trans (List.perm_append_comm (l₁ := [useE e (now + 1)]) (l₂ := A ++ B)))
  have memz : ∀ x, x ∈ ys ↔ x ∈ A ++ B ∨ x = useE e (now + 1) := fun x => by rw [pz.mem_iff, List.mem_append, List.mem_singleton]
  have memx : ∀ x, x ∈ xs ↔ x ∈ A ++ B ∨ x = e := fun x => by
    rw [a.pm.mem_iff, List.mem_append, List.mem_cons, List.mem_append]
    constructor
    · rintro (g | g | g); exact .inl (.inl g); exact .inr g; exact .inl (.inr g)
    · rintro ((g | g) | g); exact .inl g; exact .inr (.inr g); exact .inr (.inl g)
  have esum : sumS ((A ++ B) ++ [useE e (now + 1)]) = sumS (A ++ e :: B) := by
    have h1 := sumS_app (A ++ B) [useE e (now + 1)]
    have h2 := sumS_app A B
    have h3 := sumS_app A (e :: B)
    have h4 := sumS_cons e B
    have h5 : sumS [useE e (now + 1)] = e.size := by simp [sumS, useE]
    omega
  refine k1 A e B h3 (r :: HB c Sh ys) rfl hn hx (st.trans (s3w.perm (T := r :: HB c Sh xs) (T' := r :: HB c Sh ys) (fun x => by rw [hbs]; simp [or_comm]) fun x => by simp [or_comm])) ⟨ys, vh, Sh, r, es, clk, ⟨by rw [esum]; exact hq3, ?_, a.sk, a.kn, fun m v => ?_, fun qq => dr3 r (by simp) qq, by rw [lmm]; exact hheap, pz, ?_, fun x hx' => ?_, by rw [esum]; exact a.le, a.qb, ?_⟩, rfl⟩
  · rw [sr3 r (by simp), f2 r nwr nre]; exact a.mp
  · rw [a.mo]
    constructor
    · rintro ⟨y, hy, hyn, hyv⟩
      rcases (memx y).1 hy with g | g
      · exact ⟨y, (memz y).2 (.inl g), hyn, hyv⟩
      · subst g; exact ⟨_, (memz _).2 (.inr rfl), hyn, hyv⟩
    · rintro ⟨y, hy, hyn, hyv⟩
      rcases (memz y).1 hy with g | g
      · exact ⟨y, (memx y).2 (.inl g), hyn, hyv⟩
      · subst g; exact ⟨e, (memx _).2 (.inr rfl), hyn, hyv⟩
  · have so := a.so
    rw [List.pairwise_append, List.pairwise_cons] at so
    rw [List.pairwise_append]
    refine ⟨?_, List.pairwise_singleton _ _, fun x hx' y hy => ?_⟩
    · rw [List.pairwise_append]
      exact ⟨so.1, so.2.1.2, fun x hx y hy => so.2.2 x hx y (List.mem_cons_of_mem _ hy)⟩
    · rw [List.mem_singleton.1 hy]
      have := a.nw x (by
        rcases List.mem_append.1 hx' with g | g
        · exact List.mem_append_left _ g
        · exact List.mem_append_right _ (List.mem_cons_of_mem _ g))
      show x.used < now + 1
      omega
  · rcases List.mem_append.1 hx' with g | g
    · have := a.nw x (by
        rcases List.mem_append.1 g with g | g
        · exact List.mem_append_left _ g
        · exact List.mem_append_right _ (List.mem_cons_of_mem _ g))
      omega
    · rw [List.mem_singleton.1 g]; exact Nat.le_refl _
  · have := a.lb
    simp only [List.length_append, List.length_cons, List.length_nil] at this ⊢
    omega
/-- The oldest stands first. -/
theorem CL.first {xs : List Ent} {vh : Value} {Sh : List Nat} {r : Nat} {es : Array MapEntry} {clk : Nat} {e : Ent} {B : List Ent} (a : CL h c q now (e :: B) xs vh Sh r es clk) : xs[0]? = some e := by
  have hl := a.pm.length_eq
  simp only [List.length_cons] at hl
  have h0 : 0 < xs.length := by omega
  rw [List.getElem?_eq_getElem h0]
  have m0 : xs[0] ∈ e :: B := a.pm.mem_iff.1 (List.getElem_mem h0)
  rcases List.mem_cons.1 m0 with g | g
  · rw [g]
  · have so := a.so
    rw [List.pairwise_cons] at so
    have h1 := so.1 _ g
    have me : e ∈ xs := a.pm.mem_iff.2 (by simp)
    obtain ⟨j, hj, hje⟩ := List.getElem_of_mem me
    have h2 := heap_min Ent.used a.hp j hj
    unfold keyL at h2
    rw [List.getElem?_eq_getElem h0, List.getElem?_eq_getElem hj, hje] at h2
    dsimp only at h2
    omega
end
end Go.Proofs.Ytbglokdjlbknaaa
set_option linter.unusedSimpArgs false
set_option linter.unusedVariables false
set_option maxRecDepth 100000
set_option maxHeartbeats 4000000
namespace Go.Proofs.Ytbglokdjlbknaaa
open Go Go.SL Go.Pure
theorem bldItem {h : Hp} {K : Value → Prop} (n : ByteArray) (s : Int) : q P h (Instr.build t_api_Item #[(0, .string n), (1, .int .i64 s)]) K = K (.agg #[.string n, .int .i64 s]) := q_of (by kernel_rfl) K
theorem bldEnt {h : Hp} {K : Value → Prop} (n : ByteArray) (s u : Int) : q P h (Instr.build t_cache_item #[(0, .agg #[.string n, .int .i64 s]), (1, .int .i64 u)]) K = K (.agg #[.string n, .int .i64 s, .int .i64 u, .int .i64 0]) := q_of (by kernel_rfl) K
theorem bldCache {h : Hp} {K : Value → Prop} (qq : Int) (r : Nat) : q P h (Instr.build t_cache_Cache #[(0, .int .i64 qq), (4, .map (some r))]) K = K (.agg #[.int .i64 qq, .int .i64 0, .int .i64 0, .slice none 0 0, .map (some r)]) := q_of (by kernel_rfl) K
section
variable {h : Hp} {K : Value → Hp → Prop} {c qt now : Nat} {R : Hp}
theorem T_newCache (quota : Int) (hq : quota ≤ 9223372036854775807) {S : List Nat} (w : Own R h S) (k : ∀ c h' S', Stp R h R h' S S → Own R h' S' → (∀ x, x ∈ S' → x ∉ S) → CAt h' c quota.toNat 0 [] S' → K (.pointer (some ⟨c, 0, none⟩)) h') : Cn P n_cache_New #[.int .i64 quota] h K := by
  refine F_cache_New ?_
  unfold s_cache_New
  have em : ∀ {h : Hp} {K : Value → Prop}, q P h (Builtin.max_ #[t_int, t_int] t_int #[.int .i64 quota, .int .i64 0]) K = K (.int .i64 ((quota.toNat : Nat) : Int)) := fun {h K} => by
    have e1 : q P h (Builtin.max_ #[t_int, t_int] t_int #[.int .i64 quota, .int .i64 0]) K = K (.int .i64 (max quota 0)) := q_of (by
      simp [Builtin.max_, Builtin.max2, pk_pure]
      omega) K
    rw [e1]
    congr 2
    omega
  rw [em]
  refine aw_makeMap fun r hr => ?_
  rw [bldCache]
  refine aw_box fun c hc => ?_
  have ncr : c ≠ r := by rintro rfl; rw [Hp.set_same] at hc; cases hc
  have hc0 : h c = none := by rwa [Hp.set_ne _ _ ncr] at hc
  obtain ⟨h2, hh2⟩ : ∃ h2, (h.set r (.obj (.map #[] 0))).set c (.row t_cache_Cache (Value.agg #[.int .i64 ((quota.toNat : Nat) : Int), .int .i64 0, .int .i64 0, .slice none 0 0, .map (some r)]).cells.toList (Value.agg #[.int .i64 ((quota.toNat : Nat) : Int), .int .i64 0, .int .i64 0, .slice none 0 0, .map (some r)]).cells.size (some (0, 0))) = h2 := ⟨_, rfl⟩
  rw [hh2]
  have x2 : Hp.ext h h2 := by rw [← hh2]; exact (ext_set _ hr).trans (ext_set _ hc)
  have g2 : h2 c = some (.row t_cache_Cache [.int .i64 ((quota.toNat : Nat) : Int), .int .i64 0, .int .i64 0, .slice none 0 0, .map (some r)] 5 (some (0, 0))) := by rw [← hh2]; exact Hp.set_same ..
  have gr : h2 r = some (.obj (.map #[] 0)) := by rw [← hh2, Hp.set_ne _ _ (Ne.symm ncr)]; exact Hp.set_same ..
  refine k c h2 (r :: HB c [] []) (Stp.ext0 w x2) ⟨w.sub.trans x2, fun x hx => ?_, fun x hx => ?_⟩ (fun x hx hxS => ?_) ⟨[], .slice none 0 0, [], r, #[], 0, ⟨⟨g2, .inl ⟨rfl, rfl, rfl, rfl⟩, fun i e ei => (by simp at ei), by simp [HB]⟩, gr, fun e he => (by cases he), by simp, fun n v => ?_, ?_, fun k k0 kn => (by cases kn), List.Perm.refl _, List.Pairwise.nil, by simp, Nat.zero_le _, by omega, by simp⟩, rfl⟩
  · simp only [HB, List.map_nil, List.append_nil, List.mem_cons, List.not_mem_nil, or_false] at hx
    rcases hx with rfl | rfl
    · exact w.sub.none hr
    · exact w.sub.none hc0
  · simp only [HB, List.map_nil, List.append_nil, List.mem_cons, List.not_mem_nil, or_false] at hx
    rcases hx with rfl | rfl
    · exact ⟨_, gr⟩
    · exact ⟨_, g2⟩
  · obtain ⟨o, e⟩ := w.kn x hxS
    simp only [HB, List.map_nil, List.append_nil, List.mem_cons, List.not_mem_nil, or_false] at hx
    rcases hx with rfl | rfl
    · rw [hr] at e; cases e
    · rw [hc0] at e; cases e
  · constructor
    · intro e; simp [mval, mget] at e
    · rintro ⟨e, he, _⟩; cases he
  · simp only [HB, List.map_nil, List.append_nil, List.mem_singleton]
    exact Ne.symm ncr
theorem T_DropF {S : List Nat} {L : List Ent} (n : ByteArray) (w : Own R h S) (a : CAt h c qt now L S)
    (k : ∀ b h' S', Stp R h R h' S S' → CAt h' c qt now (L.filter fun e => e.name ≠ n) S' → K (.bool b) h') : Cn P n_cache_Cache_Drop #[.pointer (some ⟨c, 0, none⟩), .string n] h K :=
  T_Drop n w a (fun hn => k false h S (.refl w) (by rw [flt_all hn]; exact a)) fun A e B h' S' hL hn hx s' a' => k true h' S' s' (by rw [hL, flt_mid hn hx]; exact a')
theorem T_Put {S : List Nat} {L : List Ent} (n : ByteArray) (size : Int) (hs : size ≤ 9223372036854775807) (hnow : now ≤ 1000000) (lL : L.length ≤ 800000) (w : Own R h S) (a : CAt h c qt now L S)
    (k1 : size < 0 → K (.tuple #[.slice none 0 0, .int .i64 1]) h)
    (k3 : (qt : Int) < size → K (.tuple #[.slice none 0 0, .int .i64 3]) h)
    (k0 : 0 ≤ size → size ≤ qt → ∀ v e R' h' S', e.name = n → e.size = size.toNat → e.used = now + 1 → Stp R h R' h' S S' →
      CAt h' c qt (now + 1) ((popE (qt - size.toNat) (L.filter fun e => e.name ≠ n)).2 ++ [e]) S' →
      Rds R' 1 v ((popE (qt - size.toNat) (L.filter fun e => e.name ≠ n)).1.map fun e => .string e.name) (popE (qt - size.toNat) (L.filter fun e => e.name ≠ n)).1.length → K (.tuple #[v, .int .i64 0]) h') :
    Cn P n_cache_Cache_Put #[.pointer (some ⟨c, 0, none⟩), .string n, .int .i64 size] h K := by
  refine F_cache_Cache_Put ?_
  unfold s_cache_Cache_Put
  have cq : ∀ {H : Hp} {L : List Ent} {S : List Nat}, CAt H c qt now L S → H.cell ⟨c, 0, none⟩ = some (.int .i64 (qt : Int)) ∧ H.cell ⟨c, 1, none⟩ = some (.int .i64 ((sumS L : Nat) : Int)) ∧ H.cell ⟨c, 2, none⟩ = some (.int .i64 (now : Int)) := fun a => by
    obtain ⟨xs, vh, Sh, r, es, clk, a, rfl⟩ := a
    exact ⟨by rw [cell_row a.hq.row]; rfl, by rw [cell_row a.hq.row]; rfl, by rw [cell_row a.hq.row]; rfl⟩
  have qb : qt ≤ 9223372036854775807 := by obtain ⟨xs, vh, Sh, r, es, clk, a, rfl⟩ := a; exact a.qb
  simp (disch := omega) only [GL, RL]
  by_cases h1 : size < 0
  · rw [if_pos (by simpa using h1)]
    exact k1 h1
  rw [if_neg (by simpa using h1)]
  simp (disch := omega) only [GL, RL, cc0, (cq a).1]
  by_cases h3 : (qt : Int) < size
  · rw [if_pos (by simpa using h3)]
    exact k3 h3
  rw [if_neg (by simpa using h3)]
  have k0 := k0 (by omega) (by omega)
  obtain ⟨s, rfl⟩ : ∃ s : Nat, size = (s : Int) := ⟨size.toNat, by omega⟩
  rw [Int.toNat_natCast] at k0
  have hsq : s ≤ qt := by omega
  refine T_DropF n w a fun b h1 S1 s1 a1 => ?_
  have hL1 : ∀ e ∈ L.filter (fun e => e.name ≠ n), e.name ≠ n := fun e he => by simpa using (List.mem_filter.1 he).2
  have lL1 : (L.filter fun e => e.name ≠ n).length ≤ 800000 := Nat.le_trans (List.length_filter_le _ _) lL
  generalize (L.filter fun e => e.name ≠ n) = L1 at a1 k0 hL1 lL1
  refine Lp_mk (fun m vs h' => ∃ (g L2 : List Ent) (S2 So : List Nat) (vo : Value), m = L2.length ∧ g ++ L2 = L1 ∧ (popE (qt - s) L1).1 = g ++ (popE (qt - s) L2).1 ∧ (popE (qt - s) L1).2 = (popE (qt - s) L2).2 ∧ Stp R h1 R h' S1 (S2 ++ So) ∧ CAt h' c qt now L2 S2 ∧ OutAt t_string 1 h' vo (g.map fun e => .string e.name) g.length So ∧ (∀ x, x ∈ So → x ∉ S2) ∧ vs = [vo]) L1.length
    ⟨[], L1, S1, [], .slice none 0 0, rfl, rfl, rfl, rfl, by simpa using Stp.refl s1.own, a1, .inl ⟨rfl, rfl, rfl, rfl⟩, by simp, rfl⟩ ?_
  rintro m vs h2 ⟨g, L2, S2, So, vo, rfl, hg, hp1, hp2, s2, a2, hO, hdj, rfl⟩
  obtain ⟨d0, d1, d2⟩ := cq a2
  have eqs : (qt : Int) - (s : Int) = ((qt - s : Nat) : Int) := by omega
  have esq : sumS L2 ≤ qt := by obtain ⟨xs, vh, Sh, r, es, clk, a, rfl⟩ := a2; exact a.le
  have elt : decide (((qt - s : Nat) : Int) < ((sumS L2 : Nat) : Int)) = decide (qt - s < sumS L2) := lt_dec _ _
  have oS2 : Own R h2 S2 := s2.own.sub' fun x hx => List.mem_append_left _ hx
  have oSo : Own R h2 So := s2.own.sub' fun x hx => List.mem_append_right _ hx
  simp (disch := omega) only [GL, RL, cc0, cc1, cc2, cc3, d0, d1, d2, eqs, wi64, elt]
  by_cases hgt : qt - s < sumS L2
  · -- one goes
    simp only [hgt, decide_true, if_true]
    obtain ⟨e, B, rfl⟩ : ∃ e B, L2 = e :: B := by
      cases L2 with
      | nil => simp [sumS] at hgt
      | cons e B => exact ⟨e, B, rfl⟩
    obtain ⟨xs, vh, Sh, r, es, clk, a2, rfl⟩ := a2
    have e0 := a2.first
    have hx0 : 0 < xs.length := (List.getElem?_eq_some_iff.1 e0).1
    obtain ⟨b, cap, f, hb, rfl, hc, hf, rfl⟩ := a2.hq.form hx0
    have c3 := a2.hq.cell
    have cb : h2.cell ⟨b, 0, none⟩ = some (ptrE e) := by rw [cell_row hb, List.getElem?_map, e0]; rfl
    have cn : h2.cell ⟨e.blk, 0, none⟩ = some (.string e.name) := by rw [cell_row (a2.hq.ent 0 e e0)]; rfl
    simp (disch := omega) only [GL, RL, c3, Int.toNat_zero, cb, ptrE, ci0, ai0, cn]
    refine aw_lit (ps := [(0, .string e.name)]) (n := 1) u_Sl_string z_string zr_string rfl (by omega) (by intro p hp; rw [List.mem_singleton.1 hp]; exact ⟨rfl, by show _ < 1; omega⟩) fun v47 h3 n3 _ => ?_
    have n3' : New h2 t_string 1 v47 h3 [.string e.name] 1 := n3
    have x3 := n3'.ext
    have s3 := Stp.ext0 s2.own x3
    have hO3 : OutAt t_string 1 h3 vo (g.map fun e => .string e.name) g.length So := hO.keep fun x hx => by
      obtain ⟨o, eo⟩ := oSo.kn x hx
      rw [eo, x3 _ _ eo]
    have oSo3 : Own R h3 So := s3.own.sub' fun x hx => List.mem_append_right _ hx
    have oS3 : Own R h3 (r :: HB c [b] xs) := s3.own.sub' fun x hx => List.mem_append_left _ hx
    have lg : g.length ≤ 800000 := by have := congrArg List.length hg; simp at this; omega
    refine aw_appendO u_Sl_string u_Sl_string nfo_string rfl (by omega) hO3 n3'.rds (by intro y hy; rw [List.mem_singleton.1 hy]; rfl) (by omega) fun v48 h4 So' o4 kp4 fr4 => ?_
    have s4 := OutAt.step oSo3 o4 kp4 fr4
    have dj3 : ∀ x, x ∈ r :: HB c [b] xs → x ∉ So := fun x hx q => hdj x q hx
    obtain ⟨oS4, dj4, same4⟩ := s4.frame oS3 dj3
    have same24 : ∀ x, x ∈ r :: HB c [b] xs → h4 x = h2 x := fun x hx => by
      rw [same4 x hx]
      obtain ⟨o, eo⟩ := oS2.kn x hx
      rw [eo, x3 _ _ eo]
    have ndx := nod_ne a2.hq.nod
    have inS : ∀ x, x ∈ HB c [b] xs → x ∈ r :: HB c [b] xs := fun x hx => List.mem_cons_of_mem _ hx
    have a4 : CL h4 c qt now ([] ++ e :: B) xs (.slice (some ⟨b, 0, none⟩) xs.length cap) [b] r es clk :=
      { a2 with
        hq := ⟨by rw [same24 c (inS c (by simp [HB]))]; exact a2.hq.row, a2.hq.out.keep fun x hx => same24 x (inS x (mem_HB.2 (.inr (.inl hx)))), fun i y ey => by rw [same24 y.blk (inS _ (mem_HB.2 (.inr (.inr ⟨y, List.mem_of_getElem? ey, rfl⟩))))]; exact a2.hq.ent i y ey, a2.hq.nod⟩
        mp := by rw [same24 r (by simp)]; exact a2.mp }
    refine T_remove (S := []) oS4 a4 fun h5 S5 s5 a5 => ?_
    have oSo4 : Own R h4 So' := s4.own
    obtain ⟨oSo5, dj5, same5⟩ := s5.frame oSo4 fun x hx q => dj4 x q hx
    have st34 := (s4.wide oS3 dj3).perm (T := (r :: HB c [b] xs) ++ So) (T' := (r :: HB c [b] xs) ++ So') (fun x => by simp only [List.mem_append]; exact or_comm) (fun x => by simp only [List.mem_append]; exact or_comm)
    have st45 := s5.wide oSo4 fun x hx q => dj4 x q hx
    have epop : popE (qt - s) (e :: B) = (e :: (popE (qt - s) B).1, (popE (qt - s) B).2) := by
      simp only [popE]; rw [if_neg (by omega)]
    rw [epop] at hp1 hp2
    refine ⟨h5, .refl _, B.length, by simp, g ++ [e], B, S5, So', v48, rfl, by rw [← hg, List.append_assoc]; rfl, by rw [hp1, List.append_assoc]; rfl, hp2, ((s2.trans s3).trans st34).trans st45, a5, ?_, fun x hx q => dj5 x hx q, rfl⟩
    rw [List.map_append, List.length_append]
    exact o4.keep same5
  · -- there is room
    simp only [hgt, decide_false, Bool.false_eq_true, if_false]
    have estop := popE_stop (show sumS L2 ≤ qt - s by omega)
    rw [estop] at hp1 hp2
    simp only [List.append_nil] at hp1
    rw [hp1, hp2] at k0
    obtain ⟨xs, vh, Sh, r, es, clk, a2, rfl⟩ := a2
    have enow : (now : Int) + 1 = ((now + 1 : Nat) : Int) := by omega
    have hqr := a2.hq.row
    have nd := nod_ne a2.hq.nod
    have nrc : r ≠ c := fun q => a2.rn (by rw [q]; simp [HB])
    rw [enow]
    refine aw_store z_int rfl (put_row (b := c) (off := 2) hqr (by simp) (by simp) _) ?_
    have e2 : ([Value.int .i64 (qt : Int), .int .i64 ((sumS L2 : Nat) : Int), .int .i64 (now : Int), vh, .map (some r)] : List Value).set 2 (.int .i64 ((now + 1 : Nat) : Int)) = [.int .i64 (qt : Int), .int .i64 ((sumS L2 : Nat) : Int), .int .i64 ((now + 1 : Nat) : Int), vh, .map (some r)] := rfl
    rw [e2, bldItem]
    obtain ⟨h3, hh3⟩ : ∃ h3, h2.set c (.row t_cache_Cache [.int .i64 (qt : Int), .int .i64 ((sumS L2 : Nat) : Int), .int .i64 ((now + 1 : Nat) : Int), vh, .map (some r)] 5 (some (0, 0))) = h3 := ⟨_, rfl⟩
    rw [hh3]
    have f3 : ∀ x, x ≠ c → h3 x = h2 x := fun x hx => by rw [← hh3, Hp.set_ne _ _ hx]
    have g3 : h3 c = some (.row t_cache_Cache [.int .i64 (qt : Int), .int .i64 ((sumS L2 : Nat) : Int), .int .i64 ((now + 1 : Nat) : Int), vh, .map (some r)] 5 (some (0, 0))) := by rw [← hh3]; exact Hp.set_same ..
    have c2' : h3.cell ⟨c, 2, none⟩ = some (.int .i64 ((now + 1 : Nat) : Int)) := by rw [cell_row g3]; rfl
    simp (disch := omega) only [GL, RL, cc2, c2', bldEnt]
    have st3 : Stp R h2 R h3 (r :: HB c Sh xs) (r :: HB c Sh xs) := stp_in oS2 (fun x hx => f3 x (by rintro rfl; exact hx (by simp [HB]))) fun x hx => by
      by_cases q1 : x = c
      · rw [q1]; exact ⟨_, g3⟩
      · rw [f3 x q1]; exact oS2.kn x hx
    refine aw_box fun b hb => ?_
    have eobj : (AObj.row t_cache_item (Value.agg #[.string n, .int .i64 (s : Int), .int .i64 ((now + 1 : Nat) : Int), .int .i64 0]).cells.toList (Value.agg #[.string n, .int .i64 (s : Int), .int .i64 ((now + 1 : Nat) : Int), .int .i64 0]).cells.size (some (0, 0))) = .row t_cache_item (entC ⟨b, n, s, now + 1⟩ 0) 4 (some (0, 0)) := rfl
    rw [eobj]
    obtain ⟨e, he⟩ : ∃ e : Ent, (⟨b, n, s, now + 1⟩ : Ent) = e := ⟨_, rfl⟩
    have eb : e.blk = b := by rw [← he]
    have en : e.name = n := by rw [← he]
    have es' : e.size = s := by rw [← he]
    have eu : e.used = now + 1 := by rw [← he]
    rw [he]
    have hpe : Value.pointer (some ⟨b, 0, none⟩) = ptrE e := by rw [← eb]; rfl
    rw [hpe]
    rw [← eb] at hb ⊢
    obtain ⟨o4b, o4, dj4, same4⟩ := st3.own.mk1 (.row t_cache_item (entC e 0) 4 (some (0, 0))) hb
    obtain ⟨h4, hh4⟩ : ∃ h4, h3.set e.blk (.row t_cache_item (entC e 0) 4 (some (0, 0))) = h4 := ⟨_, rfl⟩
    rw [hh4] at o4b o4 same4 ⊢
    have g4 : h4 e.blk = some (.row t_cache_item (entC e 0) 4 (some (0, 0))) := by rw [← hh4]; exact Hp.set_same ..
    have st4 : Stp R h3 R h4 (r :: HB c Sh xs) (e.blk :: r :: HB c Sh xs) := stp_mk st3.own (fun x o hx eo => by
        rw [← hh4, Hp.set_ne _ _ (by rintro rfl; rw [hb] at eo; cases eo)]; exact eo) (fun x o hx eo q => by
        rcases List.mem_cons.1 q with g | g
        · rw [g, hb] at eo; cases eo
        · exact hx g) fun x hx => by
        rcases List.mem_cons.1 hx with g | g
        · rw [g]; exact ⟨_, g4⟩
        · exact o4.kn x g
    have hbn : e.blk ∉ r :: HB c Sh xs := fun q => by
      obtain ⟨o, eo⟩ := st3.own.kn _ q
      rw [hb] at eo; cases eo
    have hq4 : HQ h4 c (.int .i64 (qt : Int)) (.int .i64 ((sumS L2 : Nat) : Int)) (.int .i64 ((now + 1 : Nat) : Int)) (.map (some r)) xs vh Sh := by
      have sm : ∀ x, x ∈ r :: HB c Sh xs → h4 x = h3 x := same4
      refine ⟨by rw [sm c (List.mem_cons_of_mem _ (by simp [HB]))]; exact g3, a2.hq.out.keep fun x hx => ?_, fun i y ey => ?_, a2.hq.nod⟩
      · rw [sm x (List.mem_cons_of_mem _ (mem_HB.2 (.inr (.inl hx)))), f3 x (by rintro rfl; exact nd.1 hx)]
      · have my := List.mem_of_getElem? ey
        rw [sm y.blk (List.mem_cons_of_mem _ (mem_HB.2 (.inr (.inr ⟨y, my, rfl⟩)))), f3 _ (nd.2.1 y my).1]
        exact a2.hq.ent i y ey
    have mp4 : h4 r = some (.obj (.map es clk)) := by rw [same4 r (by simp), f3 r nrc]; exact a2.mp
    have lxs : xs.length ≤ 900000 := by rw [a2.pm.length_eq]; exact a2.lb
    simp (disch := omega) only [GL, RL, cc3, mkI]
    have mkE' : ∀ {h : Hp} {K : Value → Prop}, SL.q P h (Instr.makeInterface t_Pt_cache_item (ptrE e)) K = K (.iface t_Pt_cache_item (ptrE e)) := fun {h K} => mkE e.blk
    rw [mkE']
    have o4H : Own R h4 (e.blk :: HB c Sh xs) := st4.own.sub' fun x hx => by
      rcases List.mem_cons.1 hx with g | g
      · rw [g]; simp
      · exact List.mem_cons_of_mem _ (List.mem_cons_of_mem _ g)
    have o4r : Own R h4 [r] := st4.own.sub' fun x hx => by rw [List.mem_singleton.1 hx]; simp
    refine T_heapPush o4H hq4 g4 (fun q => hbn (List.mem_cons_of_mem _ q)) (by omega) fun vh' Sh' h5 s5 hq5 => ?_
    have rnH : ∀ x, x ∈ [r] → x ∉ e.blk :: HB c Sh xs := fun x hx q => by
      rw [List.mem_singleton.1 hx] at q
      rcases List.mem_cons.1 q with g | g
      · exact hbn (by rw [← g]; simp)
      · exact a2.rn g
    obtain ⟨o5r, d5r, s5r⟩ := s5.frame o4r rnH
    have s5w := (s5.wide o4r rnH).perm (T := e.blk :: r :: HB c Sh xs) (T' := r :: HB c Sh' (pushL Ent.used xs e)) (fun x => by simp only [List.cons_append, List.mem_cons, List.mem_append, List.not_mem_nil, or_false]; constructor <;> rintro (g | g | g) <;> simp [g]) (fun x => by simp only [List.mem_cons, List.mem_append, List.not_mem_nil, or_false]; exact or_comm)
    have pp := pushL_perm Ent.used xs e
    have hheap := pushL_heap Ent.used e a2.hp
    have lpp := pushL_len Ent.used xs e
    rw [← lpp] at hheap
    generalize pushL Ent.used xs e = ys at s5w hq5 pp hheap lpp d5r s5
    have mp5 : h5 r = some (.obj (.map es clk)) := by rw [s5r r (by simp)]; exact mp4
    have rn5 : r ∉ HB c Sh' ys := d5r r (by simp)
    have c54 : h5.cell ⟨c, 4, none⟩ = some (.map (some r)) := by rw [cell_row hq5.row]; rfl
    simp (disch := omega) only [GL, RL, cc4, c54]
    have hno : mval es.toList n = none := by
      cases hm : mval es.toList n with
      | none => rfl
      | some v =>
        obtain ⟨y, hy, hyn, _⟩ := (a2.mo n v).1 hm
        exact absurd hyn (hL1 y (by rw [← hg]; exact List.mem_append_right _ (a2.pm.mem_iff.1 hy)))
    have hno' : mget es.toList n = none := by
      unfold mval at hno
      cases hm : mget es.toList n with
      | none => rfl
      | some p => rw [hm] at hno; cases hno
    refine aw_mapNew u_map_string_Pt_cache_item u_string mp5 a2.sk n (ptrE e) hno' ?_
    obtain ⟨h6, hh6⟩ : ∃ h6, h5.set r (.obj (.map (es.push ⟨.string n, ptrE e, clk⟩) (clk + 1))) = h6 := ⟨_, rfl⟩
    rw [hh6]
    have f6 : ∀ x, x ≠ r → h6 x = h5 x := fun x hx => by rw [← hh6, Hp.set_ne _ _ hx]
    have g6 : h6 c = some (.row t_cache_Cache [.int .i64 (qt : Int), .int .i64 ((sumS L2 : Nat) : Int), .int .i64 ((now + 1 : Nat) : Int), vh', .map (some r)] 5 (some (0, 0))) := by rw [f6 c (Ne.symm nrc)]; exact hq5.row
    have c61 : h6.cell ⟨c, 1, none⟩ = some (.int .i64 ((sumS L2 : Nat) : Int)) := by rw [cell_row g6]; rfl
    have esum : ((sumS L2 : Nat) : Int) + (s : Int) = ((sumS (L2 ++ [e]) : Nat) : Int) := by
      have h1 := sumS_app L2 [e]
      have h2 : sumS [e] = s := by simp [sumS, es']
      omega
    have hle2 : sumS (L2 ++ [e]) ≤ qt := by omega
    simp (disch := omega) only [GL, RL, cc1, c61, esum, wi64]
    refine aw_store z_int rfl (put_row (b := c) (off := 1) g6 (by simp) (by simp) _) ?_
    have e7 : ([Value.int .i64 (qt : Int), .int .i64 ((sumS L2 : Nat) : Int), .int .i64 ((now + 1 : Nat) : Int), vh', .map (some r)] : List Value).set 1 (.int .i64 ((sumS (L2 ++ [e]) : Nat) : Int)) = [.int .i64 (qt : Int), .int .i64 ((sumS (L2 ++ [e]) : Nat) : Int), .int .i64 ((now + 1 : Nat) : Int), vh', .map (some r)] := rfl
    rw [e7]
    obtain ⟨h7, hh7⟩ : ∃ h7, h6.set c (.row t_cache_Cache [.int .i64 (qt : Int), .int .i64 ((sumS (L2 ++ [e]) : Nat) : Int), .int .i64 ((now + 1 : Nat) : Int), vh', .map (some r)] 5 (some (0, 0))) = h7 := ⟨_, rfl⟩
    rw [hh7]
    have f7 : ∀ x, x ≠ c → x ≠ r → h7 x = h5 x := fun x h1 h2 => by rw [← hh7, Hp.set_ne _ _ h1, f6 x h2]
    have g7 : h7 c = some (.row t_cache_Cache [.int .i64 (qt : Int), .int .i64 ((sumS (L2 ++ [e]) : Nat) : Int), .int .i64 ((now + 1 : Nat) : Int), vh', .map (some r)] 5 (some (0, 0))) := by rw [← hh7]; exact Hp.set_same ..
    have g7r : h7 r = some (.obj (.map (es.push ⟨.string n, ptrE e, clk⟩) (clk + 1))) := by rw [← hh7, Hp.set_ne _ _ nrc, ← hh6]; exact Hp.set_same ..
    have st7 : Stp R h5 R h7 (r :: HB c Sh' ys) (r :: HB c Sh' ys) := stp_in s5w.own (fun x hx => f7 x (by rintro rfl; exact hx (by simp [HB])) (by rintro rfl; exact hx (by simp))) fun x hx => by
      by_cases q1 : x = c
      · rw [q1]; exact ⟨_, g7⟩
      · by_cases q2 : x = r
        · rw [q2]; exact ⟨_, g7r⟩
        · rw [f7 x q1 q2]; exact s5w.own.kn x hx
    have all := ((st3.trans st4).trans s5w).trans st7
    have hdj' : ∀ x, x ∈ So → x ∉ r :: HB c Sh xs := hdj
    obtain ⟨oSo7, dj7, same7⟩ := all.frame oSo hdj'
    have allw := all.wide oSo hdj'
    have tot := (s1.trans s2).trans allw
    have nd5 := nod_ne hq5.nod
    have pz : ys.Perm (L2 ++ [e]) := pp.trans ((a2.pm.cons e).trans (List.perm_append_comm (l₁ := [e]) (l₂ := L2)))
    have fin : CAt h7 c qt (now + 1) (L2 ++ [e]) (r :: HB c Sh' ys) := by
      refine ⟨ys, vh', Sh', r, _, clk + 1, ⟨⟨g7, hq5.out.keep fun x hx => f7 x (by rintro rfl; exact nd5.1 hx) (by rintro rfl; exact rn5 (mem_HB.2 (.inr (.inl hx)))), fun i y ey => ?_, hq5.nod⟩, g7r, strKeys_push a2.sk _ _ _, nodup_push a2.sk a2.kn hno' _ _, fun m v => ?_, rn5, hheap, pz, ?_, fun x hx => ?_, hle2, qb, ?_⟩, rfl⟩
      · have my := List.mem_of_getElem? ey
        rw [f7 _ (nd5.2.1 y my).1 (by intro q; exact rn5 (mem_HB.2 (.inr (.inr ⟨y, my, q⟩))))]
        exact hq5.ent i y ey
      · rw [mval_push a2.sk hno']
        by_cases qm : m = n
        · rw [if_pos qm]
          constructor
          · intro ev
            exact ⟨e, pp.mem_iff.2 (by simp), by rw [en, qm], Option.some.inj ev⟩
          · rintro ⟨y, hy, hyn, hyv⟩
            rcases List.mem_cons.1 (pp.mem_iff.1 hy) with g | g
            · rw [← hyv, g]
            · exact absurd (hyn.trans qm) (hL1 y (by rw [← hg]; exact List.mem_append_right _ (a2.pm.mem_iff.1 g)))
        · rw [if_neg qm, a2.mo]
          constructor
          · rintro ⟨y, hy, hyn, hyv⟩
            exact ⟨y, pp.mem_iff.2 (List.mem_cons_of_mem _ hy), hyn, hyv⟩
          · rintro ⟨y, hy, hyn, hyv⟩
            rcases List.mem_cons.1 (pp.mem_iff.1 hy) with g | g
            · exact absurd (by rw [← hyn, g, en]) qm
            · exact ⟨y, g, hyn, hyv⟩
      · rw [List.pairwise_append]
        refine ⟨a2.so, List.pairwise_singleton _ _, fun x hx y hy => ?_⟩
        rw [List.mem_singleton.1 hy, eu]
        have := a2.nw x hx
        omega
      · rcases List.mem_append.1 hx with g | g
        · have := a2.nw x g; omega
        · rw [List.mem_singleton.1 g, eu]; exact Nat.le_refl _
      · have := congrArg List.length hg
        simp only [List.length_append, List.length_cons, List.length_nil] at this ⊢
        omega
    have hO7 : OutAt t_string 1 h7 vo (g.map fun e => .string e.name) g.length So := hO.keep same7
    rcases hO7 with ⟨rfl, hn0, hg0, _⟩ | ⟨bo, co, fz, hbo, rfl, hco, hfo, rfl, hlo⟩
    · refine k0 _ e R h7 _ en es' eu (tot.drop fun x hx => List.mem_append_left _ hx) fin ?_
      rw [hn0, hg0]
      exact ⟨rfl, none, 0, rfl, Nat.le_refl _, .inl rfl⟩
    · have hbS : ∀ x, x ∈ r :: HB c Sh' ys → x ≠ bo := fun x hx => by rintro rfl; exact dj7 x (by simp) hx
      refine k0 _ e (R.set bo (.row t_string (g.map fun e => .string e.name) (co * 1) (some fz))) h7 _ en es' eu (tot.fix (by simp) hbo fun x hx => ⟨List.mem_append_left _ hx, hbS x hx⟩) fin ?_
      exact ⟨hlo, _, co, rfl, hco, .inr ⟨bo, 0, rfl, fun j x e => by rw [cell_row (Hp.set_same ..), Nat.zero_add]; exact e⟩⟩
end
end Go.Proofs.Ytbglokdjlbknaaa
set_option linter.unusedSimpArgs false
set_option linter.unusedVariables false
set_option maxRecDepth 100000
namespace Go.SL
open Go
theorem baToList (s : ByteArray) : s.toList = s.data.toList := by
  have key : ∀ (n i : Nat) (r : List UInt8), s.size - i = n → i ≤ s.size → ByteArray.toList.loop s i r = r.reverse ++ s.data.toList.drop i := by
    intro n
    induction n with
    | zero =>
      intro i r h h2
      rw [ByteArray.toList.loop.eq_def, if_neg (by omega), List.drop_of_length_le (by rw [Array.length_toList]; show s.size ≤ i; omega)]
      simp
    | succ n ih =>
      intro i r h h2
      have hlt : i < s.data.toList.length := by rw [Array.length_toList]; show i < s.size; omega
      rw [ByteArray.toList.loop.eq_def, if_pos (by omega), ih (i + 1) _ (by omega) (by omega), List.drop_eq_getElem_cons hlt]
      have : s.get! i = s.data.toList[i] := by
        show s.data[i]! = _
        rw [getElem!_pos s.data i (by show i < s.size; omega)]
        simp
      rw [this]
      simp
  have := key s.size 0 [] (by omega) (by omega)
  show ByteArray.toList.loop s 0 [] = _
  rw [this]
  simp
theorem ba_listEq (a b : ByteArray) : (a.toList == b.toList) = decide (a = b) := by
  rw [baToList, baToList, Bool.eq_iff_iff, beq_iff_eq, decide_eq_true_eq]
  constructor
  · intro e
    cases a; cases b
    simp only [Array.toList_inj] at e
    rw [e]
  · intro e; rw [e]
section
variable {P : Program}
/-- A row of cells at a place. -/
theorem rd_at {t e : Nat} {h : Hp} {v : Value} {xs : List Value} {n i : Nat} {y : Value} (ht : P.underlying t = some (.slice e)) (hs : sz P e = some 1) (r : Rds h 1 v xs n) (hi : xs[i]? = some y) :
    ∃ p : Addr, (∀ {h' : Hp} {K : Value → Prop}, q P h' (Instr.indexAt t v (.int .i64 (i : Int))) K = K (.pointer (some p))) ∧ h.cell p = some y := by
  obtain ⟨hl, a, c, rfl, hc, h0⟩ := r
  have hlt := (List.getElem?_eq_some_iff.1 hi).1
  rcases h0 with h0 | ⟨b, o, rfl, hx⟩
  · omega
  have hx := hx i y hi
  refine ⟨_, fun {h' K} => q_idxS ht hs _ _ _ _ _ (by omega) (by omega), ?_⟩
  rw [show (Addr.add ⟨b, o, none⟩ (((i : Nat) : Int).toNat * 1)) = ⟨b, o + i, none⟩ by rw [Int.toNat_natCast, Nat.mul_one]; simp [Addr.add]]
  exact hx
end
end Go.SL
set_option linter.unusedSimpArgs false
set_option linter.unusedVariables false
set_option maxRecDepth 100000
namespace Go.Proofs.Ytbglokdjlbknaaa
open Go Go.SL
theorem q_eqT {h : Hp} {K : Value → Prop} (x y : Operand) (a b : ByteArray) : q P h (eqop .eql t_string x y (.string a) (.string b)) K = K (.bool (decide (a = b))) := by
  rw [q_eqlS, ba_listEq]
theorem q_neT {h : Hp} {K : Value → Prop} (x y : Operand) (a b : ByteArray) : q P h (eqop .neq t_string x y (.string a) (.string b)) K = K (.bool (decide (a ≠ b))) := by
  have e : q P h (eqop .neq t_string x y (.string a) (.string b)) K = K (.bool (! (a.toList == b.toList))) := q_of (by
    unfold eqop
    rw [peek_bind]
    have : peek P h (eqGuard .neq t_string x y (.string a) (.string b)) = some () := rfl
    rw [this, Option.bind_some]
    simp only [binOp, Op.stringOp]; rfl) K
  rw [e, ba_listEq]
  congr 2
  by_cases q : a = b <;> simp [q]
end Go.Proofs.Ytbglokdjlbknaaa
set_option linter.unusedSimpArgs false
set_option linter.unusedVariables false
set_option maxRecDepth 100000
set_option maxHeartbeats 4000000
namespace Go.Proofs.Ytbglokdjlbknaaa
open Go Go.SL Go.Pure
theorem q_cnil {h : Hp} {K : Value → Prop} (x y : Operand) (c : Nat) : q P h (eqop .eql t_Pt_cache_Cache x y (.pointer (some ⟨c, 0, none⟩)) (.pointer none)) K = K (.bool false) := q_of (by
  unfold eqop
  rw [peek_bind]
  have : peek P h (eqGuard .eql t_Pt_cache_Cache x y (.pointer (some ⟨c, 0, none⟩)) (.pointer none)) = some () := by kernel_rfl
  rw [this, Option.bind_some]
  rfl) K
theorem CAt.keep {h h' : Hp} {c qt now : Nat} {L : List Ent} {S : List Nat} (a : CAt h c qt now L S) (k : ∀ x, x ∈ S → h' x = h x) : CAt h' c qt now L S := by
  obtain ⟨xs, vh, Sh, r, es, clk, a, rfl⟩ := a
  have kH : ∀ x, x ∈ HB c Sh xs → h' x = h x := fun x hx => k x (List.mem_cons_of_mem _ hx)
  exact ⟨xs, vh, Sh, r, es, clk, { a with
    hq := ⟨by rw [kH c (by simp [HB])]; exact a.hq.row, a.hq.out.keep fun x hx => kH x (mem_HB.2 (.inr (.inl hx))), fun i y ey => by rw [kH y.blk (mem_HB.2 (.inr (.inr ⟨y, List.mem_of_getElem? ey, rfl⟩)))]; exact a.hq.ent i y ey, a.hq.nod⟩
    mp := by rw [k r (by simp)]; exact a.mp }, rfl⟩
theorem CAt.ext {R h h' : Hp} {c qt now : Nat} {L : List Ent} {S : List Nat} (a : CAt h c qt now L S) (o : Own R h S) (x : Hp.ext h h') : CAt h' c qt now L S := a.keep fun b hb => by
  obtain ⟨y, e⟩ := o.kn b hb
  rw [e, x _ _ e]
section
variable {h : Hp} {K : Value → Hp → Prop}
theorem T_awake22 (k : ∀ h', Hp.ext h h' → K (.bool true) h') : Cn P n_orloplaw22_awake #[] h K := by
  refine F_orloplaw22_awake ?_
  unfold s_orloplaw22_awake
  have w0 : Own h h [] := ⟨.refl _, fun b hb => (by cases hb), fun b hb => (by cases hb)⟩
  refine T_newCache 10 (by omega) w0 fun c h1 S1 s1 o1 f1 a1 => ?_
  have fr1 : ∀ x, x ∈ S1 → x ∉ ([] : List Nat) := f1
  simp only [q_cnil, GL, RL, Bool.false_eq_true, if_false]
  refine T_Put ⟨#[97]⟩ 4 (by omega) (by omega) (by simp) o1 a1 (fun qq => by omega) (fun qq => by omega) fun _ _ v1 e1 R2 h2 S2 n1 z1 u1 s2 a2 r1 => ?_
  have l2 : (popE ((10 : Int).toNat - (4 : Int).toNat) (([] : List Ent).filter fun e => e.name ≠ (⟨#[97]⟩ : ByteArray))).2 ++ [e1] = [e1] := rfl
  rw [l2] at a2
  refine T_Put ⟨#[98]⟩ 4 (by omega) (by omega) (by simp) s2.own a2 (fun qq => by omega) (fun qq => by omega) fun _ _ v2 e2 R3 h3 S3 n2 z2 u2 s3 a3 r2 => ?_
  have z1' : e1.size = 4 := z1
  have z2' : e2.size = 4 := z2
  have d12 : e1.name ≠ ⟨#[98]⟩ := by rw [n1]; decide
  have d21 : e2.name ≠ ⟨#[97]⟩ := by rw [n2]; decide
  have l3 : (popE ((10 : Int).toNat - (4 : Int).toNat) ([e1].filter fun e => e.name ≠ (⟨#[98]⟩ : ByteArray))).2 ++ [e2] = [e1, e2] := by
    rw [flt_all (by intro e he; rw [List.mem_singleton.1 he]; exact d12), popE_stop (by simp [sumS, z1'])]; rfl
  rw [l3] at a3
  refine T_Touch ⟨#[97]⟩ (by omega) s3.own a3 (fun qq => absurd n1 (qq e1 (by simp))) fun A e B h4 S4 hL hn hx s4 a4 => ?_
  have hAB : A = [] ∧ e = e1 ∧ B = [e2] := by
    cases A with
    | nil => simp at hL; exact ⟨rfl, hL.1.symm, hL.2.symm⟩
    | cons x A =>
      have : e1 = x := by simp at hL; exact hL.1
      exact absurd n1 (by rw [this]; exact hx x (by simp))
  obtain ⟨rfl, rfl, rfl⟩ := hAB
  have d13 : (useE e (0 + 1 + 1 + 1)).name ≠ ⟨#[99]⟩ := by show e.name ≠ _; rw [hn]; decide
  have d23 : e2.name ≠ ⟨#[99]⟩ := by rw [n2]; decide
  refine T_Put ⟨#[99]⟩ 4 (by omega) (by omega) (by simp) s4.own a4 (fun qq => by omega) (fun qq => by omega) fun _ _ v3 e3 R5 h5 S5 n3 z3 u3 s5 a5 r3 => ?_
  have l5 : popE ((10 : Int).toNat - (4 : Int).toNat) ((([] ++ [e2]) ++ [useE e (0 + 1 + 1 + 1)]).filter fun e => e.name ≠ (⟨#[99]⟩ : ByteArray)) = ([e2], [useE e (0 + 1 + 1 + 1)]) := by
    rw [flt_all (by
      intro x hx
      simp at hx
      rcases hx with rfl | rfl
      · exact d23
      · exact d13)]
    have us : (useE e 3).size = 4 := z1'
    simp [popE, sumS, z2', us]
  rw [l5] at a5 r3
  rw [ext0, ext1]
  have z3' : e3.size = 4 := z3
  have us : (useE e 3).size = 4 := z1'
  refine T_Put ⟨#[100]⟩ 11 (by omega) (by omega) (by simp) s5.own a5 (fun qq => by omega) (fun qq => ?_) fun _ qq => by simp at qq
  rw [ext0, ext1]
  have r3' := r3.mono s5.own.sub.cle
  obtain ⟨p, hp1, hp2⟩ := rd_at (P := P) (i := 0) (y := .string e2.name) u_Sl_string z_string r3' rfl
  obtain ⟨_, a, cc, rfl, hc, _⟩ := r3'
  have i0 : ∀ {h' : Hp} {K : Value → Prop}, q P h' (Instr.indexAt t_Sl_string (.slice a [e2].length cc) (.int .i64 0)) K = K (.pointer (some p)) := fun {h' K} => hp1
  have i2 : ∀ {h' : Hp} {K : Value → Prop}, q P h' (Builtin.len_ #[t_Sl_string] t_int #[.slice a [e2].length cc]) K = K (.int .i64 (([e2].length : Nat) : Int)) := fun {h' K} => q_lenS u_Sl_string _ _ _
  simp only [GL, RL, i2]
  have b1 : (((([e2].length : Nat) : Int) == 1)) = true := rfl
  have b0 : ((0 : Int) == 0) = true := rfl
  have b3 : ((3 : Int) == 3) = true := rfl
  simp only [b0, b1, b3, i0, hp2, q_eqT, n2, decide_true, GL, RL, if_true]
  refine T_Used a5 ?_
  have su : sumS ([useE e (0 + 1 + 1 + 1)] ++ [e3]) = 8 := by simp [sumS, us, z3']
  have b2 : (((8 : Nat) : Int) == 8) = true := rfl
  simp only [su, GL, RL, b2]
  refine k h5 fun x o hx => ?_
  exact s5.own.sub _ _ (s5.ext _ _ (s4.ext _ _ (s3.ext _ _ (s2.ext _ _ (s1.ext _ _ hx)))))
end
end Go.Proofs.Ytbglokdjlbknaaa
set_option linter.unusedSimpArgs false
set_option linter.unusedVariables false
namespace Go.SL
open Go
section
variable {P : Program} {h : Hp}
theorem aw_nilN {t e s : Nat} {K : Value → Hp → Prop} (ht : P.underlying t = some (.slice e)) (hs : sz P e = some s) (k : ∀ v h', New h e s v h' [] 0 → K v h') : aw P (Instr.buildSlice t 0 #[]) K h := by
  refine aw_of ?_
  show awp P (Sem.bind (underlying t) _) _ h
  rw [awp_bind, peek_awp P _ _ _ (pk_und ht)]
  show awp P (Sem.bind (sizeOf e) _) _ h
  rw [awp_bind, peek_awp P _ _ _ (pk_size hs)]
  show awp P (if 0 * s > 2 ^ 24 then _ else _) _ h
  rw [if_neg (by simp)]
  show awp P (if 0 * s = 0 then _ else _) _ h
  rw [if_pos (by simp)]
  have fin : ∀ (zs : Array Value) (n : Nat), n = 0 → awp P (match Instr.fill (fun i => some (i * s, s)) ((Array.range n).map (fun x => zs[x % zs.size]!)) [] with
      | some cells => Sem.bind (newRow e cells) fun a => Sem.pure (.slice (some a) 0 0)
      | _ => stuck "buildSlice: a part of the wrong size") K h := by
    rintro zs n rfl
    show awp P (Sem.bind (newRow e _) _) K h
    rw [awp_bind]
    intro r hr
    refine k _ _ ⟨by simp, .inr ⟨r, 0, (0, 0), hr, Nat.le_refl _, rfl, ?_, fun i _ => by simp⟩⟩
    simp [absOf]
  exact fin #[] (0 * s) (by simp)
/-- A row made just now is owned. -/
theorem OutAt.own {R h' : Hp} {t s n : Nat} {v : Value} {xs : List Value} {S So : List Nat} (w : Own R h S) (x : Hp.ext h h') (o : OutAt t s h' v xs n So) (fr : ∀ y, y ∈ So → h y = none) : Own R h' So := by
  refine ⟨w.sub.trans x, fun b hb => w.sub.none (fr b hb), fun b hb => ?_⟩
  rcases o with ⟨_, _, _, rfl⟩ | ⟨b', c, f, e, _, _, _, rfl, _⟩
  · cases hb
  · rw [List.mem_singleton.1 hb]; exact ⟨_, e⟩
theorem Stp.fresh {R h' : Hp} {t s n : Nat} {v : Value} {xs : List Value} {S : List Nat} (w : Own R h S) (nw : New h t s v h' xs n) : ∃ So, OutAt t s h' v xs n So ∧ Own R h' So ∧ Stp R h R h' S (S ++ So) ∧ (∀ y, y ∈ So → h y = none) := by
  obtain ⟨So, o, fr⟩ := OutAt.of nw
  have oo := o.own w nw.ext fr
  exact ⟨So, o, oo, (Stp.ext0 w nw.ext).gain oo fr, fr⟩
/-- A step within what is owned. -/
theorem Stp.within {R h h' : Hp} {S : List Nat} (w : Own R h S) (fr : ∀ b, b ∉ S → h' b = h b) (kn : ∀ b, b ∈ S → ∃ o, h' b = some o) : Stp R h R h' S S :=
  ⟨.refl _, fun b o hb e => by rw [fr b hb]; exact e, fun b o hb e => hb, fun b o hb e er => er, ⟨fun b o e => by
    have hb : b ∉ S := fun q => by rw [w.dis b q] at e; cases e
    rw [fr b hb]; exact w.sub b o e, w.dis, kn⟩⟩
/-- A row that grows, beside what else is owned. -/
theorem OutAt.beside {R h h' : Hp} {t s n' : Nat} {v' : Value} {xs' : List Value} {S T T' : List Nat} (oS : Own R h S) (oT : Own R h T) (dj : ∀ b, b ∈ S → b ∉ T) (o' : OutAt t s h' v' xs' n' T') (kp : ∀ x o, x ∉ T → h x = some o → h' x = some o) (fr : ∀ x o, x ∉ T → h x = some o → x ∉ T') :
    Own R h' S ∧ Own R h' T' ∧ (∀ b, b ∈ S → b ∉ T') ∧ (∀ b, b ∈ S → h' b = h b) ∧ Stp R h R h' (S ++ T) (S ++ T') := by
  have st := OutAt.step oT o' kp fr
  obtain ⟨a, b, c⟩ := st.frame oS dj
  exact ⟨a, st.own, b, c, (st.wide oS dj).perm (fun x => by simp only [List.mem_append]; exact or_comm) (fun x => by simp only [List.mem_append]; exact or_comm)⟩
theorem OutAt.flat {h : Hp} {t s n : Nat} {v : Value} {xs : List Value} {So : List Nat} (o : OutAt t s h v xs n So) : SL.flat v = true := by
  rcases o with ⟨rfl, _⟩ | ⟨b, c, f, _, rfl, _⟩ <;> rfl
end
end Go.SL
set_option linter.unusedSimpArgs false
set_option linter.unusedVariables false
set_option maxRecDepth 100000
set_option maxHeartbeats 4000000
namespace Go.Proofs.Ytbglokdjlbknaaa
open Go Go.SL
abbrev Nm := ByteArray × Nat
def itC (x : Nm) : List Value := [.string x.1, .int .i64 (x.2 : Int)]
def rowL (L : List Nm) : List Value := L.flatMap itC
theorem rowL_cons (x : Nm) (L : List Nm) : rowL (x :: L) = .string x.1 :: .int .i64 (x.2 : Int) :: rowL L := rfl
theorem rowL_app (A B : List Nm) : rowL (A ++ B) = rowL A ++ rowL B := List.flatMap_append
theorem rowL_take : ∀ (L : List Nm) (i : Nat), (rowL L).take (i * 2) = rowL (L.take i)
  | [], i => by simp [rowL]
  | x :: L, 0 => by simp [rowL]
  | x :: L, i + 1 => by rw [rowL_cons, Nat.succ_mul, List.take_succ_cons, List.take_succ_cons, rowL_take L i, List.take_succ_cons, rowL_cons]
theorem rowL_drop : ∀ (L : List Nm) (i : Nat), (rowL L).drop (i * 2) = rowL (L.drop i)
  | [], i => by simp [rowL]
  | x :: L, 0 => by simp
  | x :: L, i + 1 => by rw [rowL_cons, Nat.succ_mul, List.drop_succ_cons, List.drop_succ_cons, rowL_drop L i, List.drop_succ_cons]
theorem rowL_get {L : List Nm} {i : Nat} {x : Nm} (h : L[i]? = some x) : (rowL L)[i * 2]? = some (.string x.1) ∧ (rowL L)[i * 2 + 1]? = some (.int .i64 (x.2 : Int)) := by
  have e : (rowL L).drop (i * 2) = .string x.1 :: .int .i64 (x.2 : Int) :: rowL (L.drop (i + 1)) := by
    rw [rowL_drop]
    obtain ⟨hi, rfl⟩ := List.getElem?_eq_some_iff.1 h
    rw [List.drop_eq_getElem_cons hi, rowL_cons]
  have e0 := congrArg (fun l => l[0]?) e
  have e1 := congrArg (fun l => l[1]?) e
  simp only [List.getElem?_drop] at e0 e1
  exact ⟨e0, e1⟩
theorem rowL_flat (L : List Nm) : ∀ y ∈ rowL L, flat y = true := by
  intro y hy
  obtain ⟨x, _, hx⟩ := List.mem_flatMap.1 hy
  simp only [itC, List.mem_cons, List.not_mem_nil, or_false] at hx
  rcases hx with rfl | rfl <;> rfl
/-- The document's cache, in memory. -/
def RC (h : Hp) (p qt : Nat) (L : List Nm) (S : List Nat) : Prop :=
  ∃ vL So, h p = some (.row t_orlopref22_Cache [.int .i64 (qt : Int), vL] 2 (some (0, 0))) ∧ OutAt t_api_Item 2 h vL (rowL L) L.length So ∧ p ∉ So ∧ S = p :: So
theorem RC.keep {h h' : Hp} {p qt : Nat} {L : List Nm} {S : List Nat} (a : RC h p qt L S) (k : ∀ x, x ∈ S → h' x = h x) : RC h' p qt L S := by
  obtain ⟨vL, So, hp, ho, hn, rfl⟩ := a
  exact ⟨vL, So, by rw [k p (by simp)]; exact hp, ho.keep fun x hx => k x (List.mem_cons_of_mem _ hx), hn, rfl⟩
theorem RC.ext {R h h' : Hp} {p qt : Nat} {L : List Nm} {S : List Nat} (a : RC h p qt L S) (o : Own R h S) (x : Hp.ext h h') : RC h' p qt L S := a.keep fun b hb => by
  obtain ⟨y, e⟩ := o.kn b hb
  rw [e, x _ _ e]
theorem rc0 {h : Hp} {K : Value → Prop} (b : Nat) : q P h (Instr.fieldAt t_orlopref22_Cache (.pointer (some ⟨b, 0, none⟩)) 0) K = K (.pointer (some ⟨b, 0, none⟩)) := q_of (by kernel_rfl) K
theorem rc1 {h : Hp} {K : Value → Prop} (b : Nat) : q P h (Instr.fieldAt t_orlopref22_Cache (.pointer (some ⟨b, 0, none⟩)) 1) K = K (.pointer (some ⟨b, 1, none⟩)) := q_of (by kernel_rfl) K
theorem aj0 {h : Hp} {K : Value → Prop} (b o : Nat) : q P h (Instr.fieldAt t_api_Item (.pointer (some ⟨b, o, none⟩)) 0) K = K (.pointer (some ⟨b, o + 0, none⟩)) := q_of (by kernel_rfl) K
theorem aj1 {h : Hp} {K : Value → Prop} (b o : Nat) : q P h (Instr.fieldAt t_api_Item (.pointer (some ⟨b, o, none⟩)) 1) K = K (.pointer (some ⟨b, o + 1, none⟩)) := q_of (by kernel_rfl) K
theorem zr_item : zr P t_api_Item = some (.agg #[.string ByteArray.empty, .int .i64 0]) := by kernel_rfl
theorem nfo_item : (P.info? t_api_Item).map (fun i => (i.zero, i.size, i.bytes)) = some (some (.agg #[.string ByteArray.empty, .int .i64 0]), 2, 24) := by kernel_rfl
/-- An item of a row. -/
theorem it_at {h : Hp} {v : Value} {L : List Nm} {i : Nat} {x : Nm} (r : Rds h 2 v (rowL L) L.length) (hi : L[i]? = some x) :
    ∃ b o, (∀ {h' : Hp} {K : Value → Prop}, q P h' (Instr.indexAt t_Sl_api_Item v (.int .i64 (i : Int))) K = K (.pointer (some ⟨b, o, none⟩))) ∧ h.cell ⟨b, o + 0, none⟩ = some (.string x.1) ∧ h.cell ⟨b, o + 1, none⟩ = some (.int .i64 (x.2 : Int)) := by
  obtain ⟨hl, a, c, rfl, hc, h0⟩ := r
  have hlt := (List.getElem?_eq_some_iff.1 hi).1
  rcases h0 with h0 | ⟨b, o, rfl, hx⟩
  · omega
  obtain ⟨g0, g1⟩ := rowL_get hi
  have c0 := hx _ _ g0
  have c1 := hx _ _ g1
  refine ⟨b, o + i * 2, fun {h' K} => ?_, by rw [Nat.add_zero]; exact c0, by rw [Nat.add_assoc]; exact c1⟩
  rw [q_idxS u_Sl_api_Item z_api_Item _ _ _ _ _ (by omega) (by omega), Int.toNat_natCast, add_off]
def sumP (L : List Nm) : Nat := (L.map Prod.snd).sum
theorem sumP_cons (x : Nm) (L : List Nm) : sumP (x :: L) = x.2 + sumP L := by simp [sumP]
theorem sumP_app (A B : List Nm) : sumP (A ++ B) = sumP A + sumP B := by simp [sumP]
section
variable {h : Hp} {K : Value → Hp → Prop} {p qt : Nat} {R : Hp} {L : List Nm} {S : List Nat}
theorem RC.cells (a : RC h p qt L S) : ∃ vL, h.cell ⟨p, 0, none⟩ = some (.int .i64 (qt : Int)) ∧ h.cell ⟨p, 1, none⟩ = some vL ∧ Rds h 2 vL (rowL L) L.length ∧ ∀ {h' : Hp} {K : Value → Prop}, q P h' (Builtin.len_ #[t_Sl_api_Item] t_int #[vL]) K = K (.int .i64 (L.length : Int)) := by
  obtain ⟨vL, So, hp, ho, hn, rfl⟩ := a
  have r := ho.rds
  refine ⟨vL, by rw [cell_row hp]; rfl, by rw [cell_row hp]; rfl, r, fun {h' K} => ?_⟩
  obtain ⟨_, a, c, rfl, hc, _⟩ := r
  exact q_lenS u_Sl_api_Item _ _ _
theorem T_ref22_New (quota : Int) {S0 : List Nat} (w : Own R h S0) (k : ∀ p h', Stp R h R h' S0 S0 → Hp.ext h h' → Own R h' [p] → p ∉ S0 → RC h' p quota.toNat [] [p] → K (.pointer (some ⟨p, 0, none⟩)) h') : Cn P n_orlopref22_New #[.int .i64 quota] h K := by
  refine F_orlopref22_New ?_
  unfold s_orlopref22_New
  have fin : ∀ (p : Nat) (n : Int), h p = none → n = ((quota.toNat : Nat) : Int) → K (.pointer (some ⟨p, 0, none⟩)) (h.set p (.row t_orlopref22_Cache [.int .i64 n, .slice none 0 0] 2 (some (0, 0)))) := fun p n hp hn => by
    obtain ⟨o1, o2, dj, same⟩ := w.mk1 (.row t_orlopref22_Cache [.int .i64 n, .slice none 0 0] 2 (some (0, 0))) hp
    refine k p _ (Stp.ext0 w (ext_set _ hp)) (ext_set _ hp) o1 (fun hx => by obtain ⟨o, e⟩ := w.kn p hx; rw [hp] at e; cases e) ⟨.slice none 0 0, [], by rw [Hp.set_same, hn], .inl ⟨rfl, rfl, rfl, rfl⟩, by simp, rfl⟩
  simp (disch := omega) only [GL, RL]
  by_cases h1 : quota < 0
  · rw [if_pos (by simpa using h1)]
    have b1 : ∀ {K : Value → Prop}, q P h (Instr.build t_orlopref22_Cache #[]) K = K (.agg #[.int .i64 0, .slice none 0 0]) := fun {K} => q_of (by kernel_rfl) K
    rw [b1]
    exact aw_box fun p hp => fin p 0 hp (by omega)
  · rw [if_neg (by simpa using h1)]
    have b1 : ∀ {K : Value → Prop}, q P h (Instr.build t_orlopref22_Cache #[(0, .int .i64 quota)]) K = K (.agg #[.int .i64 quota, .slice none 0 0]) := fun {K} => q_of (by kernel_rfl) K
    rw [b1]
    exact aw_box fun p hp => fin p quota hp (by omega)
theorem T_ref22_Used (a : RC h p qt L S) (hl : L.length ≤ 1000000) (hs : sumP L ≤ 9223372036854775807) (k : K (.int .i64 ((sumP L : Nat) : Int)) h) : Cn P n_orlopref22_Cache_Used #[.pointer (some ⟨p, 0, none⟩)] h K := by
  refine F_orlopref22_Cache_Used ?_
  unfold s_orlopref22_Cache_Used
  obtain ⟨vL, c0, c1, r, ln⟩ := a.cells
  refine Lp_mk (fun m vs h' => ∃ i : Nat, i + m = L.length ∧ vs = [.int .i64 ((sumP (L.take i) : Nat) : Int), .int .i64 (i : Int)] ∧ h' = h) L.length ⟨0, by omega, by simp [sumP], rfl⟩ ?_
  rintro m vs h' ⟨i, hi, rfl, rfl⟩
  simp (disch := omega) only [GL, RL, rc0, rc1, c0, c1, ln, lt_dec]
  by_cases hlt : i < L.length
  · simp (disch := omega) only [hlt, decide_true, if_true, GL, RL, rc0, rc1, c0, c1]
    obtain ⟨b, o, hix, d0, d1⟩ := it_at r (List.getElem?_eq_getElem hlt)
    have e1 : L.take (i + 1) = L.take i ++ [L[i]] := List.take_succ_eq_append_getElem hlt
    have e2 : sumP (L.take (i + 1)) = sumP (L.take i) + (L[i]).2 := by rw [e1, sumP_app]; simp [sumP]
    have e3 : sumP (L.take (i + 1)) ≤ sumP L := by
      have := sumP_app (L.take (i + 1)) (L.drop (i + 1))
      rw [List.take_append_drop] at this
      omega
    simp (disch := omega) only [hix, aj0, aj1, d0, d1, GL, RL]
    have e4 : IntKind.i64.wrap (((sumP (L.take i) : Nat) : Int) + ((L[i]).2 : Int)) = ((sumP (L.take (i + 1)) : Nat) : Int) := by rw [wi64 (by omega) (by omega)]; omega
    have e5 : IntKind.i64.wrap ((i : Int) + 1) = ((i + 1 : Nat) : Int) := wi64 (by omega) (by omega)
    rw [e4, e5]
    exact ⟨h', .refl _, m - 1, by omega, i + 1, by omega, rfl, rfl⟩
  · simp only [hlt, decide_false, Bool.false_eq_true, if_false]
    have : L.take i = L := List.take_of_length_le (by omega)
    show K (.int .i64 ((sumP (L.take i) : Nat) : Int)) h'
    rw [this]
    exact k
theorem T_ref22_at (n : ByteArray) (a : RC h p qt L S) (hl : L.length ≤ 1000000) (k0 : (∀ x ∈ L, x.1 ≠ n) → K (.int .i64 (-1)) h)
    (k1 : ∀ A x B, L = A ++ x :: B → x.1 = n → (∀ y ∈ A, y.1 ≠ n) → K (.int .i64 (A.length : Int)) h) : Cn P n_orlopref22_Cache_at #[.pointer (some ⟨p, 0, none⟩), .string n] h K := by
  refine F_orlopref22_Cache_at ?_
  unfold s_orlopref22_Cache_at
  obtain ⟨vL, c0, c1, r, ln⟩ := a.cells
  refine Lp_mk (fun m vs h' => ∃ i : Nat, i + m = L.length ∧ (∀ x ∈ L.take i, x.1 ≠ n) ∧ vs = [.int .i64 0, .int .i64 (i : Int)] ∧ h' = h) L.length ⟨0, by omega, by simp, rfl, rfl⟩ ?_
  rintro m vs h' ⟨i, hi, hno, rfl, rfl⟩
  simp (disch := omega) only [GL, RL, rc0, rc1, c0, c1, ln, lt_dec]
  by_cases hlt : i < L.length
  · simp (disch := omega) only [hlt, decide_true, if_true, GL, RL, rc0, rc1, c0, c1]
    obtain ⟨b, o, hix, d0, d1⟩ := it_at r (List.getElem?_eq_getElem hlt)
    simp (disch := omega) only [hix, aj0, aj1, d0, d1, GL, RL, q_eqT]
    by_cases hn : (L[i]).1 = n
    · simp only [hn, decide_true, if_true]
      have := k1 (L.take i) L[i] (L.drop (i + 1)) (by rw [← List.drop_eq_getElem_cons hlt, List.take_append_drop]) hn hno
      rw [List.length_take, Nat.min_eq_left (by omega)] at this
      exact this
    · simp only [hn, decide_false, Bool.false_eq_true, if_false]
      have e5 : IntKind.i64.wrap ((i : Int) + 1) = ((i + 1 : Nat) : Int) := wi64 (by omega) (by omega)
      rw [e5]
      refine ⟨h', .refl _, m - 1, by omega, i + 1, by omega, fun x hx => ?_, rfl, rfl⟩
      rw [List.take_succ_eq_append_getElem hlt] at hx
      rcases List.mem_append.1 hx with hx | hx
      · exact hno x hx
      · rw [List.mem_singleton.1 hx]; exact hn
  · simp only [hlt, decide_false, Bool.false_eq_true, if_false]
    refine k0 fun x hx => hno x ?_
    rw [List.take_of_length_le (by omega)]
    exact hx
end
end Go.Proofs.Ytbglokdjlbknaaa
