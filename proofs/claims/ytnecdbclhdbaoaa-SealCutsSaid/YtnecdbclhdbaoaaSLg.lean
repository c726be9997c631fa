/- Numbers of Go as natural numbers; rows of them. Conditions: each lemma names its own. -/
import Derived.Test.YtnecdbclhdbaoaaSLf
set_option linter.unusedSimpArgs false
set_option linter.unusedVariables false
namespace Go.SL
open Go

def nv (k : IntKind) (l : List Nat) : List Value := l.map fun (x : Nat) => .int k (x : Int)
theorem nv_len (k : IntKind) (l : List Nat) : (nv k l).length = l.length := by simp [nv]
theorem nv_get (k : IntKind) (l : List Nat) (i : Nat) (hi : i < l.length) : (nv k l)[i]? = some (.int k ((l[i] : Nat) : Int)) := by
  unfold nv; rw [List.getElem?_map, List.getElem?_eq_getElem hi]; rfl
theorem nv_getD (k : IntKind) (l : List Nat) (i : Nat) (hi : i < l.length) : (nv k l)[i]? = some (.int k ((l.getD i 0 : Nat) : Int)) := by
  rw [nv_get k l i hi, List.getD_eq_getElem?_getD, List.getElem?_eq_getElem hi]; rfl
theorem nv_app (k : IntKind) (a b : List Nat) : nv k (a ++ b) = nv k a ++ nv k b := by simp [nv]
theorem nv_set (k : IntKind) (l : List Nat) (i x : Nat) : (nv k l).set i (.int k (x : Int)) = nv k (l.set i x) := by
  unfold nv; rw [List.map_set]
theorem nv_flat (k : IntKind) (l : List Nat) : ∀ y ∈ nv k l, flat y = true := by
  intro y hy
  obtain ⟨x, _, rfl⟩ := List.mem_map.1 hy
  rfl
theorem nv_nil (k : IntKind) : nv k [] = [] := rfl
theorem nv_cons (k : IntKind) (x : Nat) (l : List Nat) : nv k (x :: l) = .int k (x : Int) :: nv k l := rfl

theorem wi64 {x : Int} (h1 : -9223372036854775808 ≤ x) (h2 : x ≤ 9223372036854775807) : IntKind.i64.wrap x = x := by
  unfold IntKind.wrap; simp [IntKind.bits, IntKind.signed]; omega
theorem wu64 (n : Nat) : IntKind.u64.wrap (n : Int) = ((n % 18446744073709551616 : Nat) : Int) := by
  unfold IntKind.wrap; simp [IntKind.bits, IntKind.signed]
theorem wu32 (n : Nat) : IntKind.u32.wrap (n : Int) = ((n % 4294967296 : Nat) : Int) := by
  unfold IntKind.wrap; simp [IntKind.bits, IntKind.signed]
theorem wu8 (n : Nat) : IntKind.u8.wrap (n : Int) = ((n % 256 : Nat) : Int) := by
  unfold IntKind.wrap; simp [IntKind.bits, IntKind.signed]
theorem wu16 (n : Nat) : IntKind.u16.wrap (n : Int) = ((n % 65536 : Nat) : Int) := by
  unfold IntKind.wrap; simp [IntKind.bits, IntKind.signed]
theorem wu64i {x : Int} (h1 : 0 ≤ x) (h2 : x < 18446744073709551616) : IntKind.u64.wrap x = x := by
  unfold IntKind.wrap; simp [IntKind.bits, IntKind.signed]; omega
theorem wu32i {x : Int} (h1 : 0 ≤ x) (h2 : x < 4294967296) : IntKind.u32.wrap x = x := by
  unfold IntKind.wrap; simp [IntKind.bits, IntKind.signed]; omega
theorem wu8i {x : Int} (h1 : 0 ≤ x) (h2 : x < 256) : IntKind.u8.wrap x = x := by
  unfold IntKind.wrap; simp [IntKind.bits, IntKind.signed]; omega
theorem bv_toNat (n : Nat) {x : Int} (h1 : 0 ≤ x) (h2 : x < (2 ^ n : Nat)) : (BitVec.ofInt n x).toNat = x.toNat := by
  rw [BitVec.toNat_ofInt, Int.emod_eq_of_lt h1 h2]
theorem bits_u {k : IntKind} (hk : k.signed = false) (n : Nat) (hn : n < 2 ^ k.bits) : k.wrap (n : Int) = (n : Int) := by
  unfold IntKind.wrap
  have : ((n : Int) % (2 ^ k.bits : Int)) = (n : Int) := Int.emod_eq_of_lt (by omega) (by exact_mod_cast hn)
  simp only [this, hk, Bool.false_and, Bool.false_eq_true, if_false]
theorem iand_u {k : IntKind} (hk : k.signed = false) {a b : Int} (a0 : 0 ≤ a) (a1 : a < (2 ^ k.bits : Nat)) (b0 : 0 ≤ b) (b1 : b < (2 ^ k.bits : Nat)) : iand k a b = ((a.toNat &&& b.toNat : Nat) : Int) := by
  unfold iand
  rw [BitVec.toNat_and, bv_toNat _ a0 a1, bv_toNat _ b0 b1, bits_u hk]
  exact Nat.lt_of_le_of_lt Nat.and_le_left (by omega)
theorem ior_u {k : IntKind} (hk : k.signed = false) {a b : Int} (a0 : 0 ≤ a) (a1 : a < (2 ^ k.bits : Nat)) (b0 : 0 ≤ b) (b1 : b < (2 ^ k.bits : Nat)) : ior k a b = ((a.toNat ||| b.toNat : Nat) : Int) := by
  unfold ior
  rw [BitVec.toNat_or, bv_toNat _ a0 a1, bv_toNat _ b0 b1, bits_u hk]
  exact Nat.or_lt_two_pow (by omega) (by omega)
theorem ixor_u {k : IntKind} (hk : k.signed = false) {a b : Int} (a0 : 0 ≤ a) (a1 : a < (2 ^ k.bits : Nat)) (b0 : 0 ≤ b) (b1 : b < (2 ^ k.bits : Nat)) : ixor k a b = ((a.toNat ^^^ b.toNat : Nat) : Int) := by
  unfold ixor
  rw [BitVec.toNat_xor, bv_toNat _ a0 a1, bv_toNat _ b0 b1, bits_u hk]
  exact Nat.xor_lt_two_pow (by omega) (by omega)
theorem and64 {a b : Int} (a0 : 0 ≤ a) (a1 : a < 18446744073709551616) (b0 : 0 ≤ b) (b1 : b < 18446744073709551616) : iand .u64 a b = ((a.toNat &&& b.toNat : Nat) : Int) := iand_u rfl a0 a1 b0 b1
theorem or64 {a b : Int} (a0 : 0 ≤ a) (a1 : a < 18446744073709551616) (b0 : 0 ≤ b) (b1 : b < 18446744073709551616) : ior .u64 a b = ((a.toNat ||| b.toNat : Nat) : Int) := ior_u rfl a0 a1 b0 b1
theorem xor64 {a b : Int} (a0 : 0 ≤ a) (a1 : a < 18446744073709551616) (b0 : 0 ≤ b) (b1 : b < 18446744073709551616) : ixor .u64 a b = ((a.toNat ^^^ b.toNat : Nat) : Int) := ixor_u rfl a0 a1 b0 b1
theorem and32 {a b : Int} (a0 : 0 ≤ a) (a1 : a < 4294967296) (b0 : 0 ≤ b) (b1 : b < 4294967296) : iand .u32 a b = ((a.toNat &&& b.toNat : Nat) : Int) := iand_u rfl a0 a1 b0 b1
theorem or32 {a b : Int} (a0 : 0 ≤ a) (a1 : a < 4294967296) (b0 : 0 ≤ b) (b1 : b < 4294967296) : ior .u32 a b = ((a.toNat ||| b.toNat : Nat) : Int) := ior_u rfl a0 a1 b0 b1
theorem xor32 {a b : Int} (a0 : 0 ≤ a) (a1 : a < 4294967296) (b0 : 0 ≤ b) (b1 : b < 4294967296) : ixor .u32 a b = ((a.toNat ^^^ b.toNat : Nat) : Int) := ixor_u rfl a0 a1 b0 b1
theorem and8 {a b : Int} (a0 : 0 ≤ a) (a1 : a < 256) (b0 : 0 ≤ b) (b1 : b < 256) : iand .u8 a b = ((a.toNat &&& b.toNat : Nat) : Int) := iand_u rfl a0 a1 b0 b1
theorem or8 {a b : Int} (a0 : 0 ≤ a) (a1 : a < 256) (b0 : 0 ≤ b) (b1 : b < 256) : ior .u8 a b = ((a.toNat ||| b.toNat : Nat) : Int) := ior_u rfl a0 a1 b0 b1
theorem xor8 {a b : Int} (a0 : 0 ≤ a) (a1 : a < 256) (b0 : 0 ≤ b) (b1 : b < 256) : ixor .u8 a b = ((a.toNat ^^^ b.toNat : Nat) : Int) := ixor_u rfl a0 a1 b0 b1
theorem inc (k : Nat) : (k : Int) + 1 = ((k + 1 : Nat) : Int) := rfl
theorem fdivp (a n : Nat) : ((a : Int).fdiv (2 ^ n)) = ((a / 2 ^ n : Nat) : Int) := by
  rw [Int.fdiv_eq_ediv_of_nonneg _ (by exact_mod_cast Nat.zero_le (2 ^ n))]
  norm_cast
theorem mulp (a n : Nat) : ((a : Int) * 2 ^ n) = ((a * 2 ^ n : Nat) : Int) := by push_cast; rfl

theorem Lp_mk {vals : List Value} {h : Hp} {body : (List Value → Hp → Prop) → List Value → Hp → Prop} (I : Nat → List Value → Hp → Prop) (n : Nat) (h0 : I n vals h)
    (st : ∀ n vs h1, I n vs h1 → body (fun vs' h2 => ∃ h0, Hp.le h0 h2 ∧ ∃ m, m < n ∧ I m vs' h0) vs h1) : Lp vals h body := ⟨I, ⟨h, .refl _, n, h0⟩, st⟩
theorem Lp_mkw {vals : List Value} {h h' : Hp} {body : (List Value → Hp → Prop) → List Value → Hp → Prop} (I : Nat → List Value → Hp → Prop) (l : Hp.le h' h) (n : Nat) (h0 : I n vals h')
    (st : ∀ n vs h1, I n vs h1 → body (fun vs' h2 => ∃ h0, Hp.le h0 h2 ∧ ∃ m, m < n ∧ I m vs' h0) vs h1) : Lp vals h body := ⟨I, ⟨h', l, n, h0⟩, st⟩

/-- A row of numbers that is read. -/
def Rn (h : Hp) (k : IntKind) (w : Value) (l : List Nat) : Prop := Rds h 1 w (nv k l) l.length
theorem Rn.shape {h : Hp} {k : IntKind} {w : Value} {l : List Nat} (r : Rn h k w l) : ∃ a c, w = .slice a l.length c ∧ l.length ≤ c := by
  obtain ⟨_, a, c, e, hc, _⟩ := r
  exact ⟨a, c, e, hc⟩
theorem Rn.pos {h : Hp} {k : IntKind} {a : Option Addr} {n c : Nat} {l : List Nat} (r : Rn h k (.slice a n c) l) (hp : 0 < l.length) :
    ∃ b o, a = some ⟨b, o, none⟩ ∧ ∀ i, i < l.length → h.cell ⟨b, o + i, none⟩ = some (.int k ((l.getD i 0 : Nat) : Int)) := by
  obtain ⟨_, a', c', e, hc, h0 | ⟨b, o, rfl, hy⟩⟩ := r
  · omega
  · simp only [Value.slice.injEq] at e
    exact ⟨b, o, e.1, fun i hi => hy i _ (nv_getD k l i hi)⟩
theorem Rn.mono {h h' : Hp} {k : IntKind} {w : Value} {l : List Nat} (r : Rn h k w l) (c : Hp.cle h h') : Rn h' k w l := Rds.mono r c
/-- A new row of numbers. -/
def Nn (h : Hp) (e : Nat) (k : IntKind) (v : Value) (h' : Hp) (l : List Nat) : Prop := New h e 1 v h' (nv k l) l.length
theorem Nn.rn {h : Hp} {e : Nat} {k : IntKind} {v : Value} {h' : Hp} {l : List Nat} (w : Nn h e k v h' l) : Rn h' k v l := New.rds w
theorem Nn.cle {h : Hp} {e : Nat} {k : IntKind} {v : Value} {h' : Hp} {l : List Nat} (w : Nn h e k v h' l) : Hp.cle h h' := New.cle w
theorem Nn.nil (h : Hp) (e : Nat) (k : IntKind) : Nn h e k (.slice none 0 0) h [] := ⟨rfl, .inl ⟨rfl, rfl, rfl⟩⟩

theorem GL : (∀ (P : Program) (h : Hp) (K : Value → Prop) (t : TypeId) (k : IntKind) (a b : Int), q P h (binOp .add t (.int k a) (.int k b)) K = K (.int k (k.wrap (a + b)))) ∧
  (∀ (P : Program) (h : Hp) (K : Value → Prop) (t : TypeId) (k : IntKind) (a b : Int), q P h (binOp .sub t (.int k a) (.int k b)) K = K (.int k (k.wrap (a - b)))) ∧
  (∀ (P : Program) (h : Hp) (K : Value → Prop) (t : TypeId) (k : IntKind) (a b : Int), q P h (binOp .mul t (.int k a) (.int k b)) K = K (.int k (k.wrap (a * b)))) ∧
  (∀ (P : Program) (h : Hp) (K : Value → Prop) (t : TypeId) (k : IntKind) (a b : Int), q P h (binOp .lss t (.int k a) (.int k b)) K = K (.bool (decide (a < b)))) ∧
  (∀ (P : Program) (h : Hp) (K : Value → Prop) (t : TypeId) (k : IntKind) (a b : Int), q P h (binOp .leq t (.int k a) (.int k b)) K = K (.bool (decide (a ≤ b)))) ∧
  (∀ (P : Program) (h : Hp) (K : Value → Prop) (t : TypeId) (k : IntKind) (a b : Int), q P h (binOp .gtr t (.int k a) (.int k b)) K = K (.bool (decide (b < a)))) ∧
  (∀ (P : Program) (h : Hp) (K : Value → Prop) (t : TypeId) (k : IntKind) (a b : Int), q P h (binOp .geq t (.int k a) (.int k b)) K = K (.bool (decide (b ≤ a)))) ∧
  (∀ (P : Program) (h : Hp) (K : Value → Prop) (t : TypeId) (x y : Operand) (k : IntKind) (a b : Int), q P h (eqop .eql t x y (.int k a) (.int k b)) K = K (.bool (a == b))) ∧
  (∀ (P : Program) (h : Hp) (K : Value → Prop) (t : TypeId) (x y : Operand) (k : IntKind) (a b : Int), q P h (eqop .neq t x y (.int k a) (.int k b)) K = K (.bool (a != b))) ∧
  (∀ (P : Program) (h : Hp) (K : Value → Prop) (t : TypeId) (k : IntKind) (a b : Int), q P h (binOp .and t (.int k a) (.int k b)) K = K (.int k (iand k a b))) ∧
  (∀ (P : Program) (h : Hp) (K : Value → Prop) (t : TypeId) (k : IntKind) (a b : Int), q P h (binOp .or t (.int k a) (.int k b)) K = K (.int k (ior k a b))) ∧
  (∀ (P : Program) (h : Hp) (K : Value → Prop) (t : TypeId) (k : IntKind) (a b : Int), q P h (binOp .xor t (.int k a) (.int k b)) K = K (.int k (ixor k a b))) ∧
  (∀ (P : Program) (h : Hp) (K : Value → Prop) (t : TypeId) (k : IntKind) (a b : Int) (hb : b ≠ 0), q P h (binOp .quo t (.int k a) (.int k b)) K = K (.int k (k.wrap (a.tdiv b)))) ∧
  (∀ (P : Program) (h : Hp) (K : Value → Prop) (t : TypeId) (k : IntKind) (a b : Int) (hb : b ≠ 0), q P h (binOp .rem t (.int k a) (.int k b)) K = K (.int k (a.tmod b))) ∧
  (∀ (P : Program) (h : Hp) (K : Value → Prop) (t : TypeId) (k k' : IntKind) (a b : Int) (hb : 0 ≤ b), q P h (binOp .shl t (.int k a) (.int k' b)) K = K (.int k (k.wrap (a * 2 ^ min b.toNat k.bits)))) ∧
  (∀ (P : Program) (h : Hp) (K : Value → Prop) (t : TypeId) (k k' : IntKind) (a b : Int) (hb : 0 ≤ b), q P h (binOp .shr t (.int k a) (.int k' b)) K = K (.int k (a.fdiv (2 ^ min b.toNat k.bits)))) ∧
  (∀ (P : Program) (h : Hp) (K : Value → Prop) (b : Bool), q P h (Op.unary .not (.bool b)) K = K (.bool !b)) ∧
  (∀ (P : Program) (h : Hp) (K : Value → Prop) (a : Addr), q P h (nilCk (.pointer (some a))) K = K (.pointer (some a))) ∧
  (∀ (b : Bool) (X Y : Prop), cnd (.bool b) X Y = if b = true then X else Y) ∧ (∀ (b w : Bool) (X Y : Prop), gd (.bool b) w X Y = if b = w then X else Y) ∧
  (∀ (K : Value → Prop) (b : Bool) (x y : Value), pickP (.bool b) x y K = K (cond b x y)) ∧
  (∀ (v : Value) (K : Value → Prop), withVal (some v) K = K v) ∧ (∀ b o n : Nat, (⟨b, o, none⟩ : Addr).add n = ⟨b, o + n, none⟩) ∧
  (∀ (v x : Value) (l : List Value), (v :: l).getD 0 x = v) ∧ (∀ (v x : Value) (l : List Value) (n : Nat), (v :: l).getD (n + 1) x = l.getD n x) ∧ (∀ n : Nat, ((n : Int)).toNat = n) ∧ (∀ n : Nat, 0 + n = n) :=
  ⟨fun _ _ _ => q_add, fun _ _ _ => q_sub, fun _ _ _ => q_mul, fun _ _ _ => q_lss, fun _ _ _ => q_leq, fun _ _ _ => q_gtr, fun _ _ _ => q_geq, fun _ _ _ => q_eql, fun _ _ _ => q_neq, fun _ _ _ => q_and, fun _ _ _ => q_or, fun _ _ _ => q_xor,
   fun _ _ _ => q_quo, fun _ _ _ => q_rem, fun _ _ _ => q_shl, fun _ _ _ => q_shr, fun _ _ _ => q_not, fun _ _ _ => q_nil, cnd_bool, gd_bool, fun _ => pick_bool, withVal_some, add_off, fun _ _ _ => rfl, fun _ _ _ _ => rfl, fun _ => rfl, Nat.zero_add⟩
end Go.SL
