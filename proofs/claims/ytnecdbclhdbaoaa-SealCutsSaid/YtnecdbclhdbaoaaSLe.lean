/- What each operation comes to, by what is known of memory. Conditions: each lemma names its own; plain lemmas over any program. -/
import Derived.Test.YtnecdbclhdbaoaaSLd
set_option linter.unusedSimpArgs false
set_option linter.unusedVariables false
namespace Go.SL
open Go

section
variable {P : Program} {h : Hp}

/-- A type's cells, and its zero. -/
def sz (P : Program) (t : TypeId) : Option Nat := (P.info? t).map (·.size)
def zr (P : Program) (t : TypeId) : Option Value := (P.info? t).bind (·.zero)
def bs (P : Program) (t : TypeId) : Option Nat := (P.info? t).map (·.bytes)

theorem pk_pure {α : Type} (x : α) : peek P h (pure x : Sem α) = some x := rfl
theorem pk_und {t : TypeId} {d : TypeDesc} (e : P.underlying t = some d) : peek P h (underlying t) = some d := by
  show peek P h (match P.underlying t with
    | some d => pure d
    | none => stuck "no such type") = _
  rw [e]
  rfl
theorem pk_size {t : TypeId} {n : Nat} (e : sz P t = some n) : peek P h (sizeOf t) = some n := by
  unfold sz at e
  show peek P h (Sem.bind (typeInfo t) _) = _
  rw [peek_bind]
  have : peek P h (typeInfo t) = P.info? t := by
    show peek P h (match P.info? t with
      | some i => pure i
      | none => stuck "no such type") = _
    cases P.info? t <;> rfl
  rw [this]
  cases hi : P.info? t with
  | none => rw [hi] at e; cases e
  | some i => rw [hi] at e; cases e; rfl
theorem pk_zero {t : TypeId} {v : Value} (e : zr P t = some v) : peek P h (zeroValue t) = some v := by
  unfold zr at e
  show peek P h (Sem.bind (typeInfo t) _) = _
  rw [peek_bind]
  have : peek P h (typeInfo t) = P.info? t := by
    show peek P h (match P.info? t with
      | some i => pure i
      | none => stuck "no such type") = _
    cases P.info? t <;> rfl
  rw [this]
  cases hi : P.info? t with
  | none => rw [hi] at e; cases e
  | some i =>
    rw [hi] at e
    simp only [Option.bind_some] at e
    simp only [Option.bind_some]
    rw [e]
    rfl
theorem pk_info {t : TypeId} {i : TypeInfo} (e : P.info? t = some i) : peek P h (typeInfo t) = some i := by
  show peek P h (match P.info? t with
      | some i => pure i
      | none => stuck "no such type") = _
  rw [e]
  rfl
/-- Is a type told cell by cell? -/
def aggB (d : TypeDesc) : Bool := match d with
  | .struct _ | .array _ _ => true
  | _ => false
theorem pk_isAgg {t : TypeId} {d : TypeDesc} (e : P.underlying t = some d) : peek P h (isAgg t) = some (aggB d) := by
  show peek P h (Sem.bind (underlying t) _) = _
  rw [peek_bind, pk_und e]
  cases d <;> rfl

variable {K : Value → Prop}

/-! ### Numbers -/
theorem q_add (t : TypeId) (k : IntKind) (a b : Int) : q P h (binOp .add t (.int k a) (.int k b)) K = K (.int k (k.wrap (a + b))) := q_of (by simp [binOp, Op.intArith, pk_pure]) K
theorem q_sub (t : TypeId) (k : IntKind) (a b : Int) : q P h (binOp .sub t (.int k a) (.int k b)) K = K (.int k (k.wrap (a - b))) := q_of (by simp [binOp, Op.intArith, pk_pure]) K
theorem q_mul (t : TypeId) (k : IntKind) (a b : Int) : q P h (binOp .mul t (.int k a) (.int k b)) K = K (.int k (k.wrap (a * b))) := q_of (by simp [binOp, Op.intArith, pk_pure]) K
theorem q_quo (t : TypeId) (k : IntKind) (a b : Int) (hb : b ≠ 0) : q P h (binOp .quo t (.int k a) (.int k b)) K = K (.int k (k.wrap (a.tdiv b))) := q_of (by simp [binOp, Op.intDiv, hb, pk_pure]) K
theorem q_rem (t : TypeId) (k : IntKind) (a b : Int) (hb : b ≠ 0) : q P h (binOp .rem t (.int k a) (.int k b)) K = K (.int k (a.tmod b)) := q_of (by simp [binOp, Op.intDiv, hb, pk_pure]) K
theorem q_lss (t : TypeId) (k : IntKind) (a b : Int) : q P h (binOp .lss t (.int k a) (.int k b)) K = K (.bool (decide (a < b))) := q_of (by simp [binOp, Op.intCmp, pk_pure]) K
theorem q_leq (t : TypeId) (k : IntKind) (a b : Int) : q P h (binOp .leq t (.int k a) (.int k b)) K = K (.bool (decide (a ≤ b))) := q_of (by simp [binOp, Op.intCmp, pk_pure]) K
theorem q_gtr (t : TypeId) (k : IntKind) (a b : Int) : q P h (binOp .gtr t (.int k a) (.int k b)) K = K (.bool (decide (b < a))) := q_of (by simp [binOp, Op.intCmp, pk_pure]) K
theorem q_geq (t : TypeId) (k : IntKind) (a b : Int) : q P h (binOp .geq t (.int k a) (.int k b)) K = K (.bool (decide (b ≤ a))) := q_of (by simp [binOp, Op.intCmp, pk_pure]) K
theorem q_eql (t : TypeId) (x y : Operand) (k : IntKind) (a b : Int) : q P h (eqop .eql t x y (.int k a) (.int k b)) K = K (.bool (a == b)) := q_of (by
  unfold eqop
  rw [peek_bind]
  have : peek P h (eqGuard .eql t x y (.int k a) (.int k b)) = some () := rfl
  rw [this]
  simp [binOp, Op.intCmp, pk_pure]) K
theorem q_neq (t : TypeId) (x y : Operand) (k : IntKind) (a b : Int) : q P h (eqop .neq t x y (.int k a) (.int k b)) K = K (.bool (a != b)) := q_of (by
  unfold eqop
  rw [peek_bind]
  have : peek P h (eqGuard .neq t x y (.int k a) (.int k b)) = some () := rfl
  rw [this]
  simp [binOp, Op.intCmp, pk_pure]) K
def iand (k : IntKind) (a b : Int) : Int := k.wrap (BitVec.ofInt k.bits a &&& BitVec.ofInt k.bits b).toNat
def ior (k : IntKind) (a b : Int) : Int := k.wrap (BitVec.ofInt k.bits a ||| BitVec.ofInt k.bits b).toNat
def ixor (k : IntKind) (a b : Int) : Int := k.wrap (BitVec.ofInt k.bits a ^^^ BitVec.ofInt k.bits b).toNat
def iandNot (k : IntKind) (a b : Int) : Int := k.wrap (BitVec.ofInt k.bits a &&& ~~~BitVec.ofInt k.bits b).toNat
theorem q_and (t : TypeId) (k : IntKind) (a b : Int) : q P h (binOp .and t (.int k a) (.int k b)) K = K (.int k (iand k a b)) := q_of (by simp [binOp, Op.intBits, pk_pure, iand]) K
theorem q_or (t : TypeId) (k : IntKind) (a b : Int) : q P h (binOp .or t (.int k a) (.int k b)) K = K (.int k (ior k a b)) := q_of (by simp [binOp, Op.intBits, pk_pure, ior]) K
theorem q_xor (t : TypeId) (k : IntKind) (a b : Int) : q P h (binOp .xor t (.int k a) (.int k b)) K = K (.int k (ixor k a b)) := q_of (by simp [binOp, Op.intBits, pk_pure, ixor]) K
theorem q_andNot (t : TypeId) (k : IntKind) (a b : Int) : q P h (binOp .andNot t (.int k a) (.int k b)) K = K (.int k (iandNot k a b)) := q_of (by simp [binOp, Op.intBits, pk_pure, iandNot]) K
theorem q_shl (t : TypeId) (k k' : IntKind) (a b : Int) (hb : 0 ≤ b) : q P h (binOp .shl t (.int k a) (.int k' b)) K = K (.int k (k.wrap (a * 2 ^ min b.toNat k.bits))) :=
  q_of (by simp [binOp, Op.shift, Int.not_lt.2 hb, pk_pure]) K
theorem q_shr (t : TypeId) (k k' : IntKind) (a b : Int) (hb : 0 ≤ b) : q P h (binOp .shr t (.int k a) (.int k' b)) K = K (.int k (a.fdiv (2 ^ min b.toNat k.bits))) :=
  q_of (by simp [binOp, Op.shift, Int.not_lt.2 hb, pk_pure]) K
theorem q_neg (k : IntKind) (a : Int) : q P h (Op.unary .neg (.int k a)) K = K (.int k (k.wrap (0 - a))) := q_of rfl K
theorem q_not (b : Bool) : q P h (Op.unary .not (.bool b)) K = K (.bool !b) := q_of rfl K
theorem q_conv {s d : TypeId} {u : TypeDesc} {k k' : IntKind} (a : Int) (hs : P.underlying s = some u) (hd : P.underlying d = some (.int k')) : q P h (convert s d (.int k a)) K = K (.int k' (k'.wrap a)) := q_of (by
  show peek P h (Sem.bind (underlying s) _) = _
  rw [peek_bind, pk_und hs, Option.bind_some]
  show peek P h (Sem.bind (underlying d) _) = _
  rw [peek_bind, pk_und hd, Option.bind_some]
  cases u <;> rfl) K
theorem q_eqlB {t : TypeId} (x y : Operand) (a b : Bool) (ht : P.underlying t = some .bool) : q P h (eqop .eql t x y (.bool a) (.bool b)) K = K (.bool (a == b)) := q_of (by
  unfold eqop
  rw [peek_bind]
  have : peek P h (eqGuard .eql t x y (.bool a) (.bool b)) = some () := rfl
  rw [this, Option.bind_some]
  show peek P h (Sem.bind (Op.equal t (.bool a) (.bool b)) _) = _
  rw [peek_bind]
  have : peek P h (Op.equal t (.bool a) (.bool b)) = some (a == b) := by
    show peek P h (Sem.bind (underlying t) _) = _
    rw [peek_bind, pk_und ht]
    rfl
  rw [this]
  rfl) K
theorem q_neqB {t : TypeId} (x y : Operand) (a b : Bool) (ht : P.underlying t = some .bool) : q P h (eqop .neq t x y (.bool a) (.bool b)) K = K (.bool (!(a == b))) := q_of (by
  unfold eqop
  rw [peek_bind]
  have : peek P h (eqGuard .neq t x y (.bool a) (.bool b)) = some () := rfl
  rw [this, Option.bind_some]
  show peek P h (Sem.bind (Op.equal t (.bool a) (.bool b)) _) = _
  rw [peek_bind]
  have : peek P h (Op.equal t (.bool a) (.bool b)) = some (a == b) := by
    show peek P h (Sem.bind (underlying t) _) = _
    rw [peek_bind, pk_und ht]
    rfl
  rw [this]
  rfl) K
/-- A slice held against nil. -/
theorem q_eqlNil {t e : TypeId} (x y : Operand) (a : Option Addr) (n c : Nat) (ht : P.underlying t = some (.slice e)) : q P h (eqop .eql t x y (.slice a n c) (.slice none 0 0)) K = K (.bool a.isNone) := q_of (by
  unfold eqop
  rw [peek_bind]
  have : peek P h (eqGuard .eql t x y (.slice a n c) (.slice none 0 0)) = some () := rfl
  rw [this, Option.bind_some]
  show peek P h (Sem.bind (Op.equal t (.slice a n c) (.slice none 0 0)) _) = _
  rw [peek_bind]
  have : peek P h (Op.equal t (.slice a n c) (.slice none 0 0)) = some a.isNone := by
    show peek P h (Sem.bind (underlying t) _) = _
    rw [peek_bind, pk_und ht]
    cases a <;> rfl
  rw [this]
  rfl) K

/-! ### Tests -/
theorem cnd_bool (b : Bool) (X Y : Prop) : cnd (.bool b) X Y = if b = true then X else Y := rfl
theorem gd_bool (b w : Bool) (X Y : Prop) : gd (.bool b) w X Y = if b = w then X else Y := rfl
theorem pick_bool (b : Bool) (x y : Value) : pickP (.bool b) x y K = K (cond b x y) := rfl

/-! ### Places -/
theorem q_nil (a : Addr) : q P h (nilCk (.pointer (some a))) K = K (.pointer (some a)) := rfl
theorem q_idxA {t e : TypeId} {n s : Nat} (ht : P.underlying t = some (.array n e)) (hs : sz P e = some s) (a : Addr) (k : IntKind) (i : Int) (h0 : 0 ≤ i) (h1 : i < n) :
    q P h (Instr.indexAt t (.pointer (some a)) (.int k i)) K = K (.pointer (some (a.add (i.toNat * s)))) := q_of (by
  show peek P h (Sem.bind (underlying t) _) = _
  rw [peek_bind, pk_und ht, Option.bind_some]
  show peek P h (Sem.bind (underlying t) _) = _
  rw [peek_bind, pk_und ht, Option.bind_some]
  show peek P h (if 0 ≤ i ∧ i < (n : Int) then _ else _) = _
  rw [if_pos ⟨h0, h1⟩]
  show peek P h (Sem.bind (sizeOf e) _) = _
  rw [peek_bind, pk_size hs]
  rfl) K
theorem q_idxS {t e : TypeId} {s : Nat} (ht : P.underlying t = some (.slice e)) (hs : sz P e = some s) (a : Addr) (n c : Nat) (k : IntKind) (i : Int) (h0 : 0 ≤ i) (h1 : i < n) :
    q P h (Instr.indexAt t (.slice (some a) n c) (.int k i)) K = K (.pointer (some (a.add (i.toNat * s)))) := q_of (by
  show peek P h (Sem.bind (underlying t) _) = _
  rw [peek_bind, pk_und ht, Option.bind_some]
  show peek P h (Sem.bind (underlying t) _) = _
  rw [peek_bind, pk_und ht, Option.bind_some]
  show peek P h (if 0 ≤ i ∧ i < (n : Int) then _ else _) = _
  rw [if_pos ⟨h0, h1⟩]
  show peek P h (Sem.bind (sizeOf e) _) = _
  rw [peek_bind, pk_size hs]
  rfl) K
theorem q_field {t : TypeId} {fs : Array Field} {f : Field} {s j : Nat} (ht : P.underlying t = some (.struct fs)) (hf : fs[j]? = some f) (hs : sz P f.type = some (s + 1)) (a : Addr) :
    q P h (Instr.fieldAt t (.pointer (some a)) j) K = K (.pointer (some (a.add f.offset))) := q_of (by
  show peek P h (Sem.bind (underlying t) _) = _
  rw [peek_bind, pk_und ht, Option.bind_some]
  dsimp only
  rw [hf]
  show peek P h (Sem.bind (fieldPlace a f) _) = _
  rw [peek_bind]
  have : peek P h (fieldPlace a f) = some (a.add f.offset) := by
    show peek P h (Sem.bind (sizeOf f.type) _) = _
    rw [peek_bind, pk_size hs]
    rfl
  rw [this]
  rfl) K
theorem q_load {t : TypeId} {d : TypeDesc} {v : Value} (ht : P.underlying t = some d) (hd : aggB d = false) (a : Addr) (hc : h.cell a = some v) : q P h (Instr.loadAt t (.pointer (some a))) K = K v := q_of (by
  show peek P h (Sem.bind (isAgg t) _) = _
  rw [peek_bind, pk_isAgg ht, Option.bind_some, hd]
  show peek P h (Sem.load _ a _) = _
  simp only [peek, hc]) K

theorem q_ld {t : TypeId} {d : TypeDesc} (ht : P.underlying t = some d) (hd : aggB d = false) (a : Addr) : q P h (Instr.loadAt t (.pointer (some a))) K = withVal (h.cell a) K := by
  cases hc : h.cell a with
  | some v => rw [q_load ht hd a hc]; rfl
  | none =>
    show withVal (peek P h (Sem.bind (isAgg t) _)) K = _
    rw [peek_bind, pk_isAgg ht, Option.bind_some, hd]
    show withVal (peek P h (Sem.load _ a _)) K = _
    simp only [peek, hc]
theorem add_off (b o n : Nat) : (⟨b, o, none⟩ : Addr).add n = ⟨b, o + n, none⟩ := by
  unfold Addr.add
  split
  · rename_i e; subst e; rfl
  · rfl

/-! ### Lengths -/
theorem q_lenS {t e T : TypeId} (ht : P.underlying t = some (.slice e)) (a : Option Addr) (n c : Nat) : q P h (Builtin.len_ #[t] T #[.slice a n c]) K = K (.int .i64 n) := q_of (by
  show peek P h (Sem.bind (underlying t) _) = _
  rw [peek_bind, pk_und ht]
  rfl) K
theorem q_lenStr {t T : TypeId} (ht : P.underlying t = some .string) (s : ByteArray) : q P h (Builtin.len_ #[t] T #[.string s]) K = K (.int .i64 s.size) := q_of (by
  show peek P h (Sem.bind (underlying t) _) = _
  rw [peek_bind, pk_und ht]
  rfl) K
theorem q_lenA {t e T : TypeId} {n : Nat} (ht : P.underlying t = some (.array n e)) (v : Value) : q P h (Builtin.len_ #[t] T #[v]) K = K (.int .i64 n) := q_of (by
  show peek P h (Sem.bind (underlying t) _) = _
  rw [peek_bind, pk_und ht]
  cases v <;> rfl) K
theorem q_ext (vs : Array Value) (i : Nat) (v : Value) (hv : vs[i]? = some v) : q P h (Instr.extract (.tuple vs) i) K = K v := q_of (by
  show peek P h (match vs[i]? with
    | some v => _
    | none => _) = _
  rw [hv]
  rfl) K
end
end Go.SL
