/- Code over what is known of memory: conditions that suffice for a function's body, and that they do. Conditions: none; plain definitions and lemmas over any program. -/
import Derived.Test.YtnecdbclhdbaoaaSLa
import Derived.Tactics
import Derived.TacticsIn
import Derived.RangeFuncRecord
namespace Go.SL
open Go

def Callable (P : Program) (f : FuncId) : Prop := ∃ fn, P.funcs[f]? = some fn ∧ fn.body.isNone = false ∧ (fn.name == "runtime.NumGoroutine") = false
/-- A call comes back, and what is then known. -/
def Cn (P : Program) (f : FuncId) (args : Array Value) (h : Hp) (K : Value → Hp → Prop) : Prop :=
  Callable P f ∧ ∀ w, h.sat w → Calls P f args w fun e w' => ∃ v h', e = .returned v ∧ h'.sat w' ∧ Fr h h' w w' ∧ K v h'

theorem Cn.mono {P : Program} {f : FuncId} {args : Array Value} {h : Hp} {K K' : Value → Hp → Prop} (q : Cn P f args h K) (m : ∀ v h, K v h → K' v h) : Cn P f args h K' :=
  ⟨q.1, fun w s => (q.2 w s).mono fun _ _ ⟨v, h', e, s', f', k⟩ => ⟨v, h', e, s', f', m _ _ k⟩⟩
theorem Cn.weaken {P : Program} {f : FuncId} {args : Array Value} {h h' : Hp} {K : Value → Hp → Prop} (l : Hp.le h h') (q : Cn P f args h K) : Cn P f args h' K :=
  ⟨q.1, fun w s => (q.2 w (l.sat s)).mono fun _ _ ⟨v, h1, e, s', f', k⟩ => ⟨v, h1, e, s', ⟨f'.os, f'.tape, f'.output, f'.size, fun b hb hn => f'.keep b hb fun o => hn (l.own o), fun b hb => (f'.dom b hb).imp l.own id⟩, k⟩⟩
theorem awp_call {P : Program} {f : FuncId} (c : Callable P f) (args : Array Value) (K : Next → Hp → Prop) (h : Hp) : awp P (callFunc f args) K h = K (.enter f args) h := by
  obtain ⟨fn, hf, hb, hn⟩ := c
  show awp P (match P.funcs[f]? with
    | none => _
    | some fn => _) K h = _
  rw [hf]
  dsimp only
  rw [if_neg (by simp [hn]), if_neg (by simp [hb])]
  rfl

/-- A round of a range over a function comes back, and what is then known. -/
def Rd (P : Program) (l : Nat) (f : FuncId) (tmps : Array Value) (assign body : Code) (h : Hp) (K : Value → Hp → Prop) : Prop :=
  ∀ w, h.sat w → RoundIn Fence.wide 0 P l f tmps assign body w fun e w' => ∃ v h', e = .returned v ∧ h'.sat w' ∧ Fr h h' w w' ∧ K v h'
theorem Rd.mono {P : Program} {l : Nat} {f : FuncId} {tmps : Array Value} {assign body : Code} {h : Hp} {K K' : Value → Hp → Prop} (q : Rd P l f tmps assign body h K) (m : ∀ v h, K v h → K' v h) : Rd P l f tmps assign body h K' :=
  fun w s => (q w s).mono fun _ _ ⟨v, h', e, s', f', k⟩ => ⟨v, h', e, s', f', m _ _ k⟩

def nextP (P : Program) (K : Value → Hp → Prop) (n : Next) (h : Hp) : Prop :=
  match n with
  | .value v => K v h
  | .skip => K undef h
  | .enter f args => Cn P f args h K
  | .round l f tmps assign body => Rd P l f tmps assign body h K
  | _ => False

/-- What stands in a place: a value, or nothing, the operation having been passed over. -/
inductive EV where
  | val (v : Value)
  | skipped
def EV.get : EV → Value
  | .val v => v
  | .skipped => undef
abbrev Env := List (Nat × EV)
def ev (env : Env) : Operand → Value
  | .tmp t => match env.lookup t with
    | some x => x.get
    | none => undef
  | .const v => v
  | .global g => .pointer (some ⟨g, 0, none⟩)
  | .func f => .func (.func f) #[] #[]
def Env.pute (env : Env) (d : Option Nat) (x : EV) : Env :=
  match d with
  | some d => (d, x) :: env
  | none => env
def Env.put (env : Env) (d : Option Nat) (v : Value) : Env := env.pute d (.val v)
def Env.skip (env : Env) (d : Option Nat) : Env := env.pute d .skipped
def Env.has (env : Env) : Operand → Bool
  | .tmp t => (env.lookup t).isSome
  | _ => true
def noSel : Op → Bool
  | .select .. => false
  | _ => true
def fits (N : Nat) (env : Env) (o : Oper) : Bool :=
  o.op.operands.all env.has && (match o.dst with | some d => decide (d < N) | none => true) && noSel o.op

def Env.ok (env : Env) (N : Nat) (ds : List Deferred) (a : Act) : Prop := a.tmps.size = N ∧ a.defers = ds ∧ ∀ t x, env.lookup t = some x → a.tmps[t]? = some x.get

theorem Env.ok.eval {env : Env} {N : Nat} {ds : List Deferred} {a : Act} (k : env.ok N ds a) {x : Operand} (hx : env.has x = true) : a.eval x = ev env x := by
  cases x with
  | tmp t =>
    simp only [Env.has, Option.isSome_iff_exists] at hx
    obtain ⟨v, hv⟩ := hx
    have := k.2.2 t v hv
    simp [Act.eval, ev, hv, this]
  | _ => rfl

theorem Env.ok.exec {env : Env} {N : Nat} {ds : List Deferred} {a : Act} (k : env.ok N ds a) {o : Oper} (hf : fits N env o = true) : execOp a.eval o = execOp (ev env) o := by
  simp only [fits, Bool.and_eq_true] at hf
  refine execOp_congr o (fun cs b e => ?_) fun x hx => k.eval (by have := Array.all_eq_true_iff_forall_mem.1 hf.1.1 x hx; exact this)
  have := hf.2
  rw [e] at this
  cases this

theorem Env.ok.pute {env : Env} {N : Nat} {ds : List Deferred} {a : Act} (k : env.ok N ds a) {d : Option Nat} (hd : ∀ x, d = some x → x < N) (v : EV) : (env.pute d v).ok N ds (a.put d v.get) := by
  cases d with
  | none => exact k
  | some d =>
    have hlt := hd d rfl
    refine ⟨by simp [Act.put, k.1], k.2.1, fun t u ht => ?_⟩
    simp only [Env.pute, List.lookup_cons] at ht
    simp only [Act.put]
    by_cases e : t = d
    · subst e
      simp at ht
      simp [k.1, hlt, ht]
    · have : (t == d) = false := by simp [e]
      rw [this] at ht
      simp [Array.getElem?_setIfInBounds_ne (Ne.symm e), k.2.2 t u ht]

theorem Env.ok.put {env : Env} {N : Nat} {ds : List Deferred} {a : Act} (k : env.ok N ds a) {d : Option Nat} (hd : ∀ x, d = some x → x < N) (v : Value) : (env.put d v).ok N ds (a.put d v) := k.pute hd (.val v)
theorem Env.ok.skip {env : Env} {N : Nat} {ds : List Deferred} {a : Act} (k : env.ok N ds a) {d : Option Nat} (hd : ∀ x, d = some x → x < N) : (env.skip d).ok N ds (a.put d undef) := k.pute hd .skipped

theorem fits_dst {N : Nat} {env : Env} {o : Oper} (hf : fits N env o = true) : ∀ x, o.dst = some x → x < N := by
  intro x hx
  simp only [fits, Bool.and_eq_true, hx, decide_eq_true_eq] at hf
  exact hf.1.2

/-- A test of a value. -/
def cnd (v : Value) (X Y : Prop) : Prop :=
  match v with
  | .bool b => if b = true then X else Y
  | _ => False
def gd (v : Value) (want : Bool) (X Y : Prop) : Prop :=
  match v with
  | .bool b => if b = want then X else Y
  | _ => False
/-- Is the operation run? X: it is; Y: it is passed over. -/
def guardP (ops : Array Oper) (env : Env) (o : Oper) (X Y : Env → Prop) : Prop :=
  match o.guard with
  | none => X env
  | some (j, want) => match (ops[j]?).bind (·.dst) with
    | none => Y env
    | some t => match env.lookup t with
      | some (.val v) => gd v want (X ((t, .val (.bool want)) :: env)) (Y ((t, .val (.bool !want)) :: env))
      | some .skipped => Y env
      | none => False

theorem Env.ok.learn {env : Env} {N : Nat} {ds : List Deferred} {a : Act} (k : env.ok N ds a) {t : Nat} {v : Value} (h : a.tmps[t]? = some v) : Env.ok ((t, .val v) :: env) N ds a := by
  refine ⟨k.1, k.2.1, fun u x hx => ?_⟩
  rw [List.lookup_cons] at hx
  by_cases e : u = t
  · subst e
    simp at hx
    subst hx
    exact h
  · have : (u == t) = false := by simp [e]
    rw [this] at hx
    exact k.2.2 u x hx

theorem guardP_sound {ops : Array Oper} {env : Env} {N : Nat} {ds : List Deferred} {a : Act} (k : env.ok N ds a) {o : Oper} {X Y : Env → Prop} (g : guardP ops env o X Y) :
    ∃ env', Env.ok env' N ds a ∧ ((Region.wanted o (yielded ops a.tmps) = true ∧ X env') ∨ (Region.wanted o (yielded ops a.tmps) = false ∧ Y env')) := by
  unfold guardP at g
  unfold Region.wanted
  cases hg : o.guard with
  | none => rw [hg] at g; exact ⟨env, k, .inl ⟨rfl, g⟩⟩
  | some p =>
    obtain ⟨j, want⟩ := p
    simp only [hg] at g
    simp only [yielded]
    cases hd : (ops[j]?).bind (·.dst) with
    | none => simp only [hd] at g; exact ⟨env, k, .inr ⟨by simp, g⟩⟩
    | some t =>
      simp only [hd] at g
      cases hl : env.lookup t with
      | none => rw [hl] at g; exact g.elim
      | some x =>
        have ht := k.2.2 t x hl
        rw [hl] at g
        simp only [Option.bind_some, ht]
        cases x with
        | skipped => exact ⟨env, k, .inr ⟨by simp [EV.get, undef], g⟩⟩
        | val v =>
          simp only [EV.get] at ht ⊢
          cases v <;> first | exact g.elim | skip
          case bool b =>
            simp only [gd] at g
            split at g
            · rename_i e
              subst e
              exact ⟨_, k.learn ht, .inl ⟨by simp, g⟩⟩
            · rename_i e
              have hb : b = !want := by cases b <;> cases want <;> simp_all
              subst hb
              exact ⟨_, k.learn ht, .inr ⟨by simp, g⟩⟩

/-- An operation that only reads, by its kind. -/
def quiet (P : Program) : Op → Bool
  | .move _ | .assign _ | .pick .. | .load .. | .nilCheck _ | .binOp .. | .unOp .. | .makeInterface .. | .makeFunc .. | .extract .. | .field .. | .fieldAddr ..
  | .index .. | .indexAddr .. | .slice .. | .lookup .. | .typeAssert .. | .build .. => true
  | .convert _ dst _ => match P.underlying dst with
    | some (.slice _) => false
    | _ => true
  | .call { callee := .builtin b, .. } => match b with
    | .len | .cap | .min | .max => true
    | _ => false
  | _ => false

def nilCk : Value → Sem Value
  | .pointer (some a) => .pure (.pointer (some a))
  | .iface t v => .pure (.iface t v)
  | .func (.func f) x y => .pure (.func (.func f) x y)
  | .func (.method name) x y => match (x[0]? : Option Value) with
    | some (.iface t w) => .program fun p => (nilAhead (p.types.size + Made.depth) t w name).bind fun r => if (r != some false) = true then .halt (.stuck "") else .pure (.func (.method name) x y)
    | _ => .halt (.stuck "")
  | _ => .halt (.stuck "")

def eqop (op : BinOp) (t : TypeId) (x y : Operand) (a b : Value) : Sem Value := (eqGuard op t x y a b).bind fun _ => binOp op t a b
/-- What an operation is: a value's tree, a writing, a call. -/
inductive Kd where
  | now (v : Value)
  | pick (c a b : Value)
  | val (s : Sem Value)
  | unit (s : Sem Unit)
  | dyn (f : Value) (args : List Value)
  | raw (s : Sem Next)
  | bad

def kindOf (r : Operand → Value) (o : Oper) : Kd :=
  match o.op with
  | .move x | .assign x => .now (r x)
  | .pick c a b => .pick (r c) (r a) (r b)
  | .alloc e => .val (Instr.alloc e true (.tuple #[]))
  | .box e x => .val (Instr.box e (r x))
  | .build t ps => .val (Instr.build t (ps.toList.map fun p => (p.1, r p.2)).toArray)
  | .buildSlice t n ps => .val (Instr.buildSlice t n (ps.toList.map fun p => (p.1, r p.2)).toArray)
  | .load t a => .val (Instr.loadAt t (r a))
  | .store t a x => .unit (Instr.storeAt t (r a) (r x))
  | .nilCheck x => .val (nilCk (r x))
  | .binOp op t x y _ => .val (match op with
    | .eql | .neq => eqop op t x y (r x) (r y)
    | op => binOp op t (r x) (r y))
  | .unOp op _ x => .val (Op.unary op (r x))
  | .convert src dst x => .val (convert src dst (r x))
  | .sliceToArrayPointer arr x => .val (Instr.arrayAt arr (r x))
  | .makeInterface t x => .val (Instr.makeInterface t (r x))
  | .makeFunc fn a b => .now (.func fn (a.toList.map r).toArray (b.toList.map r).toArray)
  | .makeMap t x => .val (Instr.makeMap t (x.map r))
  | .makeSlice t l c => .val (Instr.makeSlice t (r l) (r c))
  | .slice t x lo hi mx => .val (Instr.sliceAt t (r x) (lo.map r) (hi.map r) (mx.map r))
  | .fieldAddr s x f => .val (Instr.fieldAt s (r x) f)
  | .field t x f => .val (Instr.field t (r x) f)
  | .indexAddr t x i => .val (Instr.indexAt t (r x) (r i))
  | .index t x i => .val (Instr.index t (r x) (r i))
  | .lookup t x i ok => .val (Instr.lookup t (r x) (r i) ok)
  | .mapUpdate t m k x | .insert t m k x => .unit (Instr.mapUpdate t (r m) (r k) (r x))
  | .mapEntry t m k => .val (Instr.mapEntry t (r m) (r k))
  | .entryStore t m s x => .unit (Instr.entryStore t (r m) (r s) (r x))
  | .range t x => .val (Instr.range t (r x))
  | .next it s => .val (Instr.next (r it) s o.type)
  | .entry it => .val (Instr.entry (r it))
  | .typeAssert x t u ok => .val (Instr.typeAssert (r x) t u ok)
  | .extract t i => .val (Instr.extract (r t) i)
  | .call c => match c.callee with
    | .builtin b => match b with
      | .append => .val (Builtin.append_ c.argTypes o.type (c.args.toList.map r).toArray)
      | .cap => .val (Builtin.cap_ c.argTypes o.type (c.args.toList.map r).toArray)
      | .clear => .val (Builtin.clear_ c.argTypes o.type (c.args.toList.map r).toArray)
      | .copy => .val (Builtin.copy_ c.argTypes o.type (c.args.toList.map r).toArray)
      | .delete => .val (Builtin.delete_ c.argTypes o.type (c.args.toList.map r).toArray)
      | .len => .val (Builtin.len_ c.argTypes o.type (c.args.toList.map r).toArray)
      | .max => .val (Builtin.max_ c.argTypes o.type (c.args.toList.map r).toArray)
      | .min => .val (Builtin.min_ c.argTypes o.type (c.args.toList.map r).toArray)
      | _ => .bad
    | .value f => .dyn (r f) (c.args.toList.map r)
    | .invoke x name => .raw (callMethod (r x) name (c.args.toList.map r).toArray)
  | _ => .bad

theorem arr_map {α β : Type} (x : Array α) (f : α → β) : (x.toList.map f).toArray = x.map f := by
  apply Array.ext'; rw [Array.toList_map]

def withVal (x : Option Value) (K : Value → Prop) : Prop :=
  match x with
  | some v => K v
  | none => False
@[simp] theorem withVal_some (v : Value) (K : Value → Prop) : withVal (some v) K = K v := rfl
theorem withVal_of {x : Option Value} {v : Value} {K : Value → Prop} (e : x = some v) (k : K v) : withVal x K := by subst e; exact k
theorem withVal_elim {x : Option Value} {K : Value → Prop} (q : withVal x K) : ∃ v, x = some v ∧ K v := by
  cases x with
  | none => exact q.elim
  | some v => exact ⟨v, rfl, q⟩

def toNext (s : Sem Value) : Sem Next := s.bind fun v => .pure (.value v)
theorem toNext_awp {P : Program} {s : Sem Value} {K : Next → Hp → Prop} {h : Hp} (q : awp P s (fun v h => K (.value v) h) h) : awp P (toNext s) K h := by
  unfold toNext; rw [awp_bind]; exact q
theorem toNext_peek {P : Program} {s : Sem Value} {h : Hp} {v : Value} (q : peek P h s = some v) : peek P h (toNext s) = some (.value v) := by
  unfold toNext; rw [peek_bind, q]; rfl

/-- The tree of an operation that tells a value. -/
theorem kind_val {r : Operand → Value} {o : Oper} {s : Sem Value} (e : kindOf r o = .val s) :
    (∀ (P : Program) (K : Next → Hp → Prop) (h : Hp), awp P s (fun v h => K (.value v) h) h → awp P (execOp r o) K h) ∧
    (∀ (P : Program) (h : Hp) (v : Value), peek P h s = some v → peek P h (execOp r o) = some (.value v)) := by
  have key : execOp r o = toNext s → (∀ (P : Program) (K : Next → Hp → Prop) (h : Hp), awp P s (fun v h => K (.value v) h) h → awp P (execOp r o) K h) ∧
    (∀ (P : Program) (h : Hp) (v : Value), peek P h s = some v → peek P h (execOp r o) = some (.value v)) := fun e => by
    rw [e]
    exact ⟨fun P K h q => toNext_awp q, fun P h v q => toNext_peek q⟩
  obtain ⟨dst, op, type, pos, after, guard⟩ := o
  cases op <;> simp only [kindOf] at e <;> first | cases e | skip
  case nilCheck x =>
    simp only [execOp]
    generalize r x = y
    cases y <;> first | exact ⟨fun P K h q => q.elim, fun P h v q => by cases q⟩ | skip
    case pointer a => cases a <;> first | exact ⟨fun P K h q => q.elim, fun P h v q => by cases q⟩ | exact ⟨fun P K h q => q, fun P h v q => by cases q; rfl⟩
    case iface t v => exact ⟨fun P K h q => q, fun P h v q => by cases q; rfl⟩
    case func fn x y =>
      cases fn <;> first | exact ⟨fun P K h q => q.elim, fun P h v q => by cases q⟩ | exact ⟨fun P K h q => q, fun P h v q => by cases q; rfl⟩ | skip
      case method name =>
        simp only [nilCk]
        split
        · rename_i t w hx
          refine ⟨fun P K h q => ?_, fun P h v q => ?_⟩
          · have q : awp P ((nilAhead (P.types.size + Made.depth) t w name).bind fun r => if (r != some false) = true then .halt (.stuck "") else .pure (.func (.method name) x y)) (fun v h => K (.value v) h) h := q
            rw [hx]
            show awp P ((nilAhead (P.types.size + Made.depth) t w name).bind _) K h
            rw [awp_bind] at q ⊢
            refine awp_mono P _ _ _ h (fun r h1 z => ?_) q
            by_cases hr : (r != some false) = true
            · rw [if_pos hr] at z; exact z.elim
            · rw [if_neg hr] at z
              rw [if_neg hr]
              exact z
          · have q : peek P h ((nilAhead (P.types.size + Made.depth) t w name).bind fun r => if (r != some false) = true then .halt (.stuck "") else .pure (.func (.method name) x y)) = some v := q
            rw [hx]
            show peek P h ((nilAhead (P.types.size + Made.depth) t w name).bind _) = _
            rw [peek_bind] at q ⊢
            cases hr : peek P h (nilAhead (P.types.size + Made.depth) t w name) with
            | none => rw [hr] at q; cases q
            | some r =>
              rw [hr] at q
              simp only [Option.bind_some] at q ⊢
              by_cases hr : (r != some false) = true
              · rw [if_pos hr] at q; cases q
              · rw [if_neg hr] at q
                cases q
                rw [if_neg hr]
                rfl
        · exact ⟨fun P K h q => q.elim, fun P h v q => by cases q⟩
  case call c =>
    obtain ⟨callee, args, at_⟩ := c
    cases callee with
    | builtin b => cases b <;> simp only at e <;> cases e <;> refine key ?_ <;> simp only [execOp, resolve, arr_map] <;> rfl
    | value f => cases e
    | invoke x n => cases e
  case binOp op t x y u => cases op <;> exact key rfl
  all_goals refine key ?_; simp only [execOp, arr_map]; rfl

theorem kind_unit {r : Operand → Value} {o : Oper} {s : Sem Unit} (e : kindOf r o = .unit s) : execOp r o = s.bind fun _ => .pure .skip := by
  obtain ⟨dst, op, type, pos, after, guard⟩ := o
  cases op <;> simp only [kindOf] at e <;> first | cases e | skip
  case call c =>
    obtain ⟨callee, args, at_⟩ := c
    cases callee with
    | builtin b => cases b <;> cases e
    | value f => cases e
    | invoke x n => cases e
  all_goals rfl

theorem kind_now {r : Operand → Value} {o : Oper} {v : Value} (e : kindOf r o = .now v) : execOp r o = .pure (.value v) := by
  obtain ⟨dst, op, type, pos, after, guard⟩ := o
  cases op <;> simp only [kindOf] at e <;> first | cases e | skip
  case call c =>
    obtain ⟨callee, args, at_⟩ := c
    cases callee with
    | builtin b => cases b <;> cases e
    | value f => cases e
    | invoke x n => cases e
  case makeFunc fn a b => simp only [execOp, arr_map]; rfl
  all_goals rfl

theorem kind_pick {r : Operand → Value} {o : Oper} {c a b : Value} (e : kindOf r o = .pick c a b) {t : Bool} (hc : c = .bool t) : execOp r o = .pure (.value (cond t a b)) := by
  obtain ⟨dst, op, type, pos, after, guard⟩ := o
  cases op <;> simp only [kindOf] at e <;> first | cases e | skip
  case call c =>
    obtain ⟨callee, args, at_⟩ := c
    cases callee with
    | builtin b => cases b <;> cases e
    | value f => cases e
    | invoke x n => cases e
  case pick c' a' b' =>
    simp only [execOp, hc]
    cases t <;> rfl

theorem kind_raw {r : Operand → Value} {o : Oper} {s : Sem Next} (e : kindOf r o = .raw s) : execOp r o = s := by
  obtain ⟨dst, op, type, pos, after, guard⟩ := o
  cases op <;> simp only [kindOf] at e <;> first | cases e | skip
  case call c =>
    obtain ⟨callee, args, at_⟩ := c
    cases callee with
    | builtin b => cases b <;> cases e
    | value f => cases e
    | invoke x n =>
      cases e
      simp only [execOp, resolve, arr_map]
      show Go.invoke (.fn (.method n) #[]) (#[r x] ++ Array.map r args) = _
      have h0 : (#[r x] ++ Array.map r args)[0]? = some (r x) := by
        rw [Array.getElem?_append_left (by simp)]
        rfl
      have h1 : (#[r x] ++ Array.map r args).extract 1 (#[r x] ++ Array.map r args).size = Array.map r args := by
        apply Array.ext'
        simp [List.take_of_length_le]
      unfold Go.invoke
      rw [h0]
      dsimp only
      rw [h1]

theorem kind_dyn {r : Operand → Value} {o : Oper} {v : Value} {args : List Value} (e : kindOf r o = .dyn v args) {g : FuncId} {x y : Array Value} (hv : v = .func (.func g) x y) :
    execOp r o = callFunc g (x.toList ++ args ++ y.toList).toArray := by
  obtain ⟨dst, op, type, pos, after, guard⟩ := o
  cases op <;> simp only [kindOf] at e <;> first | cases e | skip
  case call c =>
    obtain ⟨callee, as, at_⟩ := c
    cases callee with
    | builtin b => cases b <;> cases e
    | value f =>
      simp only [Kd.dyn.injEq] at e
      obtain ⟨e1, rfl⟩ := e
      have : (x.toList ++ as.toList.map r ++ y.toList).toArray = (x ++ as.map r) ++ y := by
        apply Array.ext'
        simp
      rw [this]
      simp only [execOp, resolve, e1, hv, Deferred.ofValue]
      rfl
    | invoke x n => cases e

theorem kind_dynY {r : Operand → Value} {o : Oper} {v : Value} {args : List Value} (e : kindOf r o = .dyn v args) {l : Nat} {x y : Array Value} (hv : v = .func (.yield l) x y) :
    execOp r o = Instr.yield l (x.toList ++ args).toArray := by
  obtain ⟨dst, op, type, pos, after, guard⟩ := o
  cases op <;> simp only [kindOf] at e <;> first | cases e | skip
  case call c =>
    obtain ⟨callee, as, at_⟩ := c
    cases callee with
    | builtin b => cases b <;> cases e
    | value f =>
      simp only [Kd.dyn.injEq] at e
      obtain ⟨e1, rfl⟩ := e
      have : (x.toList ++ as.toList.map r).toArray = x ++ as.map r := by
        apply Array.ext'
        simp
      rw [this]
      simp only [execOp, resolve, e1, hv, Deferred.ofValue]
      rfl
    | invoke x n => cases e

theorem kind_nodefer {r : Operand → Value} {o : Oper} (e : kindOf r o ≠ .bad) : ∀ c, o.op ≠ .defer c := by
  intro c h
  obtain ⟨dst, op, type, pos, after, guard⟩ := o
  subst h
  exact e rfl

def q (P : Program) (h : Hp) (s : Sem Value) (K : Value → Prop) : Prop := withVal (peek P h s) K
theorem q_of {P : Program} {h : Hp} {s : Sem Value} {v : Value} (e : peek P h s = some v) (K : Value → Prop) : q P h s K = K v := by unfold q; rw [e]; rfl
/-- A call of a function's value. -/
def callP (P : Program) (v : Value) (args : List Value) (h : Hp) (K : Value → Hp → Prop) : Prop :=
  match v with
  | .func (.func g) x y => Cn P g (x.toList ++ args ++ y.toList).toArray h K
  | .func (.yield l) x _ => awp P (Instr.yield l (x.toList ++ args).toArray) (nextP P K) h
  | _ => False
theorem nextP_mono {P : Program} {K K' : Value → Hp → Prop} (m : ∀ v h, K v h → K' v h) {n : Next} {h : Hp} (q : nextP P K n h) : nextP P K' n h := by
  cases n <;> simp only [nextP] at q ⊢ <;> first | exact m _ _ q | exact q.mono m
theorem callP_mono {P : Program} {v : Value} {args : List Value} {h : Hp} {K K' : Value → Hp → Prop} (m : ∀ v h, K v h → K' v h) (q : callP P v args h K) : callP P v args h K' := by
  unfold callP at *
  split at q
  · exact q.mono m
  · exact awp_mono P _ _ _ h (fun _ _ k => nextP_mono m k) q
  · exact q.elim
theorem callP_exec {P : Program} {r : Operand → Value} {o : Oper} {v : Value} {args : List Value} {h : Hp} {K : Value → Hp → Prop} (e : kindOf r o = .dyn v args) (q : callP P v args h K) : awp P (execOp r o) (nextP P K) h := by
  unfold callP at q
  split at q
  · rw [kind_dyn e rfl, awp_call q.1]
    exact q
  · rw [kind_dynY e rfl]
    exact q
  · exact q.elim

def pickP (c a b : Value) (K : Value → Prop) : Prop :=
  match c with
  | .bool t => K (cond t a b)
  | _ => False
theorem pickP_elim {c a b : Value} {K : Value → Prop} (q : pickP c a b K) : ∃ t, c = .bool t ∧ K (cond t a b) := by
  unfold pickP at q
  split at q
  · exact ⟨_, rfl, q⟩
  · exact q.elim

theorem pkN_run {P : Program} {h : Hp} {r : Operand → Value} {o : Oper} {s : Sem Value} (e : kindOf r o = .val s) {v : Value} (p : peek P h s = some v) {w : World} (hs : h.sat w) :
    (execOp r o).run P w = .ok (.value v) w := peek_run P _ w _ hs ((kind_val e).2 P h v p)

/-- A tree, what is known behind it made less at will. -/
def aw (P : Program) {α : Type} (s : Sem α) (K : α → Hp → Prop) (h : Hp) : Prop := awp P s (fun v h' => ∃ h0, Hp.le h0 h' ∧ K v h0) h
theorem aw_mono {P : Program} {α : Type} {s : Sem α} {K K' : α → Hp → Prop} {h : Hp} (m : ∀ v h, K v h → K' v h) (z : aw P s K h) : aw P s K' h :=
  awp_mono P s _ _ h (fun _ _ ⟨h0, l, k⟩ => ⟨h0, l, m _ _ k⟩) z
theorem aw_of {P : Program} {α : Type} {s : Sem α} {K : α → Hp → Prop} {h : Hp} (z : awp P s K h) : aw P s K h := awp_mono P s _ _ h (fun _ h' k => ⟨h', .refl _, k⟩) z
def stepP (P : Program) (N : Nat) (env : Env) (o : Oper) (h : Hp) (K : Value → Hp → Prop) : Prop :=
  if fits N env o = true then
    match kindOf (ev env) o with
    | .now v => K v h
    | .pick c a b => pickP c a b (fun v => K v h)
    | .val s => if quiet P o.op = true then q P h s (fun v => K v h) else aw P s K h
    | .unit s => aw P s (fun _ h => K undef h) h
    | .dyn f args => callP P f args h K
    | .raw s => aw P s (nextP P K) h
    | .bad => False
  else False

/-- The fence that lets all in, a round's frame or none. -/
abbrev Fz (ro : Option Nat) : Fence := { fn := fun _ => True, depth := none, alive := false, round := ro }
theorem nextP_sound {P : Program} {o : Oper} {a : Act} {w w1 : World} {h h1 : Hp} {n : Next} {K : Value → Hp → Prop} {next : Act → World → Prop} {Q : Exit → Act → World → Prop} {ro : Option Nat} (hd : ∀ c, o.op ≠ .defer c)
    (hr : (execOp a.eval o).run P w = .ok n w1) (s1 : h1.sat w1) (f1 : Fr h h1 w w1) (q : nextP P K n h1)
    (m : ∀ v w' h', h'.sat w' → Fr h h' w w' → K v h' → next (a.put o.dst v) w') : o.wpIn (Fz ro) 0 P a w next Q := by
  refine ⟨fun _ _ => trivial, ?_⟩
  rw [Oper.semAt_eq _ _ _ hd, hr]
  cases n <;> simp only [nextP] at q <;> first | exact q.elim | skip
  case value v => exact m v w1 h1 s1 f1 q
  case skip => exact m undef w1 h1 s1 f1 q
  case enter f args =>
    refine ⟨fun e => (by cases e), CallsIn.mono (callsIn_wide.2 (q.2 w1 s1)) ?_⟩
    rintro e w' ⟨v, h', rfl, s', f', k⟩
    exact m v w' h' s' (f1.trans f') k
  case round l f tmps assign body =>
    refine ⟨fun e => (by cases e), RoundIn.mono (q w1 s1) ?_⟩
    rintro e w' ⟨v, h', rfl, s', f', k⟩
    exact m v w' h' s' (f1.trans f') k

theorem stepP_exec {P : Program} {N : Nat} {env : Env} {o : Oper} {h : Hp} {K : Value → Hp → Prop} (q : stepP P N env o h K) :
    fits N env o = true ∧ (∀ c, o.op ≠ .defer c) ∧ awp P (execOp (ev env) o) (fun n h' => ∃ h0, Hp.le h0 h' ∧ nextP P K n h0) h := by
  unfold stepP at q
  split at q
  · rename_i hf
    refine ⟨hf, kind_nodefer (r := ev env) (fun e => by rw [e] at q; exact q), ?_⟩
    split at q
    · rename_i v e
      rw [kind_now e]
      exact ⟨h, .refl _, q⟩
    · rename_i c a b e
      obtain ⟨t, hc, q⟩ := pickP_elim q
      rw [kind_pick e hc]
      exact ⟨h, .refl _, q⟩
    · rename_i s e
      split at q
      · obtain ⟨v, p, q⟩ := withVal_elim q
        rw [peek_awp P _ _ _ ((kind_val e).2 P h v p)]
        exact ⟨h, .refl _, q⟩
      · exact (kind_val e).1 P _ h q
    · rename_i s e
      rw [kind_unit e, awp_bind]
      exact q
    · rename_i f args e
      exact awp_mono P _ _ _ h (fun _ h' k => ⟨h', .refl _, k⟩) (callP_exec e q)
    · rename_i s e
      rw [kind_raw e]
      exact q
    · exact q.elim
  · exact q.elim

theorem stepP_sound {P : Program} {N : Nat} {env : Env} {o : Oper} {ds : List Deferred} {a : Act} {w : World} {h : Hp} {K : Value → Hp → Prop} {next : Act → World → Prop} {Q : Exit → Act → World → Prop} {ro : Option Nat}
    (k : env.ok N ds a) (s : h.sat w) (q : stepP P N env o h K)
    (m : ∀ v w' h', h'.sat w' → Fr h h' w w' → K v h' → next (a.put o.dst v) w') : (∀ x, o.dst = some x → x < N) ∧ o.wpIn (Fz ro) 0 P a w next Q := by
  obtain ⟨hf, hd, q⟩ := stepP_exec q
  refine ⟨fits_dst hf, ?_⟩
  rw [← k.exec hf] at q
  obtain ⟨n, w1, h1, hr, s1, f1, h0, l, q⟩ := awp_run P _ _ _ _ s q
  exact nextP_sound hd hr (l.sat s1) (f1.weaken l) q m

theorem stepP_mono {P : Program} {N : Nat} {env : Env} {o : Oper} {h : Hp} {K K' : Value → Hp → Prop} (m : ∀ v h, K v h → K' v h) (q : stepP P N env o h K) : stepP P N env o h K' := by
  unfold stepP at *
  split
  · rename_i hf
    rw [if_pos hf] at q
    split at q
    · exact m _ _ q
    · obtain ⟨t, hc, q⟩ := pickP_elim q
      subst hc
      exact m _ _ q
    · split at q
      · rename_i hq
        rw [if_pos hq]
        obtain ⟨v, p, q⟩ := withVal_elim q
        exact withVal_of p (m _ _ q)
      · rename_i hq
        rw [if_neg hq]
        exact aw_mono m q
    · exact aw_mono (fun _ h => m _ h) q
    · exact callP_mono m q
    · exact aw_mono (fun _ _ q => nextP_mono m q) q
    · exact q.elim
  · rename_i hf
    rw [if_neg hf] at q
    exact q.elim

def dstOk (N : Nat) (o : Oper) : Bool := match o.dst with | some d => decide (d < N) | none => true
theorem dstOk_spec {N : Nat} {o : Oper} (h : dstOk N o = true) : ∀ x, o.dst = some x → x < N := by
  intro x hx
  simpa [dstOk, hx] using h

def vcOps (P : Program) (N : Nat) (ops : Array Oper) (Q : Env → Hp → Prop) : List Oper → Env → Hp → Prop
  | [], env, h => Q env h
  | o :: rest, env, h => guardP ops env o (fun env => stepP P N env o h fun v h' => vcOps P N ops Q rest (env.put o.dst v) h')
      (fun env => if dstOk N o = true then vcOps P N ops Q rest (env.skip o.dst) h else False)

theorem vcOps_sound {P : Program} {N : Nat} {ops : Array Oper} {Q : Env → Hp → Prop} {R : Exit → Act → World → Prop} {h0 : Hp} {w0 : World} {ds : List Deferred} {ro : Option Nat}
    (m : ∀ env h a w, env.ok N ds a → h.sat w → Fr h0 h w0 w → Q env h → R .normal a w) (l : List Oper) :
    ∀ env h a w, Env.ok env N ds a → h.sat w → Fr h0 h w0 w → vcOps P N ops Q l env h → wpListIn (Fz ro) 0 P ops R l a w := by
  induction l with
  | nil => exact fun env h a w k s f q => m env h a w k s f q
  | cons o rest ih =>
    intro env h a w k s f q
    obtain ⟨env', k, ⟨hw, q⟩ | ⟨hw, q⟩⟩ := guardP_sound k q
    · refine wpListIn_step fun K hK => ?_
      rw [if_pos hw]
      by_cases hd : ∀ x, o.dst = some x → x < N
      · exact (stepP_sound k s q fun v w' h' s' f' k' => hK _ _ (ih _ _ _ _ (k.put hd v) s' (f.trans f') k')).2
      · exact absurd (stepP_sound (next := fun _ _ => True) (Q := R) (ro := none) k s q fun _ _ _ _ _ _ => trivial).1 hd
    · split at q
      case isFalse => exact q.elim
      rename_i hd
      refine wpListIn_step fun K hK => ?_
      rw [if_neg (by simp [hw])]
      refine ⟨fun _ _ => trivial, ?_⟩
      exact hK _ _ (ih _ _ _ _ (k.skip (dstOk_spec hd)) s f q)

end Go.SL
