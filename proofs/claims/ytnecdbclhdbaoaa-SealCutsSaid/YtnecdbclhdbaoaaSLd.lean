/- Conditions for a whole body of code, loops by what holds at their heads, and that they suffice for a call. Conditions: none; plain definitions and lemmas over any program. -/
import Derived.Test.YtnecdbclhdbaoaaSLc
import Derived.Scope
set_option linter.unusedSimpArgs false
namespace Go.SL
open Go

theorem lk_cons {β : Type} (p : Nat × β) (l : List (Nat × β)) (t : Nat) : (p :: l).lookup t = if (t == p.1) = true then some p.2 else l.lookup t := by
  obtain ⟨k, b⟩ := p
  rw [List.lookup_cons]
  cases t == k <;> rfl

inductive Ex where
  | normal
  | exit (id : Nat)
  | ret

def Ex.to : Ex → Exit
  | .normal => .normal
  | .exit id => .exit id
  | .ret => .ret

def dsts (ops : Array Oper) : List Nat := ops.toList.filterMap (·.dst)
def assigned : Code → List Nat
  | .region _ ops _ => dsts ops
  | .seq a b => assigned a ++ assigned b
  | .cond _ a b => assigned a ++ assigned b
  | .block _ a => assigned a
  | .loop a => assigned a
  | .scope a => assigned a
  | _ => []
def noDef : Op → Bool
  | .defer _ => false
  | _ => true
theorem noDef_spec {ops : Array Oper} (h : (ops.toList.all fun o => noDef o.op) = true) (j : Nat) (o : Oper) (ho : ops[j]? = some o) (c : Call) : o.op ≠ .defer c := by
  intro e
  have := List.all_eq_true.1 h o (by simpa using Array.mem_of_getElem? ho)
  rw [e] at this
  cases this
def Hp.del (h : Hp) (b : Nat) : Hp := fun i => if i = b then none else h i

def clos (l : List Oper) : List Nat := l.foldl (fun B o => B ++ [cmask B o]) []
def quietL (P : Program) (l : List Oper) : List Nat := l.zipIdx.filterMap fun p => if quiet P p.1.op = true then some p.2 else none

/-- A region whose order is open. -/
def vcR (P : Program) (N : Nat) (ops : Array Oper) (Q : Env → Hp → Prop) (env : Env) (h : Hp) : Prop :=
  if (chkB ops.toList (clos ops.toList) && chkA ops (clos ops.toList) && Region.noSelect ops && ops.toList.all fun o => noDef o.op) = true then
    vcD P N ops (clos ops.toList) (ops.toList.map dmask) (quietL P ops.toList) Q ops.size 0 [] env h
  else False

def valsOf (L : List Nat) (env : Env) : List Value := L.map fun s => ev env (.tmp s)
def headOf (L : List Nat) (vs : List Value) : Env := L.zipIdx.map fun p => (p.1, .val (vs.getD p.2 undef))
/-- A loop: by what holds at its head, on values and memory, with a number that goes down. -/
def Lp (vals : List Value) (h : Hp) (body : (List Value → Hp → Prop) → List Value → Hp → Prop) : Prop :=
  ∃ I : Nat → List Value → Hp → Prop, (∃ h0, Hp.le h0 h ∧ ∃ n, I n vals h0) ∧ ∀ n vs h1, I n vs h1 → body (fun vs' h2 => ∃ h0, Hp.le h0 h2 ∧ ∃ m, m < n ∧ I m vs' h0) vs h1
def loopP (body : (Ex → Env → Hp → Prop) → Env → Hp → Prop) (as : List Nat) (Q : Ex → Env → Hp → Prop) (env : Env) (h : Hp) : Prop :=
  Lp (valsOf (as.eraseDups.filter fun s => (env.lookup s).isSome) env) h fun nx vs h1 =>
    body (fun e env' h2 => match e with
        | .normal => if ((as.eraseDups.filter fun s => (env.lookup s).isSome).all fun s => (env'.lookup s).isSome) = true then
            nx (valsOf (as.eraseDups.filter fun s => (env.lookup s).isSome) env') h2 else False
        | e => Q e env' h2)
      (headOf (as.eraseDups.filter fun s => (env.lookup s).isSome) vs ++ env.filter fun p => !as.contains p.1) h1

def envP (ps : List Nat) (args : List Value) (env : Env) : Env := (ps.zip args).foldl (fun e p => (p.1, .val p.2) :: e) env
def allArgs : Nat → (List Value → Prop) → Prop
  | 0, F => F []
  | n + 1, F => ∀ v, allArgs n fun l => F (v :: l)
theorem allArgs_of : ∀ (n : Nat) (F : List Value → Prop), (∀ l, l.length = n → F l) → allArgs n F
  | 0, _, h => h [] rfl
  | n + 1, _, h => fun v => allArgs_of n _ fun l hl => h (v :: l) (by simp [hl])
def anyP {α : Type} : List α → (α → Prop) → Prop
  | [], _ => False
  | [x], f => f x
  | x :: xs, f => f x ∨ anyP xs f
theorem anyP_elim {α : Type} {f : α → Prop} : ∀ {l : List α}, anyP l f → ∃ x ∈ l, f x
  | [], h => h.elim
  | [x], h => ⟨x, List.mem_singleton.2 rfl, h⟩
  | x :: y :: l, h => h.elim (fun h => ⟨x, List.mem_cons_self .., h⟩) fun h => let ⟨z, hz, q⟩ := anyP_elim h; ⟨z, List.mem_cons_of_mem _ hz, q⟩
theorem anyP_mono {α : Type} {f g : α → Prop} (m : ∀ x, f x → g x) : ∀ {l : List α}, anyP l f → anyP l g
  | [], h => h
  | [x], h => m x h
  | x :: _ :: _, h => h.imp (m x) (anyP_mono m)
/-- The ways out of a round's body. -/
def leaves : Code → List (Option Code × Ex)
  | .exit i => [(some (.exit i), .exit i)]
  | .ret => [(some .ret, .ret)]
  | .seq a b => leaves a ++ leaves b
  | .cond _ a b => leaves a ++ leaves b
  | .block id a => (leaves a).filter fun p => match p.2 with
    | .exit i => i != id
    | _ => true
  | .loop a => leaves a
  | .scope a => leaves a
  | _ => []
def out : Ex → Option Code
  | .normal => none
  | .exit i => some (.exit i)
  | .ret => some .ret
theorem leaves_out (c : Code) : ∀ p ∈ leaves c, p.1 = out p.2 := by
  induction c with
  | exit i => simp [leaves, out]
  | ret => simp [leaves, out]
  | seq a b iha ihb => exact fun p hp => (List.mem_append.1 hp).elim (iha p) (ihb p)
  | cond x a b iha ihb => exact fun p hp => (List.mem_append.1 hp).elim (iha p) (ihb p)
  | block id a ih => intro p hp; exact ih p (List.mem_filter.1 hp).1
  | loop a ih => exact ih
  | scope a ih => exact ih
  | _ => intro p hp; cases hp
def iterP (P : Program) (v : Value) (args : List Value) (h : Hp) (K : Value → Hp → Prop) : Prop :=
  match v with
  | .func (.func f) x y => Cn P f (x.toList ++ args ++ y.toList).toArray h K
  | _ => False
/-- A range over a function. L: the loop's record, o: what stands there; the function's contract is asked for, yield's own being given. -/
def rangeP (P : Program) (g : Operand) (ps : List Nat) (lv : List (Option Code × Ex)) (assign body : (Ex → Env → Hp → Prop) → Env → Hp → Prop) (Q : Ex → Env → Hp → Prop) (env : Env) (h : Hp) : Prop :=
  ∀ (L : Nat) (o : LoopState → Option Code → AObj), h L = none →
    (allArgs ps.length fun args => ∀ (h' : Hp) (K : Value → Hp → Prop), h' L = some (o .ready none) →
      (assign (fun e env1 h1 => match e with
        | .normal => body (fun e _ h2 => h2 L = some (o .busy none) ∧ match e with
          | .normal => K (.bool true) (h2.set L (o .ready none))
          | .ret => K (.bool false) (h2.set L (o .done (some .ret)))
          | .exit i => K (.bool false) (h2.set L (o .done (some (.exit i))))) env1 (h1.set L (o .busy none))
        | _ => False) (envP ps args env) (h'.del L)) →
      callP P (.func (.yield L) #[] #[]) args h' K) →
    iterP P (ev env g) [.func (.yield L) #[] #[]] (h.set L (o .ready none)) fun _ h2 =>
        anyP ((none, .normal) :: lv) fun p => ∃ st, st ≠ .busy ∧ h2 L = some (o st p.1) ∧ Q p.2 env (h2.del L)

def vc (P : Program) (N : Nat) (top : Bool) : Code → (Ex → Env → Hp → Prop) → Env → Hp → Prop
  | .skip, Q => Q .normal
  | .label _, Q => Q .normal
  | .region _ ops draw, Q => match draw with
    | false => vcOps P N ops (Q .normal) ops.toList
    | true => vcR P N ops (Q .normal)
  | .seq a b, Q => vc P N top a fun e => match e with
    | .normal => vc P N top b Q
    | e => Q e
  | .cond c x y, Q => fun env h => if env.has c = true then cnd (ev env c) (vc P N top x Q env h) (vc P N top y Q env h) else False
  | .block id c, Q => vc P N top c fun e => match e with
    | .exit i => if i = id then Q .normal else Q (.exit i)
    | e => Q e
  | .loop c, Q => loopP (vc P N top c) (assigned c) Q
  | .exit id, Q => Q (.exit id)
  | .ret, Q => Q .ret
  | .scope c, Q => if top = true then vc P N top c Q else fun _ _ => False
  | .rangeFunc g ps a b, Q => fun env h => if (top && env.has g && ps.toList.all fun p => decide (p < N)) = true then rangeP P g ps.toList (leaves b) (vc P N false a) (vc P N false b) Q env h else False
  | _, _ => fun _ _ => False

/-! ### What isn't assigned stays -/
def Kept (L : List Nat) (env env' : Env) : Prop := ∀ t, t ∉ L → env'.lookup t = env.lookup t
theorem Kept.refl (L : List Nat) (env : Env) : Kept L env env := fun _ _ => rfl
theorem Kept.pute {L : List Nat} {env env' : Env} (k : Kept L env env') {d : Option Nat} (hd : ∀ x, d = some x → x ∈ L) (v : EV) : Kept L env (env'.pute d v) := by
  cases d with
  | none => exact k
  | some d =>
    intro t ht
    have : (t == d) = false := by
      simp only [beq_eq_false_iff_ne]
      exact fun e => ht (e ▸ hd d rfl)
    simp only [Env.pute, List.lookup_cons, this]
    exact k t ht
theorem Kept.put {L : List Nat} {env env' : Env} (k : Kept L env env') {d : Option Nat} (hd : ∀ x, d = some x → x ∈ L) (v : Value) : Kept L env (env'.put d v) := k.pute hd _
theorem Kept.skip {L : List Nat} {env env' : Env} (k : Kept L env env') {d : Option Nat} (hd : ∀ x, d = some x → x ∈ L) : Kept L env (env'.skip d) := k.pute hd _
theorem Kept.mono {L L' : List Nat} {env env' : Env} (k : Kept L env env') (m : ∀ x ∈ L, x ∈ L') : Kept L' env env' := fun t ht => k t fun h => ht (m t h)
theorem Kept.trans {L : List Nat} {e1 e2 e3 : Env} (a : Kept L e1 e2) (b : Kept L e2 e3) : Kept L e1 e3 := fun t ht => (b t ht).trans (a t ht)

theorem gd_mono {v : Value} {want : Bool} {X X' Y Y' : Prop} (hX : X → X') (hY : Y → Y') (g : gd v want X Y) : gd v want X' Y' := by
  unfold gd at *
  cases v <;> first | exact g.elim | exact hY g | skip
  case bool b =>
    dsimp only at g ⊢
    split at g
    · rename_i hb; rw [if_pos hb]; exact hX g
    · rename_i hb; rw [if_neg hb]; exact hY g
theorem guardP_mono {ops : Array Oper} {env : Env} {o : Oper} {L : List Nat} {e0 : Env} (hl : ∀ (j : Nat) (o : Oper), ops[j]? = some o → ∀ d, o.dst = some d → d ∈ L) (k : Kept L e0 env) {X X' Y Y' : Env → Prop}
    (hX : ∀ env, Kept L e0 env → X env → X' env) (hY : ∀ env, Kept L e0 env → Y env → Y' env) (g : guardP ops env o X Y) : guardP ops env o X' Y' := by
  unfold guardP at *
  cases hg : o.guard with
  | none => simp only [hg] at g ⊢; exact hX _ k g
  | some p =>
    obtain ⟨j, want⟩ := p
    simp only [hg] at g ⊢
    cases hd : (ops[j]?).bind (·.dst) with
    | none => simp only [hd] at g ⊢; exact hY _ k g
    | some t =>
      have ht : t ∈ L := by
        cases hj : ops[j]? with
        | none => rw [hj] at hd; cases hd
        | some oj => rw [hj] at hd; exact hl j oj hj t hd
      simp only [hd] at g ⊢
      cases hl : env.lookup t with
      | none => rw [hl] at g; exact g.elim
      | some x =>
        rw [hl] at g
        cases x with
        | skipped => exact hY _ k g
        | val v => exact gd_mono (hX _ (k.pute (d := some t) (by rintro _ ⟨⟩; exact ht) _)) (hY _ (k.pute (d := some t) (by rintro _ ⟨⟩; exact ht) _)) g

theorem vcOps_kept {P : Program} {N : Nat} {ops : Array Oper} {Q Q' : Env → Hp → Prop} {L : List Nat} {e0 : Env} (m : ∀ env h, Kept L e0 env → Q env h → Q' env h)
    (hall : ∀ (j : Nat) (o : Oper), ops[j]? = some o → ∀ d, o.dst = some d → d ∈ L) (l : List Oper) (hl : ∀ o ∈ l, ∀ d, o.dst = some d → d ∈ L) :
    ∀ env h, Kept L e0 env → vcOps P N ops Q l env h → vcOps P N ops Q' l env h := by
  induction l with
  | nil => exact fun env h k q => m env h k q
  | cons o rest ih =>
    intro env h k q
    have ho := hl o (List.mem_cons_self ..)
    have hr := fun o' h' => hl o' (List.mem_cons_of_mem _ h')
    refine guardP_mono hall k (fun env k q => stepP_mono (fun v h' q => ih hr _ _ (k.put ho v) q) q) (fun env k q => ?_) q
    split at q
    · rename_i hd; rw [if_pos hd]; exact ih hr _ _ (k.skip ho) q
    · exact q.elim

theorem allP_mono {f g : Nat → Prop} (m : ∀ x, f x → g x) : ∀ {l : List Nat}, allP f l → allP g l
  | [], _ => trivial
  | [x], q => m x q
  | x :: _ :: _, q => ⟨m x q.1, allP_mono m q.2⟩

theorem vcD_kept {P : Program} {N : Nat} {ops : Array Oper} {B ms qs : List Nat} {Q Q' : Env → Hp → Prop} {L : List Nat} {e0 : Env} (m : ∀ env h, Kept L e0 env → Q env h → Q' env h)
    (hl : ∀ (i : Nat) (o : Oper), ops[i]? = some o → ∀ d, o.dst = some d → d ∈ L) :
    ∀ fuel mk J env h, Kept L e0 env → vcD P N ops B ms qs Q fuel mk J env h → vcD P N ops B ms qs Q' fuel mk J env h := by
  intro fuel
  induction fuel with
  | zero =>
    intro mk J env h k q
    simp only [vcD] at q ⊢
    split at q
    · rename_i he; rw [if_pos he]; exact m env h k q
    · exact q.elim
  | succ fuel ih =>
    intro mk J env h k q
    simp only [vcD] at q ⊢
    split
    · rename_i i hf
      rw [hf] at q
      dsimp only at q
      split
      · rename_i o ho
        rw [ho] at q
        have hd := hl i o ho
        refine guardP_mono hl k (fun env k q => ?_) (fun env k q => (by split at q <;> first | exact q.elim | (rename_i hdk; rw [if_pos hdk]; exact ih _ _ _ _ (k.skip hd) q))) q
        split
        · rename_i hfit
          rw [if_pos hfit] at q
          split at q
          · exact ih _ _ _ _ (k.put hd _) q
          · obtain ⟨t, hc, q⟩ := pickP_elim q
            subst hc
            exact ih _ _ _ _ (k.put hd _) q
          · split at q
            · rename_i hrm
              obtain ⟨v, e, q⟩ := withVal_elim q
              rw [if_pos hrm, q_of e]
              exact ih _ _ _ _ (k.put hd v) q
            · rename_i hrm
              obtain ⟨v, e, q⟩ := withVal_elim q
              rw [if_neg hrm, q_of e]
              exact ih _ _ _ _ (k.put hd v) q
          · exact q.elim
        · rename_i hfit
          rw [if_neg hfit] at q
          exact q
      · rename_i ho
        rw [ho] at q
        exact q
    · rename_i hf
      rw [hf] at q
      dsimp only at q
      split
      · rename_i he
        rw [he] at q
        exact m env h k q
      · split at q
        · exfalso; simp_all
        · refine allP_mono (fun j q => ?_) q
          split
          · rename_i o ho
            rw [ho] at q
            have hd := hl j o ho
            refine guardP_mono hl k (fun env k q => stepP_mono (fun v h' q => ?_) q) (fun env k q => (by split at q <;> first | exact q.elim | (rename_i hdk; rw [if_pos hdk]; exact ih _ _ _ _ (k.skip hd) q))) q
            obtain ⟨q1, q2⟩ := recheck_spec q
            exact recheck_mk q1 (ih _ _ _ _ (k.put hd v) q2)
          · rename_i ho
            rw [ho] at q
            exact q

theorem mem_dsts {ops : Array Oper} {o : Oper} (ho : o ∈ ops.toList) {d : Nat} (hd : o.dst = some d) : d ∈ dsts ops := List.mem_filterMap.2 ⟨o, ho, hd⟩

theorem lookup_filter (as : List Nat) (env : Env) (t : Nat) (ht : t ∉ as) : (env.filter fun p => !as.contains p.1).lookup t = env.lookup t := by
  induction env with
  | nil => rfl
  | cons p env ih =>
    simp only [List.filter_cons]
    by_cases hp : as.contains p.1 = true
    · have hne : (t == p.1) = false := by
        simp only [beq_eq_false_iff_ne]
        rintro rfl
        exact ht (by simpa using hp)
      rw [if_neg (by rw [hp]; simp), ih, lk_cons, hne]
      rfl
    · rw [if_pos (by simpa using hp), lk_cons, lk_cons, ih]

theorem lookup_append (a b : Env) (t : Nat) : (a ++ b).lookup t = (a.lookup t).or (b.lookup t) := by
  induction a with
  | nil => simp
  | cons p a ih =>
    rw [List.cons_append, lk_cons, lk_cons, ih]
    split <;> rfl

theorem lookup_headOf {L : List Nat} {vs : List Value} {t : Nat} {v : EV} (h : (headOf L vs).lookup t = some v) : ∃ i, L[i]? = some t ∧ v = .val (vs.getD i undef) := by
  unfold headOf at h
  have : ∀ (l : List (Nat × Nat)), (∀ p ∈ l, L[p.2]? = some p.1) → (l.map fun p => (p.1, EV.val (vs.getD p.2 undef))).lookup t = some v → ∃ i, L[i]? = some t ∧ v = .val (vs.getD i undef) := by
    intro l
    induction l with
    | nil => intro _ hh; cases hh
    | cons p l ih =>
      intro hl hh
      rw [List.map_cons, lk_cons] at hh
      split at hh
      · rename_i e
        simp only [beq_iff_eq] at e
        exact ⟨p.2, by rw [e]; exact hl p (List.mem_cons_self ..), (Option.some.inj hh).symm⟩
      · exact ih (fun p hp => hl p (List.mem_cons_of_mem _ hp)) hh
  refine this _ (fun p hp => ?_) h
  have := List.mem_zipIdx_iff_getElem?.1 hp
  exact this

theorem headOf_none {L : List Nat} {vs : List Value} {t : Nat} (ht : t ∉ L) : (headOf L vs).lookup t = none := by
  cases h : (headOf L vs).lookup t with
  | none => rfl
  | some v =>
    obtain ⟨i, hi, _⟩ := lookup_headOf h
    exact absurd (List.mem_of_getElem? hi) ht

theorem headKept (as : List Nat) (L : List Nat) (hL : ∀ x ∈ L, x ∈ as) (env : Env) (vs : List Value) : Kept as env (headOf L vs ++ env.filter fun p => !as.contains p.1) := by
  intro t ht
  rw [lookup_append, headOf_none (fun h => ht (hL t h)), lookup_filter as env t ht]
  rfl

theorem vc_kept {P : Program} {N : Nat} {top : Bool} (c : Code) : ∀ (L : List Nat) (e0 : Env) (Q Q' : Ex → Env → Hp → Prop) (env : Env) (h : Hp), (∀ x ∈ assigned c, x ∈ L) → Kept L e0 env →
    (∀ e env h, Kept L e0 env → Q e env h → Q' e env h) → vc P N top c Q env h → vc P N top c Q' env h := by
  induction c with
  | skip => exact fun L e0 Q Q' env h _ k m q => m _ _ _ k q
  | label l => exact fun L e0 Q Q' env h _ k m q => m _ _ _ k q
  | exit l => exact fun L e0 Q Q' env h _ k m q => m _ _ _ k q
  | ret => exact fun L e0 Q Q' env h _ k m q => m _ _ _ k q
  | goto l => exact fun L e0 Q Q' env h _ k m q => q.elim
  | refuse l => exact fun L e0 Q Q' env h _ k m q => q.elim
  | rangeFunc f p a b =>
    intro L e0 Q Q' env h _ k m q
    simp only [vc] at q ⊢
    split at q
    · rename_i hc
      rw [if_pos hc]
      intro L1 o hL hY
      have q := q L1 o hL hY
      unfold iterP at q ⊢
      split at q
      · exact q.mono fun _ h2 z => anyP_mono (fun p ⟨st, h1, h2, h3⟩ => ⟨st, h1, h2, m _ _ _ k h3⟩) z
      · exact q.elim
    · exact q.elim
  | region id ops draw =>
    intro L e0 Q Q' env h hL k m q
    cases draw with
    | false => exact vcOps_kept (m .normal) (fun i o ho d hd => hL d (mem_dsts (by simpa using Array.mem_of_getElem? ho) hd)) _ (fun o ho d hd => hL d (mem_dsts ho hd)) env h k q
    | true =>
      simp only [vc, vcR] at q ⊢
      split at q
      · rename_i hc
        rw [if_pos hc]
        exact vcD_kept (m .normal) (fun i o ho d hd => hL d (mem_dsts (by simpa using Array.mem_of_getElem? ho) hd)) _ _ _ _ _ k q
      · exact q.elim
  | seq a b iha ihb =>
    intro L e0 Q Q' env h hL k m q
    refine iha L e0 _ _ env h (fun x hx => hL x (List.mem_append_left _ hx)) k (fun e env h k q => ?_) q
    cases e with
    | normal => exact ihb L e0 Q Q' env h (fun x hx => hL x (List.mem_append_right _ hx)) k m q
    | exit id => exact m _ _ _ k q
    | ret => exact m _ _ _ k q
  | cond c x y ihx ihy =>
    intro L e0 Q Q' env h hL k m q
    simp only [vc] at q ⊢
    split at q
    · rename_i hc
      rw [if_pos hc]
      unfold cnd at q ⊢
      split at q
      · split at q
        · rename_i hb; rw [if_pos hb]; exact ihx L e0 Q Q' env h (fun x hx => hL x (List.mem_append_left _ hx)) k m q
        · rename_i hb; rw [if_neg hb]; exact ihy L e0 Q Q' env h (fun x hx => hL x (List.mem_append_right _ hx)) k m q
      · exact q.elim
    · exact q.elim
  | block id c ih =>
    intro L e0 Q Q' env h hL k m q
    refine ih L e0 _ _ env h hL k (fun e env h k q => ?_) q
    cases e with
    | normal => exact m _ _ _ k q
    | exit i =>
      dsimp only at q ⊢
      split at q
      · rename_i e; rw [if_pos e]; exact m _ _ _ k q
      · rename_i e; rw [if_neg e]; exact m _ _ _ k q
    | ret => exact m _ _ _ k q
  | scope c ih =>
    intro L e0 Q Q' env h hL k m q
    simp only [vc] at q ⊢
    split at q
    · rename_i ht; rw [if_pos ht]; exact ih L e0 Q Q' env h hL k m q
    · exact q.elim
  | loop c ih =>
    intro L e0 Q Q' env h hL k m q
    obtain ⟨I, h0, hI⟩ := q
    refine ⟨I, h0, fun n vs h1 hi => ih L e0 _ _ _ _ hL ?_ (fun e env' h2 k q => ?_) (hI n vs h1 hi)⟩
    · refine k.trans (Kept.mono (headKept (assigned c) _ (fun x hx => ?_) env vs) hL)
      have := (List.mem_filter.1 hx).1
      exact List.mem_eraseDups.1 this
    · cases e with
      | normal => exact q
      | exit id => exact m _ _ _ k q
      | ret => exact m _ _ _ k q

/-! ### That it suffices -/
theorem least {p : Nat → Prop} (h : ∃ n, p n) : ∃ n, p n ∧ ∀ m, p m → n ≤ m := by
  obtain ⟨n, hn⟩ := h
  induction n using Nat.strongRecOn with
  | _ n ih =>
    by_cases q : ∃ m, m < n ∧ p m
    · obtain ⟨m, hm, pm⟩ := q
      exact ih m hm pm
    · exact ⟨n, hn, fun m pm => Nat.le_of_not_lt fun hlt => q ⟨m, hlt, pm⟩⟩

theorem clo_nil (B : List Nat) (n : Nat) : Clo B (Array.replicate n false) := by
  intro k k' hk _
  exfalso
  rcases Nat.lt_or_ge k n with h | h
  · simp [h] at hk
  · simp [Nat.not_lt.2 h] at hk
theorem mrel_nil (ops : Array Oper) : Mrel ops 0 (Array.replicate ops.size false) := by
  refine ⟨by simp, fun i => ?_⟩
  rw [Nat.zero_testBit]
  rcases Nat.lt_or_ge i ops.size with h | h
  · simp [h]
  · simp [Nat.not_lt.2 h]

theorem le_none {h h' : Hp} (l : Hp.le h h') {b : Nat} (e : h' b = none) : h b = none := by
  cases hb : h b with
  | none => rfl
  | some o => obtain ⟨o', e', _⟩ := l b o hb; rw [e] at e'; cases e'
theorem le_set {h h' : Hp} (l : Hp.le h h') {b : Nat} {o : AObj} : Hp.le (h.set b o) (h'.set b o) := by
  intro i x hx
  by_cases e : i = b
  · subst e; rw [Hp.set_same] at hx ⊢; exact ⟨x, hx, .refl _⟩
  · rw [Hp.set_ne _ _ e] at hx ⊢; exact l i x hx
theorem AObj.le.trans {a b c : AObj} (x : AObj.le a b) (y : AObj.le b c) : AObj.le a c := by
  cases a <;> cases b <;> simp only [AObj.le] at x <;> cases c <;> simp only [AObj.le] at y ⊢
  · obtain ⟨rfl, rfl, p, f⟩ := x
    obtain ⟨rfl, rfl, p', f'⟩ := y
    refine ⟨rfl, rfl, p.trans p', ?_⟩
    rcases f with rfl | rfl
    · exact f'
    · exact .inr rfl
  · exact x.trans y
theorem Hp.le.trans {a b c : Hp} (x : Hp.le a b) (y : Hp.le b c) : Hp.le a c := fun i o e =>
  let ⟨o', e', l⟩ := x i o e
  let ⟨o2, e2, l2⟩ := y i o' e'
  ⟨o2, e2, l.trans l2⟩
theorem le_fresh {h : Hp} {r : Nat} {o : AObj} (hr : h r = none) : Hp.le h (h.set r o) := fun i x e => by
  have : i ≠ r := by rintro rfl; rw [hr] at e; cases e
  exact ⟨x, by rw [Hp.set_ne _ _ this]; exact e, .refl _⟩

theorem Hp.del_ne (h : Hp) {b i : Nat} (n : i ≠ b) : (h.del b) i = h i := by simp [Hp.del, n]
theorem Hp.del_same (h : Hp) (b : Nat) : (h.del b) b = none := by simp [Hp.del]
theorem del_sat {h : Hp} {w : World} (s : h.sat w) (L : Nat) (x : Obj) : (h.del L).sat (w.putObj L x) := by
  intro i o e
  have hi : i ≠ L := by rintro rfl; rw [Hp.del_same] at e; cases e
  rw [Hp.del_ne _ hi] at e
  obtain ⟨y, hy, hm⟩ := s i o e
  exact ⟨y, by rw [World.putObj_heap_other hi]; exact hy, hm⟩
theorem del_sat0 {h : Hp} {w : World} (s : h.sat w) (L : Nat) : (h.del L).sat w := by
  intro i o e
  have hi : i ≠ L := by rintro rfl; rw [Hp.del_same] at e; cases e
  rw [Hp.del_ne _ hi] at e
  exact s i o e
/-- What isn't known, and is no cells, isn't known later, and lies as it lay. -/
theorem none_keep {h h' : Hp} {w w' : World} (f : Fr h h' w w') (s' : h'.sat w') {b : Nat} {o : Obj} (hb : h b = none) (hw : w.heap[b]? = some o) (hc : isCells o = false) : h' b = none ∧ w'.heap[b]? = some o := by
  have hlt : b < w.heap.size := (Array.getElem?_eq_some_iff.1 hw).1
  have hno : ¬ h.own b := by rintro ⟨x, e, _⟩; rw [hb] at e; cases e
  have hk : w'.heap[b]? = some o := by rw [f.keep b hlt hno]; exact hw
  refine ⟨?_, hk⟩
  cases e : h' b with
  | none => rfl
  | some x =>
    obtain ⟨y, hy, hm⟩ := s' b x e
    rw [hk] at hy
    cases hy
    cases x with
    | row e vs cap fz => cases o <;> first | exact hm.elim | cases hc
    | obj o' =>
      rcases f.dom b ⟨_, e, rfl⟩ with q | q
      · exact absurd q hno
      · omega
theorem none_put {h : Hp} {w : World} (s : h.sat w) {L : Nat} (hL : h L = none) (x : Obj) : h.sat (w.putObj L x) := by
  intro i o e
  have hi : i ≠ L := by rintro rfl; rw [hL] at e; cases e
  obtain ⟨y, hy, hm⟩ := s i o e
  exact ⟨y, by rw [World.putObj_heap_other hi]; exact hy, hm⟩

/-- Marks of ranges over functions. -/
def mark (D : Nat) : Deferred := { target := .collected D, args := #[] }
def Mks (B : Nat) (h : Hp) (w : World) (ds : List Deferred) : Prop :=
  ∃ Ls : List Nat, ds = Ls.map mark ∧ Ls.Nodup ∧ ∀ D ∈ Ls, B ≤ D ∧ h D = none ∧ w.heap[D]? = some (.deferred (some []))
theorem Mks.step {B : Nat} {h h' : Hp} {w w' : World} {ds : List Deferred} (k : Mks B h w ds) (f : Fr h h' w w') (s' : h'.sat w') : Mks B h' w' ds := by
  obtain ⟨Ls, e, n, q⟩ := k
  exact ⟨Ls, e, n, fun D hD => ⟨(q D hD).1, none_keep f s' (q D hD).2.1 (q D hD).2.2 rfl⟩⟩
def Ok (B N : Nat) (env : Env) (h : Hp) (a : Act) (w : World) : Prop := h.sat w ∧ B ≤ w.heap.size ∧ ∃ ds, Env.ok env N ds a ∧ Mks B h w ds
theorem Ok.step {B N : Nat} {env' : Env} {h h' : Hp} {a' : Act} {w w' : World} {ds : List Deferred} (k : B ≤ w.heap.size) (mk : Mks B h w ds) (k' : Env.ok env' N ds a') (s' : h'.sat w') (f : Fr h h' w w') : Ok B N env' h' a' w' :=
  ⟨s', Nat.le_trans k f.size, ds, k', mk.step f s'⟩
theorem Ok.weaken {B N : Nat} {env : Env} {h h0 : Hp} {a : Act} {w : World} (k : Ok B N env h a w) (l : Hp.le h0 h) : Ok B N env h0 a w := by
  obtain ⟨s, hB, ds, ke, Ls, e, n, q⟩ := k
  exact ⟨l.sat s, hB, ds, ke, Ls, e, n, fun D hD => ⟨(q D hD).1, le_none l (q D hD).2.1, (q D hD).2.2⟩⟩

theorem envP_ok {N : Nat} : ∀ (ps : List Nat) (args : List Value) (env : Env) (tmps : Array Value), (∀ p ∈ ps, p < N) → tmps.size = N → (∀ t x, env.lookup t = some x → tmps[t]? = some x.get) →
    Env.ok (envP ps args env) N [] { tmps := (ps.zip args).foldl (fun t p => t.setIfInBounds p.1 p.2) tmps, defers := [] } := by
  intro ps
  induction ps with
  | nil => exact fun args env tmps _ hs he => ⟨hs, rfl, he⟩
  | cons p ps ih =>
    intro args env tmps hp hs he
    cases args with
    | nil => exact ⟨hs, rfl, he⟩
    | cons v args =>
      have k0 : Env.ok env N [] { tmps := tmps, defers := [] } := ⟨hs, rfl, he⟩
      have k1 := k0.put (d := some p) (by rintro _ ⟨⟩; exact hp p (List.mem_cons_self ..)) v
      exact ih args ((p, .val v) :: env) (tmps.setIfInBounds p v) (fun q hq => hp q (List.mem_cons_of_mem _ hq)) (by simpa using hs) k1.2.2
theorem zip_fold (ps : Array Nat) (args : List Value) (tmps : Array Value) : (ps.zip args.toArray).foldl (fun t (p, v) => t.setIfInBounds p v) tmps = (ps.toList.zip args).foldl (fun t p => t.setIfInBounds p.1 p.2) tmps := by
  rw [← Array.foldl_toList, Array.toList_zip]
theorem pk_callFunc {P : Program} {f : FuncId} (c : Callable P f) (args : Array Value) (h : Hp) : peek P h (callFunc f args) = some (.enter f args) := by
  obtain ⟨fn, hf, hb, hn⟩ := c
  show peek P h (match P.funcs[f]? with
    | none => _
    | some fn => _) = _
  rw [hf]
  dsimp only
  rw [if_neg (by simp [hn]), if_neg (by simp [hb])]
  rfl

abbrev VcSound (P : Program) (N : Nat) (c : Code) : Prop := ∀ (top : Bool) (ro : Option Nat) (B : Nat), (top = true → ro = none) → ∀ (Q : Ex → Env → Hp → Prop) (env : Env) (h : Hp) (a : Act) (w : World) (R : Exit → Act → World → Prop),
    Ok B N env h a w → vc P N top c Q env h → (∀ c a w, ¬ R (.panic c) a w) →
    (∀ e env' h' a' w', Ok B N env' h' a' w' → Fr h h' w w' → Q e env' h' → R e.to a' w') → c.wpIn (Fz ro) 0 P R a w

theorem round_sound {P : Program} {N : Nat} {x b : Code} (iha : VcSound P N x) (ihb : VcSound P N b) {env : Env} {L : Nat} {ps : Array Nat} {hps : ∀ p ∈ ps.toList, p < N} {tmps : Array Value} (hs : tmps.size = N)
    (he : ∀ t x, env.lookup t = some x → tmps[t]? = some x.get) (rec : LoopState → Option Code → Loop) (hr : ∀ st pe, rec st pe = { state := st, pending := pe, fn := (rec st pe).fn, tmps := tmps, params := ps, assign := x, body := b, defers := (rec st pe).defers })
    (hf : ∃ fn D, ∀ st pe, (rec st pe).fn = fn ∧ (rec st pe).defers = D) (args : List Value) (h' : Hp) (K : Value → Hp → Prop) (hl : h' L = some (.obj (.loop (rec .ready none)))) (hlen : args.length = ps.toList.length)
    (qa : vc P N false x (fun e env1 h1 => match e with
        | .normal => vc P N false b (fun e _ h2 => h2 L = some (.obj (.loop (rec .busy none))) ∧ match e with
          | .normal => K (.bool true) (h2.set L (.obj (.loop (rec .ready none))))
          | .ret => K (.bool false) (h2.set L (.obj (.loop (rec .done (some .ret)))))
          | .exit i => K (.bool false) (h2.set L (.obj (.loop (rec .done (some (.exit i))))))) env1 (h1.set L (.obj (.loop (rec .busy none))))
        | _ => False) (envP ps.toList args env) (h'.del L)) : callP P (.func (.yield L) #[] #[]) args h' K := by
  obtain ⟨fn, D, hf⟩ := hf
  have hrec : ∀ st pe, rec st pe = { state := st, pending := pe, fn := fn, tmps := tmps, params := ps, assign := x, body := b, defers := D } := fun st pe => by
    have := hr st pe
    rw [(hf st pe).1, (hf st pe).2] at this
    exact this
  show awp P (Instr.yield L args.toArray) (nextP P K) h'
  have hg : peek P h' (Instr.getLoop L) = some (rec .ready none) := by
    show peek P h' (Sem.bind (getObj L) _) = _
    rw [peek_bind]
    have : peek P h' (getObj L) = some (.loop (rec .ready none)) := by simp [peek, getObj, hl]
    rw [this]
    rfl
  show awp P (Sem.bind (Instr.getLoop L) _) _ h'
  rw [awp_bind, peek_awp P _ _ _ hg]
  dsimp only
  have hsz : args.toArray.size = (rec .ready none).params.size := by rw [hrec]; simpa using hlen
  show awp P (if args.toArray.size ≠ (rec .ready none).params.size then _ else _) _ h'
  rw [if_neg (by simp [hsz])]
  rw [hrec]
  show Rd P L fn ((ps.zip args.toArray).foldl (fun t (p, v) => t.setIfInBounds p v) tmps) x b h' K
  rw [zip_fold]
  intro w' s'
  have k0 := envP_ok ps.toList args env tmps hps hs he
  have hx0 : w'.heap[L]? = some (.loop (rec .ready none)) := by
    obtain ⟨y, hy, hm⟩ := s' L _ hl
    rw [hy, hm.1]
  refine roundIn_of_wpIn trivial ?_
  refine iha false (some L) 0 (by simp) _ _ (h'.del L) _ w' _ ⟨del_sat0 s' L, Nat.zero_le _, [], k0, [], rfl, List.nodup_nil, by simp⟩ qa (fun c a w z => z) (fun e env1 h1 a1 w2 k1 f1 q1 => ?_)
  cases e with
  | exit i => exact q1.elim
  | ret => exact q1.elim
  | normal =>
    obtain ⟨s1, _, ds, ke1, Ls, rfl, hn, hLs⟩ := k1
    obtain ⟨hn1, hx1⟩ := none_keep f1 s1 (Hp.del_same h' L) hx0 rfl
    refine ⟨_, run_beginRound hx1 (by rw [hrec]), ?_⟩
    have hlt1 : L < w2.heap.size := (Array.getElem?_eq_some_iff.1 hx1).1
    have hbz : ({ rec .ready none with state := .busy } : Loop) = rec .busy none := by rw [hrec, hrec]
    rw [hbz]
    refine ihb false (some L) 0 (by simp) _ env1 (h1.set L (.obj (.loop (rec .busy none)))) a1 _ _ ⟨sat_set s1 hlt1 ⟨rfl, rfl⟩, Nat.zero_le _, _, ke1, Ls, rfl, hn, fun D hD => ?_⟩ q1 (fun c a w z => z) (fun e env2 h2 a2 w4 k2 f2 q2 => ?_)
    · have hne : D ≠ L := by rintro rfl; have := (hLs D hD).2.2; rw [hx1] at this; cases this
      refine ⟨Nat.zero_le _, by rw [Hp.set_ne _ _ hne]; exact (hLs D hD).2.1, ?_⟩
      rw [World.putObj_heap_other hne]
      exact (hLs D hD).2.2
    · obtain ⟨q0, q2⟩ := q2
      have hx2 : w4.heap[L]? = some (.loop (rec .busy none)) := by
        obtain ⟨y, hy, hm⟩ := k2.1 L _ q0
        rw [hy, hm.1]
      have hlt2 : L < w4.heap.size := (Array.getElem?_eq_some_iff.1 hx2).1
      have fin : ∀ (r : Loop), (h2.set L (.obj (.loop r))).sat (w4.putObj L (.loop r)) ∧ Fr h' (h2.set L (.obj (.loop r))) w' (w4.putObj L (.loop r)) := by
        intro r
        refine ⟨sat_set k2.1 hlt2 ⟨rfl, rfl⟩, ⟨f2.os.trans f1.os, f2.tape.trans f1.tape, f2.output.trans f1.output, ?_, fun i hi hno => ?_, fun i hi => ?_⟩⟩
        · have := f1.size; have := f2.size; simp at *; omega
        · have hiL : i ≠ L := by rintro rfl; exact hno ⟨_, hl, rfl⟩
          have hno0 : ¬ (h'.del L).own i := by rintro ⟨y, e, hr⟩; rw [Hp.del_ne _ hiL] at e; exact hno ⟨y, e, hr⟩
          have hlt' : i < w2.heap.size := Nat.lt_of_lt_of_le hi f1.size
          have hno1 : ¬ (h1.set L (.obj (.loop (rec .busy none)))).own i := fun q => by
            obtain ⟨y, e, hr⟩ := q
            rw [Hp.set_ne _ _ hiL] at e
            rcases f1.dom i ⟨y, e, hr⟩ with q | q
            · exact hno0 q
            · omega
          rw [World.putObj_heap_other hiL, f2.keep i (by simpa using hlt') hno1, World.putObj_heap_other hiL, f1.keep i hi hno0]
        · by_cases hiL : i = L
          · subst hiL; exact .inl ⟨_, hl, rfl⟩
          · obtain ⟨y, e, hr⟩ := hi
            rw [Hp.set_ne _ _ hiL] at e
            rcases f2.dom i ⟨y, e, hr⟩ with q | q
            · obtain ⟨y, e, hr⟩ := q
              rw [Hp.set_ne _ _ hiL] at e
              rcases f1.dom i ⟨y, e, hr⟩ with q | q
              · obtain ⟨y, e, hr⟩ := q
                rw [Hp.del_ne _ hiL] at e
                exact .inl ⟨y, e, hr⟩
              · exact .inr q
            · have := f1.size; simp at q; exact .inr (by omega)
      cases e with
      | normal =>
        refine ⟨_, _, run_endRound none hx2, _, _, rfl, (fin _).1, (fin _).2, ?_⟩
        dsimp only at q2
        rw [hrec] at q2 ⊢
        exact q2
      | ret =>
        refine ⟨_, _, run_endRound (some .ret) hx2, _, _, rfl, (fin _).1, (fin _).2, ?_⟩
        dsimp only at q2
        rw [hrec] at q2 ⊢
        exact q2
      | exit i =>
        refine ⟨_, _, run_endRound (some (.exit i)) hx2, _, _, rfl, (fin _).1, (fin _).2, ?_⟩
        dsimp only at q2
        rw [hrec] at q2 ⊢
        exact q2

theorem range_sound {P : Program} {N : Nat} {g : Operand} {ps : Array Nat} {x b : Code} (iha : VcSound P N x) (ihb : VcSound P N b) : VcSound P N (.rangeFunc g ps x b) := by
  intro top ro B ht Q env h a w R k q hR m
  simp only [vc] at q
  split at q
  case isFalse => exact q.elim
  rename_i hc
  simp only [Bool.and_eq_true] at hc
  obtain ⟨⟨htop, hg⟩, hps⟩ := hc
  obtain rfl := ht htop
  obtain ⟨s, hB, ds, ke, Ls, rfl, hn, hLs⟩ := k
  refine wpIn_rangeFunc fun fn _ => ?_
  obtain ⟨rec, hrec⟩ : ∃ rec : LoopState → Option Code → Loop, rec = fun st pe => { state := st, pending := pe, fn, tmps := a.tmps, params := ps, assign := x, body := b, defers := w.heap.size } := ⟨_, rfl⟩
  obtain ⟨hn0, s0, f0⟩ := new_sound s (.deferred (some []))
  obtain ⟨hn1, s1, f1⟩ := new_sound s0 (.loop (rec .ready none))
  have hsz : (w.heap.push (.deferred (some []))).size = w.heap.size + 1 := by simp
  dsimp only at hn1 s1 f1
  rw [hsz] at hn1 s1 f1
  obtain ⟨w1, hw1⟩ : ∃ w1 : World, (w.alloc (.deferred (some []))).alloc (.loop (rec .ready none)) = w1 := ⟨_, rfl⟩
  have hL : h (w.heap.size + 1) = none := by rw [Hp.set_ne _ _ (by omega)] at hn1; exact hn1
  have le : Hp.le (h.set (w.heap.size + 1) (.obj (.loop (rec .ready none)))) ((h.set w.heap.size (absOf (.deferred (some [])))).set (w.heap.size + 1) (.obj (.loop (rec .ready none)))) := le_set (le_fresh hn0)
  have s2 : (h.set (w.heap.size + 1) (.obj (.loop (rec .ready none)))).sat w1 := by rw [← hw1]; exact le.sat s1
  have f2 : Fr h (h.set (w.heap.size + 1) (.obj (.loop (rec .ready none)))) w w1 := by rw [← hw1]; exact (f0.trans f1).weaken le
  have hD : w1.heap[w.heap.size]? = some (.deferred (some [])) := by
    rw [← hw1]
    show ((w.heap.push _).push _)[w.heap.size]? = _
    simp [Array.getElem?_push]
  have hz1 : w1.heap.size = w.heap.size + 2 := by rw [← hw1]; show ((w.heap.push _).push _).size = _; simp
  have q := q (w.heap.size + 1) (fun st pe => .obj (.loop (rec st pe))) hL (allArgs_of _ _ fun args hlen h' K hl hh => by
    refine round_sound (hps := fun p hp => by simpa using List.all_eq_true.1 hps p hp) iha ihb ke.1 ke.2.2 rec (fun st pe => by rw [hrec]) ⟨fn, w.heap.size, fun st pe => by rw [hrec]; exact ⟨rfl, rfl⟩⟩ args h' K hl hlen hh)
  unfold iterP at q
  split at q
  case h_2 => exact q.elim
  rename_i f y z hgv
  refine ⟨w.heap.size + 1, [mark w.heap.size], w1, { target := .fn (.func f) z, args := y ++ #[.func (.yield (w.heap.size + 1)) #[] #[]] }, w1, f, (y.toList ++ [Value.func (.yield (w.heap.size + 1)) #[] #[]] ++ z.toList).toArray, w1,
    ?_, ?_, fun _ _ => trivial, ?_, fun e => (by cases e), ?_⟩
  · rw [← hw1, hrec]; exact run_enterLoop_outer _ _ _ _ _
  · simp only [resolve, ke.eval hg, hgv, Deferred.ofValue]
    rw [show Array.map a.eval #[Operand.const (Value.func (.yield (w.heap.size + 1)) #[] #[])] = #[Value.func (.yield (w.heap.size + 1)) #[] #[]] from by simp [Act.eval]]
    rfl
  · have e1 : (y.toList ++ [Value.func (.yield (w.heap.size + 1)) #[] #[]] ++ z.toList).toArray = (y ++ #[.func (.yield (w.heap.size + 1)) #[] #[]]) ++ z := by
      apply Array.ext'; simp
    rw [e1]
    exact peek_run P _ _ _ (emp_sat w1) (pk_callFunc q.1 _ emp)
  · refine CallsIn.mono (callsIn_wide.2 (q.2 w1 s2)) ?_
    rintro e w3 ⟨v, h2, rfl, s3, f3, qq⟩
    obtain ⟨⟨pe, ex⟩, hmem, st, hst, hl2, q2⟩ := anyP_elim qq
    dsimp only at hl2 q2
    have hpe : pe = out ex := by
      rcases List.mem_cons.1 hmem with e | hm
      · cases e; rfl
      · exact leaves_out b _ hm
    obtain ⟨y2, hy2, hm2⟩ := s3 _ _ hl2
    obtain rfl := hm2.1
    have hrs : (rec st pe).state = st := by rw [hrec]
    have hrp : (rec st pe).pending = pe := by rw [hrec]
    obtain ⟨X, hend⟩ : ∃ X, (Instr.endLoop (w.heap.size + 1)).run P w3 = .ok pe (w3.putObj (w.heap.size + 1) X) := ⟨_, by
      have hend := run_endLoop (P := P) hy2 (by rw [hrs]; exact hst)
      rw [hrp] at hend
      exact hend⟩
    refine ⟨pe, _, hend, ?_⟩
    have hDne : w.heap.size ≠ w.heap.size + 1 := by omega
    have k5 : Ok B N env (h2.del (w.heap.size + 1)) { a with defers := [mark w.heap.size] ++ a.defers } (w3.putObj (w.heap.size + 1) X) := by
      refine ⟨del_sat s3 _ _, ?_, _, ⟨ke.1, rfl, ke.2.2⟩, w.heap.size :: Ls, by rw [ke.2.1]; rfl, ?_, ?_⟩
      · have := f3.size; simp only [World.putObj_size]; omega
      · refine List.nodup_cons.2 ⟨fun hm => ?_, hn⟩
        have := (Array.getElem?_eq_some_iff.1 (hLs _ hm).2.2).1
        omega
      · intro D hD'
        rcases List.mem_cons.1 hD' with rfl | hD'
        · obtain ⟨n3, x3⟩ := none_keep f3 s3 (by rw [Hp.set_ne _ _ hDne]; exact hn0) hD rfl
          exact ⟨hB, by rw [Hp.del_ne _ hDne]; exact n3, by rw [World.putObj_heap_other hDne]; exact x3⟩
        · obtain ⟨hBD, hnD, hxD⟩ := hLs D hD'
          have hltD : D < w.heap.size := (Array.getElem?_eq_some_iff.1 hxD).1
          have hne : D ≠ w.heap.size + 1 := by omega
          obtain ⟨n2, x2⟩ := none_keep f2 s2 hnD hxD rfl
          obtain ⟨n3, x3⟩ := none_keep f3 s3 n2 x2 rfl
          exact ⟨hBD, by rw [Hp.del_ne _ hne]; exact n3, by rw [World.putObj_heap_other hne]; exact x3⟩
    have f5 : Fr h (h2.del (w.heap.size + 1)) w (w3.putObj (w.heap.size + 1) X) := by
      refine ⟨f3.os.trans f2.os, f3.tape.trans f2.tape, f3.output.trans f2.output, ?_, fun i hi hno => ?_, fun i hi => ?_⟩
      · have := f3.size; simp only [World.putObj_size]; omega
      · have hne : i ≠ w.heap.size + 1 := by omega
        have hno2 : ¬ (h.set (w.heap.size + 1) (.obj (.loop (rec .ready none)))).own i := by
          rintro ⟨y, e, hr⟩; rw [Hp.set_ne _ _ hne] at e; exact hno ⟨y, e, hr⟩
        rw [World.putObj_heap_other hne, f3.keep i (by omega) hno2, f2.keep i hi hno]
      · obtain ⟨y, e, hr⟩ := hi
        have hne : i ≠ w.heap.size + 1 := by rintro rfl; rw [Hp.del_same] at e; cases e
        rw [Hp.del_ne _ hne] at e
        rcases f3.dom i ⟨y, e, hr⟩ with ⟨y, e, hr⟩ | q
        · rw [Hp.set_ne _ _ hne] at e; exact .inl ⟨y, e, hr⟩
        · exact .inr (by omega)
    subst hpe
    cases ex with
    | normal => exact m .normal _ _ _ _ k5 f5 q2
    | ret => exact wpIn_ret (m .ret _ _ _ _ k5 f5 q2)
    | exit i => exact wpIn_exit (m (.exit i) _ _ _ _ k5 f5 q2)

theorem vc_sound {P : Program} {N : Nat} (hm : P.follows .mixedOrders = true) (c : Code) : VcSound P N c := by
  induction c with
  | skip => exact fun top ro B ht Q env h a w R k q _ m => wpIn_skip (m .normal env h a w k (Fr.refl _ _) q)
  | label l => exact fun top ro B ht Q env h a w R k q _ m => wpIn_label (m .normal env h a w k (Fr.refl _ _) q)
  | exit l => exact fun top ro B ht Q env h a w R k q _ m => wpIn_exit (m (.exit l) env h a w k (Fr.refl _ _) q)
  | ret => exact fun top ro B ht Q env h a w R k q _ m => wpIn_ret (m .ret env h a w k (Fr.refl _ _) q)
  | goto l => exact fun top ro B ht Q env h a w R k q _ m => q.elim
  | refuse l => exact fun top ro B ht Q env h a w R k q _ m => q.elim
  | rangeFunc f p x b iha ihb => exact range_sound iha ihb
  | region id ops draw =>
    intro top ro B ht Q env h a w R k q hR m
    cases draw with
    | false => 
      obtain ⟨s, hB, ds, ke, mk⟩ := k
      exact wpIn_region_list (vcOps_sound (ds := ds) (fun env' h' a' w' k' s' f' q' => m .normal env' h' a' w' (.step hB mk k' s' f') f' q') _ env h a w ke s (Fr.refl _ _) q)
    | true =>
      simp only [vc, vcR] at q
      split at q
      · rename_i hc
        simp only [Bool.and_eq_true] at hc
        obtain ⟨s, hB, ds, ke, mk⟩ := k
        refine wpIn_region_any hm (wpJ_any (B := clos ops.toList) _ [] _ _ _ ?_)
        refine vcD_sound (ds := ds) hc.1.1.1 hc.1.1.2 hc.1.2 (noDef_spec hc.2) rfl ?_ hR (fun env' h' a' w' k' s' f' q' => m .normal env' h' a' w' (.step hB mk k' s' f') f' q') ops.size 0 [] [] _ env h a { w with drawn := w.drawn + 1 } (mrel_nil ops) (clo_nil _ _) ke s (Fr.drew _) (fun e he => by cases he) (fun e he => by cases he) q
        intro i hi
        obtain ⟨p, hp, e⟩ := List.mem_filterMap.1 hi
        split at e
        · rename_i hq
          cases e
          have := List.mem_zipIdx_iff_getElem?.1 hp
          simp only [quietI]
          rw [show ops[p.2]? = some p.1 by simpa using this]
          exact hq
        · cases e
      · exact q.elim
  | seq x y ihx ihy =>
    intro top ro B ht Q env h a w R k q hR m
    refine wpIn_seq (ihx top ro B ht _ env h a w _ k q (fun c a w z => hR _ _ _ z) (fun e env' h' a' w' k' f' q' => ?_))
    cases e with
    | normal => exact ihy top ro B ht Q env' h' a' w' R k' q' hR (fun e env2 h2 a2 w2 k2 f2 q2 => m e env2 h2 a2 w2 k2 (f'.trans f2) q2)
    | exit id => exact m _ _ _ _ _ k' f' q'
    | ret => exact m _ _ _ _ _ k' f' q'
  | cond c x y ihx ihy =>
    intro top ro B ht Q env h a w R k q hR m
    simp only [vc] at q
    split at q
    · rename_i hc
      unfold cnd at q
      split at q
      · rename_i b hb
        refine wpIn_cond (t := b) (by obtain ⟨_, _, ds, ke, _⟩ := k; rw [ke.eval hc]; exact hb) ?_
        split at q
        · rename_i e; rw [if_pos e]; exact ihx top ro B ht Q env h a w R k q hR m
        · rename_i e; rw [if_neg e]; exact ihy top ro B ht Q env h a w R k q hR m
      · exact q.elim
    · exact q.elim
  | block id c ih =>
    intro top ro B ht Q env h a w R k q hR m
    refine wpIn_block (ih top ro B ht _ env h a w _ k q (fun c a w z => hR _ _ _ z) (fun e env' h' a' w' k' f' q' => ?_))
    cases e with
    | normal => exact m _ _ _ _ _ k' f' q'
    | exit i =>
      dsimp only at q'
      show if i = id then R .normal a' w' else R (.exit i) a' w'
      split at q'
      · rename_i e; rw [if_pos e]; exact m _ _ _ _ _ k' f' q'
      · rename_i e; rw [if_neg e]; exact m _ _ _ _ _ k' f' q'
    | ret => exact m _ _ _ _ _ k' f' q'
  | scope c ih =>
    intro top ro B ht Q env h a w R k q hR m
    simp only [vc] at q
    split at q
    case isFalse => exact q.elim
    rename_i htop
    obtain rfl := ht htop
    refine wpIn_wide.2 (wp_scope_straight ((wpIn_wide (n := 0)).1 (ih top none B ht Q env h a w _ k q (fun c a w z => hR _ _ _ z) (fun e env' h' a' w' k' f' q' => ?_))))
    cases e <;> exact m _ _ _ _ _ k' f' q'
  | loop c ih =>
    intro top ro B ht Q env h a w R k q hR m
    obtain ⟨I, ⟨hs0, ls0, n0, h0⟩, hI⟩ := q
    generalize hL : ((assigned c).eraseDups.filter fun s => (env.lookup s).isSome) = L at *
    have hLa : ∀ x ∈ L, x ∈ assigned c := fun x hx => by
      subst hL
      exact List.mem_eraseDups.1 (List.mem_filter.1 hx).1
    let p : Act → World → Nat → Prop := fun a1 w1 n => ∃ vs h1, Ok B N (headOf L vs ++ env.filter fun p => !(assigned c).contains p.1) h1 a1 w1 ∧ Fr h h1 w w1 ∧ I n vs h1
    let μ : Act → World → Nat := fun a1 w1 => open Classical in if q : ∃ n, p a1 w1 n then Classical.choose (least q) else 0
    have hμ : ∀ a1 w1, (∃ n, p a1 w1 n) → p a1 w1 (μ a1 w1) ∧ ∀ m, p a1 w1 m → μ a1 w1 ≤ m := by
      intro a1 w1 q
      have : μ a1 w1 = Classical.choose (least q) := dif_pos q
      rw [this]
      exact Classical.choose_spec (least q)
    have okHead0 : ∀ (env' : Env) (a' : Act) (ds : List Deferred), Env.ok env' N ds a' → Kept (assigned c) env env' → (∀ s ∈ L, (env'.lookup s).isSome = true) → Env.ok (headOf L (valsOf L env') ++ env.filter fun p => !(assigned c).contains p.1) N ds a' := by
      intro env' a' ds k' kp hs
      refine ⟨k'.1, k'.2.1, fun t v hv => ?_⟩
      rw [lookup_append] at hv
      cases hh : (headOf L (valsOf L env')).lookup t with
      | some u =>
        rw [hh] at hv
        obtain ⟨i, hi, hu⟩ := lookup_headOf hh
        have hlt : i < L.length := (List.getElem?_eq_some_iff.1 hi).1
        have hsome := hs t (List.mem_of_getElem? hi)
        obtain ⟨x, hx⟩ := Option.isSome_iff_exists.1 hsome
        have e1 : (valsOf L env').getD i undef = x.get := by
          simp only [valsOf, List.getD_eq_getElem?_getD, List.getElem?_map, hi, Option.map_some, Option.getD_some, ev, hx]
        rw [e1] at hu
        cases hv
        rw [hu]
        exact k'.2.2 t x hx
      | none =>
        rw [hh, Option.none_or] at hv
        have hnot : t ∉ assigned c := by
          intro ht
          have : ∀ l : Env, ((l.filter fun p => !(assigned c).contains p.1).lookup t) = none := by
            intro l
            induction l with
            | nil => rfl
            | cons p l ih =>
              simp only [List.filter_cons]
              split
              · rename_i hp
                rw [lk_cons]
                have : (t == p.1) = false := by
                  simp only [beq_eq_false_iff_ne]
                  rintro rfl
                  simp [ht] at hp
                rw [this]
                exact ih
              · exact ih
          rw [this] at hv
          cases hv
        rw [lookup_filter _ _ _ hnot] at hv
        rw [← kp t hnot] at hv
        exact k'.2.2 t v hv
    have okHead : ∀ (env' : Env) (h' : Hp) (a' : Act) (w' : World), Ok B N env' h' a' w' → Kept (assigned c) env env' → (∀ s ∈ L, (env'.lookup s).isSome = true) → Ok B N (headOf L (valsOf L env') ++ env.filter fun p => !(assigned c).contains p.1) h' a' w' :=
      fun env' h' a' w' ⟨s, hB, ds, ke, mk⟩ kp hs => ⟨s, hB, ds, okHead0 env' a' ds ke kp hs, mk⟩
    have hstart : p a w n0 := by
      refine ⟨valsOf L env, hs0, (okHead env h a w k (Kept.refl _ _) ?_).weaken ls0, (Fr.refl _ _).weaken ls0, h0⟩
      intro x hx
      subst hL
      exact (List.mem_filter.1 hx).2
    refine wpIn_loop (fun a1 w1 => ∃ n, p a1 w1 n) μ ⟨n0, hstart⟩ (fun a1 w1 hp => ?_)
    obtain ⟨⟨vs, h1, k1, f1, i1⟩, hmin⟩ := hμ a1 w1 hp
    have q1 := hI _ vs h1 i1
    have q2 := vc_kept c (assigned c) env _ (fun e env' h2 => Kept (assigned c) env env' ∧ (match e with
          | .normal => if (L.all fun s => (env'.lookup s).isSome) = true then ∃ h0, Hp.le h0 h2 ∧ ∃ m, m < μ a1 w1 ∧ I m (valsOf L env') h0 else False
          | e => Q e env' h2)) _ _ (fun x hx => hx) (headKept (assigned c) L hLa env vs) (fun e env' h2 kp q => ⟨kp, q⟩) q1
    refine ih top ro B ht _ _ h1 a1 w1 _ k1 q2 (fun c a w z => hR _ _ _ z) (fun e env' h' a' w' k' f' q' => ?_)
    obtain ⟨kp, q'⟩ := q'
    cases e with
    | normal =>
      dsimp only at q'
      split at q'
      case isFalse => exact q'.elim
      rename_i hall
      obtain ⟨hw, lw, m', hlt, im⟩ := q'
      have pm : p a' w' m' := ⟨_, hw, (okHead env' h' a' w' k' kp (fun x hx => List.all_eq_true.1 hall x hx)).weaken lw, (f1.trans f').weaken lw, im⟩
      exact ⟨⟨m', pm⟩, Nat.lt_of_le_of_lt ((hμ a' w' ⟨m', pm⟩).2 m' pm) hlt⟩
    | exit id => exact m _ _ _ _ _ k' (f1.trans f') q'
    | ret => exact m _ _ _ _ _ k' (f1.trans f') q'

/-! ### A call -/
def rv (P : Program) (env : Env) (h : Hp) (r : ResultVar) (K : Value → Prop) : Prop :=
  match r with
  | .tmp t => match env.lookup t with
    | some x => K x.get
    | none => False
  | .cell a t => if env.has (.tmp a) = true then q P h ((asAddr (ev env (.tmp a))).bind (loadVar t)) K else False

def rvS (r : ResultVar) (tmps : Array Value) : Sem Value :=
  match r with
  | .tmp t => .pure (tmps.getD t undef)
  | .cell a t => (asAddr (tmps.getD a undef)).bind (loadVar t)

theorem rv_sound {P : Program} {env : Env} {N : Nat} {ds : List Deferred} {a : Act} (k : env.ok N ds a) {h : Hp} {r : ResultVar} {K : Value → Prop} (z : rv P env h r K) : ∃ v, peek P h (rvS r a.tmps) = some v ∧ K v := by
  cases r with
  | tmp t =>
    unfold rv at z
    dsimp only at z
    split at z
    · rename_i x hx
      exact ⟨_, by simp [rvS, peek, k.2.2 t x hx], z⟩
    · exact z.elim
  | cell b t =>
    unfold rv at z
    dsimp only at z
    split at z
    · rename_i hb
      obtain ⟨v, e, z⟩ := withVal_elim z
      have := k.eval hb
      simp only [Act.eval] at this
      exact ⟨v, by rw [← e, rvS, this], z⟩
    · exact z.elim

def retL (P : Program) (rs : List ResultVar) (K : Value → Prop) (env : Env) (h : Hp) : Prop :=
  match rs with
  | [] => K (.tuple #[])
  | [r] => rv P env h r K
  | [r, s] => rv P env h r fun x => rv P env h s fun y => K (.tuple #[x, y])
  | [r, s, u] => rv P env h r fun x => rv P env h s fun y => rv P env h u fun z => K (.tuple #[x, y, z])
  | [r, s, u, o] => rv P env h r fun x => rv P env h s fun y => rv P env h u fun z => rv P env h o fun n => K (.tuple #[x, y, z, n])
  | _ => False

theorem res_eq (fn : Func) (tmps : Array Value) : results fn tmps = (fn.results.mapM fun r => rvS r tmps).bind fun vs => .pure (if h : vs.size = 1 then vs[0] else .tuple vs) := by
  unfold results
  have : (fun r : ResultVar => (match r with
    | .tmp t => pure (tmps.getD t undef)
    | .cell a t => do loadVar t (← asAddr (tmps.getD a undef)) : Sem Value)) = fun r => rvS r tmps := by
    funext r
    cases r <;> rfl
  rw [← this]
  rfl

theorem pk_bind {P : Program} {h : Hp} {α β : Type} {s : Sem α} {f : α → Sem β} {x : α} (e : peek P h s = some x) : peek P h (s >>= f) = peek P h (f x) := by
  show peek P h (Sem.bind s f) = _
  rw [peek_bind, e]
  rfl

theorem retL_sound {P : Program} {fn : Func} {env : Env} {N : Nat} {ds : List Deferred} {a : Act} (k : env.ok N ds a) {h : Hp} {w : World} (s : h.sat w) {K : Value → Prop} (z : retL P fn.results.toList K env h) :
    ∃ v, (results fn a.tmps).run P w = .ok v w ∧ K v := by
  obtain ⟨rs, hrs⟩ : ∃ rs, fn.results.toList = rs := ⟨_, rfl⟩
  have hfr : fn.results = rs.toArray := by rw [← hrs]
  rw [hrs] at z
  have fin : ∀ vs : List Value, peek P h (rs.toArray.mapM fun r => rvS r a.tmps) = some vs.toArray → (results fn a.tmps).run P w = .ok (if h : vs.toArray.size = 1 then vs.toArray[0] else .tuple vs.toArray) w := by
    intro vs e
    refine peek_run P _ w _ s ?_
    rw [res_eq, hfr, peek_bind, e]
    rfl
  unfold retL at z
  split at z
  · exact ⟨_, fin [] (by simp [peek]; rfl), z⟩
  · rename_i r
    obtain ⟨x, ex, z⟩ := rv_sound k z
    refine ⟨_, fin [x] ?_, z⟩
    simp only [List.mapM_toArray, List.mapM_cons, List.mapM_nil]
    show peek P h (Sem.bind _ _) = _
    rw [peek_bind]
    simp only [List.mapM_cons, List.mapM_nil, pk_bind ex]
    rfl
  · rename_i r1 r2
    obtain ⟨x, ex, z⟩ := rv_sound k z
    obtain ⟨y, ey, z⟩ := rv_sound k z
    refine ⟨_, fin [x, y] ?_, z⟩
    simp only [List.mapM_toArray]
    show peek P h (Sem.bind _ _) = _
    rw [peek_bind]
    simp only [List.mapM_cons, List.mapM_nil, pk_bind ex, pk_bind ey, bind_assoc]
    rfl
  · rename_i r1 r2 r3
    obtain ⟨x, ex, z⟩ := rv_sound k z
    obtain ⟨y, ey, z⟩ := rv_sound k z
    obtain ⟨u, eu, z⟩ := rv_sound k z
    refine ⟨_, fin [x, y, u] ?_, z⟩
    simp only [List.mapM_toArray]
    show peek P h (Sem.bind _ _) = _
    rw [peek_bind]
    simp only [List.mapM_cons, List.mapM_nil, pk_bind ex, pk_bind ey, pk_bind eu, bind_assoc]
    rfl
  · rename_i r1 r2 r3 r4
    obtain ⟨x, ex, z⟩ := rv_sound k z
    obtain ⟨y, ey, z⟩ := rv_sound k z
    obtain ⟨u, eu, z⟩ := rv_sound k z
    obtain ⟨o, eo, z⟩ := rv_sound k z
    refine ⟨_, fin [x, y, u, o] ?_, z⟩
    simp only [List.mapM_toArray]
    show peek P h (Sem.bind _ _) = _
    rw [peek_bind]
    simp only [List.mapM_cons, List.mapM_nil, pk_bind ex, pk_bind ey, pk_bind eu, pk_bind eo, bind_assoc]
    rfl
  · exact z.elim

def env0 (args : List Value) : Env := args.zipIdx.map fun p => (p.2, .val p.1)
def retP (P : Program) (rs : List ResultVar) (K : Value → Hp → Prop) (e : Ex) (env : Env) (h : Hp) : Prop :=
  match e with
  | .exit _ => False
  | _ => retL P rs (fun v => K v h) env h

theorem env0_ok (args : List Value) (n : Nat) : Env.ok (env0 args) (args.length + n) [] { tmps := args.toArray ++ Array.replicate n undef, defers := [] } := by
  refine ⟨by simp, rfl, fun t v h => ?_⟩
  have : args[t]? = some v.get := by
    unfold env0 at h
    have : ∀ l : List (Value × Nat), (∀ p ∈ l, args[p.2]? = some p.1) → (l.map fun p => (p.2, EV.val p.1)).lookup t = some v → args[t]? = some v.get := by
      intro l
      induction l with
      | nil => intro _ hh; cases hh
      | cons p l ih =>
        intro hl hh
        rw [List.map_cons, lk_cons] at hh
        split at hh
        · rename_i e
          simp only [beq_iff_eq] at e
          rw [e, hl p (List.mem_cons_self ..), ← Option.some.inj hh]
          rfl
        · exact ih (fun p hp => hl p (List.mem_cons_of_mem _ hp)) hh
    exact this _ (fun p hp => List.mem_zipIdx_iff_getElem?.1 hp) h
  have hlt : t < args.length := (List.getElem?_eq_some_iff.1 this).1
  rw [Array.getElem?_append_left (by simpa using hlt)]
  simpa using this

theorem mark_leave {P : Program} {fn : Func} {env : Env} {N : Nat} {ds : List Deferred} {a : Act} (k : env.ok N ds a) {h h' : Hp} {w : World} {K : Value → Hp → Prop} (z : retL P fn.results.toList (fun v => K v h') env h') :
    ∀ (Ls : List Nat) (w' : World), Ls.Nodup → (∀ D ∈ Ls, w.heap.size ≤ D ∧ h' D = none ∧ w'.heap[D]? = some (.deferred (some []))) → h'.sat w' → Fr h h' w w' →
      LeavesInM (Fz none) 0 P fn a.tmps (fun e w' => ∃ v h', e = .returned v ∧ h'.sat w' ∧ Fr h h' w w' ∧ K v h') (Ls.map mark) .returning w' := by
  intro Ls
  induction Ls with
  | nil =>
    intro w' _ _ s f
    obtain ⟨v, hv, q⟩ := retL_sound (fn := fn) (K := fun v => K v h') k s z
    exact ⟨v, hv, v, h', rfl, s, f, q⟩
  | cons D Ls ih =>
    intro w' hn hL s f
    obtain ⟨hd, hn⟩ := List.nodup_cons.1 hn
    obtain ⟨hB, hnD, hxD⟩ := hL D (List.mem_cons_self ..)
    refine ⟨by simp, .inl ⟨D, w'.putObj D (.deferred none), rfl, run_takeDeferred hxD, ih _ hn (fun E hE => ?_) (none_put s hnD _) ?_⟩⟩
    · obtain ⟨h1, h2, h3⟩ := hL E (List.mem_cons_of_mem _ hE)
      have hne : E ≠ D := by rintro rfl; exact hd hE
      exact ⟨h1, h2, by rw [World.putObj_heap_other hne]; exact h3⟩
    · refine ⟨f.os, f.tape, f.output, by simpa using f.size, fun i hi hno => ?_, f.dom⟩
      rw [World.putObj_heap_other (by omega)]
      exact f.keep i hi hno
theorem Cn_of {P : Program} {f : FuncId} {fn : Func} {c : Code} {args : List Value} {h : Hp} {K : Value → Hp → Prop} (hm : P.follows .mixedOrders = true) (hf : P.funcs[f]? = some fn) (hb : fn.body = some c)
    (hn : (fn.name == "runtime.NumGoroutine") = false) (hs : args.length ≤ fn.ntmps) (q : vc P fn.ntmps true c (retP P fn.results.toList K) (env0 args) h) : Cn P f args.toArray h K := by
  refine ⟨⟨fn, hf, by simp [hb], hn⟩, fun w s => (callsIn_wide (n := 0)).1 (callsIn_of_wp_marks (F := Fz none) hf hb trivial ?_)⟩
  have hok := env0_ok args (fn.ntmps - args.length)
  rw [Nat.add_sub_cancel' hs] at hok
  have hsz : args.toArray.size = args.length := by simp
  rw [hsz]
  refine wpIn_mono (Q := fun e a w' => match e with
      | .panic _ => False
      | e => bodyPostM (Fz none) 0 P fn (fun e w' => ∃ v h', e = .returned v ∧ h'.sat w' ∧ Fr h h' w w' ∧ K v h') e a w') ?_ (fun e a w z => by cases e <;> first | exact z | exact z.elim)
  refine vc_sound hm c true none w.heap.size (fun _ => rfl) _ _ h _ w _ ⟨s, Nat.le_refl _, [], hok, [], rfl, List.nodup_nil, by simp⟩ q (fun ch a w1 z => z) ?_
  · intro e env' h' a' w' k' f' q'
    obtain ⟨s', _, ds, ke, Ls, rfl, hn', hLs⟩ := k'
    cases e with
    | exit id => exact q'.elim
    | normal =>
      show LeavesInM _ _ _ _ _ _ a'.defers _ _
      rw [ke.2.1]
      exact mark_leave ke (K := K) q' Ls w' hn' hLs s' f'
    | ret =>
      show LeavesInM _ _ _ _ _ _ a'.defers _ _
      rw [ke.2.1]
      exact mark_leave ke (K := K) q' Ls w' hn' hLs s' f'

theorem Cn_ofs {P : Program} {f : FuncId} {fn : Func} {args : List Value} {h : Hp} {K : Value → Hp → Prop} {S : Prop} (hm : P.follows .mixedOrders = true) (hf : P.funcs[f]? = some fn)
    (hb : (fn.body.isSome && !(fn.name == "runtime.NumGoroutine") && decide (args.length ≤ fn.ntmps)) = true)
    (e : vc P fn.ntmps true (fn.body.getD .skip) (retP P fn.results.toList K) (env0 args) h = S) (s : S) : Cn P f args.toArray h K := by
  simp only [Bool.and_eq_true, Bool.not_eq_true', decide_eq_true_eq] at hb
  obtain ⟨c, hc⟩ := Option.isSome_iff_exists.1 hb.1.1
  refine Cn_of hm hf hc hb.1.2 hb.2 ?_
  rw [hc] at e
  subst e
  exact s
end Go.SL
