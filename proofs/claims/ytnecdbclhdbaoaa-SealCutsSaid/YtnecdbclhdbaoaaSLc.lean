/- Regions whose order is open: what only reads is run first, what writes in each order that may be; that this suffices for every order. Conditions: none; plain definitions and lemmas over any program. -/
import Derived.Test.YtnecdbclhdbaoaaSLb
import Derived.OrdersIn
namespace Go.SL
open Go

def emp : Hp := fun _ => none
theorem emp_sat (w : World) : emp.sat w := fun _ _ e => by cases e

abbrev JE := Nat × Sem Next × Value

def dmask (o : Oper) : Nat := o.after.toList.foldr (fun e s => if Region.binds .any e then 2 ^ e.on ||| s else s) 0
def cmask (B : List Nat) (o : Oper) : Nat := o.after.toList.foldr (fun e s => if Region.binds .any e then 2 ^ e.on ||| (B.getD e.on 0 ||| s) else s) 0

theorem dmask_spec (o : Oper) (k : Nat) : (dmask o).testBit k = true ↔ ∃ e ∈ o.after, Region.binds .any e = true ∧ e.on = k := by
  unfold dmask
  have : ∀ l : List Edge, (l.foldr (fun e s => if Region.binds .any e then 2 ^ e.on ||| s else s) 0).testBit k = true ↔ ∃ e ∈ l, Region.binds .any e = true ∧ e.on = k := by
    intro l
    induction l with
    | nil => simp
    | cons e l ih =>
      simp only [List.foldr_cons, List.mem_cons, exists_eq_or_imp]
      split
      · rename_i hb
        simp [Nat.testBit_or, Nat.testBit_two_pow, hb, ih]
      · rename_i hb
        simp [hb, ih]
  rw [this]
  simp

theorem cmask_spec {B : List Nat} (o : Oper) (k : Nat) : (cmask B o).testBit k = true ↔ ∃ e ∈ o.after, Region.binds .any e = true ∧ (e.on = k ∨ (B.getD e.on 0).testBit k = true) := by
  unfold cmask
  have : ∀ l : List Edge, (l.foldr (fun e s => if Region.binds .any e then 2 ^ e.on ||| (B.getD e.on 0 ||| s) else s) 0).testBit k = true ↔ ∃ e ∈ l, Region.binds .any e = true ∧ (e.on = k ∨ (B.getD e.on 0).testBit k = true) := by
    intro l
    induction l with
    | nil => simp
    | cons e l ih =>
      simp only [List.foldr_cons, List.mem_cons, exists_eq_or_imp]
      split
      · rename_i hb
        simp only [Nat.testBit_or, Nat.testBit_two_pow, hb, Bool.or_eq_true, decide_eq_true_eq, true_and, ih, or_assoc]
      · rename_i hb
        rw [ih]
        simp only [hb, false_and, false_or, Bool.false_eq_true]
  rw [this]
  simp

def chkB (ops : List Oper) (B : List Nat) : Bool := ops.zipIdx.all fun (o, j) => B.getD j 0 == cmask B o

def quietI (P : Program) (ops : Array Oper) (i : Nat) : Bool := match ops[i]? with | some o => quiet P o.op | none => false
def tied (B : List Nat) (j i : Nat) : Bool := (B.getD j 0).testBit i

def chkA (ops : Array Oper) (B : List Nat) : Bool :=
  ops.toList.zipIdx.all fun (x, i) => ops.toList.zipIdx.all fun (y, j) => i == j || tied B i j || tied B j i || x.apart ops y

def keepE (P : Program) (ops : Array Oper) (B : List Nat) (j : Nat) (e : JE) : Bool := quietI P ops j || !tied B j e.1

def condJ (P : Program) (J : List JE) (w : World) : Prop := ∀ e ∈ J, e.2.1.run P w = .ok (.value e.2.2) w

section
variable (ro : Option Nat) (P : Program) (ops : Array Oper) (B : List Nat) (Q : Exit → Act → World → Prop)
def wpJ : Nat → List JE → Array Bool → Act → World → Prop
  | 0, J, listed, a, w => condJ P J w ∧ Region.ready .any ops listed = [] ∧ Q .normal a w
  | fuel + 1, J, listed, a, w => condJ P J w ∧ (Region.ready .any ops listed = [] → Q .normal a w) ∧
    ∀ j ∈ Region.ready .any ops listed, wpOpIn (Fz ro) 0 P ops Q j (wpJ fuel (J.filter (keepE P ops B j)) (listed.setIfInBounds j true)) a w
end

section
variable {ro : Option Nat} {P : Program} {ops : Array Oper} {B : List Nat} {Q : Exit → Act → World → Prop}

theorem wpJ_cond : ∀ {fuel : Nat} {J : List JE} {listed : Array Bool} {a : Act} {w : World}, wpJ ro P ops B Q fuel J listed a w → condJ P J w
  | 0, _, _, _, _, h => h.1
  | _ + 1, _, _, _, _, h => h.1

theorem wpJ_any : ∀ (fuel : Nat) (J : List JE) (listed : Array Bool) (a : Act) (w : World), wpJ ro P ops B Q fuel J listed a w → wpAnyIn (Fz ro) 0 P .any ops Q fuel listed a w
  | 0, _, _, _, _, h => h.2
  | fuel + 1, _, _, _, _, h => ⟨h.2.1, fun j hj => wpOpIn_mono (fun _ _ q => wpJ_any fuel _ _ _ _ q) (h.2.2 j hj)⟩

theorem wpJ_sub : ∀ (fuel : Nat) (J J' : List JE) (listed : Array Bool) (a : Act) (w : World), (∀ e ∈ J, e ∈ J') → wpJ ro P ops B Q fuel J' listed a w → wpJ ro P ops B Q fuel J listed a w
  | 0, _, _, _, _, _, m, h => ⟨fun e he => h.1 e (m e he), h.2⟩
  | fuel + 1, J, J', _, _, _, m, h => ⟨fun e he => h.1 e (m e he), h.2.1, fun j hj => wpOpIn_mono (fun _ _ q => wpJ_sub fuel _ _ _ _ _ (fun e he => by
      rw [List.mem_filter] at he ⊢
      exact ⟨m e he.1, he.2⟩) q) (h.2.2 j hj)⟩

def Clo (B : List Nat) (listed : Array Bool) : Prop := ∀ k k', listed.getD k false = true → tied B k k' = true → listed.getD k' false = true

theorem chkB_spec {B : List Nat} (h : chkB ops.toList B = true) {j : Nat} {o : Oper} (hj : ops[j]? = some o) {k : Nat} :
    tied B j k = true ↔ ∃ e ∈ o.after, Region.binds .any e = true ∧ (e.on = k ∨ tied B e.on k = true) := by
  have : B.getD j 0 = cmask B o := by
    unfold chkB at h
    rw [List.all_eq_true] at h
    have hm : (o, j) ∈ ops.toList.zipIdx := by
      rw [List.mem_zipIdx_iff_getElem?]
      simpa using hj
    have := h _ hm
    simpa using this
  unfold tied
  rw [this]
  exact cmask_spec o k

theorem chkA_spec {B : List Nat} (h : chkA ops B = true) {i j : Nat} {x y : Oper} (hi : ops[i]? = some x) (hj : ops[j]? = some y) (hne : i ≠ j) (h1 : tied B i j = false) (h2 : tied B j i = false) :
    x.apart ops y = true := by
  unfold chkA at h
  rw [List.all_eq_true] at h
  have hm : (x, i) ∈ ops.toList.zipIdx := by rw [List.mem_zipIdx_iff_getElem?]; simpa using hi
  have hn : (y, j) ∈ ops.toList.zipIdx := by rw [List.mem_zipIdx_iff_getElem?]; simpa using hj
  have := h _ hm
  simp only at this
  rw [List.all_eq_true] at this
  have := this _ hn
  simpa [hne, h1, h2] using this

theorem ready_pred {B : List Nat} (hB : chkB ops.toList B = true) {listed : Array Bool} (c : Clo B listed) {j k : Nat} (hj : j ∈ Region.ready .any ops listed) (t : tied B j k = true) : listed.getD k false = true := by
  obtain ⟨_, o, ho, hall⟩ := mem_ready.1 hj
  obtain ⟨e, he, hb, hk⟩ := (chkB_spec hB ho).1 t
  have := hall e he hb
  rcases hk with rfl | hk
  · exact this
  · exact c _ _ this hk

theorem getD_set {listed : Array Bool} {i k : Nat} (h : (listed.setIfInBounds i true).getD k false = true) : k = i ∨ listed.getD k false = true := by
  by_cases e : i = k
  · exact .inl e.symm
  · rw [getD_set_ne false e] at h; exact .inr h

theorem Clo.step {B : List Nat} (hB : chkB ops.toList B = true) {listed : Array Bool} (c : Clo B listed) {j : Nat} (hj : j ∈ Region.ready .any ops listed) : Clo B (listed.setIfInBounds j true) := by
  intro k k' hk t
  rcases getD_set hk with rfl | hk
  · exact getD_set_true (ready_pred hB c hj t)
  · exact getD_set_true (c k k' hk t)

theorem unlisted {listed : Array Bool} {i : Nat} (h : listed.getD i true = false) : ¬ listed.getD i false = true := by
  rcases Nat.lt_or_ge i listed.size with h' | h'
  · simp [h'] at h ⊢; exact h
  · simp [Array.getElem?_eq_none h'] at h

/-- What an operation that was run ahead tells, told again. -/
def Tells (ops : Array Oper) (oi : Oper) (s : Sem Next) (v : Value) (a : Act) : Prop :=
  (Region.wanted oi (yielded ops a.tmps) = true ∧ execOp a.eval oi = s) ∨ (Region.wanted oi (yielded ops a.tmps) = false ∧ v = undef)

theorem Tells.wpOp {i : Nat} {oi : Oper} {s : Sem Next} {v : Value} {a : Act} {w : World} (hd : ∀ c, oi.op ≠ .defer c) (hi : ops[i]? = some oi) (t : Tells ops oi s v a) (hr : s.run P w = .ok (.value v) w)
    {K : Act → World → Prop} (k : K (a.put oi.dst v) w) : wpOpIn (Fz ro) 0 P ops Q i K a w := by
  unfold Go.wpOpIn
  simp only [hi]
  rcases t with ⟨hw, he⟩ | ⟨hw, rfl⟩
  · simp only [hw, if_true, Oper.wpIn, Oper.semAt_eq _ _ _ hd, he, hr, Oper.uponIn]; exact ⟨fun _ _ => trivial, k⟩
  · simp only [hw, Bool.false_eq_true, if_false]; exact ⟨fun _ _ => trivial, k⟩

theorem Tells.same {oi : Oper} {s : Sem Next} {v : Value} {a a' : Act} (t : Tells ops oi s v a) (he : execOp a'.eval oi = execOp a.eval oi)
    (hw : Region.wanted oi (yielded ops a'.tmps) = Region.wanted oi (yielded ops a.tmps)) : Tells ops oi s v a' := by
  unfold Tells at *
  rw [he, hw]
  exact t

theorem wpOp_putJ {j : Nat} {oi oj : Oper} {s : Sem Next} {v : Value} (hj : ops[j]? = some oj) (hap : oi.apart ops oj = true)
    (hsi : ∀ cs b, oi.op ≠ .select cs b) (hsj : ∀ cs b, oj.op ≠ .select cs b) (hdj : ∀ c, oj.op ≠ .defer c)
    (hQ : ∀ c a w, Q (.panic c) (a.put oi.dst v) w → Q (.panic c) a w) {K : Act → World → Prop} {a : Act} {w : World}
    (hy : Tells ops oi s v a) (h : wpOpIn (Fz ro) 0 P ops Q j K (a.put oi.dst v) w) :
    wpOpIn (Fz ro) 0 P ops Q j (fun a' w' => Tells ops oi s v a' ∧ K (a'.put oi.dst v) w') a w := by
  obtain ⟨h1, h2, h3⟩ := Oper.apart_spec hap
  have keep : ∀ (a : Act), Tells ops oi s v a → ∀ u, Tells ops oi s v (a.put oj.dst u) := fun a hy u =>
    hy.same (execOp_put oi hsi a oj.dst u h3) (wanted_put oi a oj.dst u h3)
  have keepD : ∀ d, Tells ops oi s v { a with defers := d :: a.defers } := fun d => hy.same rfl rfl
  unfold wpOpIn at *
  simp only [hj] at *
  rw [wanted_put oj a oi.dst v h1] at h
  split
  · rename_i hw
    simp only [hw, if_true] at h
    unfold Oper.wpIn at *
    refine ⟨fun _ _ => trivial, ?_⟩
    have h := h.2
    rw [Oper.semAt_eq _ _ _ hdj, execOp_put oj hsj a oi.dst v h1] at h
    rw [Oper.semAt_eq _ _ _ hdj]
    generalize (execOp a.eval oj).run P w = r at *
    cases r with
    | ok n w' =>
      cases n <;> simp only [Oper.uponIn] at h ⊢
      case value u => exact ⟨keep a hy u, by rw [← Act.put_comm a v u h2]; exact h⟩
      case skip => exact ⟨keep a hy _, by rw [← Act.put_comm a v undef h2]; exact h⟩
      case defer d =>
        refine ⟨keep _ (keepD d) _, ?_⟩
        rw [← Act.put_comm _ v undef h2, ← Act.put_defers]
        exact h
      case enter f args =>
        refine ⟨h.1, CallsIn.mono h.2 fun e w'' he => ?_⟩
        cases e with
        | returned u => exact ⟨keep a hy u, by rw [← Act.put_comm a v u h2]; exact he⟩
        | panicked c => exact hQ _ _ _ he
        | outgrown => exact he
      case row row args => exact ⟨h.1, RowsIn.mono h.2 fun u w'' he => ⟨keep a hy u, by rw [← Act.put_comm a v u h2]; exact he⟩⟩
      case round l f tmps assign body =>
        refine ⟨h.1, RoundIn.mono h.2 fun e w'' he => ?_⟩
        cases e with
        | returned u => exact ⟨keep a hy u, by rw [← Act.put_comm a v u h2]; exact he⟩
        | panicked c => exact hQ _ _ _ he
        | outgrown => exact he
    | halt x w' =>
      cases x <;> simp only [Oper.uponIn] at h ⊢
      case panic u => exact hQ _ _ _ h
  · rename_i hw
    simp only [hw] at h
    exact ⟨fun _ _ => trivial, keep a hy _, by rw [← Act.put_comm a v undef h2]; exact h.2⟩

theorem wpJ_first {i : Nat} {oi : Oper} {s : Sem Next} {v : Value} (hB : chkB ops.toList B = true) (hA : chkA ops B = true) (hsel : Region.noSelect ops = true) (hdf : ∀ (j : Nat) (o : Oper), ops[j]? = some o → ∀ c, o.op ≠ .defer c)
    (hi : ops[i]? = some oi) (hq : quietI P ops i = true) (hQ : ∀ c a w, Q (.panic c) (a.put oi.dst v) w → Q (.panic c) a w) :
    ∀ (fuel : Nat) (J : List JE) (listed : Array Bool) (a : Act) (w : World), Clo B listed → i ∈ Region.ready .any ops listed →
      s.run P w = .ok (.value v) w → Tells ops oi s v a →
      wpJ ro P ops B Q fuel ((i, s, v) :: J) (listed.setIfInBounds i true) (a.put oi.dst v) w → wpJ ro P ops B Q (fuel + 1) J listed a w := by
  have hfilt : ∀ J : List JE, J.filter (keepE P ops B i) = J := fun J => List.filter_eq_self.2 fun e _ => by simp [keepE, hq]
  intro fuel
  induction fuel with
  | zero =>
    intro J listed a w c hr hrun ht H
    refine ⟨fun e he => H.1 e (List.mem_cons_of_mem _ he), fun h => (by rw [h] at hr; cases hr), fun j hj => ?_⟩
    by_cases hji : j = i
    · subst hji
      refine ht.wpOp (hdf _ _ hi) hi hrun ?_
      rw [hfilt]
      exact wpJ_sub 0 _ _ _ _ _ (fun e he => List.mem_cons_of_mem _ he) H
    · have := ready_mono hj hji
      rw [H.2.1] at this
      cases this
  | succ fuel ih =>
    intro J listed a w c hr hrun ht H
    refine ⟨fun e he => H.1 e (List.mem_cons_of_mem _ he), fun h => (by rw [h] at hr; cases hr), fun j hj => ?_⟩
    by_cases hji : j = i
    · subst hji
      refine ht.wpOp (hdf _ _ hi) hi hrun ?_
      rw [hfilt]
      exact wpJ_sub _ _ _ _ _ _ (fun e he => List.mem_cons_of_mem _ he) H
    · have h1 := H.2.2 j (ready_mono hj hji)
      obtain ⟨hjun, oj, hoj, _⟩ := mem_ready.1 hj
      have hiun := unlisted (mem_ready.1 hr).1
      have t1 : tied B j i = false := by
        cases t : tied B j i with
        | false => rfl
        | true => exact absurd (ready_pred hB c hj t) hiun
      have t2 : tied B i j = false := by
        cases t : tied B i j with
        | false => rfl
        | true => exact absurd (ready_pred hB c hr t) (unlisted hjun)
      have hap := chkA_spec hA hi hoj (Ne.symm hji) t2 t1
      have h2 := wpOp_putJ hoj hap (Region.noSelect_spec hsel i oi · · hi) (Region.noSelect_spec hsel j oj · · hoj) (hdf _ _ hoj) hQ ht h1
      have hkeep : ((i, s, v) :: J).filter (keepE P ops B j) = (i, s, v) :: J.filter (keepE P ops B j) := by
        rw [List.filter_cons]
        simp [keepE, t1]
      refine wpOpIn_mono (fun a' w' h3 => ?_) h2
      rw [hkeep] at h3
      refine ih _ (listed.setIfInBounds j true) a' w' (c.step hB hj) (ready_mono hr (Ne.symm hji)) ?_ h3.1 ?_
      · exact wpJ_cond h3.2 (i, s, v) (List.mem_cons_self ..)
      · rw [Array.setIfInBounds_comm _ _ hji]
        exact h3.2
end

/-- Does what it tells hang on memory? -/
def readsMem : Op → Bool
  | .load .. | .lookup .. | .convert .. => true
  | .binOp op _ _ _ _ => match op with
    | .eql | .neq => true
    | _ => false
  | .call _ => true
  | .fieldAddr .. | .slice .. | .typeAssert .. => true
  | _ => false

def allP (f : Nat → Prop) : List Nat → Prop
  | [] => True
  | [x] => f x
  | x :: xs => f x ∧ allP f xs
theorem allP_spec {f : Nat → Prop} : ∀ {l : List Nat}, allP f l → ∀ x ∈ l, f x
  | [], _, x, h => by cases h
  | [y], q, x, h => by rw [List.mem_singleton.1 h]; exact q
  | y :: z :: l, q, x, h => by
    rcases List.mem_cons.1 h with rfl | h
    · exact q.1
    · exact allP_spec q.2 x h

abbrev VE := Nat × Sem Value × Value
def recheck (P : Program) (h : Hp) : List VE → Prop → Prop
  | [], R => R
  | e :: J, R => peek P h e.2.1 = some e.2.2 ∧ recheck P h J R
theorem recheck_spec {P : Program} {h : Hp} {R : Prop} : ∀ {J : List VE}, recheck P h J R → (∀ e ∈ J, peek P h e.2.1 = some e.2.2) ∧ R
  | [], q => ⟨fun e he => (by cases he), q⟩
  | x :: J, q => ⟨fun e he => by
      rcases List.mem_cons.1 he with rfl | he
      · exact q.1
      · exact (recheck_spec q.2).1 e he, (recheck_spec q.2).2⟩
theorem recheck_mk {P : Program} {h : Hp} {R : Prop} : ∀ {J : List VE}, (∀ e ∈ J, peek P h e.2.1 = some e.2.2) → R → recheck P h J R
  | [], _, r => r
  | x :: _, q, r => ⟨q x (List.mem_cons_self ..), recheck_mk (fun e he => q e (List.mem_cons_of_mem _ he)) r⟩

def readyM (ms : List Nat) (m i : Nat) : Bool := !m.testBit i && (ms.getD i 0 &&& m == ms.getD i 0)

def keepV (P : Program) (ops : Array Oper) (B : List Nat) (j : Nat) (e : VE) : Bool := quietI P ops j || !tied B j e.1

section
variable (P : Program) (N : Nat) (ops : Array Oper) (B ms qs : List Nat) (Q : Env → Hp → Prop)
/-- ms: each operation's own forerunners; qs: those that only read -/
def vcD : Nat → Nat → List VE → Env → Hp → Prop
  | 0, m, _, env, h => if ((List.range ops.size).filter (readyM ms m)).isEmpty = true then Q env h else False
  | fuel + 1, m, J, env, h =>
    match qs.find? (readyM ms m) with
    | some i => match ops[i]? with
      | some o => guardP ops env o
          (fun env => if fits N env o = true then
            match kindOf (ev env) o with
            | .now v => vcD fuel (m ||| 2 ^ i) J (env.put o.dst v) h
            | .pick c a b => pickP c a b fun v => vcD fuel (m ||| 2 ^ i) J (env.put o.dst v) h
            | .val s => if readsMem o.op = true then q P h s fun v => vcD fuel (m ||| 2 ^ i) ((i, s, v) :: J) (env.put o.dst v) h
                else q P emp s fun v => vcD fuel (m ||| 2 ^ i) J (env.put o.dst v) h
            | _ => False
           else False)
          (fun env => if dstOk N o = true then vcD fuel (m ||| 2 ^ i) J (env.skip o.dst) h else False)
      | none => False
    | none => match (List.range ops.size).filter (readyM ms m) with
      | [] => Q env h
      | rs => allP (fun j => match ops[j]? with
        | some o => guardP ops env o
            (fun env => stepP P N env o h fun v h' => recheck P h' (J.filter (keepV P ops B j)) (vcD fuel (m ||| 2 ^ j) (J.filter (keepV P ops B j)) (env.put o.dst v) h'))
            (fun env => if dstOk N o = true then vcD fuel (m ||| 2 ^ j) (J.filter (keepV P ops B j)) (env.skip o.dst) h else False)
        | none => False) rs
end

theorem peek_emp (P : Program) (h : Hp) {α : Type} (t : Sem α) : ∀ (x : α), peek P emp t = some x → peek P h t = some x := by
  induction t with
  | pure a => exact fun x hx => hx
  | load m a k ih => intro x hx; simp only [peek, Hp.cell, emp] at hx; split at hx <;> rename_i hh <;> first | cases hx | (split at hh <;> cases hh)
  | shape r k ih => intro x hx; simp [peek, Hp.shape, emp] at hx
  | frozen a k ih => intro x hx; simp [peek, Hp.frozen, emp] at hx
  | getObj r k ih => intro x hx; simp [peek, emp] at hx
  | program k ih => exact fun x hx => ih _ x hx
  | mark m k ih => exact fun x hx => ih x hx
  | store m a v k ih => intro x hx; cases hx
  | new o k ih => intro x hx; cases hx
  | freeze a n k ih => intro x hx; cases hx
  | setObj r o k ih => intro x hx; cases hx
  | choose q k ih => intro x hx; cases hx
  | sys c k ih => intro x hx; cases hx
  | halt y => intro x hx; cases hx

def Mrel (ops : Array Oper) (m : Nat) (listed : Array Bool) : Prop := listed.size = ops.size ∧ ∀ i, listed.getD i false = m.testBit i
theorem Mrel.step {ops : Array Oper} {m : Nat} {listed : Array Bool} (r : Mrel ops m listed) {i : Nat} (hi : i < ops.size) : Mrel ops (m ||| 2 ^ i) (listed.setIfInBounds i true) := by
  refine ⟨by simp [r.1], fun k => ?_⟩
  rw [Nat.testBit_or, Nat.testBit_two_pow]
  by_cases e : i = k
  · subst e; simp [r.1, hi]
  · rw [getD_set_ne false e, r.2 k]; simp [e]

theorem readyM_iff {ops : Array Oper} {ms : List Nat} (hm : ms = ops.toList.map dmask) {m : Nat} {listed : Array Bool} (r : Mrel ops m listed) {i : Nat} (hi : i < ops.size) :
    readyM ms m i = true ↔ i ∈ Region.ready .any ops listed := by
  rw [mem_ready]
  have hg : ops[i]? = some ops[i] := by simp [hi]
  have hd : ms.getD i 0 = dmask ops[i] := by subst hm; simp [List.getD_eq_getElem?_getD, hi]
  unfold readyM
  rw [hd, Bool.and_eq_true, Bool.not_eq_true', beq_iff_eq]
  have hl : listed.getD i true = false ↔ m.testBit i = false := by
    rw [← r.2 i]
    have : i < listed.size := by rw [r.1]; exact hi
    simp [this]
  rw [hl]
  refine and_congr_right fun _ => ?_
  constructor
  · intro h
    refine ⟨_, hg, fun e he hb => ?_⟩
    rw [r.2]
    have h1 : (dmask ops[i]).testBit e.on = true := (dmask_spec _ _).2 ⟨e, he, hb, rfl⟩
    rw [← h, Nat.testBit_and, Bool.and_eq_true] at h1
    exact h1.2
  · rintro ⟨o, ho, hall⟩
    rw [hg] at ho
    cases ho
    apply Nat.eq_of_testBit_eq
    intro k
    rw [Nat.testBit_and]
    cases h1 : (dmask ops[i]).testBit k with
    | false => rfl
    | true =>
      obtain ⟨e, he, hb, rfl⟩ := (dmask_spec _ _).1 h1
      rw [← r.2, hall e he hb]
      rfl

/-- An entry of the machine's list, by one of ours or by a tree that asks no memory. -/
def Known (P : Program) (J : List VE) (e : JE) : Prop :=
  ∃ s : Sem Value, ((e.1, s, e.2.2) ∈ J ∨ peek P emp s = some e.2.2) ∧ ∀ (h : Hp) (v : Value), peek P h s = some v → peek P h e.2.1 = some (.value v)

theorem vcD_sound {P : Program} {N : Nat} {ops : Array Oper} {B ms qs : List Nat} {Q : Env → Hp → Prop} {R : Exit → Act → World → Prop} {h0 : Hp} {w0 : World} {ro : Option Nat} {ds : List Deferred}
    (hB : chkB ops.toList B = true) (hA : chkA ops B = true) (hsel : Region.noSelect ops = true) (hdf : ∀ (j : Nat) (o : Oper), ops[j]? = some o → ∀ c, o.op ≠ .defer c) (hms : ms = ops.toList.map dmask) (hqs : ∀ i ∈ qs, quietI P ops i = true)
    (hR : ∀ c a w, ¬ R (.panic c) a w)
    (mQ : ∀ env h a w, Env.ok env N ds a → h.sat w → Fr h0 h w0 w → Q env h → R .normal a w) :
    ∀ (fuel m : Nat) (J : List VE) (Jf : List JE) (listed : Array Bool) (env : Env) (h : Hp) (a : Act) (w : World),
      Mrel ops m listed → Clo B listed → Env.ok env N ds a → h.sat w → Fr h0 h w0 w → (∀ e ∈ Jf, Known P J e) → (∀ e ∈ J, peek P h e.2.1 = some e.2.2) →
      vcD P N ops B ms qs Q fuel m J env h → wpJ ro P ops B R fuel Jf listed a w := by
  intro fuel
  have hcond : ∀ (J : List VE) (Jf : List JE) (h : Hp) (w : World), h.sat w → (∀ e ∈ Jf, Known P J e) → (∀ e ∈ J, peek P h e.2.1 = some e.2.2) → condJ P Jf w := by
    intro J Jf h w s h1 h2 e he
    obtain ⟨t, q | q, m⟩ := h1 e he
    · exact peek_run P _ w _ s (m h _ (h2 _ q))
    · exact peek_run P _ w _ (emp_sat w) (m emp _ q)
  induction fuel with
  | zero =>
    intro m J Jf listed env h a w r c k s f h1 h2 q
    simp only [vcD] at q
    split at q
    case isFalse => exact q.elim
    rename_i he
    rw [List.isEmpty_iff] at he
    refine ⟨hcond J Jf h w s h1 h2, ?_, mQ _ _ _ _ k s f q⟩
    rw [List.eq_nil_iff_forall_not_mem]
    intro i hi
    have hlt : i < ops.size := by
      obtain ⟨_, o, ho, _⟩ := mem_ready.1 hi
      exact (Array.getElem?_eq_some_iff.1 ho).1
    have : i ∈ (List.range ops.size).filter (readyM ms m) := by
      rw [List.mem_filter]
      exact ⟨List.mem_range.2 hlt, (readyM_iff hms r hlt).2 hi⟩
    rw [he] at this
    cases this
  | succ fuel ih =>
    intro m J Jf listed env h a w r c k s f h1 h2 q
    simp only [vcD] at q
    split at q
    · rename_i i hf
      have hrd := List.find?_some hf
      have hmem := List.mem_of_find?_eq_some hf
      split at q
      · rename_i o ho
        have hlt : i < ops.size := (Array.getElem?_eq_some_iff.1 ho).1
        have hir := (readyM_iff hms r hlt).1 hrd
        have r' := r.step hlt
        obtain ⟨env', k, ⟨hw, q⟩ | ⟨hw, q⟩⟩ := guardP_sound k q
        · split at q
          · rename_i hfit
            split at q
            · rename_i v ek
              have hx : execOp a.eval o = .pure (.value v) := by rw [k.exec hfit, kind_now ek]
              refine wpJ_first (s := .pure (.value v)) (v := v) hB hA hsel hdf ho (hqs i hmem) (fun c a w z => (hR _ _ _ z).elim) fuel Jf listed a w c hir rfl (.inl ⟨hw, hx⟩) ?_
              refine ih (m ||| 2 ^ i) J _ _ _ h _ w r' (c.step hB hir) (k.put (fits_dst hfit) v) s f ?_ h2 q
              intro x hx
              rcases List.mem_cons.1 hx with rfl | hx
              · exact ⟨.pure v, .inr rfl, fun h u q => by cases q; rfl⟩
              · exact h1 x hx
            · rename_i cc ca cb ek
              obtain ⟨t, hc, q⟩ := pickP_elim q
              have hx : execOp a.eval o = .pure (.value (cond t ca cb)) := by rw [k.exec hfit, kind_pick ek hc]
              refine wpJ_first (s := .pure (.value (cond t ca cb))) (v := cond t ca cb) hB hA hsel hdf ho (hqs i hmem) (fun c a w z => (hR _ _ _ z).elim) fuel Jf listed a w c hir rfl (.inl ⟨hw, hx⟩) ?_
              refine ih (m ||| 2 ^ i) J _ _ _ h _ w r' (c.step hB hir) (k.put (fits_dst hfit) _) s f ?_ h2 q
              intro x hx
              rcases List.mem_cons.1 hx with rfl | hx
              · exact ⟨.pure (cond t ca cb), .inr rfl, fun h u q => by cases q; rfl⟩
              · exact h1 x hx
            · rename_i t ek
              split at q
              · obtain ⟨v, e, q⟩ := withVal_elim q
                refine wpJ_first (s := execOp (ev env') o) (v := v) hB hA hsel hdf ho (hqs i hmem) (fun c a w z => (hR _ _ _ z).elim) fuel Jf listed a w c hir (pkN_run ek e s) (.inl ⟨hw, k.exec hfit⟩) ?_
                refine ih (m ||| 2 ^ i) _ _ _ _ h _ w r' (c.step hB hir) (k.put (fits_dst hfit) v) s f ?_ ?_ q
                · intro x hx
                  rcases List.mem_cons.1 hx with rfl | hx
                  · exact ⟨t, .inl (List.mem_cons_self ..), (kind_val ek).2 P⟩
                  · obtain ⟨t', q | q, m⟩ := h1 x hx
                    · exact ⟨t', .inl (List.mem_cons_of_mem _ q), m⟩
                    · exact ⟨t', .inr q, m⟩
                · intro x hx
                  rcases List.mem_cons.1 hx with rfl | hx
                  · exact e
                  · exact h2 x hx
              · obtain ⟨v, e, q⟩ := withVal_elim q
                refine wpJ_first (s := execOp (ev env') o) (v := v) hB hA hsel hdf ho (hqs i hmem) (fun c a w z => (hR _ _ _ z).elim) fuel Jf listed a w c hir (pkN_run ek e (emp_sat w)) (.inl ⟨hw, k.exec hfit⟩) ?_
                refine ih (m ||| 2 ^ i) _ _ _ _ h _ w r' (c.step hB hir) (k.put (fits_dst hfit) v) s f ?_ h2 q
                intro x hx
                rcases List.mem_cons.1 hx with rfl | hx
                · exact ⟨t, .inr e, (kind_val ek).2 P⟩
                · exact h1 x hx
            · exact q.elim
          · exact q.elim
        · split at q
          case isFalse => exact q.elim
          rename_i hd
          refine wpJ_first (s := .pure (.value undef)) (v := undef) hB hA hsel hdf ho (hqs i hmem) (fun c a w z => (hR _ _ _ z).elim) fuel Jf listed a w c hir rfl (.inr ⟨hw, rfl⟩) ?_
          refine ih (m ||| 2 ^ i) J _ _ _ h _ w r' (c.step hB hir) (k.skip (dstOk_spec hd)) s f ?_ h2 q
          intro x hx
          rcases List.mem_cons.1 hx with rfl | hx
          · exact ⟨.pure undef, .inr rfl, fun h v q => by cases q; rfl⟩
          · exact h1 x hx
      · exact q.elim
    · have hready : ∀ i ∈ Region.ready .any ops listed, i ∈ (List.range ops.size).filter (readyM ms m) := by
        intro i hi
        have hlt : i < ops.size := by
          obtain ⟨_, o, ho, _⟩ := mem_ready.1 hi
          exact (Array.getElem?_eq_some_iff.1 ho).1
        rw [List.mem_filter]
        exact ⟨List.mem_range.2 hlt, (readyM_iff hms r hlt).2 hi⟩
      refine ⟨hcond J Jf h w s h1 h2, ?_⟩
      split at q
      · rename_i hnil
        have : Region.ready .any ops listed = [] := by
          rw [List.eq_nil_iff_forall_not_mem]
          intro i hi
          have := hready i hi
          rw [hnil] at this
          cases this
        rw [this]
        exact ⟨fun _ => mQ _ _ _ _ k s f q, fun j hj => by cases hj⟩
      · rename_i rs hne
        refine ⟨fun he => ?_, fun j hj => ?_⟩
        · cases hrs : (List.range ops.size).filter (readyM ms m) with
          | nil => exact absurd hrs (by assumption)
          | cons x xs =>
            have hx : x ∈ (List.range ops.size).filter (readyM ms m) := by rw [hrs]; exact List.mem_cons_self ..
            rw [List.mem_filter] at hx
            have := (readyM_iff hms r (List.mem_range.1 hx.1)).1 hx.2
            rw [he] at this
            cases this
        · have q := allP_spec q j (hready j hj)
          split at q
          · rename_i o ho
            have hlt : j < ops.size := (Array.getElem?_eq_some_iff.1 ho).1
            have r' := r.step hlt
            have c' := c.step hB hj
            have hJ : ∀ e ∈ Jf.filter (keepE P ops B j), Known P (J.filter (keepV P ops B j)) e := by
              intro e he
              rw [List.mem_filter] at he
              obtain ⟨t', q | q, m⟩ := h1 e he.1
              · exact ⟨t', .inl (List.mem_filter.2 ⟨q, he.2⟩), m⟩
              · exact ⟨t', .inr q, m⟩
            unfold wpOpIn
            simp only [ho]
            obtain ⟨env', k, ⟨hw, q⟩ | ⟨hw, q⟩⟩ := guardP_sound k q
            · rw [if_pos hw]
              refine (stepP_sound k s q fun v w' h' s' f' k' => ?_).2
              obtain ⟨h2', q⟩ := recheck_spec k'
              exact ih (m ||| 2 ^ j) _ _ _ _ h' _ w' r' c' (k.put (fits_dst (stepP_exec (by assumption)).1) v) s' (f.trans f') hJ h2' q
            · split at q
              case isFalse => exact q.elim
              rename_i hd
              rw [if_neg (by simp [hw])]
              refine ⟨fun _ _ => trivial, ?_⟩
              refine ih (m ||| 2 ^ j) _ _ _ _ h _ w r' c' (k.skip (dstOk_spec hd)) s f hJ (fun e he => h2 e (List.mem_filter.1 he).1) q
          · exact q.elim
end Go.SL
