/- wrapSame_holds wrapSame proved lifted over: part 3 of its proof; each part's own remarks stand with its declarations. Conditions: each lemma names its own. -/
import Derived.Test.YtoikhbagchfeoaaWrapSame2
set_option linter.unusedSimpArgs false
set_option linter.unusedVariables false
set_option linter.unusedSimpArgs false
set_option linter.unusedVariables false
set_option maxRecDepth 100000
set_option maxHeartbeats 1000000
namespace Go.Proofs.Ytoikhbagchfeoaa
open Go Go.SL Go.Pure Go.Curve
/-- Rows of five, one behind the other. -/
theorem flat_get {α : Type} : ∀ {ls : List (List α)} (_ : ∀ l ∈ ls, l.length = 5) {j : Nat} {l : List α} (_ : ls[j]? = some l) {i : Nat} {x : α} (_ : l[i]? = some x), ls.flatten[5 * j + i]? = some x
  | [], _, j, l, e, _, _, _ => by simp at e
  | m :: ls, h, 0, l, e, i, x, hx => by
    obtain rfl : m = l := Option.some.inj e
    have hi := (List.getElem?_eq_some_iff.1 hx).1
    rw [List.flatten_cons, Nat.mul_zero, Nat.zero_add, List.getElem?_append_left hi]
    exact hx
  | m :: ls, h, j + 1, l, e, i, x, hx => by
    have hm := h m (by simp)
    have ih := flat_get (ls := ls) (fun l hl => h l (List.mem_cons_of_mem _ hl)) (j := j) (l := l) e hx
    rw [List.flatten_cons, List.getElem?_append_right (by rw [hm]; omega), hm, show 5 * (j + 1) + i - 5 = 5 * j + i by omega]
    exact ih
theorem flat_set {α : Type} : ∀ {ls : List (List α)} (_ : ∀ l ∈ ls, l.length = 5) {j : Nat} (_ : j < ls.length) (l : List α), (ls.set j l).flatten = ls.flatten.take (5 * j) ++ l ++ ls.flatten.drop (5 * j + 5)
  | [], _, j, hj, l => by simp at hj
  | m :: ls, h, 0, hj, l => by
    have hm := h m (by simp)
    rw [List.set_cons_zero, List.flatten_cons, List.flatten_cons, Nat.mul_zero, List.take_zero, List.nil_append, Nat.zero_add, List.drop_append, List.drop_of_length_le (by omega), hm, List.nil_append]
    rfl
  | m :: ls, h, j + 1, hj, l => by
    have hm := h m (by simp)
    have ih := flat_set (ls := ls) (fun l hl => h l (List.mem_cons_of_mem _ hl)) (j := j) (by simpa using hj) l
    have t1 : (m ++ ls.flatten).take (5 * (j + 1)) = m ++ ls.flatten.take (5 * j) := by
      rw [List.take_append, List.take_of_length_le (by omega), hm, show 5 * (j + 1) - 5 = 5 * j by omega]
    have t2 : (m ++ ls.flatten).drop (5 * (j + 1) + 5) = ls.flatten.drop (5 * j + 5) := by
      rw [List.drop_append, List.drop_of_length_le (by omega), hm, List.nil_append, show 5 * (j + 1) + 5 - 5 = 5 * j + 5 by omega]
    rw [List.set_cons_succ, List.flatten_cons, List.flatten_cons, ih, t1, t2]
    simp only [List.append_assoc]
theorem flat_len {α : Type} : ∀ {ls : List (List α)} (_ : ∀ l ∈ ls, l.length = 5), ls.flatten.length = 5 * ls.length
  | [], _ => rfl
  | m :: ls, h => by
    rw [List.flatten_cons, List.length_append, h m (by simp), flat_len (ls := ls) fun l hl => h l (List.mem_cons_of_mem _ hl), List.length_cons]
    omega
/-- A ladder in memory: u, x2, z2, x3, z3. -/
def LA (h : Hp) (r : Nat) (xs : List F) : Prop := ∃ ls : List (List Nat), ls.length = 5 ∧ (∀ l ∈ ls, Lim l) ∧ ls.map evL = xs ∧ h r = some (.row t_curve_ladder (nv .u64 ls.flatten) 25 (some (0, 0)))
theorem LA.ext {h h' : Hp} {r : Nat} {xs : List F} (a : LA h r xs) (e : Hp.ext h h') : LA h' r xs := by
  obtain ⟨ls, h1, h2, h3, h4⟩ := a
  exact ⟨ls, h1, h2, h3, e _ _ h4⟩
theorem LA.same {h h' : Hp} {r : Nat} {xs : List F} (a : LA h r xs) (e : h' r = h r) : LA h' r xs := by
  obtain ⟨ls, h1, h2, h3, h4⟩ := a
  exact ⟨ls, h1, h2, h3, by rw [e]; exact h4⟩
theorem fl0 {h : Hp} {K : Value → Prop} (b : Nat) : q P h (Instr.fieldAt t_curve_ladder (.pointer (some ⟨b, 0, none⟩)) 0) K = K (.pointer (some ⟨b, 0, none⟩)) := q_of (by kernel_rfl) K
theorem fl1 {h : Hp} {K : Value → Prop} (b : Nat) : q P h (Instr.fieldAt t_curve_ladder (.pointer (some ⟨b, 0, none⟩)) 1) K = K (.pointer (some ⟨b, 5, none⟩)) := q_of (by kernel_rfl) K
theorem fl2' {h : Hp} {K : Value → Prop} (b : Nat) : q P h (Instr.fieldAt t_curve_ladder (.pointer (some ⟨b, 0, none⟩)) 2) K = K (.pointer (some ⟨b, 10, none⟩)) := q_of (by kernel_rfl) K
theorem fl3 {h : Hp} {K : Value → Prop} (b : Nat) : q P h (Instr.fieldAt t_curve_ladder (.pointer (some ⟨b, 0, none⟩)) 3) K = K (.pointer (some ⟨b, 15, none⟩)) := q_of (by kernel_rfl) K
theorem fl4 {h : Hp} {K : Value → Prop} (b : Nat) : q P h (Instr.fieldAt t_curve_ladder (.pointer (some ⟨b, 0, none⟩)) 4) K = K (.pointer (some ⟨b, 20, none⟩)) := q_of (by kernel_rfl) K
theorem pfl0 {h : Hp} (b : Nat) : peek P h (Instr.fieldAt t_curve_ladder (.pointer (some ⟨b, 0, none⟩)) 0) = some (.pointer (some ⟨b, 0, none⟩)) := by kernel_rfl
theorem pfl1 {h : Hp} (b : Nat) : peek P h (Instr.fieldAt t_curve_ladder (.pointer (some ⟨b, 0, none⟩)) 1) = some (.pointer (some ⟨b, 5, none⟩)) := by kernel_rfl
theorem pfl2 {h : Hp} (b : Nat) : peek P h (Instr.fieldAt t_curve_ladder (.pointer (some ⟨b, 0, none⟩)) 2) = some (.pointer (some ⟨b, 10, none⟩)) := by kernel_rfl
theorem pfl3 {h : Hp} (b : Nat) : peek P h (Instr.fieldAt t_curve_ladder (.pointer (some ⟨b, 0, none⟩)) 3) = some (.pointer (some ⟨b, 15, none⟩)) := by kernel_rfl
theorem pfl4 {h : Hp} (b : Nat) : peek P h (Instr.fieldAt t_curve_ladder (.pointer (some ⟨b, 0, none⟩)) 4) = some (.pointer (some ⟨b, 20, none⟩)) := by kernel_rfl
/-- A part of the ladder is read. -/
theorem LA.ld {h : Hp} {r : Nat} {xs : List F} (a : LA h r xs) (j : Nat) {x : F} (hx : xs[j]? = some x) {o : Nat} (ho : o = 5 * j) : ∃ v, VE v x ∧ ∀ h' : Hp, h' r = h r → (peek P h' (Instr.loadAt t_field_Elem (.pointer (some ⟨r, o, none⟩))) = some v ∧ ∀ K : Value → Prop, q P h' (Instr.loadAt t_field_Elem (.pointer (some ⟨r, o, none⟩))) K = K v) := by
  obtain ⟨ls, h1, h2, rfl, h4⟩ := a
  rw [List.getElem?_map] at hx
  obtain ⟨l, hl, rfl⟩ := Option.map_eq_some_iff.1 hx
  have lm := h2 l (List.mem_of_getElem? hl)
  refine ⟨_, ⟨l, rfl, lm, rfl⟩, fun h' e => ?_⟩
  have k : ∀ K : Value → Prop, q P h' (Instr.loadAt t_field_Elem (.pointer (some ⟨r, o, none⟩))) K = K (.agg (nv .u64 l).toArray) := fun K => q_ldPart u_field_Elem rfl (by rw [nv_len, lm.1]; exact sz_elem) (by rw [e]; exact h4) fun i y ey => by
    rw [nv, List.getElem?_map] at ey ⊢
    obtain ⟨z, hz, rfl⟩ := Option.map_eq_some_iff.1 ey
    rw [ho, flat_get (fun l hl => (h2 l hl).1) hl hz]
    rfl
  exact ⟨pk_q k, k⟩
/-- A part of the ladder is written. -/
theorem LA.put {h : Hp} {r : Nat} {xs : List F} (a : LA h r xs) (j : Nat) (hj : j < 5) {v : Value} {x : F} (hv : VE v x) {o : Nat} (ho : o = 5 * j) {F' : Unit → Hp → Prop} (k : ∀ H', LA H' r (xs.set j x) → (∀ b, b ≠ r → H' b = h b) → F' () H') :
    aw P (Instr.storeAt t_field_Elem (.pointer (some ⟨r, o, none⟩)) v) F' h := by
  obtain ⟨ls, h1, h2, rfl, h4⟩ := a
  obtain ⟨l, rfl, lm, rfl⟩ := hv
  have fl := flat_len (fun l hl => (h2 l hl).1)
  have l5 := lm.1
  refine aw_storePart (by rw [nv_len, lm.1]; exact sz_elem) h4 (by rw [nv_len, nv_len, fl]; omega) (nv_flat _ _) (fun i _ => by simp) ?_
  have e : putL (nv .u64 ls.flatten) o (nv .u64 l) = nv .u64 (ls.set j l).flatten := by
    rw [putL_eq _ _ _ (by rw [nv_len, nv_len, fl]; omega), flat_set (fun l hl => (h2 l hl).1) (by omega), nv_app, nv_app, nv_len, l5, ho]
    simp only [nv, List.map_take, List.map_drop]
  rw [e]
  refine k _ ⟨ls.set j l, by rw [List.length_set, h1], fun m hm => ?_, by rw [List.map_set], Hp.set_same ..⟩ fun b hb => Hp.set_ne _ _ hb
  rcases List.mem_or_eq_of_mem_set hm with q | q
  · exact h2 m q
  · rw [q]; exact lm
section
variable {h : Hp} {K : Value → Hp → Prop}
/-- Both pairs are changed about, if a bit is 1. -/
theorem T_swap {r : Nat} {u x2 z2 x3 z3 : F} (bit : Bool) (a : LA h r [u, x2, z2, x3, z3]) (k : ∀ h', LA h' r (if bit then [u, x3, z3, x2, z2] else [u, x2, z2, x3, z3]) → (∀ b, b ≠ r → h' b = h b) → K (.tuple #[]) h') :
    Cn P n_curve_ladder_swap #[.pointer (some ⟨r, 0, none⟩), .int .u64 (if bit then 1 else 0)] h K := by
  refine F_curve_ladder_swap ?_
  unfold s_curve_ladder_swap
  obtain ⟨v1, e1, l1⟩ := a.ld 1 rfl (o := 5) rfl
  obtain ⟨v3, e3, l3⟩ := a.ld 3 rfl (o := 15) rfl
  simp -zeta only [GL, fl1, fl3, fl2', fl4]
  rw [(l1 h rfl).2, (l3 h rfl).2]
  refine V_Swap bit e1 e3 fun s1 s3 f1 f3 => ?_
  rw [ext0, ext1]
  refine a.put 1 (by omega) f1 rfl fun h1 a1 g1 => ?_
  refine a1.put 3 (by omega) f3 rfl fun h2 a2 g2 => ?_
  obtain ⟨v2, e2, l2⟩ := a2.ld 2 (x := z2) (by cases bit <;> rfl) (o := 10) rfl
  obtain ⟨v4, e4, l4⟩ := a2.ld 4 (x := z3) (by cases bit <;> rfl) (o := 20) rfl
  rw [(l2 h2 rfl).2, (l4 h2 rfl).2]
  refine V_Swap bit e2 e4 fun s2 s4 f2 f4 => ?_
  rw [ext0, ext1]
  refine a2.put 2 (by omega) f2 rfl fun h3 a3 g3 => ?_
  refine a3.put 4 (by omega) f4 rfl fun h4 a4 g4 => ?_
  refine k h4 ?_ fun b hb => by rw [g4 b hb, g3 b hb, g2 b hb, g1 b hb]
  cases bit <;> exact a4
/-! ### Two of a step's own -/
def ZA (h : Hp) (r : Nat) : Prop := h r = some (.row t_field_Elem (nv .u64 [0, 0, 0, 0, 0]) 5 (some (0, 0)))
theorem st2 {base H : Hp} {r s : Nat} {v w : Value} {a b : F} (x : Hp.ext base H) (nr : base r = none) (ns : base s = none) (ne : r ≠ s) (zr : ZA H r) (zs : ZA H s) (hv : VE v a) (hw : VE w b) {F' : Value → Value → Hp → Prop}
    (k : ∀ r s H', Hp.ext base H' → EA H' r a → EA H' s b → F' (.pointer (some ⟨r, 0, none⟩)) (.pointer (some ⟨s, 0, none⟩)) H') :
    aw P (Instr.storeAt t_field_Elem (.pointer (some ⟨r, 0, none⟩)) v) (fun _ h => aw P (Instr.storeAt t_field_Elem (.pointer (some ⟨s, 0, none⟩)) w) (fun _ h => F' (.pointer (some ⟨r, 0, none⟩)) (.pointer (some ⟨s, 0, none⟩)) h) h) H := by
  refine aw_putV hv zr rfl fun H1 e1 f1 => ?_
  refine aw_putV hw (by rw [f1 _ (Ne.symm ne)]; exact zs) rfl fun H2 e2 f2 => ?_
  obtain ⟨l, q1, q2⟩ := e1
  exact k r s H2 (ext_of (ext_of x nr f1) ns f2) ⟨l, by rw [f2 _ ne]; exact q1, q2⟩ e2
theorem st2R {base H : Hp} {r : Nat} {v w : Value} {a b : F} (x : Hp.ext base H) (nr : base r = none) (zr : ZA H r) (hv : VE v a) (hw : VE w b) {F' : Value → Value → Hp → Prop}
    (k : ∀ r s H', Hp.ext base H' → EA H' r a → EA H' s b → F' (.pointer (some ⟨r, 0, none⟩)) (.pointer (some ⟨s, 0, none⟩)) H') :
    aw P (Instr.alloc t_field_Elem true (.tuple #[])) (fun t h => aw P (Instr.storeAt t_field_Elem (.pointer (some ⟨r, 0, none⟩)) v) (fun _ h => aw P (Instr.storeAt t_field_Elem t w) (fun _ h => F' (.pointer (some ⟨r, 0, none⟩)) t h) h) h) H := by
  refine aw_allocE x fun s H1 n m x1 y e f => ?_
  exact st2 x1 nr n (by rintro rfl; unfold ZA at zr; rw [m] at zr; cases zr) (y _ _ zr) e hv hw k
theorem st2L {base H : Hp} {s : Nat} {v w : Value} {a b : F} (x : Hp.ext base H) (ns : base s = none) (zs : ZA H s) (hv : VE v a) (hw : VE w b) {F' : Value → Value → Hp → Prop}
    (k : ∀ r s H', Hp.ext base H' → EA H' r a → EA H' s b → F' (.pointer (some ⟨r, 0, none⟩)) (.pointer (some ⟨s, 0, none⟩)) H') :
    aw P (Instr.alloc t_field_Elem true (.tuple #[])) (fun t h => aw P (Instr.storeAt t_field_Elem t v) (fun _ h => aw P (Instr.storeAt t_field_Elem (.pointer (some ⟨s, 0, none⟩)) w) (fun _ h => F' t (.pointer (some ⟨s, 0, none⟩)) h) h) h) H := by
  refine aw_allocE x fun r H1 n m x1 y e f => ?_
  exact st2 x1 n ns (by rintro rfl; unfold ZA at zs; rw [m] at zs; cases zs) e (y _ _ zs) hv hw k
theorem st2A {base H : Hp} {v w : Value} {a b : F} (x : Hp.ext base H) (hv : VE v a) (hw : VE w b) {F' : Value → Value → Hp → Prop}
    (k : ∀ r s H', Hp.ext base H' → EA H' r a → EA H' s b → F' (.pointer (some ⟨r, 0, none⟩)) (.pointer (some ⟨s, 0, none⟩)) H') :
    aw P (Instr.alloc t_field_Elem true (.tuple #[])) (fun t2 h => aw P (Instr.alloc t_field_Elem true (.tuple #[])) (fun t3 h => aw P (Instr.storeAt t_field_Elem t2 v) (fun _ h => aw P (Instr.storeAt t_field_Elem t3 w) (fun _ h => F' t2 t3 h) h) h) h) H := by
  refine aw_allocE x fun r H1 n m x1 y e f => ?_
  exact st2R x1 n e hv hw k
theorem st2B {base H : Hp} {v w : Value} {a b : F} (x : Hp.ext base H) (hv : VE v a) (hw : VE w b) {F' : Value → Value → Hp → Prop}
    (k : ∀ r s H', Hp.ext base H' → EA H' r a → EA H' s b → F' (.pointer (some ⟨r, 0, none⟩)) (.pointer (some ⟨s, 0, none⟩)) H') :
    aw P (Instr.alloc t_field_Elem true (.tuple #[])) (fun t3 h => aw P (Instr.alloc t_field_Elem true (.tuple #[])) (fun t2 h => aw P (Instr.storeAt t_field_Elem t2 v) (fun _ h => aw P (Instr.storeAt t_field_Elem t3 w) (fun _ h => F' t2 t3 h) h) h) h) H := by
  refine aw_allocE x fun s H1 n m x1 y e f => ?_
  exact st2L x1 n e hv hw k
/-- The same, with whatever places of one's own were there. -/
theorem aw_allocN {base H : Hp} {F' : Value → Hp → Prop} (x : Hp.ext base H) (k : ∀ r H', base r = none → Hp.ext base H' → Hp.ext H H' → ZA H' r → (∀ s, ZA H s → s ≠ r ∧ r ≠ s) → F' (.pointer (some ⟨r, 0, none⟩)) H') : aw P (Instr.alloc t_field_Elem true (.tuple #[])) F' H :=
  aw_allocE x fun r H' n m x1 y e _ => k r H' n x1 y e fun s z => by
    have : s ≠ r := by rintro rfl; unfold ZA at z; rw [m] at z; cases z
    exact ⟨this, Ne.symm this⟩
theorem ZA.ext {h h' : Hp} {r : Nat} (z : ZA h r) (x : Hp.ext h h') : ZA h' r := x _ _ z
theorem EA.ldx {h : Hp} {r : Nat} {x : F} (a : EA h r x) : ∃ v, VE v x ∧ ∀ h' : Hp, Hp.ext h h' → (peek P h' (Instr.loadAt t_field_Elem (.pointer (some ⟨r, 0, none⟩))) = some v ∧ ∀ K : Value → Prop, q P h' (Instr.loadAt t_field_Elem (.pointer (some ⟨r, 0, none⟩))) K = K v) := by
  obtain ⟨v, hv, l⟩ := a.ld
  obtain ⟨m, e, _⟩ := a
  exact ⟨v, hv, fun h' x => l h' (by rw [x _ _ e, e])⟩
theorem LA.ldx {h : Hp} {r : Nat} {xs : List F} (a : LA h r xs) (j : Nat) {x : F} (hx : xs[j]? = some x) {o : Nat} (ho : o = 5 * j) : ∃ v, VE v x ∧ ∀ h' : Hp, Hp.ext h h' → (peek P h' (Instr.loadAt t_field_Elem (.pointer (some ⟨r, o, none⟩))) = some v ∧ ∀ K : Value → Prop, q P h' (Instr.loadAt t_field_Elem (.pointer (some ⟨r, o, none⟩))) K = K v) := by
  obtain ⟨v, hv, l⟩ := a.ld j hx ho
  obtain ⟨m, _, _, _, e⟩ := a
  exact ⟨v, hv, fun h' x => l h' (by rw [x _ _ e, e])⟩
end
end Go.Proofs.Ytoikhbagchfeoaa
set_option linter.unusedSimpArgs false
set_option linter.unusedVariables false
set_option maxRecDepth 100000
set_option maxHeartbeats 1000000
namespace Go.Proofs.Ytoikhbagchfeoaa
open Go Go.SL Go.Pure Go.Curve
theorem EA.same {h h' : Hp} {r : Nat} {x : F} (a : EA h r x) (e : h' r = h r) : EA h' r x := by
  obtain ⟨l, h1, h2, h3⟩ := a
  exact ⟨l, by rw [e]; exact h1, h2, h3⟩
theorem EA.ne {h : Hp} {r s : Nat} {x : F} {xs : List F} (a : EA h r x) (b : LA h s xs) : r ≠ s := by
  rintro rfl
  obtain ⟨l, h1, _⟩ := a
  obtain ⟨m, _, _, _, h2⟩ := b
  rw [h1] at h2
  have := congrArg (fun o => match o with | some (AObj.row t _ _ _) => t | _ => 0) h2
  exact absurd this (show ¬ (t_field_Elem = t_curve_ladder) from by decide)
section
variable {h : Hp} {K : Value → Hp → Prop}
theorem T_step {r : Nat} {u x2 z2 x3 z3 : F} (a : LA h r [u, x2, z2, x3, z3])
    (k : ∀ h', LA h' r [u, (stepF 121665 u (x2, z2, x3, z3)).1, (stepF 121665 u (x2, z2, x3, z3)).2.1, (stepF 121665 u (x2, z2, x3, z3)).2.2.1, (stepF 121665 u (x2, z2, x3, z3)).2.2.2] → (∀ b o, b ≠ r → h b = some o → h' b = some o) → K (.tuple #[]) h') :
    Cn P n_curve_ladder_step #[.pointer (some ⟨r, 0, none⟩)] h K := by
  refine F_curve_ladder_step ?_
  unfold s_curve_ladder_step
  have x0 : Hp.ext h h := .refl h
  have k1 : ∀ r2 r3 H, Hp.ext h H → EA H r2 (x2 + z2) → EA H r3 (x2 - z2) → s_curve_ladder_step_1 K H (.pointer (some ⟨r, 0, none⟩)) (.pointer (some ⟨r2, 0, none⟩)) (.pointer (some ⟨r3, 0, none⟩)) := by
    intro r2 r3 H xH ea eb
    clear x0
    have x0 : Hp.ext H H := .refl H
    unfold s_curve_ladder_step_1
    have k2 : ∀ r4 r5 H', Hp.ext H H' → EA H' r4 ((x2 + z2) * (x2 + z2)) → EA H' r5 ((x2 - z2) * (x2 - z2)) → s_curve_ladder_step_2 K H' (.pointer (some ⟨r, 0, none⟩)) (.pointer (some ⟨r2, 0, none⟩)) (.pointer (some ⟨r3, 0, none⟩)) (.pointer (some ⟨r4, 0, none⟩)) (.pointer (some ⟨r5, 0, none⟩)) := by
      intro r4 r5 H2 x2H e4 e5
      replace ea := ea.ext x2H
      replace eb := eb.ext x2H
      replace xH := xH.trans x2H
      clear x0 x2H
      unfold s_curve_ladder_step_2
      obtain ⟨v4, p4, l4⟩ := e4.ldx
      obtain ⟨v5, p5, l5⟩ := e5.ldx
      rw [(l4 H2 (.refl _)).2, (l5 H2 (.refl _)).2]
      refine V_Sub p4 p5 fun v6 p6 => ?_
      refine aw_allocE (.refl H2) fun r6 H3 n6 m6 x6 y6 e6 f6 => aw_putV p6 e6 rfl fun H4 e6' f6' => ?_
      have x4 := ext_of x6 n6 f6'
      clear l4 l5 p4 p5 p6 e6 f6 f6' y6
      replace ea := ea.ext x4
      replace eb := eb.ext x4
      replace e4 := e4.ext x4
      replace e5 := e5.ext x4
      replace xH := xH.trans x4
      clear x4 x6 n6 m6
      unfold s_curve_ladder_step_3
      have aH := a.ext xH
      have x0 : Hp.ext H4 H4 := .refl H4
      have k3 : ∀ r7 r8 H', Hp.ext H4 H' → EA H' r7 ((x3 - z3) * (x2 + z2)) → EA H' r8 ((x3 + z3) * (x2 - z2)) → s_curve_ladder_step_4 K H' (.pointer (some ⟨r, 0, none⟩)) (.pointer (some ⟨r4, 0, none⟩)) (.pointer (some ⟨r5, 0, none⟩)) (.pointer (some ⟨r6, 0, none⟩)) (.pointer (some ⟨r7, 0, none⟩)) (.pointer (some ⟨r8, 0, none⟩)) := by
        intro r7 r8 H5 x5 e7 e8
        replace e4 := e4.ext x5
        replace e5 := e5.ext x5
        replace e6' := e6'.ext x5
        replace xH := xH.trans x5
        replace aH := aH.ext x5
        clear x0 x5 ea eb
        have d4 := e4.ne aH
        have d5 := e5.ne aH
        have d6 := e6'.ne aH
        have d7 := e7.ne aH
        have d8 := e8.ne aH
        unfold s_curve_ladder_step_4
        obtain ⟨v7, p7, l7⟩ := e7.ld
        obtain ⟨v8, p8, l8⟩ := e8.ld
        rw [(l7 H5 rfl).2, (l8 H5 rfl).2]
        refine V_Add p7 p8 fun w1 q1 => V_Square q1 fun w2 q2 => ?_
        simp -zeta only [GL, fl3]
        refine aH.put 3 (by omega) q2 rfl fun H6 a6 g6 => ?_
        unfold s_curve_ladder_step_5
        simp -zeta only [GL, fl0, fl4]
        obtain ⟨vu, pu, lu⟩ := a6.ld 0 (x := u) rfl (o := 0) rfl
        rw [(lu H6 rfl).2, (l7 H6 (g6 _ d7)).2, (l8 H6 (g6 _ d8)).2]
        refine V_Sub p7 p8 fun w3 q3 => ⟨(lu H6 rfl).1, pfl0 r, V_Square q3 fun w4 q4 => ⟨(lu H6 rfl).1, pfl0 r, V_Mul pu q4 fun w5 q5 => ?_⟩⟩
        refine a6.put 4 (by omega) q5 rfl fun H7 a7 g7 => ?_
        unfold s_curve_ladder_step_6
        obtain ⟨v4, p4, l4⟩ := e4.ld
        obtain ⟨v5, p5, l5⟩ := e5.ld
        have h4 : H7 r4 = H5 r4 := by rw [g7 _ d4, g6 _ d4]
        have h5 : H7 r5 = H5 r5 := by rw [g7 _ d5, g6 _ d5]
        rw [(l4 H7 h4).2, (l5 H7 h5).2]
        refine V_Mul p4 p5 fun w6 q6 => ?_
        simp -zeta only [GL, fl1]
        refine a7.put 1 (by omega) q6 rfl fun H8 a8 g8 => ?_
        unfold s_curve_ladder_step_7
        obtain ⟨v6, p6, l6⟩ := e6'.ld
        have h6 : H8 r6 = H5 r6 := by rw [g8 _ d6, g7 _ d6, g6 _ d6]
        have h4' : H8 r4 = H5 r4 := by rw [g8 _ d4, h4]
        rw [(l6 H8 h6).2, (l4 H8 h4').2, (l6 H8 h6).2]
        refine V_Times 121665 (by omega) p6 fun w7 q7 => ⟨(l4 H8 h4').1, (l6 H8 h6).1, V_Add p4 q7 fun w8 q8 => ⟨(l6 H8 h6).1, V_Mul p6 q8 fun w9 q9 => ?_⟩⟩
        simp -zeta only [GL, fl2']
        refine a8.put 2 (by omega) q9 rfl fun H9 a9 g9 => ?_
        refine k H9 ?_ fun b o hb e => by rw [g9 b hb, g8 b hb, g7 b hb, g6 b hb]; exact xH _ _ e
        have e1 : ∀ y : F, y * ph 121665 = 121665 * y := fun y => by rw [show ph 121665 = (121665 : F) from by decide +kernel]; grobner
        have := a9
        rw [e1] at this
        exact this
      clear k
      simp -zeta only [GL, fl3, fl4]
      obtain ⟨y3, p3, l3⟩ := aH.ldx 3 (x := x3) rfl (o := 15) rfl
      obtain ⟨y4, p4, l4⟩ := aH.ldx 4 (x := z3) rfl (o := 20) rfl
      obtain ⟨ya, pa, la⟩ := ea.ldx
      obtain ⟨yb, pb, lb⟩ := eb.ldx
      rw [(l3 H4 x0).2, (l4 H4 x0).2, (la H4 x0).2, (l3 H4 x0).2, (l4 H4 x0).2, (lb H4 x0).2]
      clear xH ea eb e4 e5 e6' aH a
      repeat' (first
        | with_reducible exact pfl3 _ | with_reducible exact pfl4 _
        | with_reducible exact (l3 _ (by assumption)).1 | with_reducible exact (l4 _ (by assumption)).1 | with_reducible exact (la _ (by assumption)).1 | with_reducible exact (lb _ (by assumption)).1
        | with_reducible refine ⟨?_, ?_⟩
        | with_reducible refine V_Mul (by assumption) (by assumption) fun _ _ => ?_
        | with_reducible refine V_Add (by assumption) (by assumption) fun _ _ => ?_
        | with_reducible refine V_Sub (by assumption) (by assumption) fun _ _ => ?_
        | with_reducible exact st2A (F' := fun s t h => s_curve_ladder_step_4 K h (.pointer (some ⟨r, 0, none⟩)) (.pointer (some ⟨r4, 0, none⟩)) (.pointer (some ⟨r5, 0, none⟩)) (.pointer (some ⟨r6, 0, none⟩)) s t) (base := H4) (by assumption) (by assumption) (by assumption) k3
        | with_reducible exact st2B (F' := fun s t h => s_curve_ladder_step_4 K h (.pointer (some ⟨r, 0, none⟩)) (.pointer (some ⟨r4, 0, none⟩)) (.pointer (some ⟨r5, 0, none⟩)) (.pointer (some ⟨r6, 0, none⟩)) s t) (base := H4) (by assumption) (by assumption) (by assumption) k3
        | with_reducible exact st2R (F' := fun s t h => s_curve_ladder_step_4 K h (.pointer (some ⟨r, 0, none⟩)) (.pointer (some ⟨r4, 0, none⟩)) (.pointer (some ⟨r5, 0, none⟩)) (.pointer (some ⟨r6, 0, none⟩)) s t) (base := H4) (by assumption) (by assumption) (by assumption) (by assumption) (by assumption) k3
        | with_reducible exact st2L (F' := fun s t h => s_curve_ladder_step_4 K h (.pointer (some ⟨r, 0, none⟩)) (.pointer (some ⟨r4, 0, none⟩)) (.pointer (some ⟨r5, 0, none⟩)) (.pointer (some ⟨r6, 0, none⟩)) s t) (base := H4) (by assumption) (by assumption) (by assumption) (by assumption) (by assumption) k3
        | with_reducible exact st2 (F' := fun s t h => s_curve_ladder_step_4 K h (.pointer (some ⟨r, 0, none⟩)) (.pointer (some ⟨r4, 0, none⟩)) (.pointer (some ⟨r5, 0, none⟩)) (.pointer (some ⟨r6, 0, none⟩)) s t) (base := H4) (by assumption) (by assumption) (by assumption) (by first | exact (‹∀ s, ZA _ s → s ≠ _ ∧ _ ≠ s› _ (by assumption)).1 | exact (‹∀ s, ZA _ s → s ≠ _ ∧ _ ≠ s› _ (by assumption)).2) (by first | assumption | exact ZA.ext (by assumption) (by assumption)) (by first | assumption | exact ZA.ext (by assumption) (by assumption)) (by assumption) (by assumption) k3
        | with_reducible refine aw_allocN (base := H4) (by assumption) fun _ _ _ _ _ _ _ => ?_)
    clear k
    obtain ⟨ya, pa, la⟩ := ea.ldx
    obtain ⟨yb, pb, lb⟩ := eb.ldx
    rw [(la H x0).2, (lb H x0).2]
    clear xH ea eb a
    repeat' (first
      | with_reducible exact (la _ (by assumption)).1 | with_reducible exact (lb _ (by assumption)).1
      | with_reducible refine ⟨?_, ?_⟩
      | with_reducible refine V_Square (by assumption) fun _ _ => ?_
      | with_reducible exact st2A (F' := fun s t h => s_curve_ladder_step_2 K h (.pointer (some ⟨r, 0, none⟩)) (.pointer (some ⟨r2, 0, none⟩)) (.pointer (some ⟨r3, 0, none⟩)) s t) (base := H) (by assumption) (by assumption) (by assumption) k2
      | with_reducible exact st2B (F' := fun s t h => s_curve_ladder_step_2 K h (.pointer (some ⟨r, 0, none⟩)) (.pointer (some ⟨r2, 0, none⟩)) (.pointer (some ⟨r3, 0, none⟩)) s t) (base := H) (by assumption) (by assumption) (by assumption) k2
      | with_reducible exact st2R (F' := fun s t h => s_curve_ladder_step_2 K h (.pointer (some ⟨r, 0, none⟩)) (.pointer (some ⟨r2, 0, none⟩)) (.pointer (some ⟨r3, 0, none⟩)) s t) (base := H) (by assumption) (by assumption) (by assumption) (by assumption) (by assumption) k2
      | with_reducible exact st2L (F' := fun s t h => s_curve_ladder_step_2 K h (.pointer (some ⟨r, 0, none⟩)) (.pointer (some ⟨r2, 0, none⟩)) (.pointer (some ⟨r3, 0, none⟩)) s t) (base := H) (by assumption) (by assumption) (by assumption) (by assumption) (by assumption) k2
      | with_reducible exact st2 (F' := fun s t h => s_curve_ladder_step_2 K h (.pointer (some ⟨r, 0, none⟩)) (.pointer (some ⟨r2, 0, none⟩)) (.pointer (some ⟨r3, 0, none⟩)) s t) (base := H) (by assumption) (by assumption) (by assumption) (by first | exact (‹∀ s, ZA _ s → s ≠ _ ∧ _ ≠ s› _ (by assumption)).1 | exact (‹∀ s, ZA _ s → s ≠ _ ∧ _ ≠ s› _ (by assumption)).2) (by first | assumption | exact ZA.ext (by assumption) (by assumption)) (by first | assumption | exact ZA.ext (by assumption) (by assumption)) (by assumption) (by assumption) k2
      | with_reducible refine aw_allocN (base := H) (by assumption) fun _ _ _ _ _ _ _ => ?_)
  clear k
  simp -zeta only [GL, fl1, fl2']
  obtain ⟨y2, p2, l2⟩ := a.ldx 1 (x := x2) rfl (o := 5) rfl
  obtain ⟨y3, p3, l3⟩ := a.ldx 2 (x := z2) rfl (o := 10) rfl
  rw [(l2 h x0).2, (l3 h x0).2, (l2 h x0).2, (l3 h x0).2]
  clear a
  repeat' (first
    | with_reducible exact pfl1 _ | with_reducible exact pfl2 _ | with_reducible exact (l2 _ (by assumption)).1 | with_reducible exact (l3 _ (by assumption)).1
    | with_reducible refine ⟨?_, ?_⟩
    | with_reducible refine V_Add (by assumption) (by assumption) fun _ _ => ?_
    | with_reducible refine V_Sub (by assumption) (by assumption) fun _ _ => ?_
    | with_reducible exact st2A (F' := fun s t h => s_curve_ladder_step_1 K h (.pointer (some ⟨r, 0, none⟩)) s t) (base := h) (by assumption) (by assumption) (by assumption) k1
    | with_reducible exact st2B (F' := fun s t h => s_curve_ladder_step_1 K h (.pointer (some ⟨r, 0, none⟩)) s t) (base := h) (by assumption) (by assumption) (by assumption) k1
    | with_reducible exact st2R (F' := fun s t h => s_curve_ladder_step_1 K h (.pointer (some ⟨r, 0, none⟩)) s t) (base := h) (by assumption) (by assumption) (by assumption) (by assumption) (by assumption) k1
    | with_reducible exact st2L (F' := fun s t h => s_curve_ladder_step_1 K h (.pointer (some ⟨r, 0, none⟩)) s t) (base := h) (by assumption) (by assumption) (by assumption) (by assumption) (by assumption) k1
    | with_reducible exact st2 (F' := fun s t h => s_curve_ladder_step_1 K h (.pointer (some ⟨r, 0, none⟩)) s t) (base := h) (by assumption) (by assumption) (by assumption) (by first | exact (‹∀ s, ZA _ s → s ≠ _ ∧ _ ≠ s› _ (by assumption)).1 | exact (‹∀ s, ZA _ s → s ≠ _ ∧ _ ≠ s› _ (by assumption)).2) (by first | assumption | exact ZA.ext (by assumption) (by assumption)) (by first | assumption | exact ZA.ext (by assumption) (by assumption)) (by assumption) (by assumption) k1
    | with_reducible refine aw_allocN (base := h) (by assumption) fun _ _ _ _ _ _ _ => ?_)
end
end Go.Proofs.Ytoikhbagchfeoaa
set_option linter.unusedSimpArgs false
set_option linter.unusedVariables false
set_option maxRecDepth 100000
namespace Go.SL
open Go
theorem baToList (s : ByteArray) : s.toList = s.data.toList := by
  have key : ∀ (n i : Nat) (r : List UInt8), s.size - i = n → i ≤ s.size → ByteArray.toList.loop s i r = r.reverse ++ s.data.toList.drop i := by
    intro n
    induction n with
    | zero =>
      intro i r h h2
      rw [ByteArray.toList.loop.eq_def, if_neg (by omega), List.drop_of_length_le (by rw [Array.length_toList]; show s.size ≤ i; omega)]
      simp
    | succ n ih =>
      intro i r h h2
      have hlt : i < s.data.toList.length := by rw [Array.length_toList]; show i < s.size; omega
      rw [ByteArray.toList.loop.eq_def, if_pos (by omega), ih (i + 1) _ (by omega) (by omega), List.drop_eq_getElem_cons hlt]
      have : s.get! i = s.data.toList[i] := by
        show s.data[i]! = _
        rw [getElem!_pos s.data i (by show i < s.size; omega)]
        simp
      rw [this]
      simp
  have := key s.size 0 [] (by omega) (by omega)
  show ByteArray.toList.loop s 0 [] = _
  rw [this]
  simp
theorem strL_data (l : List Nat) : (strL l).data.toList = l.map UInt8.ofNat := by
  have key : ∀ (l : List Nat) (s : ByteArray), (l.foldl (fun s x => s.push (UInt8.ofNat x)) s).data.toList = s.data.toList ++ l.map UInt8.ofNat := by
    intro l
    induction l with
    | nil => intro s; simp
    | cons x l ih =>
      intro s
      rw [List.foldl_cons, ih]
      show (s.data.push (UInt8.ofNat x)).toList ++ _ = _
      simp
  have := key l ByteArray.empty
  simpa [strL] using this
theorem u8_inj {l m : List Nat} (hl : ∀ x ∈ l, x < 256) (hm : ∀ x ∈ m, x < 256) (e : l.map UInt8.ofNat = m.map UInt8.ofNat) : l = m := by
  induction l generalizing m with
  | nil => cases m with
    | nil => rfl
    | cons y m => cases e
  | cons x l ih => cases m with
    | nil => cases e
    | cons y m =>
      simp only [List.map_cons, List.cons.injEq] at e
      have hx := hl x (List.mem_cons_self ..)
      have hy := hm y (List.mem_cons_self ..)
      have : x = y := by
        have := congrArg UInt8.toNat e.1
        simpa [UInt8.toNat_ofNat', Nat.mod_eq_of_lt hx, Nat.mod_eq_of_lt hy] using this
      rw [this, ih (fun z hz => hl z (List.mem_cons_of_mem _ hz)) (fun z hz => hm z (List.mem_cons_of_mem _ hz)) e.2]
section
variable {P : Program}
/-- A row of cells at a place. -/
theorem rd_at {t e : Nat} {h : Hp} {v : Value} {xs : List Value} {n i : Nat} {y : Value} (ht : P.underlying t = some (.slice e)) (hs : sz P e = some 1) (r : Rds h 1 v xs n) (hi : xs[i]? = some y) :
    ∃ p : Addr, (∀ {h' : Hp} {K : Value → Prop}, q P h' (Instr.indexAt t v (.int .i64 (i : Int))) K = K (.pointer (some p))) ∧ h.cell p = some y := by
  obtain ⟨hl, a, c, rfl, hc, h0⟩ := r
  have hlt := (List.getElem?_eq_some_iff.1 hi).1
  rcases h0 with h0 | ⟨b, o, rfl, hx⟩
  · omega
  have hx := hx i y hi
  refine ⟨_, fun {h' K} => q_idxS ht hs _ _ _ _ _ (by omega) (by omega), ?_⟩
  rw [show (Addr.add ⟨b, o, none⟩ (((i : Nat) : Int).toNat * 1)) = ⟨b, o + i, none⟩ by rw [Int.toNat_natCast, Nat.mul_one]; simp [Addr.add]]
  exact hx
end
end Go.SL
set_option linter.unusedSimpArgs false
set_option linter.unusedVariables false
set_option maxRecDepth 100000
set_option maxHeartbeats 1000000
namespace Go.Proofs.Ytoikhbagchfeoaa
open Go Go.SL Go.Pure Go.Curve
theorem ladF_app (c u : F) : ∀ (l : List Bool) (b : Bool) (s : F × F × F × F), ladF c u (l ++ [b]) s = bitF c u b (ladF c u l s)
  | [], b, s => rfl
  | a :: l, b, s => ladF_app c u l b _
theorem bitsN_len (x : Nat) : ∀ n, (bitsN x n).length = n
  | 0 => rfl
  | n + 1 => by rw [bitsN, List.length_cons, bitsN_len x n]
theorem bitsN_get (x : Nat) : ∀ n i, i < n → (bitsN x n)[i]? = some (x.testBit (n - 1 - i))
  | n + 1, 0, h => rfl
  | n + 1, i + 1, h => by
    show (bitsN x n)[i]? = _
    rw [bitsN_get x n i (by omega)]
    congr 2
    omega
theorem leval_bit {l : List Nat} (h : Bytes l) {q r : Nat} (hq : q < l.length) (hr : r < 8) : (leval l).testBit (8 * q + r) = decide (l.getD q 0 / 2 ^ r % 2 = 1) := by
  have e1 : leval (l.drop q) = leval l / 256 ^ q := leval_drop_div h (by omega)
  have e2 : l.drop q = l.getD q 0 :: l.drop (q + 1) := by
    rw [List.getD_eq_getElem?_getD, List.getElem?_eq_getElem hq]
    exact (List.drop_eq_getElem_cons hq)
  rw [e2, leval] at e1
  rw [Nat.testBit_eq_decide_div_mod_eq, Nat.pow_add, ← pow256, ← Nat.div_div_eq_div_mul, ← e1]
  congr 1
  have hb := h.getD q
  generalize l.getD q 0 = x at *
  generalize leval (l.drop (q + 1)) = y
  match r with
  | 0 => show ((x + 256 * y) / 1 % 2 = 1) = (x / 1 % 2 = 1); rw [show (x + 256 * y) / 1 % 2 = x / 1 % 2 by omega]
  | 1 => show ((x + 256 * y) / 2 % 2 = 1) = (x / 2 % 2 = 1); rw [show (x + 256 * y) / 2 % 2 = x / 2 % 2 by omega]
  | 2 => show ((x + 256 * y) / 4 % 2 = 1) = (x / 4 % 2 = 1); rw [show (x + 256 * y) / 4 % 2 = x / 4 % 2 by omega]
  | 3 => show ((x + 256 * y) / 8 % 2 = 1) = (x / 8 % 2 = 1); rw [show (x + 256 * y) / 8 % 2 = x / 8 % 2 by omega]
  | 4 => show ((x + 256 * y) / 16 % 2 = 1) = (x / 16 % 2 = 1); rw [show (x + 256 * y) / 16 % 2 = x / 16 % 2 by omega]
  | 5 => show ((x + 256 * y) / 32 % 2 = 1) = (x / 32 % 2 = 1); rw [show (x + 256 * y) / 32 % 2 = x / 32 % 2 by omega]
  | 6 => show ((x + 256 * y) / 64 % 2 = 1) = (x / 64 % 2 = 1); rw [show (x + 256 * y) / 64 % 2 = x / 64 % 2 by omega]
  | 7 => show ((x + 256 * y) / 128 % 2 = 1) = (x / 128 % 2 = 1); rw [show (x + 256 * y) / 128 % 2 = x / 128 % 2 by omega]
/-- A scalar's bits, the highest first. -/
def bitsK (k : List Nat) : List Bool := bitsN (leval k) 255
def lst (u : F) (s : F × F × F × F) : List F := [u, s.1, s.2.1, s.2.2.1, s.2.2.2]
theorem swap_lst (u : F) (b : Bool) (s : F × F × F × F) : (if b then [u, s.2.2.1, s.2.2.2, s.1, s.2.1] else [u, s.1, s.2.1, s.2.2.1, s.2.2.2]) = lst u (swapF b s) := by
  cases b <;> rfl
theorem swap_swap (a b : Bool) (s : F × F × F × F) : swapF (a ^^ b) (swapF a s) = swapF b s := by cases a <;> cases b <;> rfl
theorem swap_self (a : Bool) (s : F × F × F × F) : swapF a (swapF a s) = s := by cases a <;> rfl
theorem bit_swap (c u : F) (b : Bool) (s : F × F × F × F) : stepF c u (swapF b s) = swapF b (bitF c u b s) := by rw [bitF, swap_self]
theorem ixor_bits (a b : Bool) : ixor .u64 (if a then 1 else 0) (if b then 1 else 0) = (if (a ^^ b) then 1 else 0) := by cases a <;> cases b <;> decide
theorem and_one {x : Nat} (hx : x < 18446744073709551616) : iand .u64 (x : Int) 1 = (if decide (x % 2 = 1) then 1 else 0) := by
  rw [and64 (by omega) (by omega) (by omega) (by omega), Int.toNat_natCast]
  show ((x &&& 1 : Nat) : Int) = _
  rw [Nat.and_one_is_mod]
  rcases Nat.mod_two_eq_zero_or_one x with h | h <;> rw [h] <;> rfl
theorem at_k {i : Nat} (hi : i < 255) : IntKind.i64.wrap (254 - (i : Int)) = ((254 - i : Nat) : Int) ∧ IntKind.i64.wrap (((254 - i : Nat) : Int).tdiv 8) = (((254 - i) / 8 : Nat) : Int) ∧ ((254 - i : Nat) : Int).tmod 8 = (((254 - i) % 8 : Nat) : Int) := by
  refine ⟨by rw [wi64 (by omega) (by omega)]; omega, ?_, ?_⟩
  · rw [Int.tdiv_eq_ediv_of_nonneg (by omega), wi64 (by omega) (by omega)]; omega
  · rw [Int.tmod_eq_emod_of_nonneg (by omega)]; omega
theorem shr8N (a n : Nat) (hn : n ≤ 8) : ((a : Int).fdiv (2 ^ min n IntKind.u8.bits)) = ((a / 2 ^ n : Nat) : Int) := by
  have : min n IntKind.u8.bits = n := by simp only [IntKind.bits]; omega
  rw [this, fdivp]
theorem bld_ladder {h : Hp} {K : Value → Prop} {a b c d : Value} {x y z w : F} (ha : VE a x) (hb : VE b y) (hc : VE c z) (hd : VE d w) :
    ∃ ls : List (List Nat), ls.length = 5 ∧ (∀ l ∈ ls, Lim l) ∧ ls.map evL = [x, y, 0, z, w] ∧ q P h (Instr.build t_curve_ladder #[(0, a), (1, b), (3, c), (4, d)]) K = K (.agg (nv .u64 ls.flatten).toArray) := by
  obtain ⟨l0, rfl, m0, rfl⟩ := ha
  obtain ⟨l1, rfl, m1, rfl⟩ := hb
  obtain ⟨l3, rfl, m3, rfl⟩ := hc
  obtain ⟨l4, rfl, m4, rfl⟩ := hd
  have z0 : evL [0, 0, 0, 0, 0] = 0 := by decide +kernel
  refine ⟨[l0, l1, [0, 0, 0, 0, 0], l3, l4], rfl, ?_, by simp only [List.map_cons, List.map_nil, z0], ?_⟩
  · intro l hl
    simp only [List.mem_cons, List.not_mem_nil, or_false] at hl
    rcases hl with rfl | rfl | rfl | rfl | rfl
    · exact m0
    · exact m1
    · exact lim5 (by omega) (by omega) (by omega) (by omega) (by omega)
    · exact m3
    · exact m4
  · obtain ⟨a0, a1, a2, a3, a4, rfl⟩ := len5 m0.1
    obtain ⟨b0, b1, b2, b3, b4, rfl⟩ := len5 m1.1
    obtain ⟨c0, c1, c2, c3, c4, rfl⟩ := len5 m3.1
    obtain ⟨d0, d1, d2, d3, d4, rfl⟩ := len5 m4.1
    exact q_of (by kernel_rfl) K
section
variable {h : Hp} {K : Value → Hp → Prop}
/-- A row of one byte. -/
theorem aw_byte1 {base H : Hp} (n : Nat) (x : Hp.ext base H) {F' : Value → Hp → Prop} (k : ∀ v H', Rn H' .u8 v [n] → Hp.ext base H' → F' v H') : aw P (Instr.buildSlice t_Sl_uint8 1 #[(0, .int .u8 (n : Int))]) F' H := by
  refine aw_lit (ps := [(0, _)]) u_Sl_uint8 z_uint8 zr_uint8 rfl (by omega) (by intro p hp; rw [List.mem_singleton.1 hp]; exact ⟨rfl, by show _ < 1; omega⟩) fun v h2 n2 _ => ?_
  have n2' : New H t_uint8 1 v h2 (nv .u8 [n]) 1 := n2
  exact k v h2 n2'.rds (x.trans n2'.ext)
theorem T_climb {kv v : Value} {kl : List Nat} {u : F} (rk : Rn h .u8 kv kl) (bk : Bytes kl) (lk : kl.length = 32) (a : VE v u) (k : ∀ r h', Nn h t_uint8 .u8 r h' (nb (xlad (bitsK kl) u)) → K r h') : Cn P n_curve_climb #[kv, v] h K := by
  refine Cn_wk (F_curve_climb ?_)
  unfold s_curve_climb
  refine aw_boxV a (.refl h) fun r1 H1 n1 m1 x1 y1 e1 f1 => ?_
  refine aw_byte1 1 (.refl H1) fun w H2 rw2 x2 => ?_
  refine V_From rw2 (fun x hx => by rw [List.mem_singleton.1 hx]; decide) (by decide) fun s ps => ?_
  have s1 : ph (leval [1] % 57896044618658097711785492504343953926634992332820282019728792003956564819968) = 1 := by decide +kernel
  rw [s1] at ps
  replace e1 := e1.ext x2
  replace x1 := x1.trans x2
  clear x2 rw2 y1 f1 m1 s1
  refine aw_allocE (.refl H2) fun r5 H3' n5 m5 x5 y5 e5' f5 => aw_putV ps e5' rfl fun H3 e5 f5' => ?_
  have y3 : Hp.ext H2 H3 := ext_of x5 m5 f5'
  replace e1 := e1.ext y3
  replace x1 := x1.trans y3
  clear y3 x5 y5 e5' f5 f5' m5 n5
  obtain ⟨vu, pu, lu⟩ := e1.ld
  obtain ⟨vo, po, lo⟩ := e5.ld
  rw [(lu H3 rfl).2, (lo H3 rfl).2, (lu H3 rfl).2, (lo H3 rfl).2]
  obtain ⟨ls, g1, g2, g3, gb⟩ := bld_ladder (h := H3) (K := fun t17 => _) pu po pu po
  refine Eq.mpr gb ?_
  clear gb
  have lf := flat_len (fun l hl => (g2 l hl).1)
  rw [g1] at lf
  refine aw_box fun r mr => ?_
  have nr := x1.none mr
  have hC : (Value.agg (nv .u64 ls.flatten).toArray).cells.toList = nv .u64 ls.flatten := rfl
  have hC2 : (Value.agg (nv .u64 ls.flatten).toArray).cells.size = 25 := by show (nv .u64 ls.flatten).toArray.size = 25; simp [nv_len, lf]
  rw [hC, hC2]
  have LA0 : LA (H3.set r (.row t_curve_ladder (nv .u64 ls.flatten) 25 (some (0, 0)))) r (lst u (1, 0, u, 1)) := ⟨ls, g1, g2, g3, Hp.set_same ..⟩
  have x4 := x1.trans (ext_set (.row t_curve_ladder (nv .u64 ls.flatten) 25 (some (0, 0))) mr)
  have lb := bitsN_len (leval kl) 255
  refine Lp_mk (fun m vs H => ∃ (i : Nat) (last : Bool), i + m = 255 ∧ Hp.ext h H ∧ LA H r (lst u (swapF last (ladF 121665 u ((bitsK kl).take i) (1, 0, u, 1)))) ∧ vs = [.int .u64 (if last then 1 else 0), .int .i64 (i : Int)]) 255
    ⟨0, false, rfl, x4, LA0, rfl⟩ ?_
  clear LA0 x4 mr hC hC2 lf g1 g2 g3 pu po lu lo e1 e5 x1 ps
  rintro m vs H ⟨i, last, hi, x, a, rfl⟩
  have lt255 : decide ((i : Int) < 255) = decide (i < 255) := lt_dec i 255
  simp -zeta (disch := omega) only [GL, RL, lt255]
  by_cases hlt : i < 255
  · obtain ⟨a1, a2, a3⟩ := at_k hlt
    have n8 : ((8 : Int) ≠ 0) := by decide
    have hq : (254 - i) / 8 < 32 := by omega
    have gx := bk.getD ((254 - i) / 8)
    obtain ⟨p, hp1, hp2⟩ := rd_at (P := P) (i := (254 - i) / 8) (y := .int .u8 ((kl.getD ((254 - i) / 8) 0 : Nat) : Int)) u_Sl_uint8 z_uint8 (rk.mono x.cle) (nv_getD _ _ _ (by omega))
    have hb : decide (kl.getD ((254 - i) / 8) 0 / 2 ^ ((254 - i) % 8) % 2 = 1) = (leval kl).testBit (254 - i) := by
      have := leval_bit bk (q := (254 - i) / 8) (r := (254 - i) % 8) (by omega) (by omega)
      rw [← this]
      congr 1
      omega
    have cvb : IntKind.u64.wrap ((kl.getD ((254 - i) / 8) 0 / 2 ^ ((254 - i) % 8) : Nat) : Int) = ((kl.getD ((254 - i) / 8) 0 / 2 ^ ((254 - i) % 8) : Nat) : Int) := by
      have hXb : kl.getD ((254 - i) / 8) 0 / 2 ^ ((254 - i) % 8) < 256 := Nat.lt_of_le_of_lt (Nat.div_le_self _ _) gx
      generalize kl.getD ((254 - i) / 8) 0 / 2 ^ ((254 - i) % 8) = X at *
      exact wu64i (by omega) (by omega)
    have hlt64 : kl.getD ((254 - i) / 8) 0 / 2 ^ ((254 - i) % 8) < 18446744073709551616 := by
      exact Nat.lt_of_le_of_lt (Nat.div_le_self _ _) (Nat.lt_trans gx (by decide))
    have ei : IntKind.i64.wrap ((i : Int) + 1) = ((i + 1 : Nat) : Int) := by rw [wi64 (by omega) (by omega)]; omega
    simp -zeta (disch := first | omega | decide) only [hlt, decide_true, if_true, GL, RL, a1, a2, a3, hp1, hp2, shr8N, cvb, and_one hlt64, hb, ixor_bits]
    generalize hbit : (leval kl).testBit (254 - i) = bit
    refine T_swap (last ^^ bit) a fun H1 b1 k1 => ?_
    have st : (if (last ^^ bit) then [u, (swapF last (ladF 121665 u ((bitsK kl).take i) (1, 0, u, 1))).2.2.1, (swapF last (ladF 121665 u ((bitsK kl).take i) (1, 0, u, 1))).2.2.2, (swapF last (ladF 121665 u ((bitsK kl).take i) (1, 0, u, 1))).1, (swapF last (ladF 121665 u ((bitsK kl).take i) (1, 0, u, 1))).2.1] else [u, (swapF last (ladF 121665 u ((bitsK kl).take i) (1, 0, u, 1))).1, (swapF last (ladF 121665 u ((bitsK kl).take i) (1, 0, u, 1))).2.1, (swapF last (ladF 121665 u ((bitsK kl).take i) (1, 0, u, 1))).2.2.1, (swapF last (ladF 121665 u ((bitsK kl).take i) (1, 0, u, 1))).2.2.2]) = lst u (swapF bit (ladF 121665 u ((bitsK kl).take i) (1, 0, u, 1))) := by
      rw [swap_lst, swap_swap]
    rw [st] at b1
    refine T_step b1 fun H2 b2 k2 => ?_
    have st2 : lst u (stepF 121665 u (swapF bit (ladF 121665 u ((bitsK kl).take i) (1, 0, u, 1)))) = lst u (swapF bit (ladF 121665 u ((bitsK kl).take (i + 1)) (1, 0, u, 1))) := by
      have tk : (bitsK kl).take (i + 1) = (bitsK kl).take i ++ [bit] := by
        rw [List.take_succ_eq_append_getElem (by rw [bitsK, lb]; exact hlt)]
        congr 2
        have := bitsN_get (leval kl) 255 i hlt
        rw [List.getElem?_eq_getElem (by rw [lb]; exact hlt), show 255 - 1 - i = 254 - i by omega, hbit] at this
        exact Option.some.inj this
      rw [bit_swap, tk, ladF_app]
    have b3 : LA H2 r (lst u (stepF 121665 u (swapF bit (ladF 121665 u ((bitsK kl).take i) (1, 0, u, 1))))) := b2
    rw [st2] at b3
    simp -zeta (disch := omega) only [GL, RL, ei]
    refine ⟨H2, .refl _, m - 1, by omega, i + 1, bit, by omega, fun b o e => ?_, b3, rfl⟩
    have hbr : b ≠ r := by rintro rfl; rw [nr] at e; cases e
    exact k2 b o hbr (by rw [k1 b hbr]; exact x _ _ e)
  · obtain rfl : i = 255 := by omega
    simp -zeta (disch := omega) only [hlt, decide_false, Bool.false_eq_true, if_false]
    rw [List.take_of_length_le (by rw [bitsK, lb]; omega)] at a
    unfold xlad at k
    generalize ladF 121665 u (bitsK kl) (1, 0, u, 1) = s at *
    refine T_swap last a fun H1 b1 k1 => ?_
    have st : (if last then [u, (swapF last s).2.2.1, (swapF last s).2.2.2, (swapF last s).1, (swapF last s).2.1] else [u, (swapF last s).1, (swapF last s).2.1, (swapF last s).2.2.1, (swapF last s).2.2.2]) = lst u s := by
      rw [swap_lst, swap_self]
    rw [st] at b1
    have xH1 : Hp.ext h H1 := fun b o e => by
      have hbr : b ≠ r := by rintro rfl; rw [nr] at e; cases e
      rw [k1 b hbr]; exact x _ _ e
    simp -zeta only [GL, fl1, fl2']
    obtain ⟨v1, p1, l1⟩ := b1.ld 1 (x := s.1) rfl (o := 5) rfl
    obtain ⟨v2, p2, l2⟩ := b1.ld 2 (x := s.2.1) rfl (o := 10) rfl
    rw [(l1 H1 rfl).2, (l2 H1 rfl).2]
    refine V_Invert p2 fun w1 q1 => ⟨(l1 H1 rfl).1, pfl1 r, V_Mul p1 q1 fun w2 q2 => V_Bytes q2 fun w3 H2 nw => ?_⟩
    obtain ⟨h0, l0, nw0⟩ := nw.down xH1.le
    exact ⟨h0, l0, k _ _ nw0⟩
end
end Go.Proofs.Ytoikhbagchfeoaa
set_option linter.unusedSimpArgs false
set_option linter.unusedVariables false
set_option maxRecDepth 100000
namespace Go.Proofs.Ytoikhbagchfeoaa
open Go Go.SL Go.Pure
theorem q_min {h : Hp} {K : Value → Prop} {t T : TypeId} {k : IntKind} (a b : Int) : q P h (Builtin.min_ #[t, t] T #[.int k a, .int k b]) K = K (.int k (if b < a then b else a)) := q_of (by simp [Builtin.min_, Builtin.min2, pk_pure]) K
theorem orN {a b : Nat} (ha : a < 18446744073709551616) (hb : b < 18446744073709551616) : ior .u64 (a : Int) (b : Int) = ((a ||| b : Nat) : Int) := by
  rw [or64 (by omega) (by omega) (by omega) (by omega), Int.toNat_natCast, Int.toNat_natCast]
theorem orN_lt {a b : Nat} (ha : a < 18446744073709551616) (hb : b < 18446744073709551616) : a ||| b < 18446744073709551616 := Nat.or_lt_two_pow (n := 64) ha hb
theorem shl64 (a n : Nat) (hn : n ≤ 64) : IntKind.u64.wrap ((a : Int) * 2 ^ min n IntKind.u64.bits) = ((a * 2 ^ n % 18446744073709551616 : Nat) : Int) := by
  have : min n IntKind.u64.bits = n := by simp only [IntKind.bits]; omega
  rw [this, mulp, wu64]
theorem shr64' (a n : Nat) (hn : n ≤ 64) : ((a : Int).fdiv (2 ^ min n IntKind.u64.bits)) = ((a / 2 ^ n : Nat) : Int) := by
  have : min n IntKind.u64.bits = n := by simp only [IntKind.bits]; omega
  rw [this, fdivp]
section
variable {h : Hp} {K : Value → Hp → Prop}
theorem T_load {v : Value} {b : List Nat} (hb : Rn h .u8 v b) (bb : Bytes b) (hl : b.length ≤ 9223372036854775807) (k : ∀ h', Hp.le h h' → K (.agg (nv .u64 (loadL b)).toArray) h) : Cn P n_poly_load #[v] h K := by
  refine Cn_wk (F_poly_load ?_)
  unfold s_poly_load
  have hzz : ∀ U : List Nat, U.length = 5 → sz P t_poly_number = some (nv .u64 U).length := fun U hU => by rw [nv_len, hU]; exact z_poly_number
  refine aw_allocL (nv .u64 zero5) zr_number (by rfl) fun r hr => ?_
  refine aw_allocL (nv .u64 zero5) zr_number (by rfl) fun o ho => ?_
  have hro : r ≠ o := by rintro rfl; rw [Hp.set_same] at ho; cases ho
  rw [show (nv IntKind.u64 zero5).length = 5 from rfl]
  obtain ⟨M, hM⟩ : ∃ M : List Nat → Hp, ∀ U, (h.set r (.row t_poly_number (nv .u64 zero5) 5 (some (0, 0)))).set o (.row t_poly_number (nv .u64 U) 5 (some (0, 0))) = M U := ⟨_, fun T => rfl⟩
  have Mo : ∀ U, M U o = some (.row t_poly_number (nv .u64 U) 5 (some (0, 0))) := fun T => by rw [← hM, Hp.set_same]
  have Mr : ∀ U, M U r = some (.row t_poly_number (nv .u64 zero5) 5 (some (0, 0))) := fun U => by rw [← hM, Hp.set_ne _ _ hro, Hp.set_same]
  have Ms : ∀ U U', (M U).set o (.row t_poly_number (nv .u64 U') 5 (some (0, 0))) = M U' := fun T T' => by rw [← hM, ← hM, Hp.set_set]
  have leM : ∀ U, Hp.le h (M U) := fun U => by rw [← hM]; exact (le_fresh hr).trans (le_fresh ho)
  have cM : ∀ U, Hp.cle h (M U) := fun U => by rw [← hM]; exact (cle_set r _ hr).trans (cle_set o _ ho)
  rw [hM]
  refine Lp_mk (fun m vs h' => ∃ i : Nat, i + m = 5 ∧ h' = M (loadN b i) ∧ vs = [.int .i64 (i : Int)]) 5 ⟨0, rfl, rfl, rfl⟩ ?_
  rintro m vs h' ⟨i, hi, rfl, rfl⟩
  have lU := loadN_len b i
  simp (disch := omega) only [GL, RL, wi64, lt_dec5]
  by_cases hlt : i < 5
  · obtain ⟨a, c, hv, hc⟩ := hb.shape
    have e1 : (26 : Int) * (i : Int) = ((26 * i : Nat) : Int) := by omega
    have e2 : ((26 * i : Nat) : Int).tdiv 8 = ((26 * i / 8 : Nat) : Int) := (Int.ofNat_tdiv (26 * i) 8).symm
    have e3 : ((26 * i : Nat) : Int).tmod 8 = ((26 * i % 8 : Nat) : Int) := (Int.ofNat_tmod (26 * i) 8).symm
    have e4 : (if ((b.length : Nat) : Int) < ((26 * i / 8 : Nat) : Int) then ((b.length : Nat) : Int) else ((26 * i / 8 : Nat) : Int)) = ((min (26 * i / 8) b.length : Nat) : Int) := by split <;> omega
    subst hv
    simp (disch := omega) only [GL, RL, wi64, hlt, decide_true, if_true, e1, e2, e3, q_min, e4]
    refine q_slRn u_Sl_uint8 z_uint8 (hb.mono (cM _)) .i64 _ (by omega) fun w hw => ?_
    refine T_word_Get64 hw (bb.drop _) ?_
    simp (disch := omega) only [GL, RL, wi64, e1, e2, e3]
    rw [shr64' _ _ (by omega)]
    have lx : leval ((b.drop (min (26 * i / 8) b.length)).take 8) / 2 ^ (26 * i % 8) < 18446744073709551616 :=
      Nat.lt_of_le_of_lt (Nat.div_le_self _ _) (Nat.lt_of_lt_of_le (leval_take_lt _ (bb.drop _) 8) (by decide))
    rw [and26 lx]
    refine storeN z_uint64 (Mo _) (by omega) (by simp) ?_
    rw [Ms]
    exact ⟨_, .refl _, m - 1, by omega, i + 1, by omega, rfl, rfl⟩
  · obtain rfl : i = 5 := by omega
    simp (disch := omega) only [GL, RL, wi64, hlt, decide_false, Bool.false_eq_true, if_false]
    have hL : loadN b 5 = loadL b := rfl
    rw [hL] at lU ⊢
    rw [q_ldRow u_poly_number rfl (hzz _ lU) (Mo _)]
    refine aw_storeRow (hzz _ lU) (Mr _) (by rw [nv_len, nv_len, lU]; rfl) (nv_flat _ _) (fun i hi => by simp) ?_
    rw [q_resRow (ys := nv .u64 (loadL b)) u_poly_number rfl (hzz _ lU) (Hp.set_same ..)]
    refine ⟨h, ?_, k h (.refl _)⟩
    have : (M (loadL b)).set r (.row t_poly_number (nv .u64 (loadL b)) 5 (some (0, 0))) = (h.set r (.row t_poly_number (nv .u64 (loadL b)) 5 (some (0, 0)))).set o (.row t_poly_number (nv .u64 (loadL b)) 5 (some (0, 0))) := by
      rw [← hM, Hp.set_comm _ _ _ (Ne.symm hro), Hp.set_set]
    rw [this]
    refine (le_fresh hr).trans (le_fresh ?_)
    rw [Hp.set_ne _ _ (Ne.symm hro)]
    rwa [Hp.set_ne _ _ (Ne.symm hro)] at ho
theorem T_bytes {g e cap : Nat} {fz : Option (Nat × Nat)} {v : Value} (S s : List Nat) (hS : S.length = 5) (wS : W64 S) (hg : h g = some (.row e (nv .u64 S) cap fz)) (hv : Rn h .u8 v s) (bs : Bytes s) (hl : 8 ≤ s.length)
    (k : ∀ r h', Nn h t_uint8 .u8 r h' (bytesL S s) → K r h') : Cn P n_poly_number_bytes #[.pointer (some ⟨g, 0, none⟩), v] h K := by
  refine F_poly_number_bytes ?_
  unfold s_poly_number_bytes
  have c0 := cellN (i := 0) hg (by omega)
  have c1 := cellN (i := 1) hg (by omega)
  have c2 := cellN (i := 2) hg (by omega)
  have c3 := cellN (i := 3) hg (by omega)
  have c4 := cellN (i := 4) hg (by omega)
  have w0 := wS.getD 0
  have w1 := wS.getD 1
  have w2 := wS.getD 2
  have w3 := wS.getD 3
  have w4 := wS.getD 4
  obtain ⟨LO, hLO⟩ : ∃ x, lowL S = x := ⟨_, rfl⟩
  obtain ⟨HI, hHI⟩ : ∃ x, highL S = x := ⟨_, rfl⟩
  obtain ⟨B, hB⟩ : ∃ B, bytesL S s = B := ⟨_, rfl⟩
  rw [hB] at k
  unfold bytesL at hB
  dsimp only at hB
  rw [hLO, hHI] at hB
  unfold lowL at hLO
  unfold highL at hHI
  generalize S.getD 0 0 = s0 at *
  generalize S.getD 1 0 = s1 at *
  generalize S.getD 2 0 = s2 at *
  generalize S.getD 3 0 = s3 at *
  generalize S.getD 4 0 = s4 at *
  simp (disch := omega) only [GL, RL, Int.reduceToNat, c0, c1, c2, c3, c4, shl64, shr64']
  have m1 := Nat.mod_lt (s1 * 2 ^ 26) (show 18446744073709551616 > 0 by decide)
  have m2 := Nat.mod_lt (s2 * 2 ^ 52) (show 18446744073709551616 > 0 by decide)
  have m3 := Nat.mod_lt (s3 * 2 ^ 14) (show 18446744073709551616 > 0 by decide)
  have m4 := Nat.mod_lt (s4 * 2 ^ 40) (show 18446744073709551616 > 0 by decide)
  have d2 : s2 / 2 ^ 12 < 18446744073709551616 := Nat.lt_of_le_of_lt (Nat.div_le_self _ _) w2
  have o1 := orN_lt w0 m1
  have o2 := orN_lt d2 m3
  have o3 := orN_lt o1 m2
  have o4 := orN_lt o2 m4
  rw [orN w0 m1, orN o1 m2, orN d2 m3, orN o2 m4, hLO, hHI]
  rw [hLO] at o3
  rw [hHI] at o4
  obtain ⟨a, c, rfl, hc⟩ := hv.shape
  have hsl : peek P h (Instr.sliceAt t_Sl_uint8 (.slice a s.length c) (some (Value.int .i64 8)) none none) = some (.slice (SL.cut a c 8 1) (s.length - 8) (c - 8)) := by
    have := q_slLo (P := P) (h := h) (K := fun x => x = .slice (SL.cut a c 8 1) (s.length - 8) (c - 8)) u_Sl_uint8 z_uint8 a s.length c .i64 8 hl hc
    obtain ⟨x, hx, e⟩ := withVal_elim (K := fun x => x = .slice (SL.cut a c 8 1) (s.length - 8) (c - 8)) (this.mpr rfl)
    rw [e] at hx
    exact hx
  have hr8 : Rn h .u8 (.slice (SL.cut a c 8 1) (s.length - 8) (c - 8)) (s.drop 8) := by
    have := hv.cut 8 s.length hl (Nat.le_refl _)
    rwa [List.take_length] at this
  rw [q_of hsl]
  refine T_word_Get64 hv bs ?_
  refine ⟨hsl, ?_⟩
  refine T_word_Get64 hr8 (bs.drop _) ?_
  obtain ⟨A, hA⟩ : ∃ A, leval (s.take 8) = A := ⟨_, rfl⟩
  obtain ⟨D, hD⟩ : ∃ D, leval ((s.drop 8).take 8) = D := ⟨_, rfl⟩
  rw [hA, hD] at hB ⊢
  simp (disch := omega) only [GL, RL, add64]
  have eD : decide ((((LO + A) % 18446744073709551616 : Nat) : Int) < (A : Int)) = decide ((LO + A) % 18446744073709551616 < A) := lt_dec _ _
  rw [eD]
  have l1 := Nat.mod_lt (LO + A) (show 18446744073709551616 > 0 by decide)
  have l2 := Nat.mod_lt (HI + D) (show 18446744073709551616 > 0 by decide)
  generalize (LO + A) % 18446744073709551616 = X at *
  generalize (HI + D) % 18446744073709551616 = Y at *
  have fin : ∀ Z : Nat, Z < 18446744073709551616 → B = le 8 X ++ le 8 Z → Cn P n_word_Put64 #[Value.int .u64 (X : Int)] h fun t59 h => Cn P n_word_Put64 #[Value.int .u64 (Z : Int)] h fun t61 h => aw P (Builtin.append_ #[t_Sl_uint8, t_Sl_uint8] t_Sl_uint8 #[t59, t61]) (fun t62 h => K t62 h) h := by
    intro Z hZ hBB
    refine T_word_Put64 X l1 fun r1 h1 n1 => T_word_Put64 Z hZ fun r2 h2 n2 => ?_
    have n1' : New h t_uint8 1 r1 h1 (nv .u8 (le 8 X)) 8 := by unfold Nn at n1; rwa [le_len] at n1
    have n2' : New h1 t_uint8 1 r2 h2 (nv .u8 (le 8 Z)) 8 := by unfold Nn at n2; rwa [le_len] at n2
    refine aw_appendN u_Sl_uint8 u_Sl_uint8 nfo_uint8 rfl (by omega) n1' n2' (nv_flat _ _) (by omega) fun v' h5 hw5 => ?_
    refine k _ _ ?_
    unfold Nn
    rw [hBB, nv_app, List.length_append, le_len, le_len]
    exact hw5
  by_cases hlt : X < A
  · rw [if_pos hlt] at hB
    have eY : IntKind.u64.wrap ((Y : Int) + 1) = (((Y + 1) % 18446744073709551616 : Nat) : Int) := add64 Y 1
    simp (disch := omega) only [hlt, decide_true, if_true, eY]
    exact fin _ (Nat.mod_lt _ (by decide)) hB.symm
  · rw [if_neg hlt] at hB
    simp (disch := omega) only [hlt, decide_false, Bool.false_eq_true, if_false]
    exact fin _ l2 hB.symm
end
end Go.Proofs.Ytoikhbagchfeoaa
set_option linter.unusedSimpArgs false
set_option linter.unusedVariables false
set_option maxRecDepth 100000
namespace Go.Proofs.Ytoikhbagchfeoaa
open Go Go.SL Go.Pure
section
variable {h : Hp} {K : Value → Hp → Prop}
theorem T_Clone {v : Value} {l : List Nat} (hv : Rn h .u8 v l) (hl : l.length ≤ 70368744177664) (k : ∀ r h', Nn h t_uint8 .u8 r h' l → K r h') : Cn P n_slices_Clone_byte_byte #[v] h K := by
  refine F_slices_Clone_byte_byte ?_
  obtain ⟨a, c, rfl, hc⟩ := hv.shape
  unfold s_slices_Clone_byte_byte
  simp (disch := omega) only [GL, RL]
  cases a with
  | none =>
    have h0 : l = [] := by
      obtain ⟨_, a', c', e, _, h0 | ⟨b, o, e2, _⟩⟩ := hv
      · exact List.eq_nil_of_length_eq_zero h0
      · rw [e2] at e; cases e
    subst h0
    exact k _ _ (Nn.nil ..)
  | some a =>
    refine aw_lit (ps := []) (n := 0) u_Sl_uint8 z_uint8 zr_uint8 rfl (by omega) (by intro p hp; cases hp) fun r h1 hw _ => ?_
    refine aw_append u_Sl_uint8 u_Sl_uint8 nfo_uint8 rfl (by omega) hw (hv.mono hw.cle) (nv_flat _ _) (by omega) (.refl _) fun v' h2 hw2 => ?_
    refine k _ _ ?_
    unfold Nn
    simpa [fillL] using hw2
theorem T_Chunk {v : Value} {n : Nat} (hn : 0 < n) (hf : flat v = true)
    (k : ∀ r2 r3, h r2 = none → h r3 = none → r2 ≠ r3 → K (.func (.func n_slices_Chunk_byte_byte_1) #[] #[.pointer (some ⟨r2, 0, none⟩), .pointer (some ⟨r3, 0, none⟩)]) ((h.set r2 (.row t_Sl_uint8 [v] 1 (some (0, 0)))).set r3 (.row t_int [.int .i64 n] 1 (some (0, 0))))) :
    Cn P n_slices_Chunk_byte_byte #[v, .int .i64 n] h K := by
  refine F_slices_Chunk_byte_byte ?_
  unfold s_slices_Chunk_byte_byte
  refine aw_box fun r2 hr2 => ?_
  refine aw_box fun r3 hr3 => ?_
  have hne : r2 ≠ r3 := by rintro rfl; rw [Hp.set_same] at hr3; cases hr3
  rw [cells_flat hf]
  have c : ((h.set r2 (.row t_Sl_uint8 [v] 1 (some (0, 0)))).set r3 (.row t_int [.int .i64 n] 1 (some (0, 0)))).cell ⟨r3, 0, none⟩ = some (.int .i64 n) := by rw [cell_row (Hp.set_same ..)]; rfl
  simp (disch := omega) only [GL, RL]
  show withVal (((h.set r2 (.row t_Sl_uint8 [v] 1 (some (0, 0)))).set r3 (.row t_int [.int .i64 n] 1 (some (0, 0)))).cell ⟨r3, 0, none⟩) _
  rw [c]
  simp only [withVal_some]
  have e : decide ((n : Int) < 1) = false := by simp; omega
  simp (disch := omega) only [GL, RL, e, Bool.false_eq_true, if_false]
  rw [Hp.set_ne _ _ (Ne.symm hne)] at hr3
  exact k r2 r3 hr2 hr3 hne
/-- An iterator over a row's pieces. I: what holds ahead of the ith round; X: behind a round that ends it. -/
theorem T_Chunk_1 {y v : Value} {p2 p3 : Addr} {m : List Nat} {n : Nat} (hn : 0 < n) (hl : m.length ≤ 4611686018427387904) (hn2 : n ≤ 4611686018427387904) (I : Nat → Hp → Prop) (X : Hp → Prop)
    (hI : ∀ i h', I i h' → h'.cell p2 = some v ∧ h'.cell p3 = some (.int .i64 n) ∧ Rn h' .u8 v m) (h0 : I 0 h)
    (step : ∀ i h' w, n * i < m.length → I i h' → (∀ H, Rn H .u8 v m → Rn H .u8 w (chunkN n m i)) → callP P y [w] h' fun r h'' => (r = .bool true ∧ I (i + 1) h'') ∨ (r = .bool false ∧ X h''))
    (k : ∀ h', I ((m.length + n - 1) / n) h' ∨ X h' → K (.tuple #[]) h') : Cn P n_slices_Chunk_byte_byte_1 #[y, .pointer (some p2), .pointer (some p3)] h K := by
  refine F_slices_Chunk_byte_byte_1 ?_
  unfold s_slices_Chunk_byte_byte_1
  have lti : ∀ i : Nat, i < (m.length + n - 1) / n ↔ n * i < m.length := fun i => by
    rw [Nat.lt_iff_add_one_le, Nat.le_div_iff_mul_le hn, Nat.add_mul, Nat.one_mul, Nat.mul_comm i n]
    omega
  refine Lp_mk (fun u vs h' => ∃ i : Nat, i + u = (m.length + n - 1) / n ∧ I i h' ∧ vs = [.int .i64 ((n * i : Nat) : Int)]) ((m.length + n - 1) / n) ⟨0, by omega, h0, rfl⟩ ?_
  rintro u vs h' ⟨i, hi, hII, rfl⟩
  obtain ⟨c2, c3, hr⟩ := hI i h' hII
  obtain ⟨a, c, rfl, hc⟩ := hr.shape
  simp (disch := omega) only [GL, RL, wi64, c2, lt_dec]
  by_cases hlt : n * i < m.length
  · simp (disch := omega) only [GL, RL, hlt, decide_true, if_true, c3]
    refine q_slRn u_Sl_uint8 z_uint8 hr .i64 _ (by omega) fun w1 hw1 => ?_
    obtain ⟨a1, c1, rfl, hc1⟩ := hw1.shape
    have e4 : (if (((m.drop (n * i)).length : Nat) : Int) < (n : Int) then (((m.drop (n * i)).length : Nat) : Int) else (n : Int)) = ((min n (m.length - n * i) : Nat) : Int) := by
      rw [List.length_drop]; split <;> omega
    have e5 : ((n * i : Nat) : Int) + ((min n (m.length - n * i) : Nat) : Int) = ((min (n * i + n) m.length : Nat) : Int) := by omega
    simp (disch := omega) only [GL, RL, wi64, c2, c3, q_min, e4, e5]
    refine q_slRnLHM u_Sl_uint8 z_uint8 hr .i64 .i64 .i64 _ _ (by omega) (by omega) fun w hw => ?_
    refine callP_mono ?_ (step i h' w hlt hII hw)
    rintro r h'' (⟨rfl, h2⟩ | ⟨rfl, h2⟩)
    · obtain ⟨d2, d3, _⟩ := hI _ _ h2
      have e6 : ((n * i : Nat) : Int) + (n : Int) = ((n * (i + 1) : Nat) : Int) := by rw [Nat.mul_add, Nat.mul_one]; omega
      simp (disch := omega) only [GL, RL, wi64, Bool.not_true, Bool.false_eq_true, if_false, d3, e6]
      have := (lti i).2 hlt
      refine ⟨_, .refl _, u - 1, by omega, i + 1, by omega, h2, ?_⟩
      rw [← e6]
    · simp (disch := omega) only [GL, RL, Bool.not_false, if_true]
      exact k _ (.inr h2)
  · simp (disch := omega) only [GL, RL, hlt, decide_false, Bool.false_eq_true, if_false]
    have hn' := mt (lti i).1 hlt
    obtain rfl : i = (m.length + n - 1) / n := by omega
    exact k _ (.inl hII)
end
end Go.Proofs.Ytoikhbagchfeoaa
set_option linter.unusedSimpArgs false
set_option linter.unusedVariables false
set_option maxRecDepth 100000
namespace Go.Proofs.Ytoikhbagchfeoaa
open Go Go.SL Go.Pure
def t15 : List Nat := [3, 7, 11, 15]
def t252 : List Nat := [4, 8, 12]
theorem t15_at {h : Hp} {K : Value → Prop} (i : Nat) (hi : i < 4) : q P h (Instr.index t_4_int (.agg #[.int .i64 3, .int .i64 7, .int .i64 11, .int .i64 15]) (.int .i64 i)) K = K (.int .i64 ((t15.getD i 0 : Nat) : Int)) := by
  have : i = 0 ∨ i = 1 ∨ i = 2 ∨ i = 3 := by omega
  rcases this with rfl | rfl | rfl | rfl <;> exact q_of (by kernel_rfl) K
theorem t252_at {h : Hp} {K : Value → Prop} (i : Nat) (hi : i < 3) : q P h (Instr.index t_3_int (.agg #[.int .i64 4, .int .i64 8, .int .i64 12]) (.int .i64 i)) K = K (.int .i64 ((t252.getD i 0 : Nat) : Int)) := by
  have : i = 0 ∨ i = 1 ∨ i = 2 := by omega
  rcases this with rfl | rfl | rfl <;> exact q_of (by kernel_rfl) K
theorem t15_b {h : Hp} {K : Value → Prop} : q P h (Instr.build t_4_int #[(0, (Value.int .i64 3)), (1, (Value.int .i64 7)), (2, (Value.int .i64 11)), (3, (Value.int .i64 15))]) K = K (.agg #[.int .i64 3, .int .i64 7, .int .i64 11, .int .i64 15]) := q_of (by kernel_rfl) K
theorem t252_b {h : Hp} {K : Value → Prop} : q P h (Instr.build t_3_int #[(0, (Value.int .i64 4)), (1, (Value.int .i64 8)), (2, (Value.int .i64 12))]) K = K (.agg #[.int .i64 4, .int .i64 8, .int .i64 12]) := q_of (by kernel_rfl) K
theorem and8N {a b : Nat} (ha : a < 256) (hb : b < 256) : iand .u8 (a : Int) (b : Int) = ((a &&& b : Nat) : Int) := by
  rw [and8 (by omega) (by omega) (by omega) (by omega), Int.toNat_natCast, Int.toNat_natCast]
theorem clampN_step (v : Nat) (l is : List Nat) (i : Nat) (hi : i < is.length) : clampN v l (is.take (i + 1)) = (clampN v l (is.take i)).set (is.getD i 0) ((clampN v l (is.take i)).getD (is.getD i 0) 0 &&& v) := by
  rw [List.take_succ_eq_append_getElem hi]
  unfold clampN
  rw [List.foldl_append]
  have : is.getD i 0 = is[i] := by simp [List.getD_eq_getElem?_getD, hi]
  rw [this]
  rfl
section
variable {h : Hp} {K : Value → Hp → Prop}
theorem T_poly_Tag {vk vm : Value} {key m : List Nat} (hk : Rn h .u8 vk key) (hm : Rn h .u8 vm m) (bk : Bytes key) (bm : Bytes m) (lk : key.length = 32) (hl : m.length ≤ 70368744177664)
    (k : ∀ v h', Nn h t_uint8 .u8 v h' (tagL key m) → K (.tuple #[v, .int .i64 0]) h') : Cn P n_poly_Tag #[vk, vm] h K := by
  refine Cn_wk (F_poly_Tag ?_)
  obtain ⟨ak, ck, rfl, hck⟩ := hk.shape
  unfold s_poly_Tag
  have e32 : (((key.length : Nat) : Int) != 32) = false := by rw [lk]; rfl
  simp (disch := omega) only [GL, RL, e32, Bool.false_eq_true, if_false]
  refine q_slRnHi u_Sl_uint8 z_uint8 hk .i64 16 (by omega) fun w16 hw16 => ?_
  refine T_Clone hw16 (by rw [List.length_take]; omega) fun r1 h1 n1 => ?_
  have l16 : (key.take 16).length = 16 := by rw [List.length_take]; omega
  have b16 : Bytes (key.take 16) := bk.take 16
  have hcl : clampL (key.take 16) = clampN 252 (clampN 15 (key.take 16) t15) t252 := rfl
  obtain ⟨F0, hF0⟩ : ∃ F0, key.take 16 = F0 := ⟨_, rfl⟩
  have htag : tagL key m = bytesL (reduceL (tagN (loadL (clampL F0)) m ((m.length + 15) / 16))) (key.drop 16) := by rw [← hF0]; rfl
  rw [hF0] at l16 b16 hcl n1
  rw [t15_b]
  have n1' : New h t_uint8 1 r1 h1 (nv .u8 F0) 16 := by unfold Nn at n1; rwa [l16] at n1
  obtain ⟨b, c, f0, hb, hc16, rfl, _, _⟩ := n1'.form (by omega)
  refine Lp_mk (fun u vs h' => ∃ i : Nat, i + u = 4 ∧ New h t_uint8 1 (.slice (some ⟨b, 0, none⟩) 16 c) h' (nv .u8 (clampN 15 F0 (t15.take i))) 16 ∧ vs = [.int .i64 (i : Int)]) 4 ⟨0, rfl, n1', rfl⟩ ?_
  clear n1 n1'
  rintro u vs h2 ⟨i, hi, hw, rfl⟩
  simp (disch := omega) only [GL, RL, wi64, lt_dec4]
  by_cases hlt : i < 4
  · have lC : (clampN 15 F0 (t15.take i)).length = 16 := by rw [clampN_len, l16]
    have bC := clampN_bytes 15 (t15.take i) b16
    have hx : t15.getD i 0 < 16 := by
      have : i = 0 ∨ i = 1 ∨ i = 2 ∨ i = 3 := by omega
      rcases this with rfl | rfl | rfl | rfl <;> decide
    have hstep := clampN_step 15 F0 t15 i (by show i < 4; exact hlt)
    obtain ⟨x, hxx⟩ : ∃ x, t15.getD i 0 = x := ⟨_, rfl⟩
    obtain ⟨C, hC⟩ : ∃ C, clampN 15 F0 (t15.take i) = C := ⟨_, rfl⟩
    rw [hC] at lC bC hw hstep
    rw [hxx] at hx hstep
    obtain ⟨b', c', f', hb', _, hv', hh', _⟩ := hw.form (by omega)
    simp only [Value.slice.injEq, Option.some.injEq, Addr.mk.injEq] at hv'
    obtain ⟨⟨rfl, _⟩, _, rfl⟩ := hv'
    have c1 := cellN (h := h2) (g := b) (i := x) (S := C) (by rw [hh']; exact Hp.set_same ..) (by omega)
    simp (disch := omega) only [GL, RL, wi64, hlt, decide_true, if_true, t15_at i hlt, hxx, c1]
    have e15 : iand .u8 ((C.getD x 0 : Nat) : Int) 15 = ((C.getD x 0 &&& 15 : Nat) : Int) := and8N (bC.getD x) (by decide)
    rw [e15]
    refine aw_storeN z_uint8 hw hx rfl fun h3 hw3 => ?_
    rw [nv_set, ← hstep] at hw3
    exact ⟨_, .refl _, u - 1, by omega, i + 1, by omega, hw3, rfl⟩
  obtain rfl : i = 4 := by omega
  simp only [hlt, decide_false, Bool.false_eq_true, if_false]
  rw [t252_b]
  have hC1 : clampN 15 F0 (t15.take 4) = clampN 15 F0 t15 := rfl
  rw [hC1] at hw
  have l16' : (clampN 15 F0 t15).length = 16 := by rw [clampN_len, l16]
  have b16' : Bytes (clampN 15 F0 t15) := clampN_bytes 15 _ b16
  generalize clampN 15 F0 t15 = F1 at hw l16' b16' hcl
  refine Lp_mk (fun u vs h' => ∃ i : Nat, i + u = 3 ∧ New h t_uint8 1 (.slice (some ⟨b, 0, none⟩) 16 c) h' (nv .u8 (clampN 252 F1 (t252.take i))) 16 ∧ vs = [.int .i64 (i : Int)]) 3 ⟨0, rfl, hw, rfl⟩ ?_
  clear hw hlt
  rintro u vs h2 ⟨i, hi, hw, rfl⟩
  simp (disch := omega) only [GL, RL, wi64, lt_dec3]
  by_cases hlt : i < 3
  · have lC : (clampN 252 F1 (t252.take i)).length = 16 := by rw [clampN_len, l16']
    have bC := clampN_bytes 252 (t252.take i) b16'
    have hx : t252.getD i 0 < 16 := by
      have : i = 0 ∨ i = 1 ∨ i = 2 := by omega
      rcases this with rfl | rfl | rfl <;> decide
    have hstep := clampN_step 252 F1 t252 i (by show i < 3; exact hlt)
    obtain ⟨x, hxx⟩ : ∃ x, t252.getD i 0 = x := ⟨_, rfl⟩
    obtain ⟨C, hC⟩ : ∃ C, clampN 252 F1 (t252.take i) = C := ⟨_, rfl⟩
    rw [hC] at lC bC hw hstep
    rw [hxx] at hx hstep
    obtain ⟨b', c', f', hb', _, hv', hh', _⟩ := hw.form (by omega)
    simp only [Value.slice.injEq, Option.some.injEq, Addr.mk.injEq] at hv'
    obtain ⟨⟨rfl, _⟩, _, rfl⟩ := hv'
    have c1 := cellN (h := h2) (g := b) (i := x) (S := C) (by rw [hh']; exact Hp.set_same ..) (by omega)
    simp (disch := omega) only [GL, RL, wi64, hlt, decide_true, if_true, t252_at i hlt, hxx, c1]
    have e15 : iand .u8 ((C.getD x 0 : Nat) : Int) 252 = ((C.getD x 0 &&& 252 : Nat) : Int) := and8N (bC.getD x) (by decide)
    rw [e15]
    refine aw_storeN z_uint8 hw hx rfl fun h3 hw3 => ?_
    rw [nv_set, ← hstep] at hw3
    exact ⟨_, .refl _, u - 1, by omega, i + 1, by omega, hw3, rfl⟩
  obtain rfl : i = 3 := by omega
  simp only [hlt, decide_false, Bool.false_eq_true, if_false]
  have hC2 : clampN 252 F1 (t252.take 3) = clampN 252 F1 t252 := rfl
  rw [hC2, ← hcl] at hw
  have lCl : (clampL F0).length = 16 := by rw [hcl, clampN_len, l16']
  have bCl : Bytes (clampL F0) := by rw [hcl]; exact clampN_bytes 252 _ b16'
  have hwr : Rn h2 .u8 (.slice (some ⟨b, 0, none⟩) 16 c) (clampL F0) := by
    have := hw.rds
    unfold Rn
    rwa [lCl]
  refine T_load hwr bCl (by omega) fun _ _ => ?_
  have lR := loadL_len (clampL F0)
  have wR := loadL_w (clampL F0)
  generalize loadL (clampL F0) = R at lR wR htag ⊢
  have hzz : ∀ U : List Nat, U.length = 5 → sz P t_poly_number = some (nv .u64 U).length := fun U hU => by rw [nv_len, hU]; exact z_poly_number
  refine aw_allocL (nv .u64 zero5) zr_number (by rfl) fun r11 hr11 => ?_
  refine aw_storeRow (hzz R lR) (Hp.set_same ..) (by rw [nv_len, nv_len, lR]; rfl) (nv_flat _ _) (fun i hi => by simp) ?_
  rw [Hp.set_set]
  refine aw_allocL (nv .u64 zero5) zr_number (by rfl) fun r12 hr12 => ?_
  have n12 : r11 ≠ r12 := by rintro rfl; rw [Hp.set_same] at hr12; cases hr12
  have hr12' : h2 r12 = none := by rwa [Hp.set_ne _ _ (Ne.symm n12)] at hr12
  refine T_Chunk (n := 16) (by omega) (by obtain ⟨a, c, e, _⟩ := hm.shape; rw [e]; rfl) fun r2 r3 hr2 hr3 n23 => ?_
  have n2_12 : r2 ≠ r12 := by rintro rfl; rw [Hp.set_same] at hr2; cases hr2
  have n3_12 : r3 ≠ r12 := by rintro rfl; rw [Hp.set_same] at hr3; cases hr3
  have n2_11 : r2 ≠ r11 := by rintro rfl; rw [Hp.set_ne _ _ n2_12, Hp.set_same] at hr2; cases hr2
  have n3_11 : r3 ≠ r11 := by rintro rfl; rw [Hp.set_ne _ _ n3_12, Hp.set_same] at hr3; cases hr3
  have hr2' : h2 r2 = none := by rwa [Hp.set_ne _ _ n2_12, Hp.set_ne _ _ n2_11] at hr2
  have hr3' : h2 r3 = none := by rwa [Hp.set_ne _ _ n3_12, Hp.set_ne _ _ n3_11] at hr3
  rw [show (nv IntKind.u64 zero5).length = 5 from rfl]
  -- what stands beside the sum
  obtain ⟨A, hA⟩ : ∃ A : Hp, ((h2.set r11 (.row t_poly_number (nv .u64 R) 5 (some (0, 0)))).set r2 (.row t_Sl_uint8 [vm] 1 (some (0, 0)))).set r3 (.row t_int [.int .i64 (16 : Nat)] 1 (some (0, 0))) = A := ⟨_, rfl⟩
  have A12 : A r12 = none := by rw [← hA, Hp.set_ne _ _ (Ne.symm n3_12), Hp.set_ne _ _ (Ne.symm n2_12), Hp.set_ne _ _ (Ne.symm n12)]; exact hr12'
  have A11 : A r11 = some (.row t_poly_number (nv .u64 R) 5 (some (0, 0))) := by rw [← hA, Hp.set_ne _ _ (Ne.symm n3_11), Hp.set_ne _ _ (Ne.symm n2_11), Hp.set_same]
  have A2 : A r2 = some (.row t_Sl_uint8 [vm] 1 (some (0, 0))) := by rw [← hA, Hp.set_ne _ _ n23, Hp.set_same]
  have A3 : A r3 = some (.row t_int [.int .i64 (16 : Nat)] 1 (some (0, 0))) := by rw [← hA, Hp.set_same]
  have leA : Hp.le h2 A := by
    rw [← hA]
    refine (le_fresh (r := r11) (by simpa using hr11)).trans ((le_fresh ?_).trans (le_fresh ?_))
    · rw [Hp.set_ne _ _ n2_11]; exact hr2'
    · rw [Hp.set_ne _ _ (Ne.symm n23), Hp.set_ne _ _ n3_11]; exact hr3'
  have cleA : Hp.cle h2 A := by
    rw [← hA]
    refine (cle_set r11 _ (by simpa using hr11)).trans ((cle_set r2 _ ?_).trans (cle_set r3 _ ?_))
    · rw [Hp.set_ne _ _ n2_11]; exact hr2'
    · rw [Hp.set_ne _ _ (Ne.symm n23), Hp.set_ne _ _ n3_11]; exact hr3'
  have start : (((h2.set r11 (.row t_poly_number (nv .u64 R) 5 (some (0, 0)))).set r12 (.row t_poly_number (nv .u64 zero5) 5 (some (0, 0)))).set r2 (.row t_Sl_uint8 [vm] 1 (some (0, 0)))).set r3 (.row t_int [.int .i64 (16 : Nat)] 1 (some (0, 0))) =
      A.set r12 (.row t_poly_number (nv .u64 zero5) 5 (some (0, 0))) := by
    rw [← hA, Hp.set_comm _ _ _ (Ne.symm n2_12), Hp.set_comm _ _ _ (Ne.symm n3_12)]
  intro L o hL hY
  rw [start] at hL ⊢
  have nL12 : L ≠ r12 := by rintro rfl; rw [Hp.set_same] at hL; cases hL
  have AL : A L = none := by rwa [Hp.set_ne _ _ nL12] at hL
  obtain ⟨G, hG⟩ : ∃ G : Nat → Hp, ∀ i, (A.set r12 (.row t_poly_number (nv .u64 (tagN R m i)) 5 (some (0, 0)))).set L (o .ready none) = G i := ⟨_, fun i => rfl⟩
  show iterP P _ _ ((A.set r12 (.row t_poly_number (nv .u64 (tagN R m 0)) 5 (some (0, 0)))).set L (o .ready none)) _
  rw [hG]
  have cAG : ∀ i, Hp.cle A (G i) := fun i => by
    rw [← hG]; exact (cle_set r12 _ A12).trans (cle_set L _ (by rw [Hp.set_ne _ _ nL12]; exact AL))
  have hmA : Rn A .u8 vm m := (hm.mono hw.cle).mono cleA
  have delG : ∀ i, (G i).del L = A.set r12 (.row t_poly_number (nv .u64 (tagN R m i)) 5 (some (0, 0))) := fun i => by
    rw [← hG]
    funext j
    unfold Hp.del
    split
    · rename_i e; subst e; rw [Hp.set_ne _ _ nL12]; exact AL.symm
    · rename_i e; rw [Hp.set_ne _ _ e]
  unfold iterP
  dsimp only
  refine T_Chunk_1 (v := vm) (m := m) (n := 16) (by omega) (by omega) (by omega) (fun i h' => h' = G i) (fun _ => False) ?_ rfl ?_ ?_
  · rintro i h' rfl
    refine ⟨cAG i _ _ ?_, cAG i _ _ ?_, hmA.mono (cAG i)⟩
    · rw [cell_row A2]; rfl
    · rw [cell_row A3]; rfl
  · rintro i h' w hi rfl hwc
    refine hY w (G i) _ (by rw [← hG]; exact Hp.set_same ..) ?_
    rw [delG]
    have la := tagN_len R m i
    have wa := tagN_w R m i
    have hGs : ∀ h0 : Hp, h0 = A.set r12 (.row t_poly_number (nv .u64 (tagN R m (i + 1))) 5 (some (0, 0))) → h0.set L (o .ready none) = G (i + 1) := by rintro h0 rfl; exact hG (i + 1)
    have hnext : tagN R m (i + 1) = timesL (addL (tagN R m i) (loadL (chunk m i ++ [1]))) R := rfl
    rw [hnext] at hGs
    have hwc' : Rn ((A.set r12 (.row t_poly_number (nv .u64 (tagN R m i)) 5 (some (0, 0)))).set L (o .busy none)) .u8 w (chunk m i) := hwc _ (hmA.mono ((cle_set r12 _ A12).trans (cle_set L _ (by rw [Hp.set_ne _ _ nL12]; exact AL))))
    have lc : (chunk m i).length ≤ 16 := chunkN_len 16 m i
    have bc : Bytes (chunk m i) := chunkN_bytes bm 16 i
    generalize chunk m i = C at hwc' lc bc hGs ⊢
    generalize tagN R m i = a at la wa hwc' hGs ⊢
    obtain ⟨Bm, hBm⟩ : ∃ Bm, (A.set r12 (.row t_poly_number (nv .u64 a) 5 (some (0, 0)))).set L (o .busy none) = Bm := ⟨_, rfl⟩
    have nL11 : L ≠ r11 := by rintro rfl; rw [AL] at A11; cases A11
    have B12 : Bm r12 = some (.row t_poly_number (nv .u64 a) 5 (some (0, 0))) := by rw [← hBm, Hp.set_ne _ _ (Ne.symm nL12), Hp.set_same]
    have B11 : Bm r11 = some (.row t_poly_number (nv .u64 R) 5 (some (0, 0))) := by rw [← hBm, Hp.set_ne _ _ (Ne.symm nL11), Hp.set_ne _ _ n12]; exact A11
    show (fun h => _) ((A.set r12 (.row t_poly_number (nv .u64 a) 5 (some (0, 0)))).set L (o .busy none))
    rw [hBm] at hwc' ⊢
    refine T_Clone hwc' (by omega) fun r h3 n3 => ?_
    refine aw_lit (ps := [(0, _)]) u_Sl_uint8 z_uint8 zr_uint8 rfl (by omega) (by intro p hp; rw [List.mem_singleton.1 hp]; exact ⟨rfl, by omega⟩) fun x h4 hx _ => ?_
    refine aw_appendN u_Sl_uint8 u_Sl_uint8 nfo_uint8 rfl (by omega) n3 hx (by intro y hy; simp [fillL] at hy; subst hy; rfl) (by omega) fun v2 h5 hw5 => ?_
    have hw5' : Nn Bm t_uint8 .u8 v2 h5 (C ++ [1]) := by
      unfold Nn
      rw [nv_app, List.length_append]
      exact hw5
    obtain ⟨b5, c5, f5, hb5, _, _, hh5, _⟩ := New.form hw5' (by simp)
    have n5_12 : r12 ≠ b5 := by rintro rfl; rw [B12] at hb5; cases hb5
    have n5_11 : r11 ≠ b5 := by rintro rfl; rw [B11] at hb5; cases hb5
    have h5_12 : h5 r12 = some (.row t_poly_number (nv .u64 a) 5 (some (0, 0))) := by rw [hh5, Hp.set_ne _ _ n5_12, B12]
    have h5_11 : h5 r11 = some (.row t_poly_number (nv .u64 R) 5 (some (0, 0))) := by rw [hh5, Hp.set_ne _ _ n5_11, B11]
    refine T_load hw5'.rn (bc.append (by intro y hy; simp at hy; omega)) (by simp; omega) fun _ _ => ?_
    refine T_add a _ la (loadL_len _) h5_12 (fun i _ => by simp) ?_
    have lAdd : (addL a (loadL (C ++ [1]))).length = 5 := by rw [addL, addN_len, la]
    have wAdd : W64 (addL a (loadL (C ++ [1]))) := addN_w wa _ _
    rw [q_ldRow u_poly_number rfl (hzz R lR) (b := r11) (by rw [Hp.set_ne _ _ n12, h5_11])]
    refine Cn_wk (T_times _ R lAdd lR wAdd (Hp.set_same ..) (fun i _ => by simp) ?_)
    rw [Hp.set_set]
    refine ⟨Bm.set r12 (.row t_poly_number (nv .u64 (timesL (addL a (loadL (C ++ [1]))) R)) 5 (some (0, 0))), le_set (New.le hw5'), ?_, .inl ⟨rfl, ?_⟩⟩
    · rw [Hp.set_ne _ _ nL12, ← hBm, Hp.set_same]
    · have e : (Bm.set r12 (.row t_poly_number (nv .u64 (timesL (addL a (loadL (C ++ [1]))) R)) 5 (some (0, 0)))).set L (o .ready none) = (A.set r12 (.row t_poly_number (nv .u64 (timesL (addL a (loadL (C ++ [1]))) R)) 5 (some (0, 0)))).set L (o .ready none) := by
        rw [← hBm, Hp.set_comm _ _ _ nL12, Hp.set_set, Hp.set_set]
      rw [e]
      exact hGs _ rfl
  · rintro h' (rfl | hf)
    case inr => exact hf.elim
    rw [show (m.length + 16 - 1) / 16 = (m.length + 15) / 16 by omega]
    refine ⟨.ready, by simp, by rw [← hG]; exact Hp.set_same .., ?_⟩
    rw [delG]
    have la := tagN_len R m ((m.length + 15) / 16)
    have wa := tagN_w R m ((m.length + 15) / 16)
    generalize tagN R m ((m.length + 15) / 16) = a at la wa htag ⊢
    refine T_reduce a la wa (Hp.set_same ..) (fun i _ => by simp) ?_
    rw [Hp.set_set]
    have hkA : Rn (A.set r12 (.row t_poly_number (nv .u64 (reduceL a)) 5 (some (0, 0)))) .u8 (.slice ak key.length ck) key := ((hk.mono hw.cle).mono cleA).mono (cle_set r12 _ A12)
    refine q_slRn u_Sl_uint8 z_uint8 hkA .i64 16 (by omega) fun wk hwk => ?_
    refine T_bytes (reduceL a) (key.drop 16) (by rw [reduceL_len, la]) (reduceL_w wa) (Hp.set_same ..) hwk (bk.drop 16) (by rw [List.length_drop]; omega) fun v hf nf => ?_
    rw [← htag] at nf
    have leF : Hp.le h (A.set r12 (.row t_poly_number (nv .u64 (reduceL a)) 5 (some (0, 0)))) := (hw.le.trans leA).trans (le_fresh A12)
    obtain ⟨h0, l0, nf0⟩ := nf.down leF
    exact ⟨h0, l0, k v h0 nf0⟩
end
end Go.Proofs.Ytoikhbagchfeoaa
namespace Go.Pure
def need16 (n : Nat) : Nat := (16 - n % 16) % 16
def pad16 (o : List Nat) : List Nat := o ++ List.replicate (need16 o.length) 0
def padL (ps : List (List Nat)) : List Nat := ps.foldl (fun o p => pad16 (o ++ p)) []
theorem padL_take (ps : List (List Nat)) (i : Nat) (hi : i < ps.length) : padL (ps.take (i + 1)) = pad16 (padL (ps.take i) ++ ps.getD i []) := by
  rw [List.take_succ_eq_append_getElem hi]
  unfold padL
  rw [List.foldl_append]
  simp [List.getD_eq_getElem?_getD, hi]
theorem pad16_len (o : List Nat) : (pad16 o).length ≤ o.length + 15 := by
  unfold pad16 need16; rw [List.length_append, List.length_replicate]; omega
theorem pad16_bytes {o : List Nat} (h : Bytes o) : Bytes (pad16 o) := h.append fun x hx => by
  rw [List.mem_replicate] at hx; omega
def tagB (key nonce beside hidden : List Nat) : List Nat :=
  tagL ((blockL key nonce 0).take 32) (padL [beside, hidden] ++ (le 8 beside.length ++ le 8 hidden.length))
theorem tagB_len (key nonce beside hidden : List Nat) : (tagB key nonce beside hidden).length = 16 := tagL_len _ _
theorem tagB_bytes (key nonce beside hidden : List Nat) : Bytes (tagB key nonce beside hidden) := tagL_bytes _ _
def sealL (key nonce beside text : List Nat) : List Nat := xorL key nonce 1 text ++ tagB key nonce beside (xorL key nonce 1 text)
def may (key nonce : List Nat) : Prop := key.length = 32 ∧ nonce.length = 12
instance (key nonce : List Nat) : Decidable (may key nonce) := by unfold may; infer_instance
/-- What a box is opened to: the text, or a code. -/
def openL (key nonce beside box : List Nat) : Nat × List Nat :=
  if box.length < 16 then (8, [])
  else if tagB key nonce beside (box.take (box.length - 16)) = box.drop (box.length - 16) then (0, xorL key nonce 1 (box.take (box.length - 16)))
  else (7, [])
theorem sealL_len (key nonce b t : List Nat) : (sealL key nonce b t).length = t.length + 16 := by simp [sealL, xorL_len, tagB_len]
theorem sealL_bytes (key nonce b : List Nat) {t : List Nat} (h : Bytes t) : Bytes (sealL key nonce b t) := (xorL_bytes h).append (tagB_bytes _ _ _ _)
theorem xorL_xorL (key nonce : List Nat) (c : Nat) (t : List Nat) : xorL key nonce c (xorL key nonce c t) = t := by
  apply List.ext_getElem
  · rw [xorL_len, xorL_len]
  · intro i h1 h2
    rw [xorL_get _ _ _ _ _ (by rw [xorL_len]; exact h2)]
    have : (xorL key nonce c t).getD i 0 = t.getD i 0 ^^^ (blockL key nonce ((c + i / 64) % 4294967296)).getD (i % 64) 0 := by
      rw [← xorL_get _ _ _ _ _ h2]
      simp [List.getD_eq_getElem?_getD, show i < (xorL key nonce c t).length by rw [xorL_len]; exact h2]
    rw [this, Nat.xor_assoc, Nat.xor_self, Nat.xor_zero]
    simp [List.getD_eq_getElem?_getD, h2]
theorem open_seal (key nonce b t : List Nat) : openL key nonce b (sealL key nonce b t) = (0, t) := by
  have hl := sealL_len key nonce b t
  have e1 : (sealL key nonce b t).take ((sealL key nonce b t).length - 16) = xorL key nonce 1 t := by
    rw [hl, Nat.add_sub_cancel, sealL, List.take_append_of_le_length (by rw [xorL_len]; exact Nat.le_refl _), List.take_of_length_le (by rw [xorL_len]; exact Nat.le_refl _)]
  have e2 : (sealL key nonce b t).drop ((sealL key nonce b t).length - 16) = tagB key nonce b (xorL key nonce 1 t) := by
    have : t.length = (xorL key nonce 1 t).length := by rw [xorL_len]
    rw [hl, Nat.add_sub_cancel, sealL, this, List.drop_left]
  unfold openL
  rw [if_neg (by omega), e1, e2, if_pos rfl, xorL_xorL]
end Go.Pure
set_option linter.unusedSimpArgs false
set_option linter.unusedVariables false
set_option maxRecDepth 100000
namespace Go.Proofs.Ytoikhbagchfeoaa
open Go Go.SL Go.Pure
section
variable {h : Hp} {K : Value → Hp → Prop}
theorem T_Grow0 (n : Nat) (hn : n ≤ 70368744177664) (k : ∀ v h', New h t_uint8 1 v h' [] 0 → K v h') : Cn P n_slices_Grow_byte_byte #[.slice none 0 0, .int .i64 n] h K := by
  refine F_slices_Grow_byte_byte ?_
  unfold s_slices_Grow_byte_byte
  have e0 : decide ((n : Int) < 0) = false := decide_eq_false (by omega)
  have ecap : ∀ (K : Value → Prop), q P h (Builtin.cap_ #[t_Sl_uint8] t_int #[.slice none 0 0]) K = K (.int .i64 0) := fun K => q_of (by
    show peek P h (Sem.bind (underlying t_Sl_uint8) _) = _
    rw [peek_bind, pk_und u_Sl_uint8]
    rfl) K
  simp (disch := omega) only [GL, RL, wi64, e0, Bool.false_eq_true, if_false, ecap]
  by_cases h0 : n = 0
  · subst h0
    exact k _ _ ⟨rfl, .inl ⟨rfl, rfl, rfl⟩⟩
  · have e1 : decide ((0 : Int) < (n : Int) - (((0 : Nat) : Int) - ((0 : Nat) : Int))) = true := decide_eq_true (by omega)
    have e2 : decide ((0 : Int) < (n : Int) - (0 - ((0 : Nat) : Int))) = true := decide_eq_true (by omega)
    have e3 : (n : Int) - (0 - ((0 : Nat) : Int)) = (n : Int) := by omega
    have e4 : decide ((0 : Int) < (n : Int)) = true := decide_eq_true (by omega)
    simp (disch := omega) only [e1, e2, e3, e4, if_true]
    have es : ∀ (K : Value → Prop), q P h (Instr.sliceAt t_Sl_uint8 (.slice none 0 0) none (some (.int .i64 0)) none) K = K (.slice none 0 0) := fun K => q_slHi u_Sl_uint8 z_uint8 none 0 0 .i64 0 (Nat.le_refl _)
    try rw [es]
    refine aw_growNil (n := n) u_Sl_uint8 u_int nfo_uint8 rfl (by omega) (by omega) (by omega) fun r c hr hc => ?_
    have es2 := q_slHi (P := P) (h := h.set r (.row t_uint8 [] c (some (0, 0)))) (K := fun t25 => K t25 (h.set r (.row t_uint8 [] c (some (0, 0))))) u_Sl_uint8 z_uint8 (some ⟨r, 0, none⟩) n c .i64 0 (by omega)
    refine es2.mpr ?_
    refine k _ _ ⟨rfl, .inr ⟨r, c, (0, 0), hr, Nat.zero_le _, ?_, by rw [Nat.mul_one], fun i _ => by simp⟩⟩
    unfold SL.cut
    split
    · rfl
    · rw [Option.map_some, add_off]
theorem flat_take (ps : List (List Nat)) (i : Nat) (hi : i < ps.length) : (ps.take (i + 1)).flatten = (ps.take i).flatten ++ ps.getD i [] := by
  rw [List.take_succ_eq_append_getElem hi, List.flatten_append]
  simp [List.getD_eq_getElem?_getD, hi]
theorem flat_le (ps : List (List Nat)) (i : Nat) : (ps.take i).flatten.length ≤ ps.flatten.length := by
  conv => rhs; rw [← List.take_append_drop i ps, List.flatten_append, List.length_append]
  omega
/-- The parts of a row of rows. -/
def Parts (h : Hp) (v : Value) (ps : List (List Nat)) : Prop :=
  ∃ b o c, v = .slice (some ⟨b, o, none⟩) ps.length c ∧ ps.length ≤ c ∧ ∀ i, i < ps.length → ∃ w, h.cell ⟨b, o + i, none⟩ = some w ∧ Rn h .u8 w (ps.getD i [])
theorem Parts.mono {h h' : Hp} {v : Value} {ps : List (List Nat)} (p : Parts h v ps) (c : Hp.cle h h') : Parts h' v ps := by
  obtain ⟨b, o, cc, e, hc, q⟩ := p
  exact ⟨b, o, cc, e, hc, fun i hi => let ⟨w, h1, h2⟩ := q i hi; ⟨w, c _ _ h1, h2.mono c⟩⟩
theorem T_Concat {v : Value} {ps : List (List Nat)} (hv : Parts h v ps) (hl : ps.flatten.length ≤ 70368744177664) (hn : ps.length ≤ 70368744177664) (k : ∀ r h', Nn h t_uint8 .u8 r h' ps.flatten → K r h') : Cn P n_slices_Concat_byte_byte #[v] h K := by
  refine F_slices_Concat_byte_byte ?_
  unfold s_slices_Concat_byte_byte
  obtain ⟨b, o, c, rfl, hc, hp⟩ := hv
  simp (disch := omega) only [GL, RL]
  refine Lp_mk (fun u vs h' => ∃ i : Nat, i + u = ps.length ∧ h' = h ∧ vs = [.int .i64 (((ps.take i).flatten.length : Nat) : Int), .int .i64 (i : Int)]) ps.length ⟨0, by omega, rfl, rfl⟩ ?_
  rintro u vs h' ⟨i, hi, rfl, rfl⟩
  simp (disch := omega) only [GL, RL, wi64, lt_dec]
  by_cases hlt : i < ps.length
  · obtain ⟨w, hw, hr⟩ := hp i hlt
    obtain ⟨a', c', rfl, hc'⟩ := hr.shape
    have e1 : ((((ps.take i).flatten.length : Nat) : Int) + ((ps.getD i []).length : Nat)) = (((ps.take (i + 1)).flatten.length : Nat) : Int) := by rw [flat_take ps i hlt, List.length_append]; omega
    have l1 := flat_le ps (i + 1)
    have e2 : decide ((((ps.take (i + 1)).flatten.length : Nat) : Int) < 0) = false := decide_eq_false (by omega)
    simp (disch := omega) only [GL, RL, wi64, hlt, decide_true, if_true, hw, e1, e2, Bool.false_eq_true, if_false]
    exact ⟨_, .refl _, u - 1, by omega, i + 1, by omega, rfl, rfl⟩
  obtain rfl : i = ps.length := by omega
  simp only [hlt, decide_false, Bool.false_eq_true, if_false, List.take_length]
  refine T_Grow0 _ hl fun v1 h1 hw1 => ?_
  refine Lp_mk (fun u vs h2 => ∃ (i : Nat) (v : Value), i + u = ps.length ∧ New h' t_uint8 1 v h2 (nv .u8 (ps.take i).flatten) (ps.take i).flatten.length ∧ vs = [v, .int .i64 (i : Int)]) ps.length ⟨0, v1, by omega, hw1, rfl⟩ ?_
  clear hw1 hlt
  rintro u vs h2 ⟨i, v2, hi, hw, rfl⟩
  simp (disch := omega) only [GL, RL, wi64, lt_dec]
  by_cases hlt : i < ps.length
  · obtain ⟨w, hwc, hr⟩ := hp i hlt
    have hwc2 := hw.cle _ _ hwc
    simp (disch := omega) only [GL, RL, wi64, hlt, decide_true, if_true, hwc2]
    have l1 := flat_le ps (i + 1)
    rw [flat_take ps i hlt, List.length_append] at l1
    refine aw_append u_Sl_uint8 u_Sl_uint8 nfo_uint8 rfl (by omega) hw (hr.mono hw.cle) (nv_flat _ _) (by omega) (.refl _) fun v3 h3 hw3 => ?_
    refine ⟨_, .refl _, u - 1, by omega, i + 1, v3, by omega, ?_, rfl⟩
    rw [flat_take ps i hlt, nv_app, List.length_append]
    exact hw3
  · obtain rfl : i = ps.length := by omega
    simp only [hlt, decide_false, Bool.false_eq_true, if_false]
    rw [List.take_length] at hw
    exact k _ _ hw
theorem T_padded {v : Value} {ps : List (List Nat)} (hv : Parts h v ps) (hl : ∀ i, (padL (ps.take i)).length ≤ 70368744177664) (hl2 : ∀ i, (ps.getD i []).length ≤ 35184372088832) (hn : ps.length ≤ 70368744177664) (k : ∀ r h', Nn h t_uint8 .u8 r h' (padL ps) → K r h') :
    Cn P n_aead_padded #[v] h K := by
  refine F_aead_padded ?_
  unfold s_aead_padded
  obtain ⟨b, o, c, rfl, hc, hp⟩ := hv
  simp (disch := omega) only [GL, RL]
  refine Lp_mk (fun u vs h2 => ∃ (i : Nat) (v : Value), i + u = ps.length ∧ New h t_uint8 1 v h2 (nv .u8 (padL (ps.take i))) (padL (ps.take i)).length ∧ vs = [v, .int .i64 (i : Int)]) ps.length ⟨0, .slice none 0 0, by omega, ⟨rfl, .inl ⟨rfl, rfl, rfl⟩⟩, rfl⟩ ?_
  rintro u vs h2 ⟨i, v2, hi, hw, rfl⟩
  simp (disch := omega) only [GL, RL, wi64, lt_dec]
  by_cases hlt : i < ps.length
  · obtain ⟨w, hwc, hr⟩ := hp i hlt
    have hwc2 := hw.cle _ _ hwc
    simp (disch := omega) only [GL, RL, wi64, hlt, decide_true, if_true, hwc2]
    have l1 := hl i
    have l2 := hl2 i
    refine aw_append u_Sl_uint8 u_Sl_uint8 nfo_uint8 rfl (by omega) hw (hr.mono hw.cle) (nv_flat _ _) (by omega) (.refl _) fun v3 h3 hw3 => ?_
    have hpad := padL_take ps i hlt
    rw [← nv_app] at hw3
    rw [← List.length_append] at hw3
    have l3 : (padL (ps.take i) ++ ps.getD i []).length ≤ 140737488355328 - 35184372088832 := by rw [List.length_append]; omega
    generalize padL (ps.take i) ++ ps.getD i [] = O at hw3 hpad l3
    clear hw
    refine Lp_mk (fun u' vs h' => ∃ (j : Nat) (v : Value), j + u' = need16 O.length ∧ New h t_uint8 1 v h' (nv .u8 (O ++ List.replicate j 0)) (O.length + j) ∧ vs = [v]) (need16 O.length) ⟨0, v3, by omega, by simpa using hw3, rfl⟩ ?_
    clear hw3
    rintro u' vs h' ⟨j, v4, hj, hw, rfl⟩
    have hn16 : need16 O.length < 16 := Nat.mod_lt _ (by decide)
    obtain ⟨a4, c4, rfl⟩ : ∃ a c, v4 = .slice a (O.length + j) c := by
      obtain ⟨_, a, c, e, _⟩ := hw.rds
      exact ⟨a, c, e⟩
    have e1 : (((O.length + j : Nat) : Int).tmod 16 != 0) = decide ((O.length + j) % 16 ≠ 0) := by
      have : ((O.length + j : Nat) : Int).tmod 16 = (((O.length + j) % 16 : Nat) : Int) := (Int.ofNat_tmod _ 16).symm
      rw [this, Bool.eq_iff_iff, bne_iff_ne, decide_eq_true_eq]; omega
    simp (disch := omega) only [GL, RL, wi64, e1]
    by_cases hz : (O.length + j) % 16 ≠ 0
    · simp (disch := omega) only [hz, decide_true, if_true, not_false_eq_true, ne_eq]
      refine aw_lit (ps := [(0, _)]) u_Sl_uint8 z_uint8 zr_uint8 rfl (by omega) (by intro p hp; rw [List.mem_singleton.1 hp]; exact ⟨rfl, by omega⟩) fun x h4 hx _ => ?_
      refine aw_appendN u_Sl_uint8 u_Sl_uint8 nfo_uint8 rfl (by omega) hw hx (by intro y hy; simp [fillL] at hy; subst hy; rfl) (by omega) fun v5 h5 hw5 => ?_
      have hlt2 : j < need16 O.length := by unfold need16 at hj ⊢; omega
      refine ⟨_, .refl _, u' - 1, by omega, j + 1, v5, by omega, ?_, rfl⟩
      rw [List.replicate_succ', ← List.append_assoc, nv_app]
      exact hw5
    · have hje : j = need16 O.length := by
        simp only [ne_eq, Decidable.not_not] at hz
        unfold need16 at hj ⊢; omega
      simp (disch := omega) only [hz, decide_false, Bool.false_eq_true, if_false, not_true_eq_false, ne_eq]
      refine ⟨_, .refl _, u - 1, by omega, i + 1, _, by omega, ?_, rfl⟩
      rw [hpad]
      unfold pad16
      rw [← hje, List.length_append, List.length_replicate]
      exact hw
  · obtain rfl : i = ps.length := by omega
    simp only [hlt, decide_false, Bool.false_eq_true, if_false]
    rw [List.take_length] at hw
    exact k _ _ hw
end
end Go.Proofs.Ytoikhbagchfeoaa
set_option linter.unusedSimpArgs false
set_option linter.unusedVariables false
set_option maxRecDepth 100000
namespace Go.Proofs.Ytoikhbagchfeoaa
open Go Go.SL Go.Pure
theorem or0 (r s : Nat) : r ||| s = 0 ↔ r = 0 ∧ s = 0 := by
  constructor
  · intro e
    have h1 : r ≤ r ||| s := Nat.left_le_or
    have h2 : s ≤ r ||| s := Nat.right_le_or
    omega
  · rintro ⟨rfl, rfl⟩; rfl
theorem xor0 (x y : Nat) : x ^^^ y = 0 ↔ x = y := by
  constructor
  · intro e
    have : (x ^^^ y) ^^^ y = x := by rw [Nat.xor_assoc, Nat.xor_self, Nat.xor_zero]
    rw [e, Nat.zero_xor] at this
    exact this.symm
  · rintro rfl; exact Nat.xor_self _
theorem pk_slHi {h : Hp} (a : Option Addr) (n c hi : Nat) (h1 : hi ≤ c) : peek P h (Instr.sliceAt t_Sl_uint8 (.slice a n c) none (some (.int .i64 hi)) none) = some (.slice (SL.cut a c 0 1) hi c) := by
  obtain ⟨x, hx, e⟩ := withVal_elim (K := fun x => x = .slice (SL.cut a c 0 1) hi c) ((q_slHi (P := P) (h := h) (K := fun x => x = .slice (SL.cut a c 0 1) hi c) u_Sl_uint8 z_uint8 a n c .i64 hi h1).mpr rfl)
  rw [e] at hx
  exact hx
theorem padL2_len (a b : List Nat) (i : Nat) : (padL ([a, b].take i)).length ≤ a.length + b.length + 30 := by
  have h1 := pad16_len ([] ++ a)
  have h2 := pad16_len (pad16 ([] ++ a) ++ b)
  rw [List.length_append] at h2
  rcases i with _ | _ | i
  · simp [padL]
  · show (pad16 ([] ++ a)).length ≤ _
    simp at h1; simp; omega
  · have : [a, b].take (i + 2) = [a, b] := by simp
    rw [this]
    show (pad16 (pad16 ([] ++ a) ++ b)).length ≤ _
    simp at h1 h2 ⊢; omega
theorem padL2_bytes {a b : List Nat} (ha : Bytes a) (hb : Bytes b) : Bytes (padL [a, b]) := by
  show Bytes (pad16 (pad16 ([] ++ a) ++ b))
  exact pad16_bytes ((pad16_bytes (by simpa using ha)).append hb)
section
variable {h : Hp} {K : Value → Hp → Prop}
theorem T_word_Equal {v w : Value} {l m : List Nat} (hv : Rn h .u8 v l) (hw : Rn h .u8 w m) (bl : Bytes l) (bm : Bytes m) (hl : l.length ≤ 4611686018427387904) (k : K (.bool (decide (l = m))) h) : Cn P n_word_Equal #[v, w] h K := by
  refine F_word_Equal ?_
  obtain ⟨a, c, rfl, hc⟩ := hv.shape
  obtain ⟨a', c', rfl, hc'⟩ := hw.shape
  unfold s_word_Equal
  simp (disch := omega) only [GL, RL]
  by_cases hlen : l.length = m.length
  · rw [if_neg (by simp [hlen])]
    refine Lp_mk (fun n vs h' => ∃ (i r : Nat), i + n = l.length ∧ h' = h ∧ r < 256 ∧ (r = 0 ↔ ∀ j, j < i → l.getD j 0 = m.getD j 0) ∧ vs = [.int .u8 (r : Int), .int .i64 (i : Int)]) l.length ⟨0, 0, by omega, rfl, by omega, ⟨fun _ j hj => by omega, fun _ => rfl⟩, rfl⟩ ?_
    rintro n vs h2 ⟨i, r, hi, rfl, hr, hs, rfl⟩
    simp (disch := omega) only [GL, RL, lt_dec]
    by_cases hlt : i < l.length
    · obtain ⟨b, o, rfl, hy⟩ := hv.pos (by omega)
      obtain ⟨b', o', rfl, hy'⟩ := hw.pos (by omega)
      simp (disch := omega) only [GL, RL, hlt, decide_true, if_true, hy i hlt, hy' i (by omega), wi64]
      have b1 := bl.getD i
      have b2 := bm.getD i
      have b3 : l.getD i 0 ^^^ m.getD i 0 < 256 := Nat.xor_lt_two_pow (n := 8) b1 b2
      have b4 : r ||| (l.getD i 0 ^^^ m.getD i 0) < 256 := Nat.or_lt_two_pow (n := 8) hr b3
      rw [ixor8_nat _ _ b1 b2, or8 (by omega) (by omega) (by omega) (by omega), Int.toNat_natCast, Int.toNat_natCast]
      refine ⟨_, .refl _, n - 1, by omega, i + 1, _, by omega, rfl, b4, ?_, rfl⟩
      rw [or0, xor0, hs]
      constructor
      · rintro ⟨q, e⟩ j hj
        by_cases hji : j = i
        · rw [hji]; exact e
        · exact q j (by omega)
      · exact fun q => ⟨fun j hj => q j (by omega), q i (by omega)⟩
    · simp (disch := omega) only [GL, RL, hlt, decide_false, Bool.false_eq_true, if_false]
      have e1 : ((r : Int) == 0) = decide (l = m) := by
        rw [Bool.eq_iff_iff, beq_iff_eq, decide_eq_true_eq]
        have : (r : Int) = 0 ↔ r = 0 := by omega
        rw [this, hs]
        constructor
        · intro q
          apply List.ext_getElem hlen
          intro j h1 h2
          have := q j (by omega)
          simpa [h1, h2] using this
        · rintro rfl j _; rfl
      rw [e1]
      exact k
  · rw [if_pos (by simp; omega)]
    have : l ≠ m := by rintro rfl; exact hlen rfl
    simpa [this] using k
theorem T_tag {vk vn vb vh : Value} {key nonce b t : List Nat} (hk : Rn h .u8 vk key) (hn : Rn h .u8 vn nonce) (hb : Rn h .u8 vb b) (ht : Rn h .u8 vh t) (bk : Bytes key) (bn : Bytes nonce) (bb : Bytes b) (bt : Bytes t)
    (lb : b.length ≤ 1099511627776) (lt : t.length ≤ 1099511627776) (hm : key.length = 32 ∧ nonce.length = 12)
    (k : ∀ v h', Nn h t_uint8 .u8 v h' (tagB key nonce b t) → K (.tuple #[v, .int .i64 0]) h') : Cn P n_aead_tag #[vk, vn, vb, vh] h K := by
  refine Cn_wk (F_aead_tag ?_)
  obtain ⟨ab, cb, rfl, hcb⟩ := hb.shape
  obtain ⟨at', ct, rfl, hct⟩ := ht.shape
  unfold s_aead_tag
  refine T_Block 0 (by omega) hk hn bk bn fun vB h1 hB => ?_
  rw [if_pos hm] at hB ⊢
  have lB := blockL_len key nonce 0
  have bB := blockL_bytes key nonce 0
  have htag : tagB key nonce b t = tagL ((blockL key nonce 0).take 32) (padL [b, t] ++ (le 8 b.length ++ le 8 t.length)) := rfl
  generalize blockL key nonce 0 = B at hB lB bB htag
  rw [ext0, ext1]
  simp (disch := omega) only [GL, RL, bne_self_eq_false, Bool.false_eq_true, if_false, wu64i]
  refine T_word_Put64 b.length (by omega) fun v25 h2 n2 => ?_
  refine T_word_Put64 t.length (by omega) fun v29 h3 n3 => ?_
  have n2' : New h1 t_uint8 1 v25 h2 (nv .u8 (le 8 b.length)) 8 := by unfold Nn at n2; rwa [le_len] at n2
  have n3' : New h2 t_uint8 1 v29 h3 (nv .u8 (le 8 t.length)) 8 := by unfold Nn at n3; rwa [le_len] at n3
  refine aw_appendN u_Sl_uint8 u_Sl_uint8 nfo_uint8 rfl (by omega) n2' n3' (nv_flat _ _) (by omega) fun v30 h4 n4 => ?_
  have n4' : Nn h1 t_uint8 .u8 v30 h4 (le 8 b.length ++ le 8 t.length) := by
    unfold Nn; rw [nv_app, List.length_append, le_len, le_len]; exact n4
  obtain ⟨aB, cB, rfl, hcB⟩ := hB.rn.shape
  have hsl : ∀ H : Hp, peek P H (Instr.sliceAt t_Sl_uint8 (.slice aB B.length cB) none (some (Value.int .i64 32)) none) = some (.slice (SL.cut aB cB 0 1) 32 cB) := fun H => pk_slHi aB B.length cB 32 (by omega)
  have hr32 : Rn h1 .u8 (.slice (SL.cut aB cB 0 1) 32 cB) (B.take 32) := rn_hi hB.rn (by omega)
  rw [q_of (hsl _)]
  refine aw_lit (ps := [(0, _), (1, _)]) u_Sl_Sl_uint8 z_Sl_uint8 zr_Sl_uint8 rfl (by omega) (by intro p hp; simp at hp; rcases hp with rfl | rfl <;> exact ⟨rfl, by show _ < 2; omega⟩) fun v35 h5 n5 hx => ?_
  obtain ⟨r5, hr5, rfl, hh5⟩ := hx
  have c45 : Hp.cle h4 h5 := n5.cle
  have c15 : Hp.cle h1 h5 := n4'.cle.trans c45
  have c05 : Hp.cle h h5 := hB.cle.trans c15
  have hparts : Parts h5 (.slice (some ⟨r5, 0, none⟩) 2 2) [b, t] := by
    refine ⟨r5, 0, 2, rfl, Nat.le_refl _, fun i hi => ?_⟩
    have h5r : h5 r5 = some (.row t_Sl_uint8 [.slice ab b.length cb, .slice at' t.length ct] 2 (some (0, 0))) := by rw [hh5, Hp.set_same]; rfl
    have : i = 0 ∨ i = 1 := by simp at hi; omega
    rcases this with rfl | rfl
    · exact ⟨_, by rw [cell_row h5r]; rfl, hb.mono c05⟩
    · exact ⟨_, by rw [cell_row h5r]; rfl, ht.mono c05⟩
  refine ⟨hsl _, ?_⟩
  refine T_padded hparts (fun i => by have := padL2_len b t i; omega) (fun i => by rcases i with _ | _ | i <;> simp <;> omega) (by simp) fun v36 h6 n6 => ?_
  refine ⟨hsl _, ?_⟩
  have lp := padL2_len b t 2
  simp only [List.take_succ_cons, List.take_zero] at lp
  have lle : (le 8 b.length ++ le 8 t.length).length = 16 := by rw [List.length_append, le_len, le_len]
  refine aw_append u_Sl_uint8 u_Sl_uint8 nfo_uint8 rfl (by omega) n6 ((n4'.rn.mono c45).mono n6.cle) (nv_flat _ _) (by rw [lle]; omega) (.refl _) fun v38 h7 n7 => ?_
  have n7' : Nn h5 t_uint8 .u8 v38 h7 (padL [b, t] ++ (le 8 b.length ++ le 8 t.length)) := by
    unfold Nn; rw [nv_app, List.length_append]; exact n7
  refine ⟨hsl _, ?_⟩
  have bmsg : Bytes (padL [b, t] ++ (le 8 b.length ++ le 8 t.length)) := (padL2_bytes bb bt).append ((le_bytes _ _).append (le_bytes _ _))
  refine T_poly_Tag ((hr32.mono c15).mono n7'.cle) n7'.rn (bB.take 32) bmsg (by rw [List.length_take]; omega) (by rw [List.length_append, lle]; omega) fun v h8 n8 => ?_
  rw [← htag] at n8
  rw [ext0, ext1]
  have leF : Hp.le h h7 := (((New.le hB).trans (New.le n4')).trans n5.le).trans (New.le n7')
  obtain ⟨h0, l0, nf⟩ := n8.down leF
  exact ⟨h0, l0, k v h0 nf⟩
theorem T_Seal {vk vn vb vt : Value} {key nonce b t : List Nat} (hk : Rn h .u8 vk key) (hn : Rn h .u8 vn nonce) (hb : Rn h .u8 vb b) (ht : Rn h .u8 vt t) (bk : Bytes key) (bn : Bytes nonce) (bb : Bytes b) (bt : Bytes t)
    (lb : b.length ≤ 1099511627776) (lt : t.length ≤ 1099511627776)
    (k : ∀ v h', (if key.length = 32 ∧ nonce.length = 12 then Nn h t_uint8 .u8 v h' (sealL key nonce b t) else v = .slice none 0 0 ∧ h' = h) → K (.tuple #[v, .int .i64 (if key.length = 32 ∧ nonce.length = 12 then 0 else 1)]) h') :
    Cn P n_aead_Seal #[vk, vn, vb, vt] h K := by
  refine Cn_wk (F_aead_Seal ?_)
  unfold s_aead_Seal
  refine T_Xor 1 (by omega) hk hn ht bk bn bt (by omega) fun vX h1 hX => ?_
  rw [ext0, ext1]
  by_cases hm : key.length = 32 ∧ nonce.length = 12
  case neg =>
    rw [if_neg hm] at hX ⊢
    obtain ⟨rfl, rfl⟩ := hX
    have e1 : ((1 : Int) != 0) = true := rfl
    simp (disch := omega) only [GL, RL, e1, if_true]
    have := k (.slice none 0 0) h1
    rw [if_neg hm, if_neg hm] at this
    exact ⟨h1, .refl _, this ⟨rfl, rfl⟩⟩
  rw [if_pos hm] at hX ⊢
  have lX := xorL_len key nonce 1 t
  have bX : Bytes (xorL key nonce 1 t) := xorL_bytes bt
  have hseal : sealL key nonce b t = xorL key nonce 1 t ++ tagB key nonce b (xorL key nonce 1 t) := rfl
  generalize xorL key nonce 1 t = X at hX lX bX hseal
  simp (disch := omega) only [GL, RL, bne_self_eq_false, Bool.false_eq_true, if_false]
  refine T_tag (hk.mono hX.cle) (hn.mono hX.cle) (hb.mono hX.cle) hX.rn bk bn bb bX lb (by omega) hm fun vT h2 hT => ?_
  rw [ext0, ext1]
  simp (disch := omega) only [GL, RL, bne_self_eq_false, Bool.false_eq_true, if_false]
  have fX : flat vX = true := by obtain ⟨a, c, e, _⟩ := hX.rn.shape; rw [e]; rfl
  have fT : flat vT = true := by obtain ⟨a, c, e, _⟩ := hT.rn.shape; rw [e]; rfl
  refine aw_lit (ps := [(0, _), (1, _)]) u_Sl_Sl_uint8 z_Sl_uint8 zr_Sl_uint8 rfl (by omega) (by intro p hp; simp at hp; exact hp.elim (fun e => by subst e; exact ⟨fX, by show _ < 2; omega⟩) (fun e => by subst e; exact ⟨fT, by show _ < 2; omega⟩)) fun v36 h3 n3 hx => ?_
  obtain ⟨r3, hr3, rfl, hh3⟩ := hx
  have c23 : Hp.cle h2 h3 := n3.cle
  have hparts : Parts h3 (.slice (some ⟨r3, 0, none⟩) 2 2) [X, tagB key nonce b X] := by
    refine ⟨r3, 0, 2, rfl, Nat.le_refl _, fun i hi => ?_⟩
    have h3r : h3 r3 = some (.row t_Sl_uint8 [vX, vT] 2 (some (0, 0))) := by rw [hh3, Hp.set_same]; rfl
    have : i = 0 ∨ i = 1 := by simp at hi; omega
    rcases this with rfl | rfl
    · exact ⟨_, by rw [cell_row h3r]; rfl, (hX.rn.mono hT.cle).mono c23⟩
    · exact ⟨_, by rw [cell_row h3r]; rfl, hT.rn.mono c23⟩
  have hfl : [X, tagB key nonce b X].flatten = sealL key nonce b t := by rw [hseal]; simp
  have ltag := tagB_len key nonce b X
  refine T_Concat hparts (by simp [ltag]; omega) (by simp) fun v h4 n4 => ?_
  rw [hfl] at n4
  have leF : Hp.le h h3 := ((New.le hX).trans (New.le hT)).trans n3.le
  obtain ⟨h0, l0, nf⟩ := n4.down leF
  have := k v h0
  rw [if_pos hm, if_pos hm] at this
  exact ⟨h0, l0, this nf⟩
end
end Go.Proofs.Ytoikhbagchfeoaa
set_option linter.unusedSimpArgs false
set_option linter.unusedVariables false
set_option maxRecDepth 100000
set_option maxHeartbeats 1000000
namespace Go.Proofs.Ytoikhbagchfeoaa
open Go Go.SL Go.Pure Go.Curve
/-- A scalar clamped. -/
def clampL (k : List Nat) : List Nat := (k.set 0 (k.getD 0 0 / 8 * 8)).set 31 (k.getD 31 0 % 64 + 64)
theorem clampL_len (k : List Nat) : (clampL k).length = k.length := by rw [clampL, List.length_set, List.length_set]
theorem clampL_bytes {k : List Nat} (h : Bytes k) : Bytes (clampL k) := fun x hx => by
  rcases List.mem_or_eq_of_mem_set hx with q | q
  · rcases List.mem_or_eq_of_mem_set q with q | q
    · exact h x q
    · have := h.getD 0; omega
  · have := h.getD 31; omega
theorem and248_all : ((List.range 256).all fun x => (x &&& 248) == x / 8 * 8) = true := by decide +kernel
theorem or64_all : ((List.range 256).all fun x => (x &&& 127) ||| 64 == x % 64 + 64) = true := by decide +kernel
theorem and248 {x : Nat} (h : x < 256) : iand .u8 (x : Int) 248 = ((x / 8 * 8 : Nat) : Int) := by
  rw [and8 (by omega) (by omega) (by omega) (by omega), Int.toNat_natCast]
  have := List.all_eq_true.1 and248_all x (List.mem_range.2 h)
  rw [beq_iff_eq] at this
  show ((x &&& 248 : Nat) : Int) = _
  rw [this]
theorem clamp31 {x : Nat} (h : x < 256) : ior .u8 (iand .u8 (x : Int) 127) 64 = ((x % 64 + 64 : Nat) : Int) := by
  have a : iand .u8 (x : Int) 127 = ((x &&& 127 : Nat) : Int) := by
    rw [and8 (by omega) (by omega) (by omega) (by omega), Int.toNat_natCast]; rfl
  have b : x &&& 127 < 256 := Nat.lt_of_le_of_lt Nat.and_le_left h
  rw [a, or8 (by omega) (by omega) (by omega) (by omega), Int.toNat_natCast]
  have := List.all_eq_true.1 or64_all x (List.mem_range.2 h)
  rw [beq_iff_eq] at this
  show ((x &&& 127 ||| 64 : Nat) : Int) = _
  rw [this]
section
variable {h : Hp} {K : Value → Hp → Prop}
theorem ne32 (n : Nat) : (((n : Nat) : Int) != 32) = decide (n ≠ 32) := by
  have := ne_dec n 32
  exact this
theorem T_Clamp {v : Value} {l : List Nat} (rv : Rn h .u8 v l) (hb : Bytes l) (hl : l.length ≤ 70368744177664) (k0 : l.length ≠ 32 → K (.tuple #[.slice none 0 0, .int .i64 1]) h) (k1 : l.length = 32 → ∀ r h', Nn h t_uint8 .u8 r h' (clampL l) → K (.tuple #[r, .int .i64 0]) h') :
    Cn P n_curve_Clamp #[v] h K := by
  refine Cn_wk (F_curve_Clamp ?_)
  unfold s_curve_Clamp
  obtain ⟨a, c, rfl, hc⟩ := rv.shape
  have ln : ∀ {K : Value → Prop}, q P h (Builtin.len_ #[t_Sl_uint8] t_int #[.slice a l.length c]) K = K (.int .i64 (l.length : Nat)) := fun {K} => q_lenS u_Sl_uint8 _ _ _
  rw [ln]
  simp -zeta only [GL, ne32]
  by_cases h32 : l.length = 32
  · have d0 : decide (l.length ≠ 32) = false := by simp [h32]
    simp -zeta only [d0, Bool.false_eq_true, if_false]
    refine T_Clone rv hl fun r H nw => ?_
    obtain ⟨b, cc, f, hbn, hcc, rfl, hH, hf⟩ := New.form nw (by omega)
    have nw : New h t_uint8 1 (.slice (some ⟨b, 0, none⟩) l.length cc) H (nv .u8 l) l.length := nw
    have hrow : H b = some (.row t_uint8 (nv .u8 l) (cc * 1) (some f)) := by rw [hH, Hp.set_same]
    have c0 := cellN (i := 0) hrow (by omega)
    have i0 : ((0 : Int)).toNat = 0 := rfl
    have i31 : ((31 : Int)).toNat = 31 := rfl
    simp -zeta (disch := first | omega | decide) only [GL, RL, i0, Nat.add_zero, c0, and248 (hb.getD 0)]
    refine aw_storeN z_uint8 nw (by omega) rfl fun H2 nw2 => ?_
    rw [nv_set] at nw2
    obtain ⟨b2, cc2, f2, _, _, e2, hH2, _⟩ := New.form nw2 (by omega)
    simp only [Value.slice.injEq, Option.some.injEq, Addr.mk.injEq, and_true, true_and] at e2
    obtain ⟨rfl, rfl⟩ := e2
    have hrow2 : H2 b = some (.row t_uint8 (nv .u8 (l.set 0 (l.getD 0 0 / 8 * 8))) (cc * 1) (some f2)) := by rw [hH2, Hp.set_same]
    have c31 := cellN (i := 31) hrow2 (by rw [List.length_set]; omega)
    have g31 : (l.set 0 (l.getD 0 0 / 8 * 8)).getD 31 0 = l.getD 31 0 := by
      rw [List.getD_eq_getElem?_getD, List.getElem?_set, if_neg (by omega), ← List.getD_eq_getElem?_getD]
    rw [g31] at c31
    simp -zeta (disch := first | omega | decide) only [GL, RL, i31, Nat.zero_add, c31, clamp31 (hb.getD 31)]
    refine aw_storeN z_uint8 nw2 (by omega) rfl fun H3 nw3 => ?_
    rw [nv_set] at nw3
    refine ⟨H3, .refl _, k1 h32 _ _ ?_⟩
    show New h t_uint8 1 _ H3 (nv .u8 (clampL l)) (clampL l).length
    rw [clampL_len]
    exact nw3
  · have d0 : decide (l.length ≠ 32) = true := by simp [h32]
    simp -zeta only [d0, if_true]
    exact ⟨h, .refl _, k0 h32⟩
/-- What a scalar and a point come to. -/
def sharedF (kl pl : List Nat) : F := xlad (bitsK (clampL kl)) (ph (leval pl % 57896044618658097711785492504343953926634992332820282019728792003956564819968))
def publicF (kl : List Nat) : F := xlad (bitsK (clampL kl)) 9
theorem nb_zero (x : F) : decide (nb x = List.replicate 32 0) = decide (x = 0) := by
  have e : List.replicate 32 0 = nb 0 := by decide +kernel
  rw [e, decide_eq_decide]
  exact ⟨nb_inj, fun h => by rw [h]⟩
theorem T_Public {v : Value} {l : List Nat} (rv : Rn h .u8 v l) (hb : Bytes l) (hl : l.length ≤ 70368744177664) (k0 : l.length ≠ 32 → K (.tuple #[.slice none 0 0, .int .i64 1]) h) (k1 : l.length = 32 → ∀ r h', Nn h t_uint8 .u8 r h' (nb (publicF l)) → K (.tuple #[r, .int .i64 0]) h') :
    Cn P n_curve_Public #[v] h K := by
  refine Cn_wk (F_curve_Public ?_)
  unfold s_curve_Public
  refine T_Clamp rv hb hl (fun h32 => ?_) fun h32 r H nw => ?_
  · rw [ext0, ext1]
    have b0 : ((1 : Int) != 0) = true := rfl
    simp -zeta only [GL, b0, if_true]
    exact ⟨h, .refl _, k0 h32⟩
  · rw [ext0, ext1]
    have b0 : ((0 : Int) != 0) = false := rfl
    simp -zeta only [GL, b0, Bool.false_eq_true, if_false]
    refine aw_byte1 9 (.refl H) fun w H2 rw2 x2 => ?_
    refine V_From rw2 (fun x hx => by rw [List.mem_singleton.1 hx]; decide) (by decide) fun s ps => ?_
    have s1 : ph (leval [9] % 57896044618658097711785492504343953926634992332820282019728792003956564819968) = 9 := by decide +kernel
    rw [s1] at ps
    refine T_climb (nw.rn.mono x2.cle) (clampL_bytes hb) (by rw [clampL_len, h32]) ps fun r2 H3 nw3 => ?_
    obtain ⟨h0, l0, nw0⟩ := nw3.down (nw.ext.trans x2).le
    exact ⟨h0, l0, k1 h32 _ _ nw0⟩
theorem T_Shared {v w : Value} {l m : List Nat} (rv : Rn h .u8 v l) (rw' : Rn h .u8 w m) (hb : Bytes l) (hm : Bytes m) (hl : l.length ≤ 70368744177664) (hml : m.length ≤ 70368744177664)
    (k0 : ¬ (l.length = 32 ∧ m.length = 32) → K (.tuple #[.slice none 0 0, .int .i64 1]) h)
    (k1 : l.length = 32 → m.length = 32 → sharedF l m = 0 → K (.tuple #[.slice none 0 0, .int .i64 10]) h)
    (k2 : l.length = 32 → m.length = 32 → sharedF l m ≠ 0 → ∀ r h', Nn h t_uint8 .u8 r h' (nb (sharedF l m)) → K (.tuple #[r, .int .i64 0]) h') :
    Cn P n_curve_Shared #[v, w] h K := by
  refine Cn_wk (F_curve_Shared ?_)
  unfold s_curve_Shared
  rw [show sharedF l m = xlad (bitsK (clampL l)) (ph (leval m % 57896044618658097711785492504343953926634992332820282019728792003956564819968)) from rfl] at k1 k2
  obtain ⟨a, c, rfl, hc⟩ := rw'.shape
  refine T_Clamp rv hb hl (fun h32 => ?_) fun h32 r H nw => ?_
  · rw [ext0, ext1]
    have b0 : ((1 : Int) != 0) = true := rfl
    simp -zeta only [GL, b0, Bool.true_eq_false, if_false, if_true]
    exact ⟨h, .refl _, k0 fun q => h32 q.1⟩
  · rw [ext0, ext1]
    have b0 : ((0 : Int) != 0) = false := rfl
    intro J
    have ln : ∀ {K : Value → Prop}, q P H (Builtin.len_ #[t_Sl_uint8] t_int #[.slice a m.length c]) K = K (.int .i64 (m.length : Nat)) := fun {K} => q_lenS u_Sl_uint8 _ _ _
    have qJ : m.length = 32 → J H := by
      intro hm32
      simp -zeta only [J]
      clear J
      refine V_From (rw'.mono nw.ext.cle) hm (by omega) fun s ps => ?_
      refine T_climb nw.rn (clampL_bytes hb) (by rw [clampL_len, h32]) ps fun r2 H3 nw3 => ?_
      have x3 := nw.ext.trans nw3.ext
      obtain ⟨a2, c2, rfl, hc2⟩ := nw3.rn.shape
      clear ps
      generalize xlad (bitsK (clampL l)) (ph (leval m % 57896044618658097711785492504343953926634992332820282019728792003956564819968)) = S at *
      have l32 := nb_len S
      have ln2 : ∀ {K : Value → Prop}, q P H3 (Builtin.len_ #[t_Sl_uint8] t_int #[.slice a2 (nb S).length c2]) K = K (.int .i64 ((32 : Nat) : Int)) := fun {K} => by
        rw [q_lenS u_Sl_uint8, l32]
      rw [ln2]
      refine aw_make u_Sl_uint8 nfo_uint8 rfl (Nat.le_refl 32) (by decide) (by decide) fun z H4 nz => ?_
      rw [replicate_nv] at nz
      have nz' : Nn H3 t_uint8 .u8 z H4 (List.replicate 32 0) := nz
      refine T_word_Equal (nw3.rn.mono nz'.ext.cle) nz'.rn (nb_bytes _) (fun x hx => by rw [List.eq_of_mem_replicate hx]; decide) (by rw [l32]; omega) ?_
      rw [nb_zero]
      simp -zeta only [GL]
      by_cases h0 : S = 0
      · simp -zeta only [h0, decide_true, if_true]
        exact ⟨h, (x3.trans nz'.ext).le, k1 h32 hm32 h0⟩
      · simp -zeta only [h0, decide_false, Bool.false_eq_true, if_false]
        obtain ⟨h0', l0, nw0⟩ := nw3.down nw.ext.le
        exact ⟨h0', l0.trans nz'.ext.le, k2 h32 hm32 h0 _ _ nw0⟩
    clear_value J
    simp -zeta only [GL, b0, if_true, ln, ne32]
    by_cases hm32 : m.length = 32
    · have d0 : decide (m.length ≠ 32) = false := by simp [hm32]
      simp -zeta only [d0, Bool.false_eq_true, if_false]
      exact qJ hm32
    · have d0 : decide (m.length ≠ 32) = true := by simp [hm32]
      simp -zeta only [d0, if_true]
      exact ⟨h, nw.ext.le, k0 fun q => hm32 q.2⟩
end
end Go.Proofs.Ytoikhbagchfeoaa
set_option linter.unusedSimpArgs false
set_option linter.unusedVariables false
set_option maxRecDepth 100000
namespace Go.Proofs.Ytoikhbagchfeoaa
open Go Go.SL Go.Pure
section
variable {h : Hp} {K : Value → Hp → Prop}
/-- What a call of Open tells: the code, and with it the text, or nil. -/
def openC (key nonce b x : List Nat) : Nat := if key.length = 32 ∧ nonce.length = 12 then (openL key nonce b x).1 else 1
theorem T_Open {vk vn vb vx : Value} {key nonce b x : List Nat} (hk : Rn h .u8 vk key) (hn : Rn h .u8 vn nonce) (hb : Rn h .u8 vb b) (hx : Rn h .u8 vx x) (bk : Bytes key) (bn : Bytes nonce) (bb : Bytes b) (bx : Bytes x)
    (lb : b.length ≤ 1099511627776) (lx : x.length ≤ 1099511627776)
    (k : ∀ v h', (if openC key nonce b x = 0 then Nn h t_uint8 .u8 v h' (openL key nonce b x).2 else v = .slice none 0 0 ∧ h' = h) → K (.tuple #[v, .int .i64 ((openC key nonce b x : Nat) : Int)]) h') :
    Cn P n_aead_Open #[vk, vn, vb, vx] h K := by
  refine Cn_wk (F_aead_Open ?_)
  unfold s_aead_Open
  refine T_Xor 1 (by omega) hk hn (rn_nil h .u8) bk bn (by intro y hy; cases hy) (by simp) fun vX h1 hX => ?_
  rw [ext0, ext1]
  unfold openC at k
  by_cases hm : key.length = 32 ∧ nonce.length = 12
  case neg =>
    simp only [if_neg hm] at hX k ⊢
    obtain ⟨rfl, rfl⟩ := hX
    have e1 : ((1 : Int) != 0) = true := rfl
    simp (disch := omega) only [GL, RL, e1, if_true]
    exact ⟨h1, .refl _, k (.slice none 0 0) h1 (by simp)⟩
  simp only [if_pos hm] at hX k ⊢
  have le1 : Hp.le h h1 := New.le hX
  have c1 := hX.cle
  obtain ⟨ax, cx, rfl, hcx⟩ := hx.shape
  have e26 : decide (((x.length : Nat) : Int) - 16 < 0) = decide (x.length < 16) := by rw [decide_eq_decide]; omega
  simp (disch := omega) only [GL, RL, wi64, bne_self_eq_false, Bool.false_eq_true, if_false, e26]
  by_cases h16 : x.length < 16
  · simp only [h16, decide_true, if_true]
    have ho : openL key nonce b x = (8, []) := by unfold openL; rw [if_pos h16]
    rw [ho] at k
    exact ⟨h, le1, k (.slice none 0 0) h (by simp)⟩
  simp only [h16, decide_false, Bool.false_eq_true, if_false]
  have e16 : ((x.length : Nat) : Int) - 16 = ((x.length - 16 : Nat) : Int) := by omega
  rw [e16]
  refine q_slRnHi u_Sl_uint8 z_uint8 (hx.mono c1) .i64 (x.length - 16) (by omega) fun w hw => ?_
  refine T_tag (hk.mono c1) (hn.mono c1) (hb.mono c1) hw bk bn bb (bx.take _) lb (by rw [List.length_take]; omega) hm fun vT h2 hT => ?_
  rw [ext0, ext1]
  have c2 := c1.trans hT.cle
  refine q_slRn u_Sl_uint8 z_uint8 (hx.mono c2) .i64 (x.length - 16) (by omega) fun w2 hw2 => ?_
  have ltag := tagB_len key nonce b (x.take (x.length - 16))
  refine T_word_Equal hT.rn hw2 (tagB_bytes _ _ _ _) (bx.drop _) (by omega) ?_
  have le2 : Hp.le h h2 := le1.trans (New.le hT)
  by_cases heq : tagB key nonce b (x.take (x.length - 16)) = x.drop (x.length - 16)
  · have ho : openL key nonce b x = (0, xorL key nonce 1 (x.take (x.length - 16))) := by unfold openL; rw [if_neg h16, if_pos heq]
    rw [ho] at k
    simp (disch := omega) only [GL, RL, heq, decide_true, Bool.not_true, Bool.false_eq_true, if_false]
    refine q_slRnHi u_Sl_uint8 z_uint8 (hx.mono c2) .i64 (x.length - 16) (by omega) fun w3 hw3 => ?_
    refine T_Xor 1 (by omega) (hk.mono c2) (hn.mono c2) hw3 bk bn (bx.take _) (by rw [List.length_take]; omega) fun v3 h3 n3 => ?_
    simp only [if_pos hm] at n3 ⊢
    rw [ext0, ext1]
    obtain ⟨h0, l0, nf⟩ := n3.down le2
    exact ⟨h0, l0, k v3 h0 (by simpa using nf)⟩
  · have ho : openL key nonce b x = (7, []) := by unfold openL; rw [if_neg h16, if_neg heq]
    rw [ho] at k
    simp (disch := omega) only [GL, RL, heq, decide_false, Bool.not_false, if_true]
    exact ⟨h, le2, k (.slice none 0 0) h (by simp)⟩
end
end Go.Proofs.Ytoikhbagchfeoaa
set_option linter.unusedSimpArgs false
set_option linter.unusedVariables false
set_option maxRecDepth 100000
namespace Go.Proofs.Ytoikhbagchfeoaa
open Go Go.SL
theorem q_str {h : Hp} {K : Value → Prop} {v : Value} {l : List Nat} (hv : Rn h .u8 v l) : q P h (convert t_Sl_uint8 t_string v) K = K (.string (strL l)) := q_of (by
  obtain ⟨hl, a, c, rfl, hc, hr⟩ := hv
  show peek P h (Sem.bind (underlying t_Sl_uint8) _) = _
  rw [peek_bind, pk_und u_Sl_uint8, Option.bind_some]
  show peek P h (Sem.bind (underlying t_string) _) = _
  rw [peek_bind, pk_und u_string, Option.bind_some]
  show peek P h (Sem.bind (underlying t_uint8) _) = _
  rw [peek_bind, pk_und u_uint8, Option.bind_some]
  show peek P h (Conv.bytesToString _) = _
  rcases hr with h0 | ⟨b, o, rfl, hy⟩
  · rw [List.eq_nil_of_length_eq_zero h0]
    cases a <;> rfl
  · unfold Conv.bytesToString
    show peek P h (Sem.bind (loadCellsFrom ⟨b, o, none⟩ 0 l.length #[]) _) = _
    have := pk_loadCells (P := P) (h := h) (b := b) (o := o) (nv .u8 l) 0 #[] (fun j x e => by simpa using hy j x e)
    rw [nv_len] at this
    rw [peek_bind, this, Option.bind_some]
    have key : ∀ (l : List Nat) (s : ByteArray), peek P h (forIn (nv .u8 l) s fun c r => (match c with
        | .int .u8 n => Sem.pure (ForInStep.yield (r.push (UInt8.ofNat n.toNat)))
        | _ => stuck "bytesToString: byte expected" : Sem (ForInStep ByteArray))) = some (l.foldl (fun s x => s.push (UInt8.ofNat x)) s) := by
      intro l
      induction l with
      | nil => intro s; rfl
      | cons x l ih =>
        intro s
        rw [nv_cons, List.forIn_cons]
        exact ih _
    have e0 : (#[] ++ (nv .u8 l).toArray) = (nv .u8 l).toArray := by simp
    rw [e0]
    show peek P h (Sem.bind (forIn (nv .u8 l).toArray ByteArray.empty _) _) = _
    rw [List.forIn_toArray, peek_bind]
    refine (congrArg (fun x => Option.bind x _) (key l ByteArray.empty)).trans ?_
    rfl) K
theorem q_eqlS {h : Hp} {K : Value → Prop} (x y : Operand) (a b : ByteArray) : q P h (eqop .eql t_string x y (.string a) (.string b)) K = K (.bool (a.toList == b.toList)) := q_of (by
  unfold eqop
  rw [peek_bind]
  have : peek P h (eqGuard .eql t_string x y (.string a) (.string b)) = some () := rfl
  rw [this, Option.bind_some]
  simp only [binOp, Op.stringOp]; rfl) K
/-- Bytes as bytes: nothing moves, but what stands behind the block may not be written. -/
theorem aw_mark {h : Hp} {b n : Nat} {xs : List Value} {K : Value → Hp → Prop} (hb : h b = none) (hx : xs.length = n) (k : ∀ h'', New h t_uint8 1 (.slice (some ⟨b, 0, none⟩) n n) h'' xs n → K (.slice (some ⟨b, 0, none⟩) n n) h'') :
    aw P (convert t_Sl_uint8 t_Sl_uint8 (.slice (some ⟨b, 0, none⟩) n n)) K (h.set b (.row t_uint8 xs n (some (0, 0)))) := by
  refine aw_of ?_
  show awp P (Sem.bind (underlying t_Sl_uint8) _) K _
  rw [awp_bind, peek_awp P _ _ _ (pk_und u_Sl_uint8)]
  show awp P (Sem.bind (underlying t_Sl_uint8) _) K _
  rw [awp_bind, peek_awp P _ _ _ (pk_und u_Sl_uint8)]
  show awp P (Sem.bind (underlying t_uint8) _) K _
  rw [awp_bind, peek_awp P _ _ _ (pk_und u_uint8)]
  show awp P (Sem.bind (markStringish ⟨b, 0, none⟩) _) K _
  rw [awp_bind]
  show awp P (Sem.bind (shape b) _) _ _
  rw [awp_bind]
  have hs : (h.set b (.row t_uint8 xs n (some (0, 0)))).shape b = some (some (t_uint8, n)) := by simp [Hp.shape]
  have : peek P (h.set b (.row t_uint8 xs n (some (0, 0)))) (shape b) = some (some (t_uint8, n)) := by
    unfold shape
    simp only [peek, hs]
  rw [peek_awp P _ _ _ this]
  show awp P (freeze ⟨b, n, none⟩ 1) _ _
  have hfz : (h.set b (.row t_uint8 xs n (some (0, 0)))).freeze ⟨b, n, none⟩ 1 = some (h.set b (.row t_uint8 xs n (some (n, n + 1)))) := by simp [Hp.freeze, Hp.set_set, frz]
  simp only [awp, freeze, hfz]
  refine k _ ⟨by rw [Nat.mul_one]; exact hx, .inr ⟨b, n, (n, n + 1), hb, Nat.le_refl _, rfl, by rw [Nat.mul_one], fun i hi => by omega⟩⟩
end Go.Proofs.Ytoikhbagchfeoaa
set_option linter.unusedSimpArgs false
set_option linter.unusedVariables false
set_option maxRecDepth 100000
namespace Go.Pure
/-- A number's bytes, the greatest first. -/
def bg (n v : Nat) : List Nat := (le n v).reverse
theorem bg_len (n v : Nat) : (bg n v).length = n := by simp [bg, le_len]
theorem bg_bytes (n v : Nat) : Bytes (bg n v) := fun x hx => le_bytes n v x (List.mem_reverse.1 hx)
/-- The number of bytes, the greatest first; what isn't there is 0. -/
def bval (l : List Nat) : Nat := l.foldl (fun v x => v * 256 + x) 0
theorem bval_snoc (a : List Nat) (x : Nat) : bval (a ++ [x]) = bval a * 256 + x := by simp [bval, List.foldl_append]
theorem bval_rev (l : List Nat) : bval l.reverse = leval l := by
  induction l with
  | nil => rfl
  | cons x l ih => rw [List.reverse_cons, bval_snoc, ih, leval]; omega
theorem bval_lt {l : List Nat} (h : Bytes l) : bval l < 256 ^ l.length := by
  have := leval_lt l.reverse (fun x hx => h x (List.mem_reverse.1 hx))
  rwa [← bval_rev, List.reverse_reverse, List.length_reverse] at this
theorem bval_bg (n v : Nat) : bval (bg n v) = v % 256 ^ n := by unfold bg; rw [bval_rev, leval_le]
/-- A box of a number. -/
def boxB (n len : Nat) : List Nat := (List.range len).map fun i => (bg 8 n).getD (i % 8) 0
theorem boxB_len (n len : Nat) : (boxB n len).length = len := by simp [boxB]
theorem boxB_bytes (n len : Nat) : Bytes (boxB n len) := by
  intro x hx
  obtain ⟨i, _, rfl⟩ := List.mem_map.1 hx
  exact (bg_bytes 8 n).getD _
theorem boxB_take8 (n len : Nat) (h : 8 ≤ len) : (boxB n len).take 8 = bg 8 n := by
  apply List.ext_getElem
  · rw [List.length_take, boxB_len, bg_len]; omega
  · intro i h1 h2
    rw [bg_len] at h2
    rw [List.getElem_take]
    simp only [boxB, List.getElem_map, List.getElem_range, Nat.mod_eq_of_lt h2]
    simp [List.getD_eq_getElem?_getD, bg_len, h2]
structure Box where
  key : List Nat
  nonce : List Nat
  beside : List Nat
  text : List Nat
  deriving DecidableEq
/-- What hides and digests: the real one, or a book of texts and boxes. -/
inductive Cr where
  | real
  | book (texts : List (List Nat)) (boxes : List Box)
def crSeal (c : Cr) (key nonce beside text : List Nat) : Nat × List Nat × Cr :=
  match c with
  | .real => if may key nonce then (0, sealL key nonce beside text, .real) else (1, [], .real)
  | .book ts bs => if may key nonce then (0, boxB bs.length (text.length + 16), .book ts (bs ++ [⟨key, nonce, beside, text⟩])) else (1, [], .book ts bs)
def bookOpen (bs : List Box) (key nonce beside box : List Nat) : Nat × List Nat :=
  if box.length < 16 then (8, [])
  else match bs[bval (box.take 8)]? with
    | none => (7, [])
    | some s => if s.key = key ∧ s.nonce = nonce ∧ s.beside = beside ∧ boxB (bval (box.take 8)) (s.text.length + 16) = box then (0, s.text) else (7, [])
def crOpen (c : Cr) (key nonce beside box : List Nat) : Nat × List Nat :=
  if may key nonce then
    match c with
    | .real => openL key nonce beside box
    | .book _ bs => bookOpen bs key nonce beside box
  else (1, [])
/-! ### A layer in chunks -/
end Go.Pure
set_option linter.unusedSimpArgs false
set_option linter.unusedVariables false
set_option maxRecDepth 100000
set_option maxHeartbeats 1000000
namespace Go.Proofs.Ytoikhbagchfeoaa
open Go Go.SL Go.Pure
theorem baToList (s : ByteArray) : s.toList = s.data.toList := by
  have key : ∀ (n i : Nat) (r : List UInt8), s.size - i = n → i ≤ s.size → ByteArray.toList.loop s i r = r.reverse ++ s.data.toList.drop i := by
    intro n
    induction n with
    | zero =>
      intro i r h h2
      rw [ByteArray.toList.loop.eq_def, if_neg (by omega), List.drop_of_length_le (by rw [Array.length_toList]; show s.size ≤ i; omega)]
      simp
    | succ n ih =>
      intro i r h h2
      have hlt : i < s.data.toList.length := by rw [Array.length_toList]; show i < s.size; omega
      rw [ByteArray.toList.loop.eq_def, if_pos (by omega), ih (i + 1) _ (by omega) (by omega), List.drop_eq_getElem_cons hlt]
      have : s.get! i = s.data.toList[i] := by
        show s.data[i]! = _
        rw [getElem!_pos s.data i (by show i < s.size; omega)]
        simp
      rw [this]
      simp
  have := key s.size 0 [] (by omega) (by omega)
  show ByteArray.toList.loop s 0 [] = _
  rw [this]
  simp
theorem strL_data (l : List Nat) : (strL l).data.toList = l.map UInt8.ofNat := by
  have key : ∀ (l : List Nat) (s : ByteArray), (l.foldl (fun s x => s.push (UInt8.ofNat x)) s).data.toList = s.data.toList ++ l.map UInt8.ofNat := by
    intro l
    induction l with
    | nil => intro s; simp
    | cons x l ih =>
      intro s
      rw [List.foldl_cons, ih]
      show (s.data.push (UInt8.ofNat x)).toList ++ _ = _
      simp
  have := key l ByteArray.empty
  simpa [strL] using this
theorem u8_inj {l m : List Nat} (hl : Bytes l) (hm : Bytes m) (e : l.map UInt8.ofNat = m.map UInt8.ofNat) : l = m := by
  induction l generalizing m with
  | nil => cases m with
    | nil => rfl
    | cons y m => cases e
  | cons x l ih => cases m with
    | nil => cases e
    | cons y m =>
      simp only [List.map_cons, List.cons.injEq] at e
      have hx := hl x (List.mem_cons_self ..)
      have hy := hm y (List.mem_cons_self ..)
      have : x = y := by
        have := congrArg UInt8.toNat e.1
        simpa [UInt8.toNat_ofNat', Nat.mod_eq_of_lt hx, Nat.mod_eq_of_lt hy] using this
      rw [this, ih (fun z hz => hl z (List.mem_cons_of_mem _ hz)) (fun z hz => hm z (List.mem_cons_of_mem _ hz)) e.2]
theorem strL_eq {l m : List Nat} (hl : Bytes l) (hm : Bytes m) : ((strL l).toList == (strL m).toList) = decide (l = m) := by
  rw [baToList, baToList, strL_data, strL_data, Bool.eq_iff_iff, beq_iff_eq, decide_eq_true_eq]
  exact ⟨u8_inj hl hm, fun e => by rw [e]⟩
theorem bg_get (n v i : Nat) (hi : i < n) : (bg n v).getD (n - 1 - i) 0 = v / 256 ^ i % 256 := by
  unfold bg
  rw [List.getD_eq_getElem?_getD, List.getElem?_reverse (by rw [le_len]; omega), le_len, ← List.getD_eq_getElem?_getD, show n - 1 - (n - 1 - i) = i by omega, le_get n v i hi]
theorem bg_step (n v i : Nat) (hi : i < n) : (List.replicate (n - i) 0 ++ (bg n v).drop (n - i)).set (n - 1 - i) (v / 256 ^ i % 256) = List.replicate (n - (i + 1)) 0 ++ (bg n v).drop (n - (i + 1)) := by
  rw [show n - i = (n - (i + 1)) + 1 by omega, show n - 1 - i = n - (i + 1) by omega, List.replicate_succ', List.append_assoc, List.set_append_right _ _ (by simp), List.length_replicate, Nat.sub_self]
  rw [List.singleton_append, List.set_cons_zero]
  congr 1
  have hlt : n - (i + 1) < (bg n v).length := by rw [bg_len]; omega
  rw [List.drop_eq_getElem_cons hlt]
  congr 1
  have := bg_get n v i hi
  rw [show n - 1 - i = n - (i + 1) by omega] at this
  rw [← this]
  simp [List.getD_eq_getElem?_getD, hlt]
section
variable {h : Hp} {K : Value → Hp → Prop}
theorem T_word_big (v n : Nat) (hv : v < 2 ^ 64) (hn : n ≤ 8) (h0 : 0 < n) (k : ∀ r h', Nn h t_uint8 .u8 r h' (bg n v) → K r h') : Cn P n_word_big #[.int .u64 v, .int .i64 n] h K := by
  refine F_word_big ?_
  unfold s_word_big
  refine aw_make u_Sl_uint8 nfo_uint8 rfl (Nat.le_refl n) (by omega) (by omega) fun r h1 hw => ?_
  obtain ⟨b, c, f, hb, hc, rfl, _, _⟩ := hw.form h0
  rw [replicate_nv] at hw
  refine Lp_mk (fun m vs h' => ∃ i : Nat, i + m = n ∧ New h t_uint8 1 (.slice (some ⟨b, 0, none⟩) n c) h' (nv .u8 (List.replicate (n - i) 0 ++ (bg n v).drop (n - i))) n ∧ vs = [.int .i64 (i : Int)]) n
    ⟨0, by omega, by rw [Nat.sub_zero, List.drop_of_length_le (by rw [bg_len]; omega), List.append_nil]; exact hw, rfl⟩ ?_
  rintro m vs h2 ⟨i, hi, hw, rfl⟩
  simp (disch := omega) only [GL, RL, wi64, lt_dec]
  by_cases hlt : i < n
  · have e1 : (n : Int) - 1 - (i : Int) = ((n - 1 - i : Nat) : Int) := by omega
    have e8 : (8 : Int) * (i : Int) = ((8 * i : Nat) : Int) := by omega
    have es : ((v : Int).fdiv (2 ^ min (8 * i) IntKind.u64.bits)) = ((v / 256 ^ i : Nat) : Int) := by
      rw [show min (8 * i) IntKind.u64.bits = 8 * i by simp only [IntKind.bits]; omega, fdivp, pow256]
    simp (disch := omega) only [GL, RL, wi64, hlt, decide_true, if_true, e1, e8, es, wu8]
    refine aw_storeN z_uint8 hw (by omega) rfl fun h3 hw3 => ?_
    rw [nv_set, bg_step n v i hlt] at hw3
    exact ⟨_, .refl _, m - 1, by omega, i + 1, by omega, hw3, rfl⟩
  · obtain rfl : i = n := by omega
    simp only [hlt, decide_false, Bool.false_eq_true, if_false]
    refine k _ _ ?_
    rw [Nat.sub_self, List.replicate_zero, List.nil_append, List.drop_zero] at hw
    unfold Nn
    rw [bg_len]
    exact hw
theorem T_word_Big64 (v : Nat) (hv : v < 2 ^ 64) (k : ∀ r h', Nn h t_uint8 .u8 r h' (bg 8 v) → K r h') : Cn P n_word_Big64 #[.int .u64 v] h K := by
  refine F_word_Big64 ?_
  unfold s_word_Big64
  exact T_word_big v 8 hv (by omega) (by omega) k
theorem T_word_Big32 (v : Nat) (hv : v < 2 ^ 32) (k : ∀ r h', Nn h t_uint8 .u8 r h' (bg 4 v) → K r h') : Cn P n_word_Big32 #[.int .u32 v] h K := by
  refine F_word_Big32 ?_
  unfold s_word_Big32
  simp (disch := omega) only [GL, RL, wu64i]
  exact T_word_big v 4 (by omega) (by omega) (by omega) k
theorem bval_take_succ (l : List Nat) (i : Nat) (hi : i < l.length) : bval (l.take (i + 1)) = bval (l.take i) * 256 + l.getD i 0 := by
  rw [List.take_succ_eq_append_getElem hi, bval_snoc]
  simp [List.getD_eq_getElem?_getD, hi]
theorem bval_take_lt {l : List Nat} (h : Bytes l) (i : Nat) : bval (l.take i) < 256 ^ i := by
  refine Nat.lt_of_lt_of_le (bval_lt (h.take i)) (Nat.pow_le_pow_right (by decide) ?_)
  rw [List.length_take]; exact Nat.min_le_left _ _
theorem T_word_getBig {v : Value} {l : List Nat} (n : Nat) (hn : n ≤ 8) (hr : Rn h .u8 v l) (hb : Bytes l) (hl : n ≤ l.length) (k : K (.int .u64 ((bval (l.take n) : Nat) : Int)) h) : Cn P n_word_getBig #[v, .int .i64 n] h K := by
  refine F_word_getBig ?_
  unfold s_word_getBig
  refine Lp_mk (fun m vs h' => ∃ i, i + m = n ∧ h' = h ∧ vs = [.int .u64 ((bval (l.take i) : Nat) : Int), .int .i64 (i : Int)]) n ⟨0, by omega, rfl, rfl⟩ ?_
  rintro m vs h1 ⟨i, hi, rfl, rfl⟩
  simp (disch := omega) only [GL, RL, lt_dec]
  by_cases hlt : i < n
  · simp only [hlt, decide_true, if_true]
    refine T_word_at i hr hb ?_
    have b1 := bval_take_lt hb i
    have b2 := hb.getD i
    have bi : 256 ^ i ≤ 256 ^ 7 := Nat.pow_le_pow_right (by decide) (by omega)
    have p7 : (256 : Nat) ^ 7 = 72057594037927936 := rfl
    have e1 : IntKind.u64.wrap (((bval (l.take i) : Nat) : Int) * 2 ^ min (Int.toNat 8) IntKind.u64.bits) = ((bval (l.take i) * 2 ^ 8 : Nat) : Int) := by
      rw [show min (Int.toNat 8) IntKind.u64.bits = 8 from rfl, mulp, wu64, Nat.mod_eq_of_lt (by omega)]
    have e2 : ior .u64 ((bval (l.take i) * 2 ^ 8 : Nat) : Int) ((l.getD i 0 : Nat) : Int) = ((bval (l.take (i + 1)) : Nat) : Int) := by
      rw [orN (by omega) (by omega), Nat.or_comm, or_add _ _ 8 b2, bval_take_succ l i (by omega)]
      congr 1
      omega
    simp (disch := omega) only [GL, RL, wi64, e1, e2]
    exact ⟨_, .refl _, m - 1, by omega, i + 1, by omega, rfl, rfl⟩
  · obtain rfl : i = n := by omega
    simp only [hlt, decide_false, Bool.false_eq_true, if_false]
    exact k
theorem T_word_GetBig64 {v : Value} {l : List Nat} (hr : Rn h .u8 v l) (hb : Bytes l) (hl : 8 ≤ l.length) (k : K (.int .u64 ((bval (l.take 8) : Nat) : Int)) h) : Cn P n_word_GetBig64 #[v] h K := by
  refine F_word_GetBig64 ?_
  unfold s_word_GetBig64
  exact T_word_getBig 8 (by omega) hr hb hl k
theorem T_word_GetBig32 {v : Value} {l : List Nat} (hr : Rn h .u8 v l) (hb : Bytes l) (hl : 4 ≤ l.length) (k : K (.int .u32 ((bval (l.take 4) : Nat) : Int)) h) : Cn P n_word_GetBig32 #[v] h K := by
  refine F_word_GetBig32 ?_
  unfold s_word_GetBig32
  refine T_word_getBig 4 (by omega) hr hb hl ?_
  have b1 := bval_take_lt hb 4
  have e : IntKind.u32.wrap ((bval (l.take 4) : Nat) : Int) = ((bval (l.take 4) : Nat) : Int) := by rw [wu32, Nat.mod_eq_of_lt (by omega)]
  simp (disch := omega) only [GL, RL, e]
  exact k
theorem T_bytes_Clone {v : Value} {l : List Nat} (hv : Rn h .u8 v l) (hl : l.length ≤ 70368744177664) (k : ∀ r h', Nn h t_uint8 .u8 r h' l → K r h') : Cn P n_bytes_Clone #[v] h K := by
  refine F_bytes_Clone ?_
  unfold s_bytes_Clone
  obtain ⟨a, c, rfl, hc⟩ := hv.shape
  simp (disch := omega) only [GL, RL]
  cases a with
  | none =>
    have : l = [] := by
      obtain ⟨_, a', c', e, _, h0 | ⟨b, o, ha, _⟩⟩ := hv
      · exact List.eq_nil_of_length_eq_zero h0
      · simp only [Value.slice.injEq] at e
        rw [ha] at e
        cases e.1
    subst this
    simp only [Option.isNone_none, if_true]
    exact k _ _ (Nn.nil ..)
  | some a =>
    simp only [Option.isNone_some, Bool.false_eq_true, if_false]
    refine aw_lit (ps := []) (n := 0) u_Sl_uint8 z_uint8 zr_uint8 rfl (by omega) (by intro p hp; cases hp) fun v1 h1 n1 _ => ?_
    refine aw_append u_Sl_uint8 u_Sl_uint8 nfo_uint8 rfl (by omega) n1 (hv.mono n1.cle) (nv_flat _ _) (by omega) (.refl _) fun v3 h3 n3 => ?_
    refine k _ _ ?_
    unfold Nn
    simpa [fillL] using n3
theorem T_bytes_Equal {v w : Value} {l m : List Nat} (hv : Rn h .u8 v l) (hw : Rn h .u8 w m) (bl : Bytes l) (bm : Bytes m) (k : K (.bool (decide (l = m))) h) : Cn P n_bytes_Equal #[v, w] h K := by
  refine F_bytes_Equal ?_
  unfold s_bytes_Equal
  rw [q_str hv, q_str hw, q_eqlS, strL_eq bl bm]
  exact k
theorem T_crypt_may {vk vn : Value} {key nonce : List Nat} (hk : Rn h .u8 vk key) (hn : Rn h .u8 vn nonce) (k : K (.bool (decide (may key nonce))) h) : Cn P n_crypt_may #[vk, vn] h K := by
  refine F_crypt_may ?_
  unfold s_crypt_may
  obtain ⟨a, c, rfl, hc⟩ := hk.shape
  obtain ⟨a', c', rfl, hc'⟩ := hn.shape
  have e1 : (((key.length : Nat) : Int) == 32) = decide (key.length = 32) := by rw [Bool.eq_iff_iff, beq_iff_eq, decide_eq_true_eq]; omega
  have e2 : (((nonce.length : Nat) : Int) == 12) = decide (nonce.length = 12) := by rw [Bool.eq_iff_iff, beq_iff_eq, decide_eq_true_eq]; omega
  simp (disch := omega) only [GL, RL, e1, e2]
  unfold may at k
  by_cases h1 : key.length = 32
  · simpa [h1] using k
  · simpa [h1] using k
end
end Go.Proofs.Ytoikhbagchfeoaa
set_option linter.unusedSimpArgs false
set_option linter.unusedVariables false
set_option maxRecDepth 100000
namespace Go.Pure
def rotr (x n : Nat) : Nat := rotl x (32 - n)
theorem rotr_lt (x n : Nat) (hx : x < 4294967296) : rotr x n < 4294967296 := rotl_lt x _ hx
def sgS0 (x : Nat) : Nat := (rotr x 7 ^^^ rotr x 18) ^^^ (x / 2 ^ 3)
def sgS1 (x : Nat) : Nat := (rotr x 17 ^^^ rotr x 19) ^^^ (x / 2 ^ 10)
def bS1 (x : Nat) : Nat := (rotr x 6 ^^^ rotr x 11) ^^^ rotr x 25
def bS0 (x : Nat) : Nat := (rotr x 2 ^^^ rotr x 13) ^^^ rotr x 22
theorem x32 {a b : Nat} (ha : a < 4294967296) (hb : b < 4294967296) : a ^^^ b < 4294967296 := Nat.xor_lt_two_pow (n := 32) ha hb
theorem a32 {a b : Nat} (ha : a < 4294967296) : a &&& b < 4294967296 := Nat.lt_of_le_of_lt Nat.and_le_left ha
def chS (e f g : Nat) : Nat := (e &&& f) ^^^ ((4294967295 ^^^ e) &&& g)
def majS (a b c : Nat) : Nat := ((a &&& b) ^^^ (a &&& c)) ^^^ (b &&& c)
theorem m32 (x : Nat) : x % 4294967296 < 4294967296 := Nat.mod_lt _ (by decide)
/-! ### A block's words -/
def schStep (l : List Nat) : Nat := (((l.getD (l.length - 16) 0 + sgS0 (l.getD (l.length - 15) 0)) % 4294967296 + l.getD (l.length - 7) 0) % 4294967296 + sgS1 (l.getD (l.length - 2) 0)) % 4294967296
def schF (w : List Nat) : Nat → List Nat
  | 0 => w
  | n + 1 => schF w n ++ [schStep (schF w n)]
theorem schF_len (w : List Nat) : ∀ n, (schF w n).length = w.length + n
  | 0 => rfl
  | n + 1 => by simp only [schF, List.length_append, schF_len w n, List.length_singleton]; omega
theorem schF_w {w : List Nat} (h : W32 w) : ∀ n, W32 (schF w n)
  | 0 => h
  | n + 1 => (schF_w h n).append fun x hx => by rw [List.mem_singleton.1 hx]; exact m32 _
def bwords (b : List Nat) : Nat → List Nat
  | 0 => []
  | n + 1 => bwords b n ++ [bval ((b.drop (4 * n)).take 4)]
theorem bwords_len (b : List Nat) : ∀ n, (bwords b n).length = n
  | 0 => rfl
  | n + 1 => by simp [bwords, bwords_len b n]
theorem bval4_lt {b : List Nat} (h : Bytes b) (i : Nat) : bval ((b.drop i).take 4) < 4294967296 := by
  have h1 := bval_lt ((h.drop i).take 4)
  have h2 : ((b.drop i).take 4).length ≤ 4 := by rw [List.length_take]; exact Nat.min_le_left _ _
  have h3 : 256 ^ ((b.drop i).take 4).length ≤ 256 ^ 4 := Nat.pow_le_pow_right (by decide) h2
  have h4 : (256 : Nat) ^ 4 = 4294967296 := by decide
  omega
theorem bwords_w {b : List Nat} (h : Bytes b) : ∀ n, W32 (bwords b n)
  | 0 => fun x hx => by cases hx
  | n + 1 => (bwords_w h n).append fun x hx => by rw [List.mem_singleton.1 hx]; exact bval4_lt h _
def schL (b : List Nat) : List Nat := schF (bwords b 16) 48
theorem schL_len (b : List Nat) : (schL b).length = 64 := by rw [schL, schF_len, bwords_len]
theorem schL_w {b : List Nat} (h : Bytes b) : W32 (schL b) := schF_w (bwords_w h 16) 48
/-! ### A round -/
def t1S (k w e f g h : Nat) : Nat := ((((h + bS1 e) % 4294967296 + chS e f g) % 4294967296 + k) % 4294967296 + w) % 4294967296
def t2S (a b c : Nat) : Nat := (bS0 a + majS a b c) % 4294967296
def rnd (k w : Nat) (s : List Nat) : List Nat :=
  [(t1S k w (s.getD 4 0) (s.getD 5 0) (s.getD 6 0) (s.getD 7 0) + t2S (s.getD 0 0) (s.getD 1 0) (s.getD 2 0)) % 4294967296, s.getD 0 0, s.getD 1 0, s.getD 2 0,
   (s.getD 3 0 + t1S k w (s.getD 4 0) (s.getD 5 0) (s.getD 6 0) (s.getD 7 0)) % 4294967296, s.getD 4 0, s.getD 5 0, s.getD 6 0]
theorem rnd_w {k w : Nat} {s : List Nat} (h : W32 s) : W32 (rnd k w s) := by
  intro x hx
  simp only [rnd, List.mem_cons, List.not_mem_nil, or_false] at hx
  rcases hx with rfl | rfl | rfl | rfl | rfl | rfl | rfl | rfl <;> first | exact m32 _ | exact h.getD _
def rnds (K w s : List Nat) : Nat → List Nat
  | 0 => s
  | n + 1 => rnd (K.getD n 0) (w.getD n 0) (rnds K w s n)
theorem rnds_w {K w s : List Nat} (h : W32 s) : ∀ n, W32 (rnds K w s n)
  | 0 => h
  | n + 1 => rnd_w (rnds_w h n)
theorem rnds_len {K w s : List Nat} (h : s.length = 8) : ∀ n, (rnds K w s n).length = 8
  | 0 => h
  | n + 1 => rfl
def addS (s v : List Nat) (n : Nat) : List Nat := (List.range n).map fun i => (s.getD i 0 + v.getD i 0) % 4294967296
theorem addS_len (s v : List Nat) (n : Nat) : (addS s v n).length = n := by simp [addS]
theorem addS_w (s v : List Nat) (n : Nat) : W32 (addS s v n) := by
  intro x hx
  obtain ⟨i, _, rfl⟩ := List.mem_map.1 hx
  exact m32 _
theorem addS_succ (s v : List Nat) (n : Nat) : addS s v (n + 1) = addS s v n ++ [(s.getD n 0 + v.getD n 0) % 4294967296] := by simp [addS, List.range_succ]
def workL (K s b : List Nat) : List Nat := addS s (rnds K (schL b) s 64) 8
theorem workL_len (K s b : List Nat) : (workL K s b).length = 8 := addS_len _ _ _
theorem workL_w (K s b : List Nat) : W32 (workL K s b) := addS_w _ _ _
/-! ### All blocks -/
def foldB (K s b : List Nat) : Nat → List Nat
  | 0 => s
  | n + 1 => workL K (foldB K s b n) ((b.drop (64 * n)).take 64)
theorem foldB_len {K s b : List Nat} (h : s.length = 8) : ∀ n, (foldB K s b n).length = 8
  | 0 => h
  | n + 1 => workL_len _ _ _
theorem foldB_w {K s b : List Nat} (h : W32 s) : ∀ n, W32 (foldB K s b n)
  | 0 => h
  | n + 1 => workL_w _ _ _
theorem foldB_app (K s a b : List Nat) : ∀ n, 64 * n ≤ a.length → foldB K s (a ++ b) n = foldB K s a n
  | 0, _ => rfl
  | n + 1, h => by
    simp only [foldB]
    rw [foldB_app K s a b n (by omega), List.drop_append_of_le_length (by omega), List.take_append_of_le_length (by rw [List.length_drop]; omega)]
def shaK : List Nat := [1116352408, 1899447441, 3049323471, 3921009573, 961987163, 1508970993, 2453635748, 2870763221, 3624381080, 310598401, 607225278, 1426881987, 1925078388, 2162078206, 2614888103, 3248222580, 3835390401, 4022224774, 264347078, 604807628, 770255983, 1249150122, 1555081692, 1996064986, 2554220882, 2821834349, 2952996808, 3210313671, 3336571891, 3584528711, 113926993, 338241895, 666307205, 773529912, 1294757372, 1396182291, 1695183700, 1986661051, 2177026350, 2456956037, 2730485921, 2820302411, 3259730800, 3345764771, 3516065817, 3600352804, 4094571909, 275423344, 430227734, 506948616, 659060556, 883997877, 958139571, 1322822218, 1537002063, 1747873779, 1955562222, 2024104815, 2227730452, 2361852424, 2428436474, 2756734187, 3204031479, 3329325298]
def shaH : List Nat := [1779033703, 3144134277, 1013904242, 2773480762, 1359893119, 2600822924, 528734635, 1541459225]
theorem shaK_w : W32 shaK := by
  intro x hx
  have : (shaK.all fun x => decide (x < 4294967296)) = true := by decide +kernel
  exact of_decide_eq_true (List.all_eq_true.1 this x hx)
theorem shaH_w : W32 shaH := by
  intro x hx
  have : (shaH.all fun x => decide (x < 4294967296)) = true := by decide +kernel
  exact of_decide_eq_true (List.all_eq_true.1 this x hx)
theorem shaK_len : shaK.length = 64 := rfl
theorem shaH_len : shaH.length = 8 := rfl
/-- A message padded. -/
def padE (n : Nat) : List Nat := [128] ++ List.replicate ((119 - n % 64) % 64) 0
def padS (b : List Nat) : List Nat := (b ++ padE b.length) ++ bg 8 (8 * b.length)
theorem padE_bytes (n : Nat) : Bytes (padE n) := by
  intro x hx
  rcases List.mem_append.1 hx with h | h
  · rw [List.mem_singleton.1 h]; decide
  · rw [(List.mem_replicate.1 h).2]; decide
def outS (st : List Nat) : Nat → List Nat
  | 0 => []
  | n + 1 => outS st n ++ bg 4 (st.getD n 0)
theorem outS_len (st : List Nat) : ∀ n, (outS st n).length = 4 * n
  | 0 => rfl
  | n + 1 => by simp only [outS, List.length_append, outS_len st n, bg_len]; omega
theorem outS_bytes (st : List Nat) : ∀ n, Bytes (outS st n)
  | 0 => fun x hx => by cases hx
  | n + 1 => (outS_bytes st n).append (bg_bytes _ _)
def shaL (b : List Nat) : List Nat := outS (foldB shaK shaH (padS b) ((padS b).length / 64)) 8
theorem shaL_len (b : List Nat) : (shaL b).length = 32 := outS_len _ _
theorem shaL_bytes (b : List Nat) : Bytes (shaL b) := outS_bytes _ _
/-! ### A digest on its way -/
/-- What was worked and what waits, behind the bytes M. -/
def Hst (M st wt : List Nat) (many : Nat) : Prop := st = foldB shaK shaH M (M.length / 64) ∧ many = M.length % 64 ∧ wt.length = 64 ∧ wt.take many = M.drop (64 * (M.length / 64))
theorem Hst.nil : Hst [] shaH (List.replicate 64 0) 0 := ⟨rfl, rfl, by rw [List.length_replicate], rfl⟩
theorem hst_wait {M wt : List Nat} {many : Nat} (hw : wt.length = 64) (e : wt.take many = M.drop (64 * (M.length / 64))) (hm : many = M.length % 64) (c : List Nat) (hc : c.length ≤ 64 - many) :
    (wt.take many ++ c ++ wt.drop (many + c.length)).take (many + c.length) = (M ++ c).drop (64 * (M.length / 64)) := by
  have hl : (wt.take many).length = many := by rw [List.length_take]; omega
  rw [List.take_append_of_le_length (by rw [List.length_append, hl]; exact Nat.le_refl _), List.take_of_length_le (by rw [List.length_append, hl]; exact Nat.le_refl _), e,
    List.drop_append_of_le_length (by omega)]
theorem Hst.part {M st wt : List Nat} {many : Nat} (h : Hst M st wt many) (c : List Nat) (hc : many + c.length < 64) : Hst (M ++ c) st (wt.take many ++ c ++ wt.drop (many + c.length)) (many + c.length) := by
  obtain ⟨h1, h2, h3, h4⟩ := h
  have e1 : (M ++ c).length / 64 = M.length / 64 := by rw [List.length_append]; omega
  refine ⟨?_, by rw [List.length_append]; omega, ?_, ?_⟩
  · rw [e1, foldB_app _ _ _ _ _ (by omega)]; exact h1
  · rw [List.length_append, List.length_append, List.length_take, List.length_drop]; omega
  · rw [e1]; exact hst_wait h3 h4 h2 c (by omega)
theorem Hst.full {M st wt : List Nat} {many : Nat} (h : Hst M st wt many) (c : List Nat) (hc : many + c.length = 64) : Hst (M ++ c) (workL shaK st (wt.take many ++ c ++ wt.drop (many + c.length))) (wt.take many ++ c ++ wt.drop (many + c.length)) 0 := by
  obtain ⟨h1, h2, h3, h4⟩ := h
  have e1 : (M ++ c).length / 64 = M.length / 64 + 1 := by rw [List.length_append]; omega
  have hl : (wt.take many ++ c ++ wt.drop (many + c.length)).length = 64 := by rw [List.length_append, List.length_append, List.length_take, List.length_drop]; omega
  have hw := hst_wait h3 h4 h2 c (by omega)
  generalize wt.take many ++ c ++ wt.drop (many + c.length) = W at hl hw ⊢
  have eW : W.take (many + c.length) = W := List.take_of_length_le (by omega)
  rw [eW] at hw
  refine ⟨?_, by rw [List.length_append]; omega, hl, ?_⟩
  · have eW2 : W.take 64 = W := List.take_of_length_le (by omega)
    rw [e1, foldB, foldB_app _ _ _ _ _ (by omega), ← h1, ← hw, eW2]
  · have e2 : 64 * ((M ++ c).length / 64) = (M ++ c).length := by
      have : (M ++ c).length = M.length + c.length := List.length_append
      omega
    rw [e2, List.drop_length, List.take_zero]
theorem Hst.many_lt {M st wt : List Nat} {many : Nat} (h : Hst M st wt many) : many < 64 := by rw [h.2.1]; exact Nat.mod_lt _ (by decide)
theorem Hst.len {M st wt : List Nat} {many : Nat} (h : Hst M st wt many) : st.length = 8 := by rw [h.1]; exact foldB_len rfl _
theorem Hst.w {M st wt : List Nat} {many : Nat} (h : Hst M st wt many) : W32 st := by rw [h.1]; exact foldB_w shaH_w _
end Go.Pure
set_option linter.unusedSimpArgs false
set_option linter.unusedVariables false
set_option maxRecDepth 100000
set_option maxHeartbeats 4000000
namespace Go.Proofs.Ytoikhbagchfeoaa
open Go Go.SL Go.Pure
theorem q_xorU {h : Hp} {K : Value → Prop} (a : Int) : q P h (Op.unary .xor (.int .u32 a)) K = K (.int .u32 (ixor .u32 ((4294967295 : Nat) : Int) a)) := q_of rfl K
theorem T_rotN {h : Hp} {K : Value → Hp → Prop} (x n : Nat) (hx : x < 4294967296) (hn : 0 < n) (hn2 : n < 32) (k : K (.int .u32 ((rotr x n : Nat) : Int)) h) : Cn P n_bits_RotateLeft32 #[.int .u32 x, .int .i64 (-(n : Int))] h K := by
  refine F_bits_RotateLeft32 ?_
  unfold s_bits_RotateLeft32
  have ew : IntKind.u64.wrap (-(n : Int)) = ((18446744073709551616 - n : Nat) : Int) := by
    unfold IntKind.wrap; simp [IntKind.bits, IntKind.signed]; omega
  have e0 : iand .u64 ((18446744073709551616 - n : Nat) : Int) 31 = ((32 - n : Nat) : Int) := by
    rw [and64 (by omega) (by omega) (by omega) (by omega), Int.toNat_natCast]
    have : (18446744073709551616 - n) &&& 31 = 32 - n := by
      have := Nat.and_two_pow_sub_one_eq_mod (18446744073709551616 - n) 5
      simp only [Nat.reducePow, Nat.add_one_sub_one, Nat.reduceSub] at this
      rw [this]; omega
    show ((((18446744073709551616 - n) &&& 31 : Nat)) : Int) = _
    rw [this]
  have e3 : (32 : Int) - ((32 - n : Nat) : Int) = (n : Int) := by omega
  simp (disch := omega) only [GL, RL, ew, e0, e3, wu64i]
  have e1 : min (32 - n) IntKind.u32.bits = 32 - n := by simp only [IntKind.bits]; omega
  have e2 : min n IntKind.u32.bits = n := by simp only [IntKind.bits]; omega
  have h1 : x / 2 ^ n ≤ x := Nat.div_le_self _ _
  rw [e1, e2, mulp, fdivp, wu32]
  unfold rotr rotl at k
  rw [show 32 - (32 - n) = n by omega] at k
  generalize x / 2 ^ n = y at h1 k ⊢
  rw [or32 (by omega) (by omega) (by omega) (by omega)]
  exact k
theorem zr_64u32 : zr P t_64_uint32 = some (.agg (List.replicate 64 (Value.int .u32 0)).toArray) := by kernel_rfl
theorem zr_8u32 : zr P t_8_uint32 = some (.agg (List.replicate 8 (Value.int .u32 0)).toArray) := by kernel_rfl
section
variable {h : Hp} {K : Value → Hp → Prop}
theorem T_schedule {v : Value} {b : List Nat} (hv : Rn h .u8 v b) (bb : Bytes b) (lb : b.length = 64) (k : K (.agg (nv .u32 (schL b)).toArray) h) : Cn P n_sha_schedule #[v] h K := by
  refine Cn_wk (F_sha_schedule ?_)
  unfold s_sha_schedule
  refine aw_allocL (List.replicate 64 (Value.int .u32 0)) zr_64u32 rfl fun r2 hr2 => ?_
  obtain ⟨O, hO⟩ : ∃ O, AObj.row t_64_uint32 (List.replicate 64 (Value.int .u32 0)) (List.replicate 64 (Value.int .u32 0)).length (some (0, 0)) = O := ⟨_, rfl⟩
  rw [hO]
  refine aw_allocL (List.replicate 64 (Value.int .u32 0)) zr_64u32 rfl fun r3 hr3 => ?_
  have hne : r3 ≠ r2 := by rintro rfl; rw [Hp.set_same] at hr3; cases hr3
  have hr3' : h r3 = none := by rwa [Hp.set_ne _ _ hne] at hr3
  have key1 : ∀ o : AObj, Hp.cle h ((h.set r2 O).set r3 o) := fun o => (cle_set r2 O hr2).trans (cle_set r3 o hr3)
  refine Lp_mk (fun m vs h' => ∃ i : Nat, i + m = 16 ∧ h' = (h.set r2 O).set r3 (.row t_64_uint32 (nv .u32 (bwords b i ++ List.replicate (64 - i) 0)) 64 (some (0, 0))) ∧ vs = [.int .i64 (i : Int)]) 16 ⟨0, rfl, by rw [u32row]; rfl, rfl⟩ ?_
  rintro m vs h' ⟨i, hi, rfl, rfl⟩
  simp (disch := omega) only [GL, RL, wi64, lt_dec]
  have e4 : (4 * (i : Int)) = ((4 * i : Nat) : Int) := by push_cast; rfl
  have e44 : (((4 * i : Nat) : Int) + 4) = ((4 * i + 4 : Nat) : Int) := by push_cast; rfl
  have e16 : decide ((i : Int) < 16) = decide (i < 16) := lt_dec i 16
  rw [e4, e16]
  by_cases hlt : i < 16
  · simp only [hlt, decide_true, if_true]
    rw [e44]
    refine q_slRnLH u_Sl_uint8 z_uint8 (hv.mono (key1 _)) .i64 .i64 (4 * i) (4 * i + 4) (by omega) (by omega) fun w' hw' => ?_
    refine T_word_GetBig32 hw' ((bb.take _).drop _) (by rw [List.length_drop, List.length_take]; omega) ?_
    have eb : bval (((b.take (4 * i + 4)).drop (4 * i)).take 4) = bval ((b.drop (4 * i)).take 4) := by
      rw [List.drop_take, List.take_take, show 4 * i + 4 - 4 * i = 4 by omega]; rfl
    rw [eb]
    have lw := bwords_len b i
    refine aw_store z_uint32 rfl (put_row (Hp.set_same ..) (by rw [nv_len, List.length_append, lw, List.length_replicate]; omega) (by simp) _) ?_
    refine ⟨_, .refl _, m - 1, by omega, i + 1, by omega, ?_, rfl⟩
    have es := set_end (bwords b i) (64 - (i + 1)) (bval ((b.drop (4 * i)).take 4))
    rw [lw] at es
    rw [Hp.set_set, nv_set, show 64 - i = (64 - (i + 1)) + 1 by omega, es]
    rfl
  obtain rfl : i = 16 := by omega
  simp only [hlt, decide_false, Bool.false_eq_true, if_false]
  have lw0 : (bwords b 16).length = 16 := bwords_len b 16
  have ww0 : W32 (bwords b 16) := bwords_w bb 16
  show Lp _ _ _
  generalize hw0 : bwords b 16 = w0 at lw0 ww0
  refine Lp_mk (fun m vs h' => ∃ n : Nat, n + m = 48 ∧ h' = (h.set r2 O).set r3 (.row t_64_uint32 (nv .u32 (schF w0 n ++ List.replicate (48 - n) 0)) 64 (some (0, 0))) ∧ vs = [.int .i64 ((16 + n : Nat) : Int)]) 48 ⟨0, rfl, by rw [show 64 - 16 = 48 - 0 from rfl]; rfl, rfl⟩ ?_
  rintro m vs h' ⟨n, hn, rfl, rfl⟩
  have ls : (schF w0 n).length = 16 + n := by rw [schF_len, lw0]
  have ws := schF_w ww0 n
  have e64 : decide ((((16 + n : Nat)) : Int) < 64) = decide (16 + n < 64) := lt_dec (16 + n) 64
  have e15 : ((16 + n : Nat) : Int) - 15 = ((n + 1 : Nat) : Int) := by omega
  have e2 : ((16 + n : Nat) : Int) - 2 = ((n + 14 : Nat) : Int) := by omega
  have e16' : ((16 + n : Nat) : Int) - 16 = ((n : Nat) : Int) := by omega
  have e7 : ((16 + n : Nat) : Int) - 7 = ((n + 9 : Nat) : Int) := by omega
  have cell : ∀ j, j < 16 + n → ((h.set r2 O).set r3 (.row t_64_uint32 (nv .u32 (schF w0 n ++ List.replicate (48 - n) 0)) 64 (some (0, 0)))).cell ⟨r3, j, none⟩ = some (.int .u32 (((schF w0 n).getD j 0 : Nat) : Int)) := fun j hj => by
    rw [cell_row (Hp.set_same ..), nv_getD _ _ _ (by rw [List.length_append]; omega), getD_app_left _ _ _ (by omega)]
  simp (disch := omega) only [GL, RL, wi64, e64]
  by_cases hlt2 : 16 + n < 64
  · simp only [hlt2, decide_true, if_true]
    simp (disch := omega) only [GL, RL, wi64, e15, e2, cell]
    have hx := ws.getD (n + 1)
    have hy := ws.getD (n + 14)
    have es : schStep (schF w0 n) = ((((schF w0 n).getD n 0 + sgS0 ((schF w0 n).getD (n + 1) 0)) % 4294967296 + (schF w0 n).getD (n + 9) 0) % 4294967296 + sgS1 ((schF w0 n).getD (n + 14) 0)) % 4294967296 := by
      unfold schStep
      rw [ls, show 16 + n - 16 = n by omega, show 16 + n - 15 = n + 1 by omega, show 16 + n - 7 = n + 9 by omega, show 16 + n - 2 = n + 14 by omega]
    generalize hX : (schF w0 n).getD (n + 1) 0 = X at hx es
    generalize hY : (schF w0 n).getD (n + 14) 0 = Y at hy es
    refine T_rotN X 7 hx (by omega) (by omega) ?_
    refine T_rotN X 18 hx (by omega) (by omega) ?_
    simp (disch := omega) only [GL, RL]
    rw [xor32N (rotr_lt _ _ hx) (rotr_lt _ _ hx)]
    have sh3 : ((X : Int).fdiv (2 ^ min (Int.toNat 3) IntKind.u32.bits)) = ((X / 2 ^ 3 : Nat) : Int) := fdivp X 3
    rw [sh3, xor32N (x32 (rotr_lt _ _ hx) (rotr_lt _ _ hx)) (Nat.lt_of_le_of_lt (Nat.div_le_self _ _) hx)]
    refine T_rotN Y 17 hy (by omega) (by omega) ?_
    refine T_rotN Y 19 hy (by omega) (by omega) ?_
    simp (disch := omega) only [GL, RL, wi64, e16', e7, cell]
    rw [xor32N (rotr_lt _ _ hy) (rotr_lt _ _ hy)]
    have sh10 : ((Y : Int).fdiv (2 ^ min (Int.toNat 10) IntKind.u32.bits)) = ((Y / 2 ^ 10 : Nat) : Int) := fdivp Y 10
    rw [sh10, xor32N (x32 (rotr_lt _ _ hy) (rotr_lt _ _ hy)) (Nat.lt_of_le_of_lt (Nat.div_le_self _ _) hy)]
    simp only [add32]
    have eS : ((((schF w0 n).getD n 0 + (rotr X 7 ^^^ rotr X 18 ^^^ X / 2 ^ 3)) % 4294967296 + (schF w0 n).getD (n + 9) 0) % 4294967296 + (rotr Y 17 ^^^ rotr Y 19 ^^^ Y / 2 ^ 10)) % 4294967296 = schStep (schF w0 n) := by
      rw [es]; rfl
    rw [eS]
    refine aw_store z_uint32 rfl (put_row (Hp.set_same ..) (by rw [nv_len, List.length_append, ls, List.length_replicate]; omega) (by simp) _) ?_
    refine ⟨_, .refl _, m - 1, by omega, n + 1, by omega, ?_, by rw [show ((16 + n : Nat) : Int) + 1 = ((16 + (n + 1) : Nat) : Int) by omega]⟩
    have es2 := set_end (schF w0 n) (48 - (n + 1)) (schStep (schF w0 n))
    rw [ls] at es2
    rw [Hp.set_set, nv_set, show 48 - n = (48 - (n + 1)) + 1 by omega, es2]
    rfl
  have hn48 : n = 48 := by omega
  simp only [hlt2, decide_false, Bool.false_eq_true, if_false]
  have hfin : schF w0 n ++ List.replicate (48 - n) 0 = schL b := by
    have e1 : 48 - n = 0 := by omega
    have e2 : schL b = schF w0 n := by unfold schL; rw [hw0, hn48]
    rw [e1, e2, List.replicate_zero, List.append_nil]
  rw [hfin]
  have hl64 : (nv .u32 (schL b)).length = 64 := by rw [nv_len, schL_len]
  generalize schL b = W at hl64 k ⊢
  rw [q_ldRow u_64_uint32 rfl (by rw [hl64]; exact z_64_uint32) (Hp.set_same ..)]
  refine aw_storeRow (xs := List.replicate 64 (Value.int .u32 0)) (f := (0, 0)) (cap := 64) (e := t_64_uint32) (by rw [hl64]; exact z_64_uint32) (by rw [Hp.set_ne _ _ (Ne.symm hne), Hp.set_same, ← hO]; rfl) (by rw [hl64, List.length_replicate]) (nv_flat _ _) (fun i _ => by simp) ?_
  rw [q_resRow u_64_uint32 rfl (by rw [hl64]; exact z_64_uint32) (Hp.set_same ..)]
  refine ⟨h, fun b o e => ?_, k⟩
  have n6 : b ≠ r2 := by rintro rfl; rw [hr2] at e; cases e
  have n7 : b ≠ r3 := by rintro rfl; rw [hr3'] at e; cases e
  exact ⟨o, by rw [Hp.set_ne _ _ n6, Hp.set_ne _ _ n7, Hp.set_ne _ _ n6]; exact e, .refl _⟩
end
end Go.Proofs.Ytoikhbagchfeoaa
set_option linter.unusedSimpArgs false
set_option linter.unusedVariables false
set_option maxRecDepth 100000
set_option maxHeartbeats 4000000
namespace Go.Proofs.Ytoikhbagchfeoaa
open Go Go.SL Go.Pure
/-- The cells of a digest on its way, behind its state. -/
def hashT (wt : List Nat) (many : Nat) (all : Nat) : List Value := nv .u32 shaK ++ (nv .u8 wt ++ [.int .i64 (many : Int), .int .u64 (all : Int)])
def hashC (st wt : List Nat) (many all : Nat) : List Value := nv .u32 st ++ hashT wt many all
theorem hashT_len {wt : List Nat} (lw : wt.length = 64) (many all : Nat) : (hashT wt many all).length = 130 := by
  simp only [hashT, List.length_append, nv_len, lw, shaK_len, List.length_cons, List.length_nil]
theorem hashC_len {st wt : List Nat} (ls : st.length = 8) (lw : wt.length = 64) (many all : Nat) : (hashC st wt many all).length = 138 := by
  rw [hashC, List.length_append, nv_len, ls, hashT_len lw]
theorem ht0 {h : Hp} {K : Value → Prop} (r : Nat) : q P h (Instr.fieldAt t_sha_Hash (.pointer (some ⟨r, 0, none⟩)) 0) K = K (.pointer (some ⟨r, 0, none⟩)) := q_of (by kernel_rfl) K
theorem ht1 {h : Hp} {K : Value → Prop} (r : Nat) : q P h (Instr.fieldAt t_sha_Hash (.pointer (some ⟨r, 0, none⟩)) 1) K = K (.pointer (some ⟨r, 8, none⟩)) := q_of (by kernel_rfl) K
theorem ht2 {h : Hp} {K : Value → Prop} (r : Nat) : q P h (Instr.fieldAt t_sha_Hash (.pointer (some ⟨r, 0, none⟩)) 2) K = K (.pointer (some ⟨r, 72, none⟩)) := q_of (by kernel_rfl) K
theorem ht3 {h : Hp} {K : Value → Prop} (r : Nat) : q P h (Instr.fieldAt t_sha_Hash (.pointer (some ⟨r, 0, none⟩)) 3) K = K (.pointer (some ⟨r, 136, none⟩)) := q_of (by kernel_rfl) K
theorem ht4 {h : Hp} {K : Value → Prop} (r : Nat) : q P h (Instr.fieldAt t_sha_Hash (.pointer (some ⟨r, 0, none⟩)) 4) K = K (.pointer (some ⟨r, 137, none⟩)) := q_of (by kernel_rfl) K
theorem s8lo {h : Hp} {K : Value → Prop} (r : Nat) : q P h (Instr.sliceAt t_8_uint32 (.pointer (some ⟨r, 0, none⟩)) (some (.int .i64 1)) none none) K = K (.slice (some ⟨r, 1, none⟩) 7 7) := q_of (by kernel_rfl) K
theorem s8hi {h : Hp} {K : Value → Prop} (r : Nat) : q P h (Instr.sliceAt t_8_uint32 (.pointer (some ⟨r, 0, none⟩)) none (some (.int .i64 7)) none) K = K (.slice (some ⟨r, 0, none⟩) 7 8) := q_of (by kernel_rfl) K
theorem hashC_K {st wt : List Nat} {many all : Nat} (ls : st.length = 8) (i : Nat) (hi : i < 64) : (hashC st wt many all)[8 + i]? = some (.int .u32 ((shaK.getD i 0 : Nat) : Int)) := by
  have l1 : (nv .u32 st).length = 8 := by rw [nv_len, ls]
  rw [hashC, List.getElem?_append_right (by omega), l1, Nat.add_sub_cancel_left, hashT, List.getElem?_append_left (by rw [nv_len, shaK_len]; exact hi), nv_getD _ _ _ (by rw [shaK_len]; exact hi)]
theorem hashC_st {st wt : List Nat} {many all : Nat} (i : Nat) (hi : i < st.length) : (hashC st wt many all)[i]? = some (.int .u32 ((st.getD i 0 : Nat) : Int)) := by
  rw [hashC, List.getElem?_append_left (by rw [nv_len]; exact hi), nv_getD _ _ _ hi]
theorem hashC_set {st wt : List Nat} {many all : Nat} (i x : Nat) (hi : i < st.length) : (hashC st wt many all).set i (.int .u32 (x : Int)) = hashC (st.set i x) wt many all := by
  rw [hashC, List.set_append_left _ _ (by rw [nv_len]; exact hi), nv_set]; rfl
section
variable {h : Hp} {K : Value → Hp → Prop}
/-- One round. -/
theorem round_go {base : Hp} {r5 p r4 : Nat} {s w : List Nat} {i : Nat} (hs : W32 s) (ls : s.length = 8) (hw : W32 w) (lw : w.length = 64) (hi : i < 64)
    (b4 : base r4 = some (.row t_64_uint32 (nv .u32 w) 64 (some (0, 0)))) (n45 : r4 ≠ r5) (n5p : p ≠ r5) (cK : base.cell ⟨p, 8 + i, none⟩ = some (.int .u32 ((shaK.getD i 0 : Nat) : Int)))
    {F : Value → Hp → Prop} (k : F (.int .i64 ((i + 1 : Nat) : Int)) (base.set r5 (.row t_8_uint32 (nv .u32 (rnd (shaK.getD i 0) (w.getD i 0) s)) 8 (some (0, 0))))) :
    (fun (h : Hp) => q P emp (Instr.indexAt t_8_uint32 (.pointer (some ⟨r5, 0, none⟩)) (Value.int .i64 0)) fun t22 => q P h (Instr.loadAt t_uint32 t22) fun t23 => q P emp (Instr.indexAt t_8_uint32 (.pointer (some ⟨r5, 0, none⟩)) (Value.int .i64 4)) fun t24 => q P h (Instr.loadAt t_uint32 t24) fun t25 => Cn P n_bits_RotateLeft32 #[t25, (Value.int .i64 (-6))] h fun t27 h => Cn P n_bits_RotateLeft32 #[t25, (Value.int .i64 (-11))] h fun t29 h => q P h (binOp .xor t_uint32 t27 t29) fun t30 => Cn P n_bits_RotateLeft32 #[t25, (Value.int .i64 (-25))] h fun t32 h => q P h (binOp .xor t_uint32 t30 t32) fun t33 => q P emp (Instr.indexAt t_8_uint32 (.pointer (some ⟨r5, 0, none⟩)) (Value.int .i64 7)) fun t34 => q P h (Instr.loadAt t_uint32 t34) fun t35 => q P emp (binOp .add t_uint32 t35 t33) fun t37 => q P emp (Instr.indexAt t_8_uint32 (.pointer (some ⟨r5, 0, none⟩)) (Value.int .i64 5)) fun t39 => q P h (Instr.loadAt t_uint32 t39) fun t40 => q P emp (binOp .and t_uint32 t25 t40) fun t41 => q P emp (Op.unary .xor t25) fun t43 => q P emp (Instr.indexAt t_8_uint32 (.pointer (some ⟨r5, 0, none⟩)) (Value.int .i64 6)) fun t44 => q P h (Instr.loadAt t_uint32 t44) fun t45 => q P emp (binOp .and t_uint32 t43 t45) fun t46 => q P emp (binOp .xor t_uint32 t41 t46) fun t47 => q P emp (binOp .add t_uint32 t37 t47) fun t48 => q P emp (nilCk (.pointer (some ⟨p, 0, none⟩))) fun t51 => q P h (Instr.fieldAt t_sha_Hash t51 1) fun t52 => q P emp (Instr.indexAt t_64_uint32 t52 (Value.int .i64 (i : Int))) fun t53 => q P h (Instr.loadAt t_uint32 t53) fun t54 => q P emp (binOp .add t_uint32 t48 t54) fun t55 => q P emp (Instr.indexAt t_64_uint32 (.pointer (some ⟨r4, 0, none⟩)) (Value.int .i64 (i : Int))) fun t57 => q P h (Instr.loadAt t_uint32 t57) fun t58 => q P emp (binOp .add t_uint32 t55 t58) fun t59 => Cn P n_bits_RotateLeft32 #[t23, (Value.int .i64 (-2))] h fun t61 h => Cn P n_bits_RotateLeft32 #[t23, (Value.int .i64 (-13))] h fun t63 h => q P h (binOp .xor t_uint32 t61 t63) fun t64 => Cn P n_bits_RotateLeft32 #[t23, (Value.int .i64 (-22))] h fun t66 h => q P h (binOp .xor t_uint32 t64 t66) fun t67 => q P h (Instr.indexAt t_8_uint32 (.pointer (some ⟨r5, 0, none⟩)) (Value.int .i64 1)) fun t70 => q P h (Instr.loadAt t_uint32 t70) fun t71 => q P h (binOp .and t_uint32 t23 t71) fun t72 => q P h (Instr.indexAt t_8_uint32 (.pointer (some ⟨r5, 0, none⟩)) (Value.int .i64 2)) fun t74 => q P h (Instr.loadAt t_uint32 t74) fun t75 => q P h (binOp .and t_uint32 t23 t75) fun t76 => q P h (binOp .xor t_uint32 t72 t76) fun t77 => q P h (Instr.indexAt t_8_uint32 (.pointer (some ⟨r5, 0, none⟩)) (Value.int .i64 1)) fun t78 => q P h (Instr.loadAt t_uint32 t78) fun t79 => q P h (Instr.indexAt t_8_uint32 (.pointer (some ⟨r5, 0, none⟩)) (Value.int .i64 2)) fun t80 => q P h (Instr.loadAt t_uint32 t80) fun t81 => q P h (binOp .and t_uint32 t79 t81) fun t82 => q P h (binOp .xor t_uint32 t77 t82) fun t83 => q P h (binOp .add t_uint32 t67 t83) fun t84 => q P h (Instr.sliceAt t_8_uint32 (.pointer (some ⟨r5, 0, none⟩)) (some (Value.int .i64 1)) none none) fun t85 => q P h (Instr.sliceAt t_8_uint32 (.pointer (some ⟨r5, 0, none⟩)) none (some (Value.int .i64 7)) none) fun t86 => aw P (Builtin.copy_ #[t_Sl_uint32, t_Sl_uint32] t_int #[t85, t86]) (fun t87 h => q P h (Instr.indexAt t_8_uint32 (.pointer (some ⟨r5, 0, none⟩)) (Value.int .i64 4)) fun t88 => q P h (Instr.loadAt t_uint32 t88) fun t89 => q P h (binOp .add t_uint32 t89 t59) fun t91 => q P h (Instr.indexAt t_8_uint32 (.pointer (some ⟨r5, 0, none⟩)) (Value.int .i64 4)) fun t92 => aw P (Instr.storeAt t_uint32 t92 t91) (fun _ h => q P h (binOp .add t_uint32 t59 t84) fun t95 => q P h (Instr.indexAt t_8_uint32 (.pointer (some ⟨r5, 0, none⟩)) (Value.int .i64 0)) fun t96 => aw P (Instr.storeAt t_uint32 t96 t95) (fun _ h => q P h (binOp .add t_int (Value.int .i64 (i : Int)) (Value.int .i64 1)) fun t97 => F t97 h) h) h) h) (base.set r5 (.row t_8_uint32 (nv .u32 s) 8 (some (0, 0)))) := by
  match s, ls with
  | [a, b, c, d, e, f, g, z], _ =>
  have ha : a < 4294967296 := hs.getD 0
  have hb : b < 4294967296 := hs.getD 1
  have hc : c < 4294967296 := hs.getD 2
  have hd : d < 4294967296 := hs.getD 3
  have he : e < 4294967296 := hs.getD 4
  have hf : f < 4294967296 := hs.getD 5
  have hg : g < 4294967296 := hs.getD 6
  have hz : z < 4294967296 := hs.getD 7
  have hwi := hw.getD i
  have hki := shaK_w.getD i
  have ernd : rnd (shaK.getD i 0) (w.getD i 0) [a, b, c, d, e, f, g, z] = [(t1S (shaK.getD i 0) (w.getD i 0) e f g z + t2S a b c) % 4294967296, a, b, c, (d + t1S (shaK.getD i 0) (w.getD i 0) e f g z) % 4294967296, e, f, g] := rfl
  rw [ernd] at k
  generalize hkk : shaK.getD i 0 = kq at *
  have c4 : base.cell ⟨r4, i, none⟩ = some (.int .u32 ((w.getD i 0 : Nat) : Int)) := by rw [cell_row b4, nv_getD _ _ _ (by omega)]
  generalize w.getD i 0 = wq at *
  have cells : ∀ (X : List Nat) (j x : Nat), X[j]? = some x → (base.set r5 (.row t_8_uint32 (nv .u32 X) 8 (some (0, 0)))).cell ⟨r5, j, none⟩ = some (.int .u32 (x : Int)) := fun X j x e => by
    rw [cell_row (Hp.set_same ..), nv, List.getElem?_map, e]; rfl
  have ck : ∀ X, (base.set r5 X).cell ⟨p, 8 + i, none⟩ = some (.int .u32 (kq : Int)) := fun X => by
    unfold Hp.cell at cK ⊢; rw [Hp.set_ne _ _ n5p]; exact cK
  have cw : ∀ X, (base.set r5 X).cell ⟨r4, i, none⟩ = some (.int .u32 (wq : Int)) := fun X => by
    unfold Hp.cell at c4 ⊢; rw [Hp.set_ne _ _ n45]; exact c4
  have z0 := cells [a, b, c, d, e, f, g, z] 0 a rfl
  have z1 := cells [a, b, c, d, e, f, g, z] 1 b rfl
  have z2 := cells [a, b, c, d, e, f, g, z] 2 c rfl
  have z4 := cells [a, b, c, d, e, f, g, z] 4 e rfl
  have z5 := cells [a, b, c, d, e, f, g, z] 5 f rfl
  have z6 := cells [a, b, c, d, e, f, g, z] 6 g rfl
  have z7 := cells [a, b, c, d, e, f, g, z] 7 z rfl
  have tn : ∀ x : Nat, Int.toNat (OfNat.ofNat x) = x := fun x => rfl
  simp (disch := omega) only [GL, RL, Int.reduceToNat, z0, z4]
  refine T_rotN e 6 he (by omega) (by omega) ?_
  refine T_rotN e 11 he (by omega) (by omega) ?_
  simp (disch := omega) only [GL, RL]
  refine T_rotN e 25 he (by omega) (by omega) ?_
  simp (disch := omega) only [GL, RL, Int.reduceToNat, q_xorU, ht1, z5, z6, z7, ck, cw]
  rw [xor32N (rotr_lt e 6 he) (rotr_lt e 11 he), xor32N (x32 (rotr_lt e 6 he) (rotr_lt e 11 he)) (rotr_lt e 25 he), and32N he hf, xor32N (by decide) he, and32N (x32 (by decide) he) hg, xor32N (a32 he) (a32 (x32 (by decide) he))]
  simp only [add32]
  have e1 : ((((z + (rotr e 6 ^^^ rotr e 11 ^^^ rotr e 25)) % 4294967296 + (e &&& f ^^^ (4294967295 ^^^ e) &&& g)) % 4294967296 + kq) % 4294967296 + wq) % 4294967296 = t1S kq wq e f g z := rfl
  rw [e1]
  have ht : t1S kq wq e f g z < 4294967296 := m32 _
  generalize t1S kq wq e f g z = T at ht k ⊢
  refine T_rotN a 2 ha (by omega) (by omega) ?_
  refine T_rotN a 13 ha (by omega) (by omega) ?_
  simp (disch := omega) only [GL, RL]
  refine T_rotN a 22 ha (by omega) (by omega) ?_
  simp (disch := omega) only [GL, RL, Int.reduceToNat, z1, z2, s8lo, s8hi]
  rw [xor32N (rotr_lt a 2 ha) (rotr_lt a 13 ha), xor32N (x32 (rotr_lt a 2 ha) (rotr_lt a 13 ha)) (rotr_lt a 22 ha), and32N ha hb, and32N ha hc, and32N hb hc, xor32N (a32 ha) (a32 ha), xor32N (x32 (a32 ha) (a32 ha)) (a32 hb)]
  simp only [add32]
  have e2 : ((rotr a 2 ^^^ rotr a 13 ^^^ rotr a 22) + (a &&& b ^^^ a &&& c ^^^ b &&& c)) % 4294967296 = t2S a b c := rfl
  rw [e2]
  generalize t2S a b c = U at k ⊢
  refine aw_copyG (o := 1) (xs := nv .u32 [a, b, c, d, e, f, g, z]) (f := (0, 0)) (dl := 7) (dc := 7) (n := 7) (ys := nv .u32 [a, b, c, d, e, f, g]) u_Sl_uint32 z_uint32 (Hp.set_same ..) ⟨rfl, _, 8, rfl, by omega, .inr ⟨r5, 0, rfl, fun j x ex => ?_⟩⟩ (nv_flat _ _) (by omega) (by simp [nv_len]) (fun j _ => by simp) ?_
  · rw [cell_row (Hp.set_same ..), Nat.zero_add]
    have hj : j < 7 := (List.getElem?_eq_some_iff.1 ex).1
    rw [← ex]
    show (nv .u32 ([a, b, c, d, e, f, g] ++ [z]))[j]? = _
    rw [nv_app, List.getElem?_append_left hj]
  rw [Hp.set_set]
  have eput : putL (nv .u32 [a, b, c, d, e, f, g, z]) 1 (nv .u32 [a, b, c, d, e, f, g]) = nv .u32 [a, a, b, c, d, e, f, g] := rfl
  rw [eput]
  have y4 := cells [a, a, b, c, d, e, f, g] 4 d rfl
  simp (disch := omega) only [GL, RL, Int.reduceToNat, y4, add32]
  refine aw_store z_uint32 rfl (put_row (Hp.set_same ..) (by simp [nv_len]) (by simp) _) ?_
  rw [Hp.set_set, nv_set]
  refine aw_store z_uint32 rfl (put_row (Hp.set_same ..) (by simp [nv_len]) (by simp) _) ?_
  rw [Hp.set_set, nv_set, wi64 (by omega) (by omega)]
  exact k
end
end Go.Proofs.Ytoikhbagchfeoaa
set_option linter.unusedSimpArgs false
set_option linter.unusedVariables false
set_option maxRecDepth 100000
set_option maxHeartbeats 1000000
namespace Go.Proofs.Ytoikhbagchfeoaa
open Go Go.SL Go.Pure
theorem boxB_step (n len j : Nat) (hj : 8 * j < len) :
    ((boxB n len).take (8 * j) ++ List.replicate (len - 8 * j) 0).take (8 * j) ++ (bg 8 n).take (len - 8 * j) ++ ((boxB n len).take (8 * j) ++ List.replicate (len - 8 * j) 0).drop (8 * j + ((bg 8 n).take (len - 8 * j)).length) =
      (boxB n len).take (8 * (j + 1)) ++ List.replicate (len - 8 * (j + 1)) 0 := by
  have lt : ((boxB n len).take (8 * j)).length = 8 * j := by rw [List.length_take, boxB_len]; omega
  have lb : ((bg 8 n).take (len - 8 * j)).length = min (len - 8 * j) 8 := by rw [List.length_take, bg_len]
  rw [List.take_append_of_le_length (by omega), List.take_of_length_le (by omega), lb, List.drop_append, lt, List.drop_of_length_le (by omega), List.nil_append, List.drop_replicate, Nat.add_sub_cancel_left]
  have e1 : (boxB n len).take (8 * (j + 1)) = (boxB n len).take (8 * j) ++ (bg 8 n).take (len - 8 * j) := by
    apply List.ext_getElem
    · rw [List.length_append, lt, lb, List.length_take, boxB_len]; omega
    · intro i h1 h2
      rw [List.length_take, boxB_len] at h1
      rw [List.getElem_take]
      by_cases hi : i < 8 * j
      · rw [List.getElem_append_left (by omega), List.getElem_take]
      · rw [List.getElem_append_right (by omega), List.getElem_take]
        simp only [lt]
        have hl : i - 8 * j < (bg 8 n).length := by rw [bg_len]; omega
        simp only [boxB, List.getElem_map, List.getElem_range]
        rw [show i % 8 = i - 8 * j by omega]
        simp [List.getD_eq_getElem?_getD, hl]
  rw [e1, show len - 8 * j - min (len - 8 * j) 8 = len - 8 * (j + 1) by omega]
section
variable {h : Hp} {K : Value → Hp → Prop}
theorem T_bytesOf (n len : Nat) (hn : n < 9223372036854775808) (hl : len ≤ 70368744177664) (k : ∀ r h', Nn h t_uint8 .u8 r h' (boxB n len) → K r h') : Cn P n_crypt_bytesOf #[.int .i64 n, .int .i64 len] h K := by
  refine Cn_wk (F_crypt_bytesOf ?_)
  unfold s_crypt_bytesOf
  refine aw_make u_Sl_uint8 nfo_uint8 rfl (Nat.le_refl len) (by omega) (by omega) fun r h1 hw => ?_
  rw [replicate_nv] at hw
  by_cases h00 : len = 0
  · subst h00
    refine Lp_mk (fun m vs h' => m = 0 ∧ h' = h1 ∧ vs = [.int .i64 0]) 0 ⟨rfl, rfl, rfl⟩ ?_
    rintro m vs h2 ⟨rfl, rfl, rfl⟩
    have e0 : decide ((0 : Int) < ((0 : Nat) : Int)) = false := rfl
    simp (disch := omega) only [GL, RL, e0, Bool.false_eq_true, if_false]
    exact ⟨h2, .refl _, k _ _ hw⟩
  obtain ⟨b, c, f, hb, hc, rfl, hh1, _⟩ := hw.form (by omega)
  refine Lp_mk (fun m vs h' => ∃ j : Nat, m = (len + 7) / 8 - j ∧ j ≤ (len + 7) / 8 ∧ New h t_uint8 1 (.slice (some ⟨b, 0, none⟩) len c) h' (nv .u8 ((boxB n len).take (8 * j) ++ List.replicate (len - 8 * j) 0)) len ∧ vs = [.int .i64 ((8 * j : Nat) : Int)]) ((len + 7) / 8)
    ⟨0, rfl, Nat.zero_le _, by simpa using hw, rfl⟩ ?_
  clear hw hh1
  rintro m vs h2 ⟨j, hm, hj, hw, rfl⟩
  simp (disch := omega) only [GL, RL, wi64, lt_dec]
  by_cases hlt : 8 * j < len
  · simp only [hlt, decide_true, if_true]
    obtain ⟨b', c', f', hb', _, hv', hh', hfz⟩ := hw.form (by omega)
    simp only [Value.slice.injEq, Option.some.injEq, Addr.mk.injEq] at hv'
    obtain ⟨⟨rfl, _⟩, _, rfl⟩ := hv'
    have hcut : SL.cut (some ⟨b, 0, none⟩) c (8 * j) 1 = some ⟨b, 8 * j, none⟩ := by
      unfold SL.cut
      rw [if_neg (by omega), Option.map_some, add_off]
      simp
    have esl : ∀ H : Hp, peek P H (Instr.sliceAt t_Sl_uint8 (.slice (some ⟨b, 0, none⟩) len c) (some (.int .i64 ((8 * j : Nat) : Int))) none none) = some (.slice (some ⟨b, 8 * j, none⟩) (len - 8 * j) (c - 8 * j)) := fun H => by
      obtain ⟨x, hx, e⟩ := withVal_elim (K := fun x => x = .slice (some ⟨b, 8 * j, none⟩) (len - 8 * j) (c - 8 * j)) ((q_slLo (P := P) (h := H) (K := fun x => x = .slice (some ⟨b, 8 * j, none⟩) (len - 8 * j) (c - 8 * j)) u_Sl_uint8 z_uint8 (some ⟨b, 0, none⟩) len c .i64 (8 * j) (by omega) (by omega)).mpr (by rw [hcut]))
      rw [e] at hx
      exact hx
    rw [q_of (esl _)]
    simp (disch := omega) only [GL, RL, wu64i]
    refine T_word_Big64 n (by omega) fun t19 h3 n3 => ?_
    refine ⟨esl _, ?_⟩
    have hb3 : h3 b = some (.row t_uint8 (nv .u8 ((boxB n len).take (8 * j) ++ List.replicate (len - 8 * j) 0)) (c * 1) (some f')) := n3.ext _ _ (by rw [hh']; exact Hp.set_same ..)
    have lx : ((boxB n len).take (8 * j) ++ List.replicate (len - 8 * j) 0).length = len := by rw [List.length_append, List.length_take, boxB_len, List.length_replicate]; omega
    have r3 : Rds h3 1 t19 (nv .u8 (bg 8 n)) 8 := by have := n3.rn; unfold Rn at this; rwa [bg_len] at this
    refine aw_copyMin u_Sl_uint8 z_uint8 hb3 r3 (nv_flat _ _) (by rw [nv_len, lx]; omega) (fun i hi => hfz i (by rw [nv_len, lx] at hi; omega)) ?_
    have e8 : ((8 * j : Nat) : Int) + 8 = ((8 * (j + 1) : Nat) : Int) := by omega
    simp (disch := omega) only [GL, RL, wi64, e8]
    rw [nv_take, putL_nv _ _ _ (by rw [List.length_take, bg_len, lx]; omega), boxB_step n len j hlt]
    refine ⟨h.set b (.row t_uint8 (nv .u8 ((boxB n len).take (8 * (j + 1)) ++ List.replicate (len - 8 * (j + 1)) 0)) (c * 1) (some f')), le_set ((New.le hw).trans n3.le), m - 1, by omega, j + 1, by omega, by omega, ⟨?_, .inr ⟨b, c, f', hb', by omega, rfl, rfl, hfz⟩⟩, rfl⟩
    rw [nv_len, List.length_append, List.length_take, boxB_len, List.length_replicate]; omega
  · simp only [hlt, decide_false, Bool.false_eq_true, if_false]
    refine ⟨h2, .refl _, k _ _ ?_⟩
    rw [List.take_of_length_le (by rw [boxB_len]; omega), show len - 8 * j = 0 by omega, List.replicate_zero, List.append_nil] at hw
    unfold Nn
    rw [boxB_len]
    exact hw
end
end Go.Proofs.Ytoikhbagchfeoaa
set_option linter.unusedSimpArgs false
set_option linter.unusedVariables false
set_option maxRecDepth 100000
set_option maxHeartbeats 4000000
namespace Go.Proofs.Ytoikhbagchfeoaa
open Go Go.SL Go.Pure
theorem sz_hash : sz P t_sha_Hash = some 138 := by kernel_rfl
def zHash : List Value := nv .u32 (List.replicate 72 0) ++ (nv .u8 (List.replicate 64 0) ++ [.int .i64 0, .int .u64 0])
theorem zr_hash : zr P t_sha_Hash = some (.agg zHash.toArray) := by kernel_rfl
theorem zHash_len : zHash.length = 138 := by decide +kernel
theorem bldK {h : Hp} {K : Value → Prop} : q P h (Instr.build t_64_uint32 #[(0, (Value.int .u32 1116352408)), (1, (Value.int .u32 1899447441)), (2, (Value.int .u32 3049323471)), (3, (Value.int .u32 3921009573)), (4, (Value.int .u32 961987163)), (5, (Value.int .u32 1508970993)), (6, (Value.int .u32 2453635748)), (7, (Value.int .u32 2870763221)), (8, (Value.int .u32 3624381080)), (9, (Value.int .u32 310598401)), (10, (Value.int .u32 607225278)), (11, (Value.int .u32 1426881987)), (12, (Value.int .u32 1925078388)), (13, (Value.int .u32 2162078206)), (14, (Value.int .u32 2614888103)), (15, (Value.int .u32 3248222580)), (16, (Value.int .u32 3835390401)), (17, (Value.int .u32 4022224774)), (18, (Value.int .u32 264347078)), (19, (Value.int .u32 604807628)), (20, (Value.int .u32 770255983)), (21, (Value.int .u32 1249150122)), (22, (Value.int .u32 1555081692)), (23, (Value.int .u32 1996064986)), (24, (Value.int .u32 2554220882)), (25, (Value.int .u32 2821834349)), (26, (Value.int .u32 2952996808)), (27, (Value.int .u32 3210313671)), (28, (Value.int .u32 3336571891)), (29, (Value.int .u32 3584528711)), (30, (Value.int .u32 113926993)), (31, (Value.int .u32 338241895)), (32, (Value.int .u32 666307205)), (33, (Value.int .u32 773529912)), (34, (Value.int .u32 1294757372)), (35, (Value.int .u32 1396182291)), (36, (Value.int .u32 1695183700)), (37, (Value.int .u32 1986661051)), (38, (Value.int .u32 2177026350)), (39, (Value.int .u32 2456956037)), (40, (Value.int .u32 2730485921)), (41, (Value.int .u32 2820302411)), (42, (Value.int .u32 3259730800)), (43, (Value.int .u32 3345764771)), (44, (Value.int .u32 3516065817)), (45, (Value.int .u32 3600352804)), (46, (Value.int .u32 4094571909)), (47, (Value.int .u32 275423344)), (48, (Value.int .u32 430227734)), (49, (Value.int .u32 506948616)), (50, (Value.int .u32 659060556)), (51, (Value.int .u32 883997877)), (52, (Value.int .u32 958139571)), (53, (Value.int .u32 1322822218)), (54, (Value.int .u32 1537002063)), (55, (Value.int .u32 1747873779)), (56, (Value.int .u32 1955562222)), (57, (Value.int .u32 2024104815)), (58, (Value.int .u32 2227730452)), (59, (Value.int .u32 2361852424)), (60, (Value.int .u32 2428436474)), (61, (Value.int .u32 2756734187)), (62, (Value.int .u32 3204031479)), (63, (Value.int .u32 3329325298))]) K = K (.agg (nv .u32 shaK).toArray) := q_of (by kernel_rfl) K
theorem bldH {h : Hp} {K : Value → Prop} : q P h (Instr.build t_8_uint32 #[(0, (Value.int .u32 1779033703)), (1, (Value.int .u32 3144134277)), (2, (Value.int .u32 1013904242)), (3, (Value.int .u32 2773480762)), (4, (Value.int .u32 1359893119)), (5, (Value.int .u32 2600822924)), (6, (Value.int .u32 528734635)), (7, (Value.int .u32 1541459225))]) K = K (.agg (nv .u32 shaH).toArray) := q_of (by kernel_rfl) K
theorem bldNew {h : Hp} {K : Value → Prop} : q P h (Instr.build t_sha_Hash #[(0, .agg (nv .u32 shaH).toArray), (1, .agg (nv .u32 shaK).toArray)]) K = K (.agg (hashC shaH (List.replicate 64 0) 0 0).toArray) := q_of (by kernel_rfl) K
theorem s64 {h : Hp} {K : Value → Prop} (r : Nat) : q P h (Instr.sliceAt t_64_uint8 (.pointer (some ⟨r, 72, none⟩)) none none none) K = K (.slice (some ⟨r, 72, none⟩) 64 64) := q_of (by kernel_rfl) K
theorem hashC_wt {st wt : List Nat} {many all : Nat} (ls : st.length = 8) (lw : wt.length = 64) (i : Nat) (hi : i < 64) : (hashC st wt many all)[72 + i]? = some (.int .u8 ((wt.getD i 0 : Nat) : Int)) := by
  have l1 : (nv .u32 st).length = 8 := by rw [nv_len, ls]
  have l2 : (nv .u32 shaK).length = 64 := by rw [nv_len, shaK_len]
  rw [hashC, List.getElem?_append_right (by omega), l1, hashT, List.getElem?_append_right (by omega), l2, List.getElem?_append_left (by rw [nv_len]; omega), show 72 + i - 8 - 64 = i by omega, nv_getD _ _ _ (by omega)]
theorem hashC_136 {st wt : List Nat} {many all : Nat} (ls : st.length = 8) (lw : wt.length = 64) : (hashC st wt many all)[136]? = some (.int .i64 (many : Int)) := by
  have l1 : (nv .u32 st).length = 8 := by rw [nv_len, ls]
  have l2 : (nv .u32 shaK).length = 64 := by rw [nv_len, shaK_len]
  have l3 : (nv .u8 wt).length = 64 := by rw [nv_len, lw]
  rw [hashC, List.getElem?_append_right (by omega), l1, hashT, List.getElem?_append_right (by omega), l2, List.getElem?_append_right (by omega), l3]
  rfl
theorem hashC_137 {st wt : List Nat} {many all : Nat} (ls : st.length = 8) (lw : wt.length = 64) : (hashC st wt many all)[137]? = some (.int .u64 (all : Int)) := by
  have l1 : (nv .u32 st).length = 8 := by rw [nv_len, ls]
  have l2 : (nv .u32 shaK).length = 64 := by rw [nv_len, shaK_len]
  have l3 : (nv .u8 wt).length = 64 := by rw [nv_len, lw]
  rw [hashC, List.getElem?_append_right (by omega), l1, hashT, List.getElem?_append_right (by omega), l2, List.getElem?_append_right (by omega), l3]
  rfl
theorem hashC_set136 {st wt : List Nat} {many all : Nat} (ls : st.length = 8) (lw : wt.length = 64) (x : Nat) : (hashC st wt many all).set 136 (.int .i64 (x : Int)) = hashC st wt x all := by
  have l1 : (nv .u32 st).length = 8 := by rw [nv_len, ls]
  have l2 : (nv .u32 shaK).length = 64 := by rw [nv_len, shaK_len]
  have l3 : (nv .u8 wt).length = 64 := by rw [nv_len, lw]
  rw [hashC, List.set_append_right _ _ (by omega), l1, hashT, List.set_append_right _ _ (by omega), l2, List.set_append_right _ _ (by omega), l3]
  rfl
theorem hashC_set137 {st wt : List Nat} {many all : Nat} (ls : st.length = 8) (lw : wt.length = 64) (x : Nat) : (hashC st wt many all).set 137 (.int .u64 (x : Int)) = hashC st wt many x := by
  have l1 : (nv .u32 st).length = 8 := by rw [nv_len, ls]
  have l2 : (nv .u32 shaK).length = 64 := by rw [nv_len, shaK_len]
  have l3 : (nv .u8 wt).length = 64 := by rw [nv_len, lw]
  rw [hashC, List.set_append_right _ _ (by omega), l1, hashT, List.set_append_right _ _ (by omega), l2, List.set_append_right _ _ (by omega), l3]
  rfl
theorem hashC_put {st wt c : List Nat} {many all : Nat} (ls : st.length = 8) (lw : wt.length = 64) (hm : many + c.length ≤ 64) : putL (hashC st wt many all) (72 + many) (nv .u8 c) = hashC st (wt.take many ++ c ++ wt.drop (many + c.length)) many all := by
  have l1 : (nv .u32 st).length = 8 := by rw [nv_len, ls]
  have l2 : (nv .u32 shaK).length = 64 := by rw [nv_len, shaK_len]
  rw [putL_eq _ _ _ (by rw [hashC_len ls lw, nv_len]; omega)]
  have e1 : (hashC st wt many all) = (nv .u32 st ++ nv .u32 shaK) ++ (nv .u8 wt ++ [.int .i64 (many : Int), .int .u64 (all : Int)]) := by simp only [hashC, hashT, List.append_assoc]
  have l12 : (nv .u32 st ++ nv .u32 shaK).length = 72 := by rw [List.length_append]; omega
  have lt : (nv .u8 wt).length = 64 := by rw [nv_len, lw]
  rw [e1, List.take_append, List.take_of_length_le (by omega), l12, Nat.add_sub_cancel_left, List.take_append_of_le_length (by omega), List.drop_append, List.drop_of_length_le (by omega), List.nil_append, l12, show 72 + many + (nv .u8 c).length - 72 = many + c.length by rw [nv_len]; omega, List.drop_append_of_le_length (by omega)]
  simp only [hashC, hashT, nv_app, nv_take, List.append_assoc]
  have : List.drop (many + c.length) (nv .u8 wt) = nv .u8 (wt.drop (many + c.length)) := by unfold nv; rw [List.map_drop]
  rw [this]
section
variable {h : Hp} {K : Value → Hp → Prop}
theorem T_constants (k : K (.agg (nv .u32 shaK).toArray) h) : Cn P n_sha_constants #[] h K := by
  refine Cn_wk (F_sha_constants ?_)
  unfold s_sha_constants
  refine aw_allocL (List.replicate 64 (Value.int .u32 0)) zr_64u32 rfl fun r hr => ?_
  have hl : (nv .u32 shaK).length = 64 := by rw [nv_len, shaK_len]
  rw [bldK]
  refine aw_storeRow (ys := nv .u32 shaK) (by rw [hl]; exact z_64_uint32) (Hp.set_same ..) (by rw [hl, List.length_replicate]) (nv_flat _ _) (fun i _ => by simp) ?_
  rw [q_resRow (ys := nv .u32 shaK) u_64_uint32 rfl (by rw [hl]; exact z_64_uint32) (Hp.set_same ..)]
  refine ⟨h, ?_, k⟩
  rw [Hp.set_set]
  exact le_fresh hr
theorem T_beginning (k : K (.agg (nv .u32 shaH).toArray) h) : Cn P n_sha_beginning #[] h K := by
  refine Cn_wk (F_sha_beginning ?_)
  unfold s_sha_beginning
  refine aw_allocL (List.replicate 8 (Value.int .u32 0)) zr_8u32 rfl fun r hr => ?_
  have hl : (nv .u32 shaH).length = 8 := by rw [nv_len, shaH_len]
  rw [bldH]
  refine aw_storeRow (ys := nv .u32 shaH) (by rw [hl]; exact z_8_uint32) (Hp.set_same ..) (by rw [hl, List.length_replicate]) (nv_flat _ _) (fun i _ => by simp) ?_
  rw [q_resRow (ys := nv .u32 shaH) u_8_uint32 rfl (by rw [hl]; exact z_8_uint32) (Hp.set_same ..)]
  refine ⟨h, ?_, k⟩
  rw [Hp.set_set]
  exact le_fresh hr
/-- A row that holds a digest on its way. -/
def HashRow (h : Hp) (p : Nat) (st wt : List Nat) (many all : Nat) : Prop := h p = some (.row t_sha_Hash (hashC st wt many all) 138 (some (0, 0)))
theorem T_shaBlock {p : Nat} {v1 : Value} {st wt b : List Nat} {many all : Nat} (hb : HashRow h p st wt many all) (ws : W32 st) (ls : st.length = 8) (lw : wt.length = 64) (hv : Rn h .u8 v1 b) (bb : Bytes b) (lb : b.length = 64)
    (k : K (.tuple #[]) (h.set p (.row t_sha_Hash (hashC (workL shaK st b) wt many all) 138 (some (0, 0))))) : Cn P n_sha_Hash_block #[.pointer (some ⟨p, 0, none⟩), v1] h K := by
  refine Cn_wk (F_sha_Hash_block ?_)
  unfold s_sha_Hash_block
  refine T_schedule hv bb lb ?_
  have lW := schL_len b
  have wW := schL_w bb
  unfold workL at k
  generalize schL b = W at lW wW k ⊢
  have lnW : (nv .u32 W).length = 64 := by rw [nv_len, lW]
  have lnS : (nv .u32 st).length = 8 := by rw [nv_len, ls]
  refine aw_allocL (List.replicate 64 (Value.int .u32 0)) zr_64u32 rfl fun r4 hr4 => ?_
  refine aw_storeRow (ys := nv .u32 W) (by rw [lnW]; exact z_64_uint32) (Hp.set_same ..) (by rw [lnW, List.length_replicate]) (nv_flat _ _) (fun i _ => by simp) ?_
  rw [Hp.set_set, List.length_replicate]
  have n4 : p ≠ r4 := by rintro rfl; rw [HashRow, hr4] at hb; cases hb
  have hb4 : (h.set r4 (.row t_64_uint32 (nv .u32 W) 64 (some (0, 0)))) p = some (.row t_sha_Hash (hashC st wt many all) 138 (some (0, 0))) := by rw [Hp.set_ne _ _ n4]; exact hb
  have b4 : (h.set r4 (.row t_64_uint32 (nv .u32 W) 64 (some (0, 0)))) r4 = some (.row t_64_uint32 (nv .u32 W) 64 (some (0, 0))) := Hp.set_same ..
  have le4 : ∀ r5 o, (h.set r4 (.row t_64_uint32 (nv .u32 W) 64 (some (0, 0)))) r5 = none → Hp.le h ((h.set r4 (.row t_64_uint32 (nv .u32 W) 64 (some (0, 0)))).set r5 o) := fun r5 o e => (le_fresh hr4).trans (le_fresh e)
  generalize h.set r4 (.row t_64_uint32 (nv .u32 W) 64 (some (0, 0))) = base at hb4 b4 le4 ⊢
  simp (disch := omega) only [GL, RL, ht0]
  rw [q_ldAgg (ys := nv .u32 st) u_8_uint32 rfl (by rw [lnS]; exact z_8_uint32) fun j x e => by
    rw [cell_row hb4, Nat.zero_add, hashC, List.getElem?_append_left (List.getElem?_eq_some_iff.1 e).1]; exact e]
  refine aw_allocL (List.replicate 8 (Value.int .u32 0)) zr_8u32 rfl fun r5 hr5 => ?_
  refine aw_storeRow (ys := nv .u32 st) (by rw [lnS]; exact z_8_uint32) (Hp.set_same ..) (by rw [lnS, List.length_replicate]) (nv_flat _ _) (fun i _ => by simp) ?_
  rw [Hp.set_set, List.length_replicate]
  have n5 : p ≠ r5 := by rintro rfl; rw [hr5] at hb4; cases hb4
  have n45 : r4 ≠ r5 := by rintro rfl; rw [hr5] at b4; cases b4
  refine Lp_mk (fun m vs h' => ∃ i : Nat, i + m = 64 ∧ h' = base.set r5 (.row t_8_uint32 (nv .u32 (rnds shaK W st i)) 8 (some (0, 0))) ∧ vs = [.int .i64 (i : Int)]) 64 ⟨0, rfl, rfl, rfl⟩ ?_
  rintro m vs h' ⟨i, hi, rfl, rfl⟩
  have e64 : decide ((i : Int) < 64) = decide (i < 64) := lt_dec i 64
  simp only [List.getD_cons_zero]
  refine (q_lss _ _ _ _).mpr ?_
  refine (cnd_bool _ _ _).mpr ?_
  rw [e64]
  have wr := rnds_w (K := shaK) (w := W) ws i
  have lr := rnds_len (K := shaK) (w := W) ls i
  by_cases hlt : i < 64
  · rw [if_pos (by simp [hlt])]
    exact round_go wr lr wW lW hlt b4 n45 n5 (by rw [cell_row hb4]; exact hashC_K ls i hlt) ⟨_, .refl _, m - 1, by omega, i + 1, by omega, rfl, rfl⟩
  rw [if_neg (by simp [hlt])]
  obtain rfl : i = 64 := by omega
  generalize rnds shaK W st 64 = V at wr lr k ⊢
  have hb5 : (base.set r5 (.row t_8_uint32 (nv .u32 V) 8 (some (0, 0)))) p = some (.row t_sha_Hash (hashC st wt many all) 138 (some (0, 0))) := by rw [Hp.set_ne _ _ n5]; exact hb4
  have v5 : ∀ X : AObj, ((base.set r5 (.row t_8_uint32 (nv .u32 V) 8 (some (0, 0)))).set p X) r5 = some (.row t_8_uint32 (nv .u32 V) 8 (some (0, 0))) := fun X => by rw [Hp.set_ne _ _ (Ne.symm n5), Hp.set_same]
  have le5 := le4 r5 (.row t_8_uint32 (nv .u32 V) 8 (some (0, 0))) hr5
  generalize base.set r5 (.row t_8_uint32 (nv .u32 V) 8 (some (0, 0))) = B5 at hb5 v5 le5 ⊢
  refine Lp_mk (fun m vs h' => ∃ i : Nat, i + m = 8 ∧ h' = B5.set p (.row t_sha_Hash (hashC (addS st V i ++ st.drop i) wt many all) 138 (some (0, 0))) ∧ vs = [.int .i64 (i : Int)]) 8 ⟨0, rfl, (Hp.set_id hb5).symm, rfl⟩ ?_
  rintro m vs h' ⟨i, hi, rfl, rfl⟩
  have e8 : decide ((i : Int) < 8) = decide (i < 8) := lt_dec i 8
  have lA := addS_len st V i
  by_cases hlt : i < 8
  · have lS : (addS st V i ++ st.drop i).length = 8 := by rw [List.length_append, lA, List.length_drop]; omega
    have c1 : ∀ o, (B5.set p (.row t_sha_Hash (hashC (addS st V i ++ st.drop i) wt many all) 138 o)).cell ⟨p, i, none⟩ = some (.int .u32 ((st.getD i 0 : Nat) : Int)) := fun o => by
      rw [cell_row (Hp.set_same ..), hashC_st _ (by omega)]
      congr 3
      rw [List.getD_eq_getElem?_getD, List.getElem?_append_right (by omega), lA, Nat.sub_self, List.getElem?_drop, Nat.add_zero, List.getD_eq_getElem?_getD]
    have c2 : ∀ X, (B5.set p X).cell ⟨r5, i, none⟩ = some (.int .u32 ((V.getD i 0 : Nat) : Int)) := fun X => by
      rw [cell_row (v5 X), nv_getD _ _ _ (by omega)]
    simp (disch := omega) only [GL, RL, e8, hlt, decide_true, if_true, ht0, c1, c2, add32, wi64]
    refine aw_store z_uint32 rfl (put_row (Hp.set_same ..) (by rw [hashC_len lS lw]; omega) (by simp) _) ?_
    refine ⟨_, .refl _, m - 1, by omega, i + 1, by omega, ?_, rfl⟩
    rw [Hp.set_set, hashC_set _ _ (by omega)]
    have e1 : (addS st V i ++ st.drop i).set i ((st.getD i 0 + V.getD i 0) % 4294967296) = addS st V (i + 1) ++ st.drop (i + 1) := by
      rw [List.set_append_right _ _ (by omega), lA, Nat.sub_self, List.drop_eq_getElem_cons (by omega), List.set_cons_zero, addS_succ, List.append_assoc]
      rfl
    rw [e1]
  obtain rfl : i = 8 := by omega
  simp (disch := omega) only [GL, RL, e8, hlt, decide_false, Bool.false_eq_true, if_false]
  rw [List.drop_of_length_le (by omega), List.append_nil]
  exact ⟨_, le_set le5, k⟩
end
end Go.Proofs.Ytoikhbagchfeoaa
set_option linter.unusedSimpArgs false
set_option linter.unusedVariables false
set_option maxRecDepth 100000
set_option maxHeartbeats 4000000
namespace Go.Proofs.Ytoikhbagchfeoaa
open Go Go.SL Go.Pure
theorem del_cle (h : Hp) (p : Nat) (X : AObj) : Hp.cle (h.del p) (h.set p X) := fun a v e => by
  unfold Hp.cell at e ⊢
  by_cases q : a.block = p
  · rw [q, Hp.del_same] at e
    split at e
    · cases e
    · cases e
  · rw [Hp.del_ne _ q] at e
    rw [Hp.set_ne _ _ q]
    exact e
theorem row_rn {h : Hp} {p : Nat} {st wt : List Nat} {many all : Nat} (ls : st.length = 8) (lw : wt.length = 64) (e : HashRow h p st wt many all) : Rn h .u8 (.slice (some ⟨p, 72, none⟩) 64 64) wt :=
  ⟨by rw [nv_len]; omega, _, 64, by rw [lw], by omega, .inr ⟨p, 72, rfl, fun j x ex => by
    have hj : j < wt.length := by have := (List.getElem?_eq_some_iff.1 ex).1; rwa [nv_len] at this
    rw [nv_getD _ _ _ hj] at ex
    rw [cell_row e, hashC_wt ls lw j (by omega)]
    exact ex⟩⟩
section
variable {h : Hp} {K : Value → Hp → Prop}
theorem T_shaNew (k : ∀ p, h p = none → K (.pointer (some ⟨p, 0, none⟩)) (h.set p (.row t_sha_Hash (hashC shaH (List.replicate 64 0) 0 0) 138 (some (0, 0))))) : Cn P n_sha_New #[] h K := by
  refine F_sha_New ?_
  unfold s_sha_New
  refine T_beginning ?_
  refine T_constants ?_
  rw [bldNew]
  refine aw_box fun p hp => ?_
  have e : (Value.agg (hashC shaH (List.replicate 64 0) 0 0).toArray).cells.size = 138 := by
    show (hashC shaH (List.replicate 64 0) 0 0).toArray.size = 138
    rw [List.size_toArray, hashC_len rfl (by rw [List.length_replicate])]
  rw [e]
  exact k p hp
theorem T_shaAdd {p : Nat} {v : Value} {st wt M b : List Nat} {many all : Nat} (hb : HashRow h p st wt many all) (hs : Hst M st wt many) (bw : Bytes wt) (hv : Rn (h.del p) .u8 v b) (bb : Bytes b) (lb : b.length ≤ 1099511627776) (la : all < 18446744073709551616)
    (k : ∀ st' wt' many', Hst (M ++ b) st' wt' many' → Bytes wt' → K (.tuple #[]) (h.set p (.row t_sha_Hash (hashC st' wt' many' ((all + b.length) % 18446744073709551616)) 138 (some (0, 0))))) :
    Cn P n_sha_Hash_Add #[.pointer (some ⟨p, 0, none⟩), v] h K := by
  refine F_sha_Hash_Add ?_
  unfold s_sha_Hash_Add
  have ls := hs.len
  have lw := hs.2.2.1
  obtain ⟨a0, c0, rfl, hc0⟩ := hv.shape
  have c137 : h.cell ⟨p, 137, none⟩ = some (.int .u64 (all : Int)) := by rw [cell_row hb]; exact hashC_137 ls lw
  have ea : ((all : Int) + (b.length : Int)) = ((all + b.length : Nat) : Int) := by omega
  simp (disch := omega) only [GL, RL, ht4, c137, wu64i, ea, wu64]
  refine aw_store z_uint64 rfl (put_row hb (by rw [hashC_len ls lw]; omega) (by simp) _) ?_
  rw [hashC_set137 ls lw]
  generalize (all + b.length) % 18446744073709551616 = all' at k ⊢
  refine Lp_mk (fun m vs h' => ∃ (i : Nat) (st wt : List Nat) (many : Nat) (v' : Value), m = b.length - i ∧ i ≤ b.length ∧ h' = h.set p (.row t_sha_Hash (hashC st wt many all') 138 (some (0, 0))) ∧ Hst (M ++ b.take i) st wt many ∧ Bytes wt ∧ Rn (h.del p) .u8 v' (b.drop i) ∧ vs = [v']) b.length
    ⟨0, st, wt, many, _, rfl, by omega, rfl, by simpa using hs, bw, by simpa using hv, rfl⟩ ?_
  clear hs bw ls lw c137 hb
  rintro m vs h' ⟨i, st, wt, many, v', rfl, hi, rfl, hs, bw, hr, rfl⟩
  have ls := hs.len
  have ws := hs.w
  have lw := hs.2.2.1
  have hm := hs.many_lt
  obtain ⟨a1, c1, rfl, hc1⟩ := hr.shape
  have ld : (b.drop i).length = b.length - i := List.length_drop ..
  have e0 : decide ((0 : Int) < (((b.drop i).length : Nat) : Int)) = decide (i < b.length) := by rw [decide_eq_decide, ld]; omega
  simp (disch := omega) only [GL, RL, e0]
  by_cases hlt : i < b.length
  case neg =>
    simp only [hlt, decide_false, Bool.false_eq_true, if_false]
    rw [List.take_of_length_le (by omega)] at hs
    exact k _ _ _ hs bw
  simp only [hlt, decide_true, if_true]
  have q136 : ∀ st wt many, st.length = 8 → wt.length = 64 → (h.set p (.row t_sha_Hash (hashC st wt many all') 138 (some (0, 0)))).cell ⟨p, 136, none⟩ = some (.int .i64 (many : Int)) := fun st wt many ls lw => by
    rw [cell_row (Hp.set_same ..)]; exact hashC_136 ls lw
  have q1 := q136 st wt many ls lw
  simp (disch := omega) only [GL, RL, ht2, ht3, q1]
  rw [q_slArrLo (n := 64) (s := 1) u_64_uint8 z_uint8 _ _ many (by omega), if_neg (by omega)]
  simp only [add_off, Nat.mul_one]
  obtain ⟨c, hcc⟩ : ∃ c, (b.drop i).take (64 - many) = c := ⟨_, rfl⟩
  have lc : c.length = min (64 - many) (b.length - i) := by rw [← hcc, List.length_take, ld]
  have hr' := hr.mono (del_cle h p (.row t_sha_Hash (hashC st wt many all') 138 (some (0, 0))))
  refine aw_copyMinG (xs := hashC st wt many all') (f := (0, 0)) (n := (b.drop i).length) (ys := nv .u8 (b.drop i)) u_Sl_uint8 z_uint8 (Hp.set_same ..) hr' (nv_flat _ _) (by rw [hashC_len ls lw]; omega) (fun j _ => by simp) ?_
  rw [nv_take, hcc, hashC_put ls lw (by omega), Hp.set_set]
  have en : Nat.min (b.drop i).length (64 - many) = c.length := by rw [lc, ld]; exact Nat.min_comm _ _
  rw [en]
  obtain ⟨wt', hwt'⟩ : ∃ wt', wt.take many ++ c ++ wt.drop (many + c.length) = wt' := ⟨_, rfl⟩
  have bc : Bytes c := by rw [← hcc]; exact (bb.drop _).take _
  have bw' : Bytes wt' := by rw [← hwt']; exact ((bw.take _).append bc).append (bw.drop _)
  have lw' : wt'.length = 64 := by rw [← hwt', List.length_append, List.length_append, List.length_take, List.length_drop]; omega
  have etk : b.take (i + c.length) = b.take i ++ c := by
    have h1 := List.take_append_drop i b
    have h2 : c = (b.drop i).take c.length := by
      rcases Nat.le_total (64 - many) (b.drop i).length with q | q
      · rw [show c.length = 64 - many by omega]; exact hcc.symm
      · rw [show c.length = (b.drop i).length by omega, List.take_length, ← hcc, List.take_of_length_le q]
    conv => lhs; rw [← h1]
    have l1 : (b.take i).length = i := by rw [List.length_take]; omega
    rw [List.take_append, List.take_of_length_le (by omega), l1, Nat.add_sub_cancel_left, ← h2]
  have q2 := q136 st wt' many ls lw'
  have es : ((many : Int) + (c.length : Int)) = ((many + c.length : Nat) : Int) := by omega
  rw [hwt']
  simp (disch := omega) only [GL, RL, ht3, q2, es, wi64]
  refine aw_store z_int rfl (put_row (Hp.set_same ..) (by rw [hashC_len ls lw']; omega) (by simp) _) ?_
  rw [Hp.set_set, hashC_set136 ls lw']
  rw [q_slLo (lo := c.length) u_Sl_uint8 z_uint8 a1 (b.drop i).length c1 .i64 (by omega) (by omega)]
  have hr2 : Rn (h.del p) .u8 (.slice (SL.cut a1 c1 c.length 1) ((b.drop i).length - c.length) (c1 - c.length)) (b.drop (i + c.length)) := by
    have := hr.cut c.length (b.drop i).length (by omega) (Nat.le_refl _)
    rwa [List.take_length, List.drop_drop] at this
  have q3 := q136 st wt' (many + c.length) ls lw'
  have e64 : ((((many + c.length : Nat) : Int)) == 64) = decide (many + c.length = 64) := by rw [Bool.eq_iff_iff, beq_iff_eq, decide_eq_true_eq]; omega
  simp (disch := omega) only [GL, RL, ht3, q3, e64]
  have c0' : 0 < c.length := by omega
  by_cases hf : many + c.length = 64
  · simp (disch := omega) only [hf, decide_true, if_true, GL, RL, ht2, s64]
    have hR : HashRow (h.set p (.row t_sha_Hash (hashC st wt' 64 all') 138 (some (0, 0)))) p st wt' 64 all' := Hp.set_same ..
    refine T_shaBlock hR ws ls lw' (row_rn ls lw' hR) bw' lw' ?_
    have lwk := workL_len shaK st wt'
    refine aw_store z_int rfl (put_row (Hp.set_same ..) (by rw [hashC_len lwk lw']; omega) (by simp) _) ?_
    have e136 := hashC_set136 (many := 64) (all := all') lwk lw' 0
    rw [Hp.set_set, Hp.set_set]
    refine ⟨_, .refl _, b.length - (i + c.length), by omega, i + c.length, workL shaK st wt', wt', 0, _, rfl, by omega, by rw [← e136]; rfl, ?_, bw', hr2, rfl⟩
    have := hs.full c hf
    rw [hwt', List.append_assoc, ← etk] at this
    exact this
  · simp (disch := omega) only [hf, decide_false, Bool.false_eq_true, if_false]
    refine ⟨_, .refl _, b.length - (i + c.length), by omega, i + c.length, st, wt', many + c.length, _, rfl, by omega, rfl, ?_, bw', hr2, rfl⟩
    have := hs.part c (by omega)
    rw [hwt', List.append_assoc, ← etk] at this
    exact this
theorem T_shaSum {p : Nat} {st wt M : List Nat} {many : Nat} (hb : HashRow h p st wt many M.length) (hs : Hst M st wt many) (bw : Bytes wt) (lM : M.length ≤ 1099511627776)
    (k : ∀ r h', Nn h t_uint8 .u8 r h' (shaL M) → K r h') : Cn P n_sha_Hash_Sum #[.pointer (some ⟨p, 0, none⟩)] h K := by
  refine Cn_wk (F_sha_Hash_Sum ?_)
  unfold s_sha_Hash_Sum
  have ls := hs.len
  have lw := hs.2.2.1
  have hm := hs.many_lt
  have lC := hashC_len (many := many) (all := M.length) ls lw
  refine (q_nil _).mpr ?_
  rw [q_ldRow (ys := hashC st wt many M.length) u_sha_Hash rfl (by rw [lC]; exact sz_hash) hb]
  refine aw_allocL zHash zr_hash rfl fun r3 hr3 => ?_
  have flC : ∀ y ∈ hashC st wt many M.length, flat y = true := by
    intro y hy
    rcases List.mem_append.1 hy with q | q
    · exact nv_flat _ _ y q
    rcases List.mem_append.1 q with q | q
    · exact nv_flat _ _ y q
    rcases List.mem_append.1 q with q | q
    · exact nv_flat _ _ y q
    · simp only [List.mem_cons, List.not_mem_nil, or_false] at q
      rcases q with rfl | rfl <;> rfl
  refine aw_storeRow (ys := hashC st wt many M.length) (by rw [lC]; exact sz_hash) (Hp.set_same ..) (by rw [lC, zHash_len]) flC (fun i _ => by simp) ?_
  rw [Hp.set_set, zHash_len]
  have n3 : p ≠ r3 := by rintro rfl; rw [HashRow, hr3] at hb; cases hb
  have hb3 : HashRow (h.set r3 (.row t_sha_Hash (hashC st wt many M.length) 138 (some (0, 0)))) p st wt many M.length := by rw [HashRow, Hp.set_ne _ _ n3]; exact hb
  have c136 : (h.set r3 (.row t_sha_Hash (hashC st wt many M.length) 138 (some (0, 0)))).cell ⟨p, 136, none⟩ = some (.int .i64 (many : Int)) := by rw [cell_row hb3]; exact hashC_136 ls lw
  have e119 : (119 : Int) - (many : Int) = ((119 - many : Nat) : Int) := by omega
  have em : ((119 - many : Nat) : Int).tmod 64 = (((119 - many) % 64 : Nat) : Int) := by rw [Int.tmod_eq_emod_of_nonneg (by omega)]; exact (Int.natCast_emod _ 64).symm
  have e1 : (1 : Int) + (((119 - many) % 64 : Nat) : Int) = ((1 + (119 - many) % 64 : Nat) : Int) := by omega
  have hlt64 : (119 - many) % 64 < 64 := Nat.mod_lt _ (by omega)
  simp (disch := omega) only [GL, RL, ht3, c136, e119, wi64, em, e1]
  obtain ⟨np, hnp⟩ : ∃ np, (119 - many) % 64 = np := ⟨_, rfl⟩
  rw [hnp] at hlt64 ⊢
  refine aw_make (n := 1 + np) (c := 1 + np) u_Sl_uint8 nfo_uint8 rfl (Nat.le_refl _) (by omega) (by omega) fun t18 h4 n4 => ?_
  obtain ⟨bb, cb, fb, hbb, _, rfl, _, _⟩ := n4.form (by omega)
  rw [replicate_nv] at n4
  simp (disch := omega) only [GL, RL, Int.toNat_zero]
  refine aw_storeN (i := 0) z_uint8 n4 (by omega) rfl fun h5 n5 => ?_
  have epad : (List.replicate (1 + np) 0).set 0 128 = padE M.length := by
    rw [Nat.add_comm, List.replicate_succ, List.set_cons_zero]
    unfold padE
    rw [← hs.2.1]
    have : (119 - many) % 64 = np := hnp
    have e : (119 - M.length % 64) % 64 = np := by rw [← hs.2.1]; exact this
    rw [← hnp]; rfl
  have h128 : (128 : Int) = ((128 : Nat) : Int) := rfl
  rw [h128, nv_set, epad] at n5
  have lpad : (padE M.length).length = 1 + np := by
    rw [← epad, List.length_set, List.length_replicate]
  have n5' : Nn (h.set r3 (.row t_sha_Hash (hashC st wt many M.length) 138 (some (0, 0)))) t_uint8 .u8 (.slice (some ⟨bb, 0, none⟩) (1 + np) cb) h5 (padE M.length) := by unfold Nn; rw [lpad]; exact n5
  have x5 := n5'.ext
  have nb3 : bb ≠ r3 := by rintro rfl; rw [Hp.set_same] at hbb; cases hbb
  have hb5 : HashRow h5 r3 st wt many M.length := x5 _ _ (Hp.set_same ..)
  have hp5 : HashRow h5 p st wt many M.length := x5 _ _ hb3
  have rn5 : Rn (h5.del r3) .u8 (.slice (some ⟨bb, 0, none⟩) (1 + np) cb) (padE M.length) := by
    obtain ⟨e1, a, c, e2, e3, e4⟩ := n5'.rn
    refine ⟨e1, a, c, e2, e3, ?_⟩
    rcases e4 with e4 | ⟨b', o', ea, e4⟩
    · exact .inl e4
    · refine .inr ⟨b', o', ea, fun j x ex => ?_⟩
      have := e4 j x ex
      simp only [Value.slice.injEq] at e2
      rw [← e2.1] at ea
      simp only [Option.some.injEq, Addr.mk.injEq] at ea
      unfold Hp.cell at this ⊢
      rw [Hp.del_ne _ (by show b' ≠ r3; rw [← ea.1]; exact nb3)]
      exact this
  refine T_shaAdd hb5 hs bw rn5 (padE_bytes _) (by omega) (by omega) fun st1 wt1 many1 hs1 bw1 => ?_
  have c137 : (h5.set r3 (.row t_sha_Hash (hashC st1 wt1 many1 ((M.length + (padE M.length).length) % 18446744073709551616)) 138 (some (0, 0)))).cell ⟨p, 137, none⟩ = some (.int .u64 ((M.length : Nat) : Int)) := by
    unfold Hp.cell
    rw [Hp.set_ne _ _ n3, hp5]
    exact hashC_137 ls lw
  have e8 : (8 : Int) * (M.length : Int) = ((8 * M.length : Nat) : Int) := by omega
  simp (disch := omega) only [GL, RL, ht4, c137, e8, wu64i]
  have lh5 : Hp.le h h5 := (le_fresh hr3).trans x5.le
  have le5 : ∀ X, Hp.le h (h5.set r3 X) := fun X b o e => by
    have : b ≠ r3 := by rintro rfl; rw [hr3] at e; cases e
    rw [Hp.set_ne _ _ this]
    exact lh5 b o e
  obtain ⟨all1, hall1⟩ : ∃ a, (M.length + (padE M.length).length) % 18446744073709551616 = a := ⟨_, rfl⟩
  have hal : all1 < 18446744073709551616 := by rw [← hall1]; exact Nat.mod_lt _ (by decide)
  rw [hall1]
  have hb6 : HashRow (h5.set r3 (.row t_sha_Hash (hashC st1 wt1 many1 all1) 138 (some (0, 0)))) r3 st1 wt1 many1 all1 := Hp.set_same ..
  have le6 := le5 (.row t_sha_Hash (hashC st1 wt1 many1 all1) 138 (some (0, 0)))
  have none6 : (h5.set r3 (.row t_sha_Hash (hashC st1 wt1 many1 all1) 138 (some (0, 0)))) r3 ≠ none := by rw [Hp.set_same]; simp
  generalize h5.set r3 (.row t_sha_Hash (hashC st1 wt1 many1 all1) 138 (some (0, 0))) = h6 at hb6 le6 none6 ⊢
  refine T_word_Big64 (8 * M.length) (by omega) fun t28 h7 n7 => ?_
  have hb7 : HashRow h7 r3 st1 wt1 many1 all1 := n7.ext _ _ hb6
  obtain ⟨b7, c7, f7, hb7n, _, e7, hh7, _⟩ := n7.form (by rw [bg_len]; omega)
  have nb7 : b7 ≠ r3 := by rintro rfl; exact none6 hb7n
  have rn7 : Rn (h7.del r3) .u8 t28 (bg 8 (8 * M.length)) := by
    obtain ⟨e1, a, c, e2, e3, e4⟩ := n7.rn
    refine ⟨e1, a, c, e2, e3, ?_⟩
    rcases e4 with e4 | ⟨b', o', ea, e4⟩
    · exact .inl e4
    · refine .inr ⟨b', o', ea, fun j x ex => ?_⟩
      have := e4 j x ex
      rw [e2] at e7
      simp only [Value.slice.injEq] at e7
      rw [ea] at e7
      simp only [Option.some.injEq, Addr.mk.injEq] at e7
      unfold Hp.cell at this ⊢
      rw [Hp.del_ne _ (by show b' ≠ r3; rw [e7.1.1]; exact nb7)]
      exact this
  refine T_shaAdd hb7 hs1 bw1 rn7 (bg_bytes _ _) (by rw [bg_len]; omega) hal fun st2 wt2 many2 hs2 bw2 => ?_
  have le7 : Hp.le h (h7.set r3 (.row t_sha_Hash (hashC st2 wt2 many2 ((all1 + (bg 8 (8 * M.length)).length) % 18446744073709551616)) 138 (some (0, 0)))) := fun b o e => by
    have : b ≠ r3 := by rintro rfl; rw [hr3] at e; cases e
    rw [Hp.set_ne _ _ this]
    exact (le6.trans n7.ext.le) b o e
  have hrow : HashRow (h7.set r3 (.row t_sha_Hash (hashC st2 wt2 many2 ((all1 + (bg 8 (8 * M.length)).length) % 18446744073709551616)) 138 (some (0, 0)))) r3 st2 wt2 many2 ((all1 + (bg 8 (8 * M.length)).length) % 18446744073709551616) := Hp.set_same ..
  generalize h7.set r3 (.row t_sha_Hash (hashC st2 wt2 many2 ((all1 + (bg 8 (8 * M.length)).length) % 18446744073709551616)) 138 (some (0, 0))) = h8 at le7 hrow ⊢
  have ls2 := hs2.len
  have ws2 := hs2.w
  have lnS : (nv .u32 st2).length = 8 := by rw [nv_len, ls2]
  have hsha : shaL M = outS st2 8 := by
    have e : st2 = foldB shaK shaH (padS M) ((padS M).length / 64) := by
      have := hs2.1
      unfold padS
      exact this
    rw [e]; rfl
  rw [hsha] at k
  simp (disch := omega) only [GL, RL, ht0]
  rw [q_ldAgg (ys := nv .u32 st2) u_8_uint32 rfl (by rw [lnS]; exact z_8_uint32) fun j x e => by
    rw [cell_row hrow, Nat.zero_add, hashC, List.getElem?_append_left (List.getElem?_eq_some_iff.1 e).1]; exact e]
  refine Lp_mk (fun m vs h' => ∃ (i : Nat) (vo : Value), i + m = 8 ∧ Nn h8 t_uint8 .u8 vo h' (outS st2 i) ∧ vs = [vo, .int .i64 (i : Int)]) 8 ⟨0, .slice none 0 0, rfl, Nn.nil .., rfl⟩ ?_
  rintro m vs h9 ⟨i, vo, hi, nO, rfl⟩
  have e8' : decide ((i : Int) < 8) = decide (i < 8) := lt_dec i 8
  simp (disch := omega) only [GL, RL, e8']
  by_cases hlt : i < 8
  · simp only [hlt, decide_true, if_true]
    have idx : ∀ {H : Hp} {K : Value → Prop}, q P H (Instr.index t_8_uint32 (.agg (nv .u32 st2).toArray) (.int .i64 (i : Int))) K = K (.int .u32 ((st2.getD i 0 : Nat) : Int)) := fun {H K} => by
      match st2, ls2, i, hlt with
      | [a, b, c, d, e, f, g, z], _, i, hlt =>
        have : i = 0 ∨ i = 1 ∨ i = 2 ∨ i = 3 ∨ i = 4 ∨ i = 5 ∨ i = 6 ∨ i = 7 := by omega
        rcases this with rfl | rfl | rfl | rfl | rfl | rfl | rfl | rfl <;> exact q_of (by kernel_rfl) K
    rw [idx]
    have hw := ws2.getD i
    refine T_word_Big32 _ hw fun r hA nA => ?_
    have lo := outS_len st2 i
    refine aw_appendN u_Sl_uint8 u_Sl_uint8 nfo_uint8 rfl (by omega) nO nA (nv_flat _ _) (by rw [lo, bg_len]; omega) fun vo' hB nB => ?_
    simp (disch := omega) only [GL, RL, wi64]
    refine ⟨hB, .refl _, m - 1, by omega, i + 1, vo', by omega, ?_, rfl⟩
    rw [← nv_app] at nB
    unfold Nn
    rw [outS, List.length_append]
    exact nB
  simp only [hlt, decide_false, Bool.false_eq_true, if_false]
  obtain rfl : i = 8 := by omega
  obtain ⟨h0, l0, n0⟩ := Nn.down le7 nO
  exact ⟨h0, l0, k _ _ n0⟩
theorem T_shaOf {v : Value} {b : List Nat} (hv : Rn h .u8 v b) (bb : Bytes b) (lb : b.length ≤ 1099511627776) (k : ∀ r h', Nn h t_uint8 .u8 r h' (shaL b) → K r h') : Cn P n_sha_Of #[v] h K := by
  refine Cn_wk (F_sha_Of ?_)
  unfold s_sha_Of
  refine T_shaNew fun p hp => ?_
  have hR : HashRow (h.set p (.row t_sha_Hash (hashC shaH (List.replicate 64 0) 0 0) 138 (some (0, 0)))) p shaH (List.replicate 64 0) 0 0 := Hp.set_same ..
  have hd : Hp.cle h ((h.set p (.row t_sha_Hash (hashC shaH (List.replicate 64 0) 0 0) 138 (some (0, 0)))).del p) := fun a x e => by
    unfold Hp.cell at e ⊢
    by_cases q : a.block = p
    · rw [q, hp] at e
      split at e <;> cases e
    · rw [Hp.del_ne _ q, Hp.set_ne _ _ q]; exact e
  refine T_shaAdd hR Hst.nil (by intro x hx; rw [(List.mem_replicate.1 hx).2]; decide) (hv.mono hd) bb lb (by decide) fun st wt many hs bw => ?_
  rw [Hp.set_set, List.nil_append] at *
  have e0 : (0 + b.length) % 18446744073709551616 = b.length := by omega
  rw [e0]
  refine T_shaSum (M := b) (Hp.set_same ..) hs bw lb fun r h' n => ?_
  obtain ⟨h0, l0, n0⟩ := Nn.down (le_fresh hp) n
  exact ⟨h0, l0, k _ _ n0⟩
end
end Go.Proofs.Ytoikhbagchfeoaa
set_option linter.unusedSimpArgs false
set_option linter.unusedVariables false
set_option maxRecDepth 100000
set_option maxHeartbeats 1000000
namespace Go.Proofs.Ytoikhbagchfeoaa
open Go Go.SL Go.Pure
/-- A key's block, masked. -/
def padK (key : List Nat) : List Nat := key ++ List.replicate (64 - key.length) 0
def maskL (key : List Nat) (x : Nat) : List Nat := (padK key).map (· ^^^ x)
def keyL (key : List Nat) : List Nat := if 64 < key.length then shaL key else key
def hmacL (key m : List Nat) : List Nat := shaL (maskL (keyL key) 92 ++ shaL (maskL (keyL key) 54 ++ m))
def deriveL (secret salt info : List Nat) : List Nat := hmacL (hmacL salt secret) (info ++ [1])
theorem keyL_len (key : List Nat) : (keyL key).length ≤ 64 := by
  unfold keyL
  split
  · rw [shaL_len]; decide
  · omega
theorem keyL_bytes {key : List Nat} (h : Bytes key) : Bytes (keyL key) := by
  unfold keyL
  split
  · exact shaL_bytes _
  · exact h
theorem padK_len {key : List Nat} (h : key.length ≤ 64) : (padK key).length = 64 := by rw [padK, List.length_append, List.length_replicate]; omega
theorem padK_bytes {key : List Nat} (h : Bytes key) : Bytes (padK key) := Bytes.append h fun x hx => by rw [List.eq_of_mem_replicate hx]; decide
theorem maskL_len {key : List Nat} (h : key.length ≤ 64) (x : Nat) : (maskL key x).length = 64 := by rw [maskL, List.length_map, padK_len h]
theorem maskL_bytes {key : List Nat} (h : Bytes key) {x : Nat} (hx : x < 256) : Bytes (maskL key x) := fun y hy => by
  obtain ⟨z, hz, rfl⟩ := List.mem_map.1 hy
  exact Nat.xor_lt_two_pow (n := 8) (padK_bytes h z hz) hx
theorem hmacL_len (key m : List Nat) : (hmacL key m).length = 32 := shaL_len _
theorem hmacL_bytes (key m : List Nat) : Bytes (hmacL key m) := shaL_bytes _
def mskN (A : List Nat) (x i : Nat) : List Nat := (A.take i).map (· ^^^ x) ++ A.drop i
theorem mskN_len (A : List Nat) (x i : Nat) : (mskN A x i).length = A.length := by rw [mskN, List.length_append, List.length_map, ← List.length_append, List.take_append_drop]
theorem mskN_get {A : List Nat} (x : Nat) {i : Nat} (hi : i < A.length) : (mskN A x i).getD i 0 = A.getD i 0 := by
  rw [mskN, List.getD_eq_getElem?_getD, List.getElem?_append_right (by rw [List.length_map, List.length_take]; omega), List.length_map, List.length_take, Nat.min_eq_left (by omega), Nat.sub_self, List.getElem?_drop, Nat.add_zero, List.getD_eq_getElem?_getD]
theorem mskN_set {A : List Nat} (x : Nat) {i : Nat} (hi : i < A.length) : (mskN A x i).set i (A.getD i 0 ^^^ x) = mskN A x (i + 1) := by
  have e : A.drop i = A.getD i 0 :: A.drop (i + 1) := by
    rw [List.getD_eq_getElem?_getD, List.getElem?_eq_getElem hi]
    exact List.drop_eq_getElem_cons hi
  rw [mskN, mskN, e, List.set_append, if_neg (by rw [List.length_map, List.length_take]; omega), List.length_map, List.length_take, Nat.min_eq_left (by omega), Nat.sub_self, List.set_cons_zero, List.take_succ_eq_append_getElem hi, List.map_append, List.append_assoc]
  congr 1
  show _ :: _ = _ :: _
  rw [List.getD_eq_getElem?_getD, List.getElem?_eq_getElem hi]
  rfl
theorem mskN_0 (A : List Nat) (x : Nat) : mskN A x 0 = A := by simp [mskN]
theorem mskN_all {A : List Nat} (x : Nat) {n : Nat} (h : A.length = n) : mskN A x n = A.map (· ^^^ x) := by
  rw [mskN, List.take_of_length_le (by omega), List.drop_of_length_le (by omega), List.append_nil]
section
variable {h : Hp} {K : Value → Hp → Prop}
theorem T_masked {r : Nat} {kv : Value} {key : List Nat} {x : Nat} (hx : x < 256) (hc : h.cell ⟨r, 0, none⟩ = some kv) (rk : Rn h .u8 kv key) (bk : Bytes key) (lk : key.length ≤ 64) (k : ∀ v h', Nn h t_uint8 .u8 v h' (maskL key x) → K v h') :
    Cn P n_mac_code_1 #[.int .u8 (x : Int), .pointer (some ⟨r, 0, none⟩)] h K := by
  refine F_mac_code_1 ?_
  unfold s_mac_code_1
  refine aw_make (n := 64) (c := 64) u_Sl_uint8 nfo_uint8 rfl (by omega) (by decide) (by decide) fun v H nw => ?_
  have hc2 := nw.cle _ _ hc
  have rk2 : Rn H .u8 kv key := rk.mono nw.cle
  obtain ⟨b, c, f, hb, hcc, rfl, hH, hf⟩ := New.form nw (by omega)
  have ln : ∀ {G : Hp} {K : Value → Prop}, q P G (Builtin.len_ #[t_Sl_uint8] t_int #[.slice (some ⟨b, 0, none⟩) 64 c]) K = K (.int .i64 ((64 : Nat) : Int)) := fun {G K} => q_lenS u_Sl_uint8 _ _ _
  simp -zeta (disch := omega) only [RL, hc2, GL]
  rw [replicate_nv] at hH
  refine aw_copy (e := t_uint8) u_Sl_uint8 z_uint8 (by rw [hH, Hp.set_same]) rk2 (nv_flat _ _) lk (by rw [nv_len, List.length_replicate]; omega) (fun i hi => hf i (by rw [nv_len, List.length_replicate] at hi; omega)) ?_
  have ep : putL (nv .u8 (List.replicate 64 0)) 0 (nv .u8 key) = nv .u8 (padK key) := by
    rw [putL_nv _ _ _ (by rw [List.length_replicate]; omega), List.take_zero, List.nil_append, List.drop_replicate, padK, Nat.zero_add]
  rw [ep, hH, Hp.set_set]
  have lA := padK_len lk
  have bA := padK_bytes bk
  have ex : (padK key).map (· ^^^ x) = maskL key x := rfl
  generalize padK key = A at *
  refine Lp_mk (fun m vs H' => ∃ i : Nat, i + m = 64 ∧ H' = h.set b (.row t_uint8 (nv .u8 (mskN A x i)) (c * 1) (some f)) ∧ vs = [.int .i64 (i : Int)]) 64
    ⟨0, rfl, by rw [mskN_0], rfl⟩ ?_
  rintro m vs H' ⟨i, hi, rfl, rfl⟩
  have ed : decide ((i : Int) < ((64 : Nat) : Int)) = decide (i < 64) := lt_dec i 64
  have lM := mskN_len A x i
  have hrow : (h.set b (.row t_uint8 (nv .u8 (mskN A x i)) (c * 1) (some f))) b = some (.row t_uint8 (nv .u8 (mskN A x i)) (c * 1) (some f)) := Hp.set_same ..
  simp -zeta (disch := omega) only [GL, RL, ed]
  by_cases hlt : i < 64
  · have c1 := cellN (i := i) hrow (by omega)
    rw [mskN_get x (by omega)] at c1
    have gA := bA.getD i
    have hxr : ixor .u8 ((A.getD i 0 : Nat) : Int) (x : Int) = ((A.getD i 0 ^^^ x : Nat) : Int) := by
      rw [xor8 (by omega) (by omega) (by omega) (by omega), Int.toNat_natCast, Int.toNat_natCast]
    have ei : IntKind.i64.wrap ((i : Int) + 1) = ((i + 1 : Nat) : Int) := by rw [wi64 (by omega) (by omega)]; omega
    simp -zeta (disch := omega) only [hlt, decide_true, if_true, GL, RL, Nat.zero_add, c1, hxr, ei]
    refine storeN z_uint8 hrow (by omega) (hf i (by omega)) ?_
    rw [mskN_set x (by omega), Hp.set_set]
    exact ⟨_, .refl _, m - 1, by omega, i + 1, by omega, rfl, rfl⟩
  · obtain rfl : i = 64 := by omega
    simp -zeta (disch := omega) only [hlt, decide_false, Bool.false_eq_true, if_false]
    refine k _ _ ?_
    rw [mskN_all x lA, ex]
    have lm : (maskL key x).length = 64 := maskL_len lk x
    refine ⟨by rw [nv_len, lm], .inr ⟨b, c, f, hb, by rw [lm]; exact hcc, by rw [lm], rfl, hf⟩⟩
theorem T_digest {pv : Value} {ps : List (List Nat)} (rp : Parts h pv ps) (bp : ∀ p ∈ ps, Bytes p) (lp : ps.flatten.length ≤ 549755813888) (np : ps.length ≤ 1000000) (k : ∀ r h', Nn h t_uint8 .u8 r h' (shaL ps.flatten) → K r h') : Cn P n_mac_digest #[pv] h K := by
  refine Cn_wk (F_mac_digest ?_)
  unfold s_mac_digest
  refine T_shaNew fun p hp => ?_
  obtain ⟨b, o, c, rfl, hc, hcl⟩ := rp
  have ln : ∀ {G : Hp} {K : Value → Prop}, q P G (Builtin.len_ #[t_Sl_Sl_uint8] t_int #[.slice (some ⟨b, o, none⟩) ps.length c]) K = K (.int .i64 (ps.length : Nat)) := fun {G K} => q_lenS u_Sl_Sl_uint8 _ _ _
  rw [ln]
  have cd : ∀ st wt many all, Hp.cle h ((h.set p (.row t_sha_Hash (hashC st wt many all) 138 (some (0, 0)))).del p) := fun st wt many all a x e => by
    unfold Hp.cell at e ⊢
    by_cases q : a.block = p
    · rw [q, hp] at e
      split at e <;> cases e
    · rw [Hp.del_ne _ q, Hp.set_ne _ _ q]; exact e
  have cs : ∀ st wt many all, Hp.cle h (h.set p (.row t_sha_Hash (hashC st wt many all) 138 (some (0, 0)))) := fun st wt many all => (ext_set _ hp).cle
  refine Lp_mk (fun m vs H => ∃ (i : Nat) (st wt : List Nat) (many : Nat), i + m = ps.length ∧ Hst (ps.take i).flatten st wt many ∧ Bytes wt ∧ H = h.set p (.row t_sha_Hash (hashC st wt many (ps.take i).flatten.length) 138 (some (0, 0))) ∧ vs = [.int .i64 (i : Int)]) ps.length
    ⟨0, _, _, _, by omega, Hst.nil, by intro x hx; rw [(List.mem_replicate.1 hx).2]; decide, rfl, rfl⟩ ?_
  rintro m vs H ⟨i, st, wt, many, hi, hs, bw, rfl, rfl⟩
  have ed : decide ((i : Int) < ((ps.length : Nat) : Int)) = decide (i < ps.length) := lt_dec i _
  have lf := flat_le ps i
  simp -zeta (disch := omega) only [GL, RL, ed]
  by_cases hlt : i < ps.length
  · obtain ⟨w, hw, rw'⟩ := hcl i hlt
    have lf1 := flat_le ps (i + 1)
    rw [flat_take ps i hlt, List.length_append] at lf1
    have ix : ∀ {G : Hp} {K : Value → Prop}, q P G (Instr.indexAt t_Sl_Sl_uint8 (.slice (some ⟨b, o, none⟩) ps.length c) (.int .i64 (i : Int))) K = K (.pointer (some ⟨b, o + i, none⟩)) := fun {G K} => by
      rw [q_idxS u_Sl_Sl_uint8 z_Sl_uint8 _ _ _ _ _ (by omega) (by omega), Int.toNat_natCast, add_off, Nat.mul_one]
    have hw2 := cs st wt many (ps.take i).flatten.length _ _ hw
    have ei : IntKind.i64.wrap ((i : Int) + 1) = ((i + 1 : Nat) : Int) := by rw [wi64 (by omega) (by omega)]; omega
    simp -zeta (disch := omega) only [hlt, decide_true, if_true, ix, GL, RL, hw2]
    refine T_shaAdd (M := (ps.take i).flatten) (Hp.set_same ..) hs bw (rw'.mono (cd _ _ _ _)) (bp _ (by rw [List.getD_eq_getElem?_getD, List.getElem?_eq_getElem hlt]; exact List.getElem_mem hlt)) (by omega) (by omega) fun st' wt' many' hs' bw' => ?_
    simp -zeta (disch := omega) only [GL, RL, ei]
    refine ⟨_, .refl _, m - 1, by omega, i + 1, st', wt', many', by omega, by rw [flat_take ps i hlt]; exact hs', bw', ?_, rfl⟩
    rw [Hp.set_set, flat_take ps i hlt, List.length_append, Nat.mod_eq_of_lt (by omega)]
  · obtain rfl : i = ps.length := by omega
    simp -zeta (disch := omega) only [hlt, decide_false, Bool.false_eq_true, if_false]
    rw [List.take_of_length_le (Nat.le_refl _)] at hs ⊢
    refine T_shaSum (M := ps.flatten) (Hp.set_same ..) hs bw (by omega) fun r h' n => ?_
    obtain ⟨h0, l0, n0⟩ := Nn.down (le_fresh hp) n
    exact ⟨h0, l0, k _ _ n0⟩
/-- A row of rows, one put ahead. -/
theorem parts1 {h h' : Hp} {v a : Value} {x : List Nat} (n : New h t_Sl_uint8 1 v h' [a] 1) (ra : Rn h .u8 a x) : Parts h' v [x] := by
  obtain ⟨b, c, f, hb, hc, rfl, hh, _⟩ := New.form n (by omega)
  refine ⟨b, 0, c, rfl, hc, fun i hi => ?_⟩
  have hrow : h' b = some (.row t_Sl_uint8 [a] (c * 1) (some f)) := by rw [hh, Hp.set_same]
  match i with
  | 0 => exact ⟨a, by rw [cell_row hrow]; rfl, ra.mono n.cle⟩
  | i + 1 => simp at hi
theorem parts2b {h h' : Hp} {v a b : Value} {x y : List Nat} (n : New h t_Sl_uint8 1 v h' [a, b] 2) (ra : Rn h .u8 a x) (rb : Rn h .u8 b y) : Parts h' v [x, y] := by
  obtain ⟨bb, c, f, hb, hc, rfl, hh, _⟩ := New.form n (by omega)
  refine ⟨bb, 0, c, rfl, hc, fun i hi => ?_⟩
  have hrow : h' bb = some (.row t_Sl_uint8 [a, b] (c * 1) (some f)) := by rw [hh, Hp.set_same]
  match i with
  | 0 => exact ⟨a, by rw [cell_row hrow]; rfl, ra.mono n.cle⟩
  | 1 => exact ⟨b, by rw [cell_row hrow]; rfl, rb.mono n.cle⟩
  | i + 2 => exact absurd hi (by show ¬ i + 2 < 2; omega)
/-- The cells of a row of rows. -/
theorem parts_cells {h : Hp} {v : Value} {ps : List (List Nat)} (p : Parts h v ps) : ∃ ys : List Value, ys.length = ps.length ∧ Rds h 1 v ys ps.length ∧ (∀ y ∈ ys, flat y = true) ∧ ∀ i, i < ps.length → ∃ w, ys[i]? = some w ∧ Rn h .u8 w (ps.getD i []) := by
  obtain ⟨b, o, c, rfl, hc, q⟩ := p
  have key : ∀ n, n ≤ ps.length → ∃ ys : List Value, ys.length = n ∧ ∀ i, i < n → ∃ w, ys[i]? = some w ∧ h.cell ⟨b, o + i, none⟩ = some w ∧ Rn h .u8 w (ps.getD i []) := by
    intro n
    induction n with
    | zero => exact fun _ => ⟨[], rfl, fun i hi => by omega⟩
    | succ n ih =>
      intro hn
      obtain ⟨ys, l, a⟩ := ih (by omega)
      obtain ⟨w, h1, h2⟩ := q n (by omega)
      refine ⟨ys ++ [w], by simp [l], fun i hi => ?_⟩
      rcases Nat.lt_or_ge i n with g | g
      · obtain ⟨u, u1, u2⟩ := a i g
        exact ⟨u, by rw [List.getElem?_append_left (by omega)]; exact u1, u2⟩
      · obtain rfl : i = n := by omega
        exact ⟨w, by rw [List.getElem?_append_right (by omega), l, Nat.sub_self]; rfl, h1, h2⟩
  obtain ⟨ys, l, a⟩ := key ps.length (Nat.le_refl _)
  refine ⟨ys, l, ⟨by omega, some ⟨b, o, none⟩, c, rfl, hc, .inr ⟨b, o, rfl, fun i x e => ?_⟩⟩, fun y hy => ?_, fun i hi => ?_⟩
  · have hi : i < ys.length := (List.getElem?_eq_some_iff.1 e).1
    obtain ⟨w, w1, w2, _⟩ := a i (by omega)
    rw [e] at w1
    rw [Option.some.inj w1]; exact w2
  · obtain ⟨i, hi⟩ := List.mem_iff_getElem?.1 hy
    have hl : i < ys.length := (List.getElem?_eq_some_iff.1 hi).1
    obtain ⟨w, w1, _, w2⟩ := a i (by omega)
    rw [hi] at w1
    rw [Option.some.inj w1]
    exact rn_flat w2
  · obtain ⟨w, w1, _, w2⟩ := a i hi
    exact ⟨w, w1, w2⟩
theorem T_code {kv pv : Value} {key : List Nat} {ps : List (List Nat)} (rk : Rn h .u8 kv key) (bk : Bytes key) (lk : key.length ≤ 1099511627776) (rp : Parts h pv ps) (bp : ∀ p ∈ ps, Bytes p) (lp : ps.flatten.length ≤ 274877906944) (np : ps.length ≤ 1000)
    (k : ∀ r h', Nn h t_uint8 .u8 r h' (hmacL key ps.flatten) → K r h') : Cn P n_mac_code #[kv, pv] h K := by
  refine Cn_wk (F_mac_code ?_)
  unfold s_mac_code
  refine aw_box fun r hr => ?_
  have hfl := rn_flat rk
  have hC : kv.cells.toList = [kv] := by rw [cells_flat hfl]
  have hC2 : kv.cells.size = 1 := by rw [cells_flat hfl]; rfl
  rw [hC, hC2]
  have x0 : Hp.ext h (h.set r (.row t_Sl_uint8 [kv] 1 (some (0, 0)))) := ext_set _ hr
  have e0 : (h.set r (.row t_Sl_uint8 [kv] 1 (some (0, 0)))) r = some (.row t_Sl_uint8 [kv] 1 (some (0, 0))) := Hp.set_same ..
  intro J
  have qJ : ∀ (H : Hp) (v : Value), Hp.ext h H → H.cell ⟨r, 0, none⟩ = some v → Rn H .u8 v (keyL key) → J H := by
    intro H v xH hc rv
    simp -zeta only [J]
    clear J
    refine callP_cn (by kernel_rfl) ?_
    refine T_masked (x := 54) (by omega) hc rv (keyL_bytes bk) (keyL_len key) fun v1 H1 n1 => ?_
    have e1 : fillL [(0, v1)] (List.replicate 1 (.slice none 0 0)) = [v1] := rfl
    refine aw_lit (ps := [(0, v1)]) u_Sl_Sl_uint8 z_Sl_uint8 zr_Sl_uint8 rfl (by omega) (by intro p hp; rw [List.mem_singleton.1 hp]; exact ⟨rn_flat n1.rn, by show _ < 1; omega⟩) fun v2 H2 n2 _ => ?_
    rw [e1] at n2
    have P1 := parts1 n2 n1.rn
    have x2 := n1.ext.trans n2.ext
    obtain ⟨ys, ly, ry, fy, gy⟩ := parts_cells (rp.mono (xH.trans n1.ext).cle)
    refine aw_append (h0 := H1) u_Sl_Sl_uint8 u_Sl_Sl_uint8 nfo_Sl_uint8 rfl (by omega) n2 (ry.mono n2.cle) fy (by omega) (.refl _) fun v3 H3 n3 => ?_
    have P3 : Parts H3 v3 (maskL (keyL key) 54 :: ps) := by
      obtain ⟨b, c, f, hb, hcc, rfl, hh, _⟩ := New.form n3 (by omega)
      refine ⟨b, 0, c, by rw [List.length_cons, Nat.add_comm], by rw [List.length_cons]; omega, fun i hi => ?_⟩
      have hrow : H3 b = some (.row t_Sl_uint8 ([v1] ++ ys) (c * 1) (some f)) := by rw [hh, Hp.set_same]
      match i with
      | 0 => exact ⟨v1, by rw [cell_row hrow]; rfl, n1.rn.mono n3.cle⟩
      | i + 1 =>
        obtain ⟨w, w1, w2⟩ := gy i (by simpa using hi)
        refine ⟨w, by rw [cell_row hrow, Nat.zero_add]; exact w1, ?_⟩
        exact w2.mono n3.cle
    refine T_digest P3 (fun p hp => by
      rcases List.mem_cons.1 hp with rfl | hp
      · exact maskL_bytes (keyL_bytes bk) (by decide)
      · exact bp p hp) (by rw [List.flatten_cons, List.length_append, maskL_len (keyL_len key)]; omega) (by rw [List.length_cons]; omega) fun v4 H4 n4 => ?_
    have x4 : Hp.ext H H4 := (n1.ext.trans n3.ext).trans n4.ext
    have hc4 : H4.cell ⟨r, 0, none⟩ = some v := x4.cle _ _ hc
    refine callP_cn (by kernel_rfl) ?_
    refine T_masked (x := 92) (by omega) hc4 (rv.mono x4.cle) (keyL_bytes bk) (keyL_len key) fun v5 H5 n5 => ?_
    have e2 : fillL [(0, v5), (1, v4)] (List.replicate 2 (.slice none 0 0)) = [v5, v4] := rfl
    have r4 : Rn H5 .u8 v4 _ := n4.rn.mono n5.ext.cle
    refine aw_lit (ps := [(0, v5), (1, v4)]) u_Sl_Sl_uint8 z_Sl_uint8 zr_Sl_uint8 rfl (by omega) (by
      intro p hp
      simp only [List.mem_cons, List.not_mem_nil, or_false] at hp
      rcases hp with rfl | rfl
      · exact ⟨rn_flat n5.rn, by show 0 < 2; omega⟩
      · exact ⟨rn_flat r4, by show 1 < 2; omega⟩) fun v6 H6 n6 _ => ?_
    rw [e2] at n6
    have P6 := parts2b n6 n5.rn r4
    refine T_digest P6 (fun p hp => by
      simp only [List.mem_cons, List.not_mem_nil, or_false] at hp
      rcases hp with rfl | rfl
      · exact maskL_bytes (keyL_bytes bk) (by decide)
      · exact shaL_bytes _) (by simp only [List.flatten_cons, List.flatten_nil, List.length_append, List.length_nil, maskL_len (keyL_len key), shaL_len]; omega) (by show 2 ≤ 1000000; omega) fun v7 H7 n7 => ?_
    have x6 : Hp.ext h H6 := ((xH.trans x4).trans n5.ext).trans n6.ext
    obtain ⟨h0, l0, nw0⟩ := n7.down x6.le
    refine ⟨h0, l0, k _ _ ?_⟩
    simp only [List.flatten_cons, List.flatten_nil, List.append_nil] at nw0
    exact nw0
  clear_value J
  have c0 : (h.set r (.row t_Sl_uint8 [kv] 1 (some (0, 0)))).cell ⟨r, 0, none⟩ = some kv := by rw [cell_row e0]; rfl
  obtain ⟨a, c, rfl, hc⟩ := rk.shape
  have ln : ∀ {G : Hp} {K : Value → Prop}, q P G (Builtin.len_ #[t_Sl_uint8] t_int #[.slice a key.length c]) K = K (.int .i64 (key.length : Nat)) := fun {G K} => q_lenS u_Sl_uint8 _ _ _
  have g64 : decide ((64 : Int) < ((key.length : Nat) : Int)) = decide (64 < key.length) := by rw [decide_eq_decide]; omega
  simp -zeta only [GL, RL, c0, ln, g64]
  by_cases h64 : 64 < key.length
  · simp -zeta only [h64, decide_true, if_true]
    refine T_shaOf (rk.mono x0.cle) bk lk fun v1 H1 n1 => ?_
    have e1 := n1.ext _ _ e0
    have hp : H1.put ⟨r, 0, none⟩ v1 = some (H1.set r (.row t_Sl_uint8 [v1] 1 (some (0, 0)))) := put_row (off := 0) e1 (by show 0 < 1; omega) (by simp) v1
    refine aw_store z_Sl_uint8 (rn_flat n1.rn) hp ?_
    have xs : Hp.ext h (H1.set r (.row t_Sl_uint8 [v1] 1 (some (0, 0)))) := fun b o e => by
      have hb : b ≠ r := by rintro rfl; rw [hr] at e; cases e
      rw [Hp.set_ne _ _ hb]
      exact n1.ext _ _ (x0 _ _ e)
    refine qJ _ v1 xs (by rw [cell_row (Hp.set_same ..)]; rfl) ?_
    have kk : keyL key = shaL key := by rw [keyL, if_pos h64]
    rw [kk]
    obtain ⟨b, cc, f, hb, hcc, rfl, hh, hf⟩ := New.form n1 (by rw [shaL_len]; omega)
    have hbr : b ≠ r := by rintro rfl; rw [e0] at hb; cases hb
    refine ⟨by rw [nv_len]; omega, some ⟨b, 0, none⟩, cc, rfl, hcc, .inr ⟨b, 0, rfl, fun i x e => ?_⟩⟩
    have hrow : (H1.set r (.row t_Sl_uint8 [.slice (some ⟨b, 0, none⟩) (shaL key).length cc] 1 (some (0, 0)))) b = some (.row t_uint8 (nv .u8 (shaL key)) (cc * 1) (some f)) := by rw [Hp.set_ne _ _ hbr, hh, Hp.set_same]
    rw [cell_row hrow, Nat.zero_add]
    exact e
  · simp -zeta only [h64, decide_false, Bool.false_eq_true, if_false]
    have kk : keyL key = key := by rw [keyL, if_neg h64]
    refine qJ _ _ x0 c0 ?_
    rw [kk]
    exact rk.mono x0.cle
theorem T_Derive32 {sv av iv : Value} {secret salt info : List Nat} (rs : Rn h .u8 sv secret) (ra : Rn h .u8 av salt) (ri : Rn h .u8 iv info) (bs : Bytes secret) (ba : Bytes salt) (bi : Bytes info) (ls : secret.length ≤ 1000000) (la : salt.length ≤ 1000000) (li : info.length ≤ 1000000)
    (k : ∀ r w h', Nn h t_uint8 .u8 w h' (deriveL secret salt info) → (∀ H, Rn H .u8 w (deriveL secret salt info) → Rn H .u8 r (deriveL secret salt info)) → K (.tuple #[r, .int .i64 0]) h') : Cn P n_mac_Derive #[sv, av, iv, .int .i64 32] h K := by
  refine Cn_wk (F_mac_Derive ?_)
  unfold s_mac_Derive
  refine Cn_wk (F_mac_Extract ?_)
  unfold s_mac_Extract
  have e1 : fillL [(0, sv)] (List.replicate 1 (.slice none 0 0)) = [sv] := rfl
  refine aw_lit (ps := [(0, sv)]) u_Sl_Sl_uint8 z_Sl_uint8 zr_Sl_uint8 rfl (by omega) (by intro p hp; rw [List.mem_singleton.1 hp]; exact ⟨rn_flat rs, by show _ < 1; omega⟩) fun v1 H1 n1 _ => ?_
  rw [e1] at n1
  have P1 := parts1 n1 rs
  refine T_code (ra.mono n1.ext.cle) ba (by omega) P1 (fun p hp => by rw [List.mem_singleton.1 hp]; exact bs) (by simp only [List.flatten_cons, List.flatten_nil, List.append_nil]; omega) (by show 1 ≤ 1000; omega) fun v2 H2 n2 => ?_
  simp only [List.flatten_cons, List.flatten_nil, List.append_nil] at n2
  obtain ⟨g2, le2, n2⟩ := n2.down n1.ext.le
  refine ⟨g2, le2, ?_⟩
  have lk2 := hmacL_len salt secret
  have bk2 := hmacL_bytes salt secret
  have dl : deriveL secret salt info = hmacL (hmacL salt secret) (info ++ [1]) := rfl
  rw [dl] at k
  generalize hmacL salt secret = key at *
  refine Cn_wk (F_mac_Expand ?_)
  unfold s_mac_Expand
  have b1 : decide ((32 : Int) < 0) = false := rfl
  have b2 : decide ((8160 : Int) < 32) = false := rfl
  simp -zeta only [GL, b1, b2, Bool.false_eq_true, if_false, if_true]
  refine Lp_mk (fun m vs H => ∃ i : Nat, i + m = 1 ∧ ((i = 0 ∧ H = g2 ∧ vs = [.slice none 0 0, .slice none 0 0, .int .i64 1]) ∨ (i = 1 ∧ ∃ v w, Nn g2 t_uint8 .u8 w H (hmacL key (info ++ [1])) ∧ vs = [v, w, .int .i64 2]))) 1
    ⟨0, rfl, .inl ⟨rfl, rfl, rfl⟩⟩ ?_
  rintro m vs H ⟨i, hi, ⟨rfl, rfl, rfl⟩ | ⟨rfl, v, w, nw, rfl⟩⟩
  · have ln0 : ∀ {K : Value → Prop}, q P H (Builtin.len_ #[t_Sl_uint8] t_int #[.slice none 0 0]) K = K (.int .i64 ((0 : Nat) : Int)) := fun {K} => q_lenS u_Sl_uint8 _ _ _
    have c0 : decide ((((0 : Nat) : Int)) < 32) = true := rfl
    have w1 : IntKind.u8.wrap 1 = ((1 : Nat) : Int) := rfl
    simp -zeta only [GL, RL, ln0, c0, if_true, w1]
    have e1 : fillL [(0, Value.int .u8 ((1 : Nat) : Int))] (List.replicate 1 (.int .u8 0)) = nv .u8 [1] := rfl
    refine aw_lit (ps := [(0, .int .u8 ((1 : Nat) : Int))]) u_Sl_uint8 z_uint8 zr_uint8 rfl (by omega) (by intro p hp; rw [List.mem_singleton.1 hp]; exact ⟨rfl, by show _ < 1; omega⟩) fun v3 H3 n3 _ => ?_
    rw [e1] at n3
    have n3' : Nn H t_uint8 .u8 v3 H3 [1] := n3
    have xg : Hp.ext h H := n2.ext
    have ri3 : Rn H3 .u8 iv info := ri.mono (xg.trans n3'.ext).cle
    have e4 : fillL [(0, Value.slice none 0 0), (1, iv), (2, v3)] (List.replicate 3 (.slice none 0 0)) = [.slice none 0 0, iv, v3] := rfl
    refine aw_lit (ps := [(0, .slice none 0 0), (1, iv), (2, v3)]) u_Sl_Sl_uint8 z_Sl_uint8 zr_Sl_uint8 rfl (by omega) (by
      intro p hp
      simp only [List.mem_cons, List.not_mem_nil, or_false] at hp
      rcases hp with rfl | rfl | rfl
      · exact ⟨rfl, by show 0 < 3; omega⟩
      · exact ⟨rn_flat ri3, by show 1 < 3; omega⟩
      · exact ⟨rn_flat n3'.rn, by show 2 < 3; omega⟩) fun v4 H4 n4 _ => ?_
    rw [e4] at n4
    have P4 : Parts H4 v4 [[], info, [1]] := by
      obtain ⟨bb, c, f, hb, hc, rfl, hh, _⟩ := New.form n4 (by omega)
      refine ⟨bb, 0, c, rfl, hc, fun i hi => ?_⟩
      have hrow : H4 bb = some (.row t_Sl_uint8 [.slice none 0 0, iv, v3] (c * 1) (some f)) := by rw [hh, Hp.set_same]
      match i with
      | 0 => exact ⟨_, by rw [cell_row hrow]; rfl, rn_nil _ _⟩
      | 1 => exact ⟨iv, by rw [cell_row hrow]; rfl, ri3.mono n4.cle⟩
      | 2 => exact ⟨v3, by rw [cell_row hrow]; rfl, n3'.rn.mono n4.cle⟩
      | i + 3 => exact absurd hi (by show ¬ i + 3 < 3; omega)
    have xg4 : Hp.ext H H4 := n3'.ext.trans n4.ext
    refine T_code (n2.rn.mono xg4.cle) bk2 (by omega) P4 (fun p hp => by
      simp only [List.mem_cons, List.not_mem_nil, or_false] at hp
      rcases hp with rfl | rfl | rfl
      · intro x hx; cases hx
      · exact bi
      · intro x hx; rw [List.mem_singleton.1 hx]; decide) (by simp only [List.flatten_cons, List.flatten_nil, List.append_nil, List.length_append, List.length_nil, List.length_cons]; omega) (by show 3 ≤ 1000; omega) fun v5 H5 n5 => ?_
    have fe : [[], info, [1]].flatten = info ++ [1] := by simp
    rw [fe] at n5
    have n5l := hmacL_len key (info ++ [1])
    have n5' : New H4 t_uint8 1 v5 H5 (nv .u8 (hmacL key (info ++ [1]))) (hmacL key (info ++ [1])).length := n5
    refine aw_appendN (h0 := H4) (xs := []) (n := 0) u_Sl_uint8 u_Sl_uint8 nfo_uint8 rfl (by omega) (Nn.nil H4 t_uint8 .u8) n5' (nv_flat _ _) (by omega) fun v6 H6 n6 => ?_
    rw [List.nil_append, Nat.zero_add] at n6
    have n6' : Nn H4 t_uint8 .u8 v6 H6 (hmacL key (info ++ [1])) := n6
    obtain ⟨g6, l6, n7⟩ := n6'.down xg4.le
    have w2 : IntKind.i64.wrap (1 + 1) = 2 := rfl
    simp -zeta only [GL, RL, w2]
    exact ⟨g6, l6, 0, by omega, 1, rfl, .inr ⟨rfl, v5, v6, n7, rfl⟩⟩
  · have nl := hmacL_len key (info ++ [1])
    obtain ⟨b, c, f, hb, hcc, rfl, hh, hf⟩ := New.form nw (by omega)
    have ln0 : ∀ {K : Value → Prop}, q P H (Builtin.len_ #[t_Sl_uint8] t_int #[.slice (some ⟨b, 0, none⟩) (hmacL key (info ++ [1])).length c]) K = K (.int .i64 ((32 : Nat) : Int)) := fun {K} => by rw [q_lenS u_Sl_uint8, nl]
    have c0 : decide ((((32 : Nat) : Int)) < 32) = false := rfl
    have sl : ∀ {K : Value → Prop}, q P H (Instr.sliceAt t_Sl_uint8 (.slice (some ⟨b, 0, none⟩) (hmacL key (info ++ [1])).length c) none (some (.int .i64 32)) (some (.int .i64 32))) K = K (.slice (some ⟨b, 0, none⟩) 32 32) := fun {K} => by
      have := q_slHM (P := P) (h := H) (K := K) u_Sl_uint8 z_uint8 (some ⟨b, 0, none⟩) (hmacL key (info ++ [1])).length c .i64 .i64 32 32 (Nat.le_refl _) (by omega)
      exact this
    simp -zeta only [GL, RL, ln0, c0, Bool.false_eq_true, if_false, sl]
    obtain ⟨h0, l0, nw0⟩ := Nn.down n2.ext.le nw
    refine ⟨h0, l0, ?_⟩
    rw [ext0, ext1]
    refine ⟨h0, .refl _, k _ _ _ nw0 fun G r => ?_⟩
    have : Rds G 1 (.slice (some ⟨b, 0, none⟩) (hmacL key (info ++ [1])).length c) (nv .u8 (hmacL key (info ++ [1]))) (hmacL key (info ++ [1])).length := r
    show Rds G 1 _ (nv .u8 (hmacL key (info ++ [1]))) (hmacL key (info ++ [1])).length
    have q2 := this.capped (c' := 32) (by omega)
    rw [nl] at q2 ⊢
    exact q2
end
end Go.Proofs.Ytoikhbagchfeoaa
set_option linter.unusedSimpArgs false
set_option linter.unusedVariables false
set_option maxRecDepth 100000
set_option maxHeartbeats 1000000
namespace Go.Proofs.Ytoikhbagchfeoaa
open Go Go.SL Go.Pure
/-- The cells of a book's boxes. -/
def BoxCells (R : Hp) : List Value → List Box → Prop
  | [], [] => True
  | vk :: vn :: vb :: vt :: xs, b :: bs => (Rn R .u8 vk b.key ∧ Rn R .u8 vn b.nonce ∧ Rn R .u8 vb b.beside ∧ Rn R .u8 vt b.text) ∧ BoxCells R xs bs
  | _, _ => False
theorem BoxCells.mono {R R' : Hp} (c : Hp.cle R R') : ∀ {xs : List Value} {bs : List Box}, BoxCells R xs bs → BoxCells R' xs bs
  | [], [], _ => trivial
  | _ :: _ :: _ :: _ :: _, _ :: _, h => ⟨⟨h.1.1.mono c, h.1.2.1.mono c, h.1.2.2.1.mono c, h.1.2.2.2.mono c⟩, BoxCells.mono c h.2⟩
  | [], _ :: _, h => h.elim
  | [_], _, h => by cases ‹List Box› <;> exact h.elim
  | [_, _], _, h => by cases ‹List Box› <;> exact h.elim
  | [_, _, _], _, h => by cases ‹List Box› <;> exact h.elim
  | _ :: _ :: _ :: _ :: _, [], h => h.elim
theorem BoxCells.len {R : Hp} : ∀ {xs : List Value} {bs : List Box}, BoxCells R xs bs → xs.length = bs.length * 4
  | [], [], _ => rfl
  | _ :: _ :: _ :: _ :: xs, _ :: bs, h => by have := BoxCells.len h.2; simp only [List.length_cons]; omega
  | [], _ :: _, h => h.elim
  | [_], _, h => by cases ‹List Box› <;> exact h.elim
  | [_, _], _, h => by cases ‹List Box› <;> exact h.elim
  | [_, _, _], _, h => by cases ‹List Box› <;> exact h.elim
  | _ :: _ :: _ :: _ :: _, [], h => h.elim
theorem BoxCells.flat {R : Hp} : ∀ {xs : List Value} {bs : List Box}, BoxCells R xs bs → ∀ y ∈ xs, SL.flat y = true
  | [], [], _ => by intro y hy; cases hy
  | vk :: vn :: vb :: vt :: xs, _ :: bs, h => by
    intro y hy
    rcases List.mem_cons.1 hy with rfl | hy
    · exact rn_flat h.1.1
    rcases List.mem_cons.1 hy with rfl | hy
    · exact rn_flat h.1.2.1
    rcases List.mem_cons.1 hy with rfl | hy
    · exact rn_flat h.1.2.2.1
    rcases List.mem_cons.1 hy with rfl | hy
    · exact rn_flat h.1.2.2.2
    · exact BoxCells.flat h.2 y hy
  | [], _ :: _, h => h.elim
  | [_], _, h => by cases ‹List Box› <;> exact h.elim
  | [_, _], _, h => by cases ‹List Box› <;> exact h.elim
  | [_, _, _], _, h => by cases ‹List Box› <;> exact h.elim
  | _ :: _ :: _ :: _ :: _, [], h => h.elim
theorem BoxCells.snoc {R : Hp} {vk vn vb vt : Value} {b : Box} (hb : Rn R .u8 vk b.key ∧ Rn R .u8 vn b.nonce ∧ Rn R .u8 vb b.beside ∧ Rn R .u8 vt b.text) :
    ∀ {xs : List Value} {bs : List Box}, BoxCells R xs bs → BoxCells R (xs ++ [vk, vn, vb, vt]) (bs ++ [b])
  | [], [], _ => ⟨hb, trivial⟩
  | _ :: _ :: _ :: _ :: _, _ :: _, h => ⟨h.1, BoxCells.snoc hb h.2⟩
  | [], _ :: _, h => h.elim
  | [_], _, h => by cases ‹List Box› <;> exact h.elim
  | [_, _], _, h => by cases ‹List Box› <;> exact h.elim
  | [_, _, _], _, h => by cases ‹List Box› <;> exact h.elim
  | _ :: _ :: _ :: _ :: _, [], h => h.elim
theorem BoxCells.get {R : Hp} : ∀ {xs : List Value} {bs : List Box} (i : Nat) {b : Box}, BoxCells R xs bs → bs[i]? = some b →
    ∃ vk vn vb vt, (∀ (j : Nat) (x : Value), [vk, vn, vb, vt][j]? = some x → xs[i * 4 + j]? = some x) ∧ Rn R .u8 vk b.key ∧ Rn R .u8 vn b.nonce ∧ Rn R .u8 vb b.beside ∧ Rn R .u8 vt b.text
  | [], [], i, b, _, hb => by simp at hb
  | vk :: vn :: vb :: vt :: xs, _ :: bs, 0, b, h, hb => by
    simp only [List.getElem?_cons_zero, Option.some.injEq] at hb
    subst hb
    refine ⟨vk, vn, vb, vt, fun j x e => ?_, h.1⟩
    match j, e with
    | 0, e => simpa using e
    | 1, e => simpa using e
    | 2, e => simpa using e
    | 3, e => simpa using e
    | j + 4, e => simp at e
  | vk :: vn :: vb :: vt :: xs, _ :: bs, i + 1, b, h, hb => by
    obtain ⟨wk, wn, wb, wt, q, r⟩ := BoxCells.get i h.2 (by simpa using hb)
    refine ⟨wk, wn, wb, wt, fun j x e => ?_, r⟩
    have := q j x e
    rw [show (i + 1) * 4 + j = (i * 4 + j) + 1 + 1 + 1 + 1 by omega]
    simpa using this
  | [], _ :: _, _, _, h, _ => h.elim
  | [_], _, _, _, h, _ => by cases ‹List Box› <;> exact h.elim
  | [_, _], _, _, _, h, _ => by cases ‹List Box› <;> exact h.elim
  | [_, _, _], _, _, _, h, _ => by cases ‹List Box› <;> exact h.elim
  | _ :: _ :: _ :: _ :: _, [], _, _, h, _ => h.elim
/-- A book's texts, in their map. -/
def TextsOf (es : Array MapEntry) (ts : List (List Nat)) : Prop :=
  es.size = ts.length ∧ strKeys es.toList ∧ ts.Nodup ∧ (∀ t ∈ ts, Bytes t) ∧ ∀ t, Bytes t → (mget es.toList (strL t)) = (ts.idxOf? t).map fun (i : Nat) => (i, Value.int .i64 (i : Int))
/-- A book's boxes, in their row. -/
def BoxesAt (R h : Hp) (bx : Value) (bs : List Box) (Sb : List Nat) : Prop :=
  (bx = .slice none 0 0 ∧ bs = [] ∧ Sb = []) ∨
  ∃ b c f xs, bx = .slice (some ⟨b, 0, none⟩) bs.length c ∧ bs.length ≤ c ∧ h b = some (.row t_crypt_sealed xs (c * 4) (some f)) ∧ (∀ i, i < c * 4 → ¬ (f.1 ≤ i ∧ i < f.2)) ∧ BoxCells R xs bs ∧ Sb = [b]
def BookAt (R h : Hp) (p : Nat) (ts : List (List Nat)) (bs : List Box) (S : List Nat) : Prop :=
  ∃ r bx es c Sb, h p = some (.row t_crypt_book [.map (some r), bx] 2 (some (0, 0))) ∧ h r = some (.obj (.map es c)) ∧ TextsOf es ts ∧ BoxesAt R h bx bs Sb ∧ S = p :: r :: Sb ∧ p ≠ r ∧ p ∉ Sb ∧ r ∉ Sb ∧ ∀ b ∈ bs, Bytes b.key ∧ Bytes b.nonce ∧ Bytes b.beside ∧ Bytes b.text
theorem BoxesAt.keep {R R' h h' : Hp} {bx : Value} {bs : List Box} {Sb : List Nat} (a : BoxesAt R h bx bs Sb) (e : Hp.ext R R') (k : ∀ b, b ∈ Sb → h' b = h b) : BoxesAt R' h' bx bs Sb := by
  rcases a with a | ⟨b, c, f, xs, h1, h2, h3, h4, h5, h6⟩
  · exact .inl a
  · exact .inr ⟨b, c, f, xs, h1, h2, by rw [k b (by rw [h6]; exact List.mem_singleton.2 rfl)]; exact h3, h4, h5.mono e.cle, h6⟩
theorem BookAt.keep {R R' h h' : Hp} {p : Nat} {ts : List (List Nat)} {bs : List Box} {S : List Nat} (a : BookAt R h p ts bs S) (e : Hp.ext R R') (k : ∀ b, b ∈ S → h' b = h b) : BookAt R' h' p ts bs S := by
  obtain ⟨r, bx, es, c, Sb, h1, h2, h3, h4, rfl, h6⟩ := a
  exact ⟨r, bx, es, c, Sb, by rw [k p (by simp)]; exact h1, by rw [k r (by simp)]; exact h2, h3, h4.keep e fun b hb => k b (by simp [hb]), rfl, h6⟩
theorem bf1 {h : Hp} {K : Value → Prop} (r : Nat) : q P h (Instr.fieldAt t_crypt_book (.pointer (some ⟨r, 0, none⟩)) 1) K = K (.pointer (some ⟨r, 1, none⟩)) := q_of (by kernel_rfl) K
theorem pbf1 {h : Hp} (r : Nat) : peek P h (Instr.fieldAt t_crypt_book (.pointer (some ⟨r, 0, none⟩)) 1) = some (.pointer (some ⟨r, 1, none⟩)) := by kernel_rfl
theorem sf0 {h : Hp} {K : Value → Prop} (r : Nat) : q P h (Instr.fieldAt t_crypt_sealed (.pointer (some ⟨r, 0, none⟩)) 0) K = K (.pointer (some ⟨r, 0, none⟩)) := q_of (by kernel_rfl) K
theorem sf1 {h : Hp} {K : Value → Prop} (r : Nat) : q P h (Instr.fieldAt t_crypt_sealed (.pointer (some ⟨r, 0, none⟩)) 1) K = K (.pointer (some ⟨r, 1, none⟩)) := q_of (by kernel_rfl) K
theorem sf2 {h : Hp} {K : Value → Prop} (r : Nat) : q P h (Instr.fieldAt t_crypt_sealed (.pointer (some ⟨r, 0, none⟩)) 2) K = K (.pointer (some ⟨r, 2, none⟩)) := q_of (by kernel_rfl) K
theorem sf3 {h : Hp} {K : Value → Prop} (r : Nat) : q P h (Instr.fieldAt t_crypt_sealed (.pointer (some ⟨r, 0, none⟩)) 3) K = K (.pointer (some ⟨r, 3, none⟩)) := q_of (by kernel_rfl) K
theorem bldSealed {h : Hp} {K : Value → Prop} (a b c d : Option Addr) (n1 n2 n3 n4 c1 c2 c3 c4 : Nat) : q P h (Instr.build t_crypt_sealed #[(0, .slice a n1 c1), (1, .slice b n2 c2), (2, .slice c n3 c3), (3, .slice d n4 c4)]) K = K (.agg #[.slice a n1 c1, .slice b n2 c2, .slice c n3 c3, .slice d n4 c4]) := q_of (by kernel_rfl) K
theorem bldBook {h : Hp} {K : Value → Prop} (r : Nat) : q P h (Instr.build t_crypt_book #[(0, .map (some r))]) K = K (.agg #[.map (some r), .slice none 0 0]) := q_of (by kernel_rfl) K
abbrev nil4 : List Value := [.slice none 0 0, .slice none 0 0, .slice none 0 0, .slice none 0 0]
theorem zr_sealed : zr P t_crypt_sealed = some (.agg nil4.toArray) := by kernel_rfl
theorem nfo_sealed : (P.info? t_crypt_sealed).map (fun i => (i.zero, i.size, i.bytes)) = some (some (.agg nil4.toArray), 4, 96) := by kernel_rfl
theorem sz_sealed : sz P t_crypt_sealed = some 4 := by kernel_rfl
theorem lenBoxes {R h H : Hp} {bx : Value} {bs : List Box} {Sb : List Nat} {K : Value → Prop} (a : BoxesAt R h bx bs Sb) : q P H (Builtin.len_ #[t_Sl_crypt_sealed] t_int #[bx]) K = K (.int .i64 bs.length) := by
  rcases a with ⟨rfl, rfl, _⟩ | ⟨b, c, f, xs, rfl, _⟩
  · exact q_lenS u_Sl_crypt_sealed none 0 0
  · exact q_lenS u_Sl_crypt_sealed (some ⟨b, 0, none⟩) bs.length c
section
variable {h : Hp} {K : Value → Hp → Prop}
theorem T_Book {R : Hp} {S : List Nat} (w : Own R h S) (k : ∀ p h' S', BookAt R h' p [] [] S' → Own R h' S' → Stp R h R h' S S → (∀ b ∈ S', b ∉ S) → K (.iface t_Pt_crypt_book (.pointer (some ⟨p, 0, none⟩))) h') : Cn P n_crypt_Book #[] h K := by
  refine F_crypt_Book ?_
  unfold s_crypt_Book
  refine aw_makeMap fun r hr => ?_
  rw [bldBook]
  refine aw_box fun p hp => ?_
  rw [q_mkI u_Pt_crypt_book rfl]
  have hpr : p ≠ r := by rintro rfl; rw [Hp.set_same] at hp; cases hp
  have hp0 : h p = none := by rwa [Hp.set_ne _ _ hpr] at hp
  have hE : (Value.agg #[.map (some r), .slice none 0 0]).cells.toList = [.map (some r), .slice none 0 0] := rfl
  have hS : (Value.agg #[.map (some r), .slice none 0 0]).cells.size = 2 := rfl
  rw [hE, hS]
  have kp : ∀ x o, h x = some o → ((h.set r (.obj (.map #[] 0))).set p (.row t_crypt_book [.map (some r), .slice none 0 0] 2 (some (0, 0)))) x = some o := fun x o e => by
    rw [Hp.set_ne _ _ (by rintro rfl; rw [hp0] at e; cases e), Hp.set_ne _ _ (by rintro rfl; rw [hr] at e; cases e)]; exact e
  refine k p _ [p, r] ⟨r, .slice none 0 0, #[], 0, [], Hp.set_same .., ?_, ⟨rfl, (by intro e he; simp at he), List.nodup_nil, (by intro t ht; cases ht), fun t _ => rfl⟩, .inl ⟨rfl, rfl, rfl⟩, rfl, hpr, (by simp), (by simp), (by intro b hb; cases hb)⟩ ⟨fun x o e => kp x o (w.sub x o e), fun b hb => ?_, fun b hb => ?_⟩
    ⟨.refl _, fun x o _ e => kp x o e, fun x o hn _ => hn, fun x o _ _ e => e, ⟨fun x o e => kp x o (w.sub x o e), w.dis, fun b hb => let ⟨o, e⟩ := w.kn b hb; ⟨o, kp b o e⟩⟩⟩ fun b hb hbS => ?_
  · rw [Hp.set_ne _ _ (Ne.symm hpr), Hp.set_same]
  · simp only [List.mem_cons, List.not_mem_nil, or_false] at hb
    rcases hb with rfl | rfl
    · exact w.sub.none hp0
    · exact w.sub.none hr
  · simp only [List.mem_cons, List.not_mem_nil, or_false] at hb
    rcases hb with rfl | rfl
    · exact ⟨_, Hp.set_same ..⟩
    · exact ⟨_, by rw [Hp.set_ne _ _ (Ne.symm hpr), Hp.set_same]⟩
  · simp only [List.mem_cons, List.not_mem_nil, or_false] at hb
    obtain ⟨o, e⟩ := w.kn b hbS
    rcases hb with rfl | rfl
    · rw [hp0] at e; cases e
    · rw [hr] at e; cases e
end
end Go.Proofs.Ytoikhbagchfeoaa
set_option linter.unusedSimpArgs false
set_option linter.unusedVariables false
set_option maxRecDepth 100000
set_option maxHeartbeats 1000000
namespace Go.Proofs.Ytoikhbagchfeoaa
open Go Go.SL Go.Pure
theorem pk_ldB {h : Hp} {a : Addr} {v : Value} (e : h.cell a = some v) : peek P h (Instr.loadAt t_Sl_crypt_sealed (.pointer (some a))) = some v := by
  obtain ⟨x, hx, e⟩ := withVal_elim (K := fun x => x = v) ((q_ld (P := P) (h := h) (K := fun x => x = v) u_Sl_crypt_sealed rfl a).mpr (by rw [e]; rfl))
  rw [e] at hx
  exact hx
section
variable {h : Hp} {K : Value → Hp → Prop}
theorem T_book_Seal {R : Hp} {p : Nat} {ts : List (List Nat)} {bs : List Box} {S : List Nat} {vk vn vb vt : Value} {key nonce b t : List Nat} (w : Own R h S) (hB : BookAt R h p ts bs S) (nb : bs.length ≤ 1000000)
    (hk : Rn R .u8 vk key) (hn : Rn R .u8 vn nonce) (hb : Rn R .u8 vb b) (ht : Rn R .u8 vt t) (bk : Bytes key) (bn : Bytes nonce) (bb : Bytes b) (bt : Bytes t)
    (lb : b.length ≤ 1099511627776) (lt : t.length ≤ 1099511627776)
    (k : ∀ v R' h' S', Stp R h R' h' S S' → BookAt R' h' p ts (if may key nonce then bs ++ [⟨key, nonce, b, t⟩] else bs) S' → (if may key nonce then Rn R' .u8 v (boxB bs.length (t.length + 16)) else v = .slice none 0 0) → K (.tuple #[v, .int .i64 (if may key nonce then 0 else 1)]) h') :
    Cn P n_crypt_book_Seal #[.pointer (some ⟨p, 0, none⟩), vk, vn, vb, vt] h K := by
  refine F_crypt_book_Seal ?_
  unfold s_crypt_book_Seal
  refine T_crypt_may (w.rn hk) (w.rn hn) ?_
  by_cases hm : may key nonce
  case neg =>
    simp only [if_neg hm] at k
    simp only [hm, decide_false, GL, RL, Bool.not_false, if_true]
    exact k _ R h S (.refl w) hB rfl
  simp only [if_pos hm] at k
  simp (disch := omega) only [hm, decide_true, GL, RL, Bool.not_true, Bool.false_eq_true, if_false, bf1]
  obtain ⟨r, bx, es, c, Sb, hp, hr, hT, hX, rfl, hpr, hpS, hrS, hby⟩ := hB
  have c1 : h.cell ⟨p, 1, none⟩ = some bx := by rw [cell_row hp]; rfl
  simp (disch := omega) only [GL, RL, c1, lenBoxes hX]
  refine T_bytes_Clone (w.rn hk) (by unfold may at hm; omega) fun v28 h1 n1 => ?_
  obtain ⟨R1, s1, r28⟩ := Stp.newN w n1
  refine ⟨pk_ldB (n1.cle _ _ c1), pbf1 p, ?_⟩
  refine T_bytes_Clone (s1.own.rn (hn.mono s1.ext.cle)) (by unfold may at hm; omega) fun v30 h2 n2 => ?_
  obtain ⟨R2, s2, r30⟩ := Stp.newN s1.own n2
  refine ⟨pk_ldB (n2.cle _ _ (n1.cle _ _ c1)), pbf1 p, ?_⟩
  refine T_bytes_Clone (s2.own.rn (hb.mono (s1.trans s2).ext.cle)) (by omega) fun v32 h3 n3 => ?_
  obtain ⟨R3, s3, r32⟩ := Stp.newN s2.own n3
  refine ⟨pk_ldB (n3.cle _ _ (n2.cle _ _ (n1.cle _ _ c1))), pbf1 p, ?_⟩
  refine T_bytes_Clone (s3.own.rn (ht.mono ((s1.trans s2).trans s3).ext.cle)) (by omega) fun v34 h4 n4 => ?_
  obtain ⟨R4, s4, r34⟩ := Stp.newN s3.own n4
  have c4 := n4.cle _ _ (n3.cle _ _ (n2.cle _ _ (n1.cle _ _ c1)))
  refine ⟨pk_ldB c4, pbf1 p, ?_⟩
  have st4 := ((s1.trans s2).trans s3).trans s4
  have x4 : Hp.ext h h4 := ((n1.ext.trans n2.ext).trans n3.ext).trans n4.ext
  have q28 := r28.mono ((s2.trans s3).trans s4).ext.cle
  have q30 := r30.mono (s3.trans s4).ext.cle
  have q32 := r32.mono s4.ext.cle
  have hX4 : BoxesAt R4 h4 bx bs Sb := hX.keep st4.ext fun x hx => by
    obtain ⟨o, e⟩ := w.kn x (by simp [hx])
    rw [e, x4 _ _ e]
  have hp4 := x4 _ _ hp
  have hr4 := x4 _ _ hr
  have ow := st4.own
  clear n1 n2 n3 n4 s1 s2 s3 s4 r28 r30 r32 hX
  have hf28 := rn_flat q28
  have hf30 := rn_flat q30
  have hf32 := rn_flat q32
  have hf34 := rn_flat r34
  obtain ⟨a28, c28, e28, _⟩ := q28.shape
  obtain ⟨a30, c30, e30, _⟩ := q30.shape
  obtain ⟨a32, c32, e32, _⟩ := q32.shape
  obtain ⟨a34, c34, e34, _⟩ := r34.shape
  rw [show q P emp (Instr.build t_crypt_sealed #[(0, v28), (1, v30), (2, v32), (3, v34)]) = fun K => K (.agg #[v28, v30, v32, v34]) from by
    funext K; rw [e28, e30, e32, e34]; exact bldSealed ..]
  refine aw_litA (ys := [v28, v30, v32, v34]) u_Sl_crypt_sealed sz_sealed zr_sealed rfl rfl (by omega) (by omega) fun v36 h5 n5 => ?_
  refine ⟨pk_ldB (n5.cle _ _ c4), pbf1 p, ?_⟩
  have hfl : ∀ y ∈ [v28, v30, v32, v34], flat y = true := by
    intro y hy
    simp only [List.mem_cons, List.not_mem_nil, or_false] at hy
    rcases hy with rfl | rfl | rfl | rfl <;> assumption
  -- the row of boxes, in what stands beside
  have app : ∃ X xs, New X t_crypt_sealed 4 bx h5 xs bs.length ∧ BoxCells R4 xs bs ∧ (∀ x, x ∉ Sb → X x = h5 x) ∧ (∀ x, x ∈ Sb → X x = none) := by
    rcases hX4 with ⟨rfl, rfl, rfl⟩ | ⟨bb', cc, ff, xs, rfl, hle, hbb, hfz, hxs, rfl⟩
    · exact ⟨h5, [], ⟨rfl, .inl ⟨rfl, rfl, rfl⟩⟩, trivial, fun _ _ => rfl, fun x hx => by cases hx⟩
    · refine ⟨h5.del bb', xs, New.at (n5.ext _ _ hbb) hxs.len hle hfz, hxs, fun x hx => ?_, fun x hx => ?_⟩
      · simp only [List.mem_singleton] at hx
        exact Hp.del_ne _ hx
      · rw [List.mem_singleton.1 hx]; exact del_at _ _
  obtain ⟨X, xs, nX, hxs, X1, X2⟩ := app
  have r36 : Rds h5 4 v36 [v28, v30, v32, v34] 1 := n5.rds
  refine aw_append u_Sl_crypt_sealed u_Sl_crypt_sealed nfo_sealed rfl (by omega) nX r36 hfl (by omega) (.refl _) fun v37 h6 n6 => ?_
  obtain ⟨b6, c6, f6, hb6, hc6, rfl, rfl, hf6⟩ := n6.form (by omega)
  have hpX : X p = some (.row t_crypt_book [.map (some r), bx] 2 (some (0, 0))) := by rw [X1 p hpS]; exact n5.ext _ _ hp4
  have hrX : X r = some (.obj (.map es c)) := by rw [X1 r hrS]; exact n5.ext _ _ hr4
  have np : p ≠ b6 := by rintro rfl; rw [hb6] at hpX; cases hpX
  have nr : r ≠ b6 := by rintro rfl; rw [hb6] at hrX; cases hrX
  refine aw_store (z_Sl_crypt_sealed) rfl (put_row (off := 1) (by rw [Hp.set_ne _ _ np]; exact hpX) (by simp) (by simp) _) ?_
  obtain ⟨at', ct, rfl, _⟩ := ht.shape
  have e16 : ((t.length : Nat) : Int) + 16 = ((t.length + 16 : Nat) : Int) := by omega
  simp (disch := omega) only [GL, RL, wi64, e16]
  refine T_bytesOf bs.length (t.length + 16) (by omega) (by omega) fun v44 h8 n8 => ?_
  obtain ⟨h7, hh7⟩ : ∃ h7, (X.set b6 (.row t_crypt_sealed (xs ++ [v28, v30, v32, v34]) (c6 * 4) (some f6))).set p (.row t_crypt_book ([Value.map (some r), bx].set 1 (.slice (some ⟨b6, 0, none⟩) (bs.length + 1) c6)) 2 (some (0, 0))) = h7 := ⟨_, rfl⟩
  rw [hh7] at n8
  have k7 : ∀ x o, x ∉ p :: r :: Sb → h4 x = some o → h7 x = some o := fun x o hx e => by
    simp only [List.mem_cons, not_or] at hx
    have e5 := n5.ext _ _ e
    have eX : X x = some o := by rw [X1 x hx.2.2]; exact e5
    rw [← hh7, Hp.set_ne _ _ hx.1, Hp.set_ne _ _ (by rintro rfl; rw [hb6] at eX; cases eX)]
    exact eX
  have b6n : ∀ x o, x ∉ p :: r :: Sb → h4 x = some o → x ≠ b6 := fun x o hx e => by
    rintro rfl
    simp only [List.mem_cons, not_or] at hx
    have eX : X x = some o := by rw [X1 x hx.2.2]; exact n5.ext _ _ e
    rw [hb6] at eX; cases eX
  have st7 : Stp R4 h4 R4 h7 (p :: r :: Sb) [p, r, b6] := by
    refine ⟨.refl _, k7, fun x o hx e => ?_, fun x o _ _ e => e, ⟨fun x o e => ?_, fun x hx => ?_, fun x hx => ?_⟩⟩
    · have := b6n x o hx e
      simp only [List.mem_cons, not_or] at hx ⊢
      exact ⟨hx.1, hx.2.1, this, by simp⟩
    · refine k7 x o (fun hx => ?_) (ow.sub x o e)
      rw [ow.dis x hx] at e; cases e
    · simp only [List.mem_cons, List.not_mem_nil, or_false] at hx
      rcases hx with rfl | rfl | rfl
      · exact ow.dis _ (by simp)
      · exact ow.dis _ (by simp)
      · cases e : R4 x with
        | none => rfl
        | some o =>
          refine absurd rfl (b6n x o (fun hx => ?_) (ow.sub x o e))
          rw [ow.dis x hx] at e; cases e
    · simp only [List.mem_cons, List.not_mem_nil, or_false] at hx
      rcases hx with rfl | rfl | rfl
      · exact ⟨_, by rw [← hh7]; exact Hp.set_same ..⟩
      · exact ⟨_, by rw [← hh7, Hp.set_ne _ _ (Ne.symm hpr), Hp.set_ne _ _ nr]; exact hrX⟩
      · exact ⟨_, by rw [← hh7, Hp.set_ne _ _ (Ne.symm np)]; exact Hp.set_same ..⟩
  obtain ⟨R8, s8, r44⟩ := Stp.newN st7.own n8
  have key8 : BookAt R4 h7 p ts (bs ++ [⟨key, nonce, b, t⟩]) [p, r, b6] := by
    refine ⟨r, .slice (some ⟨b6, 0, none⟩) (bs.length + 1) c6, es, c, [b6], ?_, ?_, hT, .inr ⟨b6, c6, f6, xs ++ [v28, v30, v32, v34], ?_, ?_, ?_, hf6, BoxCells.snoc ⟨q28, q30, q32, r34⟩ hxs, rfl⟩, rfl, hpr, by simpa using np, by simpa using nr, fun bx hbx => ?_⟩
    · rw [← hh7]; exact Hp.set_same ..
    · rw [← hh7, Hp.set_ne _ _ (Ne.symm hpr), Hp.set_ne _ _ nr]; exact hrX
    · rw [List.length_append]; rfl
    · rw [List.length_append]; exact hc6
    · rw [← hh7, Hp.set_ne _ _ (Ne.symm np)]; exact Hp.set_same ..
    · rcases List.mem_append.1 hbx with q | q
      · exact hby bx q
      · rw [List.mem_singleton.1 q]; exact ⟨bk, bn, bb, bt⟩
  refine k v44 R8 h8 [p, r, b6] ((st4.trans st7).trans s8) (key8.keep s8.ext fun x hx => ?_) r44
  obtain ⟨o, e⟩ := st7.own.kn x hx
  rw [e, n8.ext _ _ e]
theorem T_book_Open {R : Hp} {p : Nat} {ts : List (List Nat)} {bs : List Box} {S : List Nat} {vk vn vb vx : Value} {key nonce b x : List Nat} (w : Own R h S) (hB : BookAt R h p ts bs S) (nb : bs.length ≤ 1000000)
    (hk : Rn R .u8 vk key) (hn : Rn R .u8 vn nonce) (hb : Rn R .u8 vb b) (hx : Rn R .u8 vx x) (bk : Bytes key) (bn : Bytes nonce) (bb : Bytes b) (bx : Bytes x) (lx : x.length ≤ 1099511627776) (lbs : ∀ s ∈ bs, s.text.length ≤ 1099511627776)
    (k : ∀ v R' h', Stp R h R' h' S S → BookAt R' h' p ts bs S → (if (crOpen (.book ts bs) key nonce b x).1 = 0 then Rn R' .u8 v (crOpen (.book ts bs) key nonce b x).2 else v = .slice none 0 0) → K (.tuple #[v, .int .i64 (((crOpen (.book ts bs) key nonce b x).1 : Nat) : Int)]) h') :
    Cn P n_crypt_book_Open #[.pointer (some ⟨p, 0, none⟩), vk, vn, vb, vx] h K := by
  refine F_crypt_book_Open ?_
  unfold s_crypt_book_Open
  refine T_crypt_may (w.rn hk) (w.rn hn) ?_
  by_cases hm : may key nonce
  case neg =>
    have e : crOpen (.book ts bs) key nonce b x = (1, []) := by unfold crOpen; rw [if_neg hm]
    rw [e] at k
    simp only [hm, decide_false, GL, RL, Bool.not_false, if_true]
    exact k _ R h (.refl w) hB rfl
  have eo : crOpen (.book ts bs) key nonce b x = bookOpen bs key nonce b x := by unfold crOpen; rw [if_pos hm]
  rw [eo] at k
  simp (disch := omega) only [hm, decide_true, GL, RL, Bool.not_true, Bool.false_eq_true, if_false]
  obtain ⟨ax, cx, rfl, hcx⟩ := hx.shape
  have e16 : decide (((x.length : Nat) : Int) < 16) = decide (x.length < 16) := lt_dec _ 16
  simp (disch := omega) only [GL, RL, e16]
  by_cases h16 : x.length < 16
  · have e : bookOpen bs key nonce b x = (8, []) := by unfold bookOpen; rw [if_pos h16]
    rw [e] at k
    simp only [h16, decide_true, if_true]
    exact k _ R h (.refl w) hB rfl
  simp only [h16, decide_false, Bool.false_eq_true, if_false]
  refine T_word_GetBig64 (w.rn hx) bx (by omega) ?_
  have eb : bookOpen bs key nonce b x = match bs[bval (x.take 8)]? with
    | none => (7, [])
    | some s => if s.key = key ∧ s.nonce = nonce ∧ s.beside = b ∧ boxB (bval (x.take 8)) (s.text.length + 16) = x then (0, s.text) else (7, []) := by unfold bookOpen; rw [if_neg h16] <;> rfl
  rw [eb] at k
  have hnlt := bval_take_lt bx 8
  generalize bval (x.take 8) = n at k hnlt
  have p8 : (256 : Nat) ^ 8 = 18446744073709551616 := rfl
  rw [p8] at hnlt
  have hB0 := hB
  obtain ⟨r, bxv, es, c, Sb, hp, hr, hT, hX, rfl, hpr, hpS, hrS, hby⟩ := hB
  have c1 : h.cell ⟨p, 1, none⟩ = some bxv := by rw [cell_row hp]; rfl
  have eg : decide (((bs.length : Nat) : Int) ≤ ((n : Nat) : Int)) = decide (bs.length ≤ n) := by rw [decide_eq_decide]; omega
  simp (disch := omega) only [GL, RL, bf1, c1, lenBoxes hX, wu64i, eg]
  by_cases hge : bs.length ≤ n
  · rw [List.getElem?_eq_none hge] at k
    simp only [hge, decide_true, if_true]
    exact k _ R h (.refl w) hB0 rfl
  simp only [hge, decide_false, Bool.false_eq_true, if_false]
  have hlt : n < bs.length := by omega
  rw [List.getElem?_eq_getElem hlt] at k
  have hs : bs[n]? = some bs[n] := List.getElem?_eq_getElem hlt
  have bys := hby bs[n] (List.getElem_mem hlt)
  have lbt := lbs bs[n] (List.getElem_mem hlt)
  generalize bs[n] = s at k hs bys lbt
  rcases hX with ⟨_, rfl, _⟩ | ⟨bb', cc, ff, xs, rfl, hle, hbb, hfz, hxs, rfl⟩
  · simp at hlt
  obtain ⟨wk, wn, wb, wt, hcells, rk, rn, rb, rt⟩ := hxs.get n hs
  rw [q_idxS u_Sl_crypt_sealed sz_sealed ⟨bb', 0, none⟩ bs.length cc .u64 n (by omega) (by omega), Int.toNat_natCast, add_off, Nat.zero_add]
  rw [q_ldAgg (ys := [wk, wn, wb, wt]) u_crypt_sealed rfl sz_sealed (b := bb') (o := n * 4) (fun j y e => by rw [cell_row hbb]; exact hcells j y e)]
  refine aw_allocL nil4 zr_sealed rfl fun r13 hr13 => ?_
  have hflat : ∀ y ∈ [wk, wn, wb, wt], flat y = true := by
    intro y hy
    simp only [List.mem_cons, List.not_mem_nil, or_false] at hy
    rcases hy with rfl | rfl | rfl | rfl
    · exact rn_flat rk
    · exact rn_flat rn
    · exact rn_flat rb
    · exact rn_flat rt
  refine aw_storeRow (ys := [wk, wn, wb, wt]) sz_sealed (Hp.set_same ..) rfl hflat (fun i _ => by simp) ?_
  rw [Hp.set_set]
  have s0 := Stp.block (.row t_crypt_sealed [wk, wn, wb, wt] 4 (some (0, 0))) w hr13
  have x0 : Hp.ext h (h.set r13 (.row t_crypt_sealed [wk, wn, wb, wt] 4 (some (0, 0)))) := ext_set _ hr13
  have hM : (h.set r13 (.row t_crypt_sealed [wk, wn, wb, wt] 4 (some (0, 0)))) r13 = some (.row t_crypt_sealed [wk, wn, wb, wt] 4 (some (0, 0))) := Hp.set_same ..
  generalize h.set r13 (.row t_crypt_sealed [wk, wn, wb, wt] 4 (some (0, 0))) = M at s0 x0 hM
  generalize R.set r13 (.row t_crypt_sealed [wk, wn, wb, wt] 4 (some (0, 0))) = R0 at s0
  have d0 : M.cell ⟨r13, 0, none⟩ = some wk := by rw [cell_row hM]; rfl
  have d1 : M.cell ⟨r13, 1, none⟩ = some wn := by rw [cell_row hM]; rfl
  have d2 : M.cell ⟨r13, 2, none⟩ = some wb := by rw [cell_row hM]; rfl
  have d3 : M.cell ⟨r13, 3, none⟩ = some wt := by rw [cell_row hM]; rfl
  have up : ∀ {v : Value} {l : List Nat}, Rn R .u8 v l → Rn M .u8 v l := fun r => s0.own.rn (r.mono s0.ext.cle)
  have kB : ∀ R' h', Hp.ext R R' → Hp.ext h h' → BookAt R' h' p ts bs (p :: r :: [bb']) := fun R' h' xR xh => hB0.keep xR fun x hx => by
    obtain ⟨o, e⟩ := w.kn x hx
    rw [e, xh _ _ e]
  have fin7 : ∀ R' h', Stp R0 M R' h' (p :: r :: [bb']) (p :: r :: [bb']) → Hp.ext M h' → ¬ (s.key = key ∧ s.nonce = nonce ∧ s.beside = b ∧ boxB n (s.text.length + 16) = x) → K (.tuple #[.slice none 0 0, .int .i64 7]) h' := fun R' h' st xt hne => by
    dsimp only at k
    simp only [if_neg hne] at k
    exact k _ R' h' (s0.trans st) (kB R' h' (s0.ext.trans st.ext) (x0.trans xt)) rfl
  simp (disch := omega) only [GL, RL, sf0, sf1, sf2, sf3, d0]
  refine T_bytes_Equal (up rk) (up hk) bys.1 bk ?_
  by_cases g1 : s.key = key
  case neg =>
    simp only [g1, decide_false, GL, RL, Bool.not_false, Bool.true_eq_false, if_false, if_true]
    exact fin7 _ _ (.refl s0.own) (.refl _) (fun q => g1 q.1)
  simp (disch := omega) only [g1, decide_true, GL, RL, Bool.not_true, if_true, sf1, d1]
  refine T_bytes_Equal (up rn) (up hn) bys.2.1 bn ?_
  by_cases g2 : s.nonce = nonce
  case neg =>
    simp only [g2, decide_false, GL, RL, Bool.not_false, Bool.true_eq_false, if_false, if_true]
    exact fin7 _ _ (.refl s0.own) (.refl _) (fun q => g2 q.2.1)
  simp (disch := omega) only [g2, decide_true, GL, RL, Bool.not_true, if_true, sf2, d2]
  refine T_bytes_Equal (up rb) (up hb) bys.2.2.1 bb ?_
  by_cases g3 : s.beside = b
  case neg =>
    simp only [g3, decide_false, GL, RL, Bool.not_false, Bool.true_eq_false, if_false, if_true]
    exact fin7 _ _ (.refl s0.own) (.refl _) (fun q => g3 q.2.2.1)
  obtain ⟨at', ct, rfl, hct⟩ := rt.shape
  have el : ((s.text.length : Nat) : Int) + 16 = ((s.text.length + 16 : Nat) : Int) := by omega
  simp (disch := omega) only [g3, decide_true, GL, RL, Bool.not_true, if_true, sf3, d3, wi64, el]
  refine T_bytesOf n (s.text.length + 16) (by omega) (by omega) fun v66 h2 n2 => ?_
  obtain ⟨R2, s2, _⟩ := Stp.newN s0.own n2
  refine T_bytes_Equal n2.rn ((up hx).mono n2.cle) (boxB_bytes _ _) bx ?_
  by_cases g4 : boxB n (s.text.length + 16) = x
  case neg =>
    simp only [g4, decide_false, GL, RL, Bool.not_false, if_true]
    exact fin7 _ _ s2 n2.ext (fun q => g4 q.2.2.2)
  simp only [g4, decide_true, GL, RL, Bool.not_true, Bool.false_eq_true, if_false]
  have d3' := n2.cle _ _ d3
  simp (disch := omega) only [GL, RL, sf3, d3']
  refine T_bytes_Clone ((up rt).mono n2.cle) (by omega) fun v73 h3 n3 => ?_
  obtain ⟨R3, s3, r3⟩ := Stp.newN s2.own n3
  dsimp only at k
  simp only [if_pos (show s.key = key ∧ s.nonce = nonce ∧ s.beside = b ∧ boxB n (s.text.length + 16) = x from ⟨g1, g2, g3, g4⟩)] at k
  exact k _ R3 h3 ((s0.trans s2).trans s3) (kB R3 h3 ((s0.trans s2).trans s3).ext ((x0.trans n2.ext).trans n3.ext)) (by simpa using r3)
end
end Go.Proofs.Ytoikhbagchfeoaa
set_option linter.unusedSimpArgs false
set_option linter.unusedVariables false
set_option maxRecDepth 100000
set_option maxHeartbeats 1000000
namespace Go.Proofs.Ytoikhbagchfeoaa
open Go Go.SL Go.Pure
/-- A crypt, in memory. -/
def CrAt (R h : Hp) (vc : Value) (c : Cr) (S : List Nat) : Prop :=
  match c with
  | .real => vc = .iface t_crypt_actual (.agg #[]) ∧ S = []
  | .book ts bs => ∃ p, vc = .iface t_Pt_crypt_book (.pointer (some ⟨p, 0, none⟩)) ∧ BookAt R h p ts bs S
def few (n : Nat) (c : Cr) : Prop :=
  match c with
  | .real => True
  | .book _ bs => bs.length ≤ n ∧ ∀ s ∈ bs, s.text.length ≤ 1099511627776
theorem few.mono {n m : Nat} {c : Cr} (f : few n c) (h : n ≤ m) : few m c := by
  cases c with
  | real => trivial
  | book ts bs => exact ⟨Nat.le_trans f.1 h, f.2⟩
theorem few.next {n : Nat} {c : Cr} (f : few n c) (key nonce b t : List Nat) (lt : t.length ≤ 1099511627776) : few (n + 1) (crSeal c key nonce b t).2.2 := by
  cases c with
  | real => unfold crSeal; dsimp only; split <;> trivial
  | book ts bs =>
    unfold crSeal
    dsimp only
    split
    · refine ⟨by rw [List.length_append]; have := f.1; simp; omega, fun s hs => ?_⟩
      rcases List.mem_append.1 hs with q | q
      · exact f.2 s q
      · rw [List.mem_singleton.1 q]; exact lt
    · exact f.mono (Nat.le_succ n)
theorem CrAt.keep {R R' h h' : Hp} {vc : Value} {c : Cr} {S : List Nat} (a : CrAt R h vc c S) (e : Hp.ext R R') (k : ∀ b, b ∈ S → h' b = h b) : CrAt R' h' vc c S := by
  cases c with
  | real => exact a
  | book ts bs => exact let ⟨p, hp, hB⟩ := a; ⟨p, hp, hB.keep e k⟩
theorem CrAt.shape {R h : Hp} {vc : Value} {c : Cr} {S : List Nat} (a : CrAt R h vc c S) : ∃ t v, vc = .iface t v := by
  cases c with
  | real => exact ⟨_, _, a.1⟩
  | book ts bs => exact let ⟨p, hp, _⟩ := a; ⟨_, _, hp⟩
theorem crSeal_bytes {c : Cr} {key nonce b t : List Nat} (bt : Bytes t) : Bytes (crSeal c key nonce b t).2.1 := by
  cases c with
  | real =>
    unfold crSeal; dsimp only; split
    · exact sealL_bytes _ _ _ bt
    · intro x hx; cases hx
  | book ts bs =>
    unfold crSeal; dsimp only; split
    · exact boxB_bytes _ _
    · intro x hx; cases hx
theorem crSeal_len {c : Cr} {key nonce b t : List Nat} (h : (crSeal c key nonce b t).1 = 0) : (crSeal c key nonce b t).2.1.length = t.length + 16 := by
  cases c with
  | real =>
    unfold crSeal at h ⊢; dsimp only at h ⊢; split at h
    · rename_i hm; rw [if_pos hm]; exact sealL_len _ _ _ _
    · cases h
  | book ts bs =>
    unfold crSeal at h ⊢; dsimp only at h ⊢; split at h
    · rename_i hm; rw [if_pos hm]; exact boxB_len _ _
    · cases h
theorem crOpen_real (key nonce b x : List Nat) : (crOpen .real key nonce b x).1 = openC key nonce b x ∧ (openC key nonce b x = 0 → (crOpen .real key nonce b x).2 = (openL key nonce b x).2) := by
  by_cases hm : may key nonce
  · have hm' : key.length = 32 ∧ nonce.length = 12 := hm
    simp only [crOpen, if_pos hm, openC, if_pos hm', implies_true, and_self]
  · have hm' : ¬ (key.length = 32 ∧ nonce.length = 12) := hm
    simp only [crOpen, if_neg hm, openC, if_neg hm', Nat.one_ne_zero, false_implies, and_self]
section
variable {h : Hp} {K : Value → Hp → Prop}
theorem T_crSeal {R : Hp} {vc : Value} {c : Cr} {S : List Nat} {vk vn vb vt : Value} {key nonce b t : List Nat} (w : Own R h S) (hC : CrAt R h vc c S) (hf : few 1000000 c)
    (hk : Rn R .u8 vk key) (hn : Rn R .u8 vn nonce) (hb : Rn R .u8 vb b) (ht : Rn R .u8 vt t) (bk : Bytes key) (bn : Bytes nonce) (bb : Bytes b) (bt : Bytes t)
    (lb : b.length ≤ 1099511627776) (lt : t.length ≤ 1099511627776)
    (k : ∀ v R' h' S', Stp R h R' h' S S' → CrAt R' h' vc (crSeal c key nonce b t).2.2 S' → (if (crSeal c key nonce b t).1 = 0 then Rn R' .u8 v (crSeal c key nonce b t).2.1 else v = .slice none 0 0) → K (.tuple #[v, .int .i64 (((crSeal c key nonce b t).1 : Nat) : Int)]) h') :
    aw P (callMethod vc "Seal" #[vk, vn, vb, vt]) (nextP P K) h := by
  cases c with
  | real =>
    obtain ⟨rfl, rfl⟩ := hC
    refine aw_method (g := n_crypt_actual_Seal) (r := .agg #[]) (by kernel_rfl) ?_
    show Cn P n_crypt_actual_Seal #[.agg #[], vk, vn, vb, vt] h K
    refine F_crypt_actual_Seal ?_
    unfold s_crypt_actual_Seal
    refine aw_box fun r hr => ?_
    have s0 := Stp.block (.row t_crypt_actual (Value.agg #[]).cells.toList (Value.agg #[]).cells.size (some (0, 0))) w hr
    generalize h.set r (.row t_crypt_actual (Value.agg #[]).cells.toList (Value.agg #[]).cells.size (some (0, 0))) = M at s0
    generalize R.set r (.row t_crypt_actual (Value.agg #[]).cells.toList (Value.agg #[]).cells.size (some (0, 0))) = R0 at s0
    have up : ∀ {v : Value} {l : List Nat}, Rn R .u8 v l → Rn M .u8 v l := fun r => s0.own.rn (r.mono s0.ext.cle)
    refine T_Seal (up hk) (up hn) (up hb) (up ht) bk bn bb bt lb lt fun v h1 n1 => ?_
    rw [ext0, ext1]
    by_cases hm : key.length = 32 ∧ nonce.length = 12
    · have hm' : may key nonce := hm
      simp only [if_pos hm] at n1 ⊢
      simp only [crSeal, if_pos hm'] at k
      obtain ⟨R1, s1, r1⟩ := Stp.newN s0.own n1
      exact k v R1 h1 [] (s0.trans s1) ⟨rfl, rfl⟩ (by simpa using r1)
    · have hm' : ¬ may key nonce := hm
      simp only [if_neg hm] at n1 ⊢
      simp only [crSeal, if_neg hm'] at k
      obtain ⟨rfl, rfl⟩ := n1
      exact k _ R0 h1 [] s0 ⟨rfl, rfl⟩ (by simp)
  | book ts bs =>
    obtain ⟨p, rfl, hB⟩ := hC
    refine aw_method (g := n_crypt_book_Seal) (r := .pointer (some ⟨p, 0, none⟩)) (by kernel_rfl) ?_
    show Cn P n_crypt_book_Seal #[.pointer (some ⟨p, 0, none⟩), vk, vn, vb, vt] h K
    refine T_book_Seal w hB hf.1 hk hn hb ht bk bn bb bt lb lt fun v R' h' S' st hB' hv => ?_
    by_cases hm : may key nonce
    · simp only [if_pos hm] at hB' hv ⊢
      simp only [crSeal, if_pos hm] at k
      exact k v R' h' S' st ⟨p, rfl, hB'⟩ (by simpa using hv)
    · simp only [if_neg hm] at hB' hv ⊢
      simp only [crSeal, if_neg hm] at k
      exact k v R' h' S' st ⟨p, rfl, hB'⟩ (by simpa using hv)
theorem T_crOpen {R : Hp} {vc : Value} {c : Cr} {S : List Nat} {vk vn vb vx : Value} {key nonce b x : List Nat} (w : Own R h S) (hC : CrAt R h vc c S) (hf : few 1000000 c)
    (hk : Rn R .u8 vk key) (hn : Rn R .u8 vn nonce) (hb : Rn R .u8 vb b) (hx : Rn R .u8 vx x) (bk : Bytes key) (bn : Bytes nonce) (bb : Bytes b) (bx : Bytes x)
    (lb : b.length ≤ 1099511627776) (lx : x.length ≤ 1099511627776)
    (k : ∀ v R' h', Stp R h R' h' S S → CrAt R' h' vc c S → (if (crOpen c key nonce b x).1 = 0 then Rn R' .u8 v (crOpen c key nonce b x).2 else v = .slice none 0 0) → K (.tuple #[v, .int .i64 (((crOpen c key nonce b x).1 : Nat) : Int)]) h') :
    aw P (callMethod vc "Open" #[vk, vn, vb, vx]) (nextP P K) h := by
  cases c with
  | real =>
    obtain ⟨rfl, rfl⟩ := hC
    refine aw_method (g := n_crypt_actual_Open) (r := .agg #[]) (by kernel_rfl) ?_
    show Cn P n_crypt_actual_Open #[.agg #[], vk, vn, vb, vx] h K
    refine F_crypt_actual_Open ?_
    unfold s_crypt_actual_Open
    refine aw_box fun r hr => ?_
    have s0 := Stp.block (.row t_crypt_actual (Value.agg #[]).cells.toList (Value.agg #[]).cells.size (some (0, 0))) w hr
    generalize h.set r (.row t_crypt_actual (Value.agg #[]).cells.toList (Value.agg #[]).cells.size (some (0, 0))) = M at s0
    generalize R.set r (.row t_crypt_actual (Value.agg #[]).cells.toList (Value.agg #[]).cells.size (some (0, 0))) = R0 at s0
    have up : ∀ {v : Value} {l : List Nat}, Rn R .u8 v l → Rn M .u8 v l := fun r => s0.own.rn (r.mono s0.ext.cle)
    refine T_Open (up hk) (up hn) (up hb) (up hx) bk bn bb bx lb lx fun v h1 n1 => ?_
    rw [ext0, ext1]
    obtain ⟨eO, eO2⟩ := crOpen_real key nonce b x
    rw [eO] at k
    by_cases h0 : openC key nonce b x = 0
    · simp only [if_pos h0] at n1 k
      rw [eO2 h0] at k
      obtain ⟨R1, s1, r1⟩ := Stp.newN s0.own n1
      exact k v R1 h1 (s0.trans s1) ⟨rfl, rfl⟩ r1
    · simp only [if_neg h0] at n1 k
      obtain ⟨rfl, rfl⟩ := n1
      exact k _ R0 h1 s0 ⟨rfl, rfl⟩ rfl
  | book ts bs =>
    obtain ⟨p, rfl, hB⟩ := hC
    refine aw_method (g := n_crypt_book_Open) (r := .pointer (some ⟨p, 0, none⟩)) (by kernel_rfl) ?_
    show Cn P n_crypt_book_Open #[.pointer (some ⟨p, 0, none⟩), vk, vn, vb, vx] h K
    exact T_book_Open w hB hf.1 hk hn hb hx bk bn bb bx lx hf.2 fun v R' h' st hB' hv => k v R' h' st ⟨p, rfl, hB'⟩ hv
theorem T_Real (k : K (.iface t_crypt_actual (.agg #[])) h) : Cn P n_crypt_Real #[] h K := by
  refine F_crypt_Real ?_
  unfold s_crypt_Real
  refine (q_of (v := .agg #[]) (by kernel_rfl) _).mpr ?_
  refine (q_mkI u_crypt_actual rfl _).mpr ?_
  exact k
end
end Go.Proofs.Ytoikhbagchfeoaa
