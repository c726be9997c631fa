/- What is done with each piece comes to. Conditions: each names its own. -/
import Derived.Test.YtnecdbclhdbaoaaSYg
set_option linter.unusedSimpArgs false
set_option linter.unusedVariables false
set_option maxRecDepth 100000
set_option maxHeartbeats 1000000
namespace Go.Proofs.Ytnecdbclhdbaoaa
open Go Go.SL Go.Pure

theorem Own.sub' {R h : Hp} {S T : List Nat} (w : Own R h S) (m : ∀ x, x ∈ T → x ∈ S) : Own R h T := ⟨w.sub, fun b hb => w.dis b (m b hb), fun b hb => w.kn b (m b hb)⟩
theorem Own.app {R h : Hp} {S T : List Nat} (w : Own R h S) (v : Own R h T) : Own R h (S ++ T) := ⟨w.sub, fun b hb => (List.mem_append.1 hb).elim (w.dis b) (v.dis b), fun b hb => (List.mem_append.1 hb).elim (w.kn b) (v.kn b)⟩
theorem Stp.perm {R h R' h' : Hp} {S S' T T' : List Nat} (a : Stp R h R' h' S S') (m : ∀ x, x ∈ S ↔ x ∈ T) (m' : ∀ x, x ∈ S' ↔ x ∈ T') : Stp R h R' h' T T' :=
  ⟨a.ext, fun b o n e => a.keep b o (fun q => n ((m b).1 q)) e, fun b o n e q => a.frS b o (fun q => n ((m b).1 q)) e ((m' b).2 q), fun b o n e r => a.frR b o (fun q => n ((m b).1 q)) e r, a.own.sub' fun x hx => (m' x).2 hx⟩
/-- Less is owned behind a step. -/
theorem Stp.drop {R h R' h' : Hp} {S S' T' : List Nat} (a : Stp R h R' h' S S') (m : ∀ x, x ∈ T' → x ∈ S') : Stp R h R' h' S T' :=
  ⟨a.ext, a.keep, fun b o n e q => a.frS b o n e (m b q), a.frR, a.own.sub' m⟩
/-- A row that was owned is to be read from now on. -/
theorem Stp.fix {R h R' h' : Hp} {S S' T' : List Nat} {b : Nat} {o : AObj} (a : Stp R h R' h' S S') (hb : b ∈ S') (e : h' b = some o) (m : ∀ x, x ∈ T' → x ∈ S' ∧ x ≠ b) : Stp R h (R'.set b o) h' S T' := by
  have hR := a.own.dis b hb
  refine ⟨a.ext.trans (ext_set _ hR), a.keep, fun x ox n e q => a.frS x ox n e (m x q).1, fun x ox n ex r => ?_, ⟨fun x ox ex => ?_, fun x hx => ?_, fun x hx => a.own.kn x (m x hx).1⟩⟩
  · have := a.frS x ox n ex
    rw [Hp.set_ne _ _ (by rintro rfl; exact this hb)]
    exact a.frR x ox n ex r
  · by_cases q : x = b
    · subst q; rw [Hp.set_same] at ex; rw [← ex]; exact e
    · rw [Hp.set_ne _ _ q] at ex; exact a.own.sub x ox ex
  · rw [Hp.set_ne _ _ (m x hx).2]; exact a.own.dis x (m x hx).1
/-- A row that grows is owned. -/
theorem OutAt.step {t s n' : Nat} {R h h' : Hp} {v' : Value} {xs' : List Value} {So So' : List Nat} (w : Own R h So) (o' : OutAt t s h' v' xs' n' So') (kp : ∀ x o, x ∉ So → h x = some o → h' x = some o) (fr : ∀ x o, x ∉ So → h x = some o → x ∉ So') :
    Stp R h R h' So So' := by
  refine ⟨.refl _, kp, fr, fun x o _ _ r => r, ⟨fun x o e => ?_, fun x hx => ?_, fun x hx => ?_⟩⟩
  · refine kp x o (fun hx => ?_) (w.sub x o e)
    rw [w.dis x hx] at e; cases e
  · cases e : R x with
    | none => rfl
    | some o =>
      refine absurd hx (fr x o (fun hx => ?_) (w.sub x o e))
      rw [w.dis x hx] at e; cases e
  · rcases o' with ⟨_, _, _, rfl⟩ | ⟨b, c, f, hb, _, _, _, rfl, _⟩
    · cases hx
    · rw [List.mem_singleton.1 hx]; exact ⟨_, hb⟩

theorem drop_cons {ps : List (List Nat)} {i : Nat} (hi : i < ps.length) : ps.drop i = ps.getD i [] :: ps.drop (i + 1) := by
  rw [List.drop_eq_getElem_cons hi]
  simp [List.getD_eq_getElem?_getD, hi]

section
variable {h : Hp} {K : Value → Hp → Prop}
theorem T_each {St : Type} (f : St → Nat → List Nat → Nat × List Nat × St) (At : Hp → Hp → St → List Nat → Prop) (Inv : Nat → St → Prop) {R : Hp} {S : List Nat} {vl t1 t2 : Value} {ps : List (List Nat)} (st0 : St)
    (w : Own R h S) (hp : Parts R vl ps) (np : ps.length ≤ 4294967295) (LB : Nat) (hLB : ps.length * LB ≤ 1099511627776)
    (hAt : ∀ R h R' h' st S, At R h st S → Hp.ext R R' → (∀ b, b ∈ S → h' b = h b) → At R' h' st S)
    (hlen : ∀ i st, i < ps.length → Inv i st → (f st i (ps.getD i [])).1 = 0 → (f st i (ps.getD i [])).2.1.length ≤ LB)
    (step : ∀ (i : Nat) (st : St) (R1 h1 : Hp) (S1 : List Nat) (pw : Value) (KK : Value → Hp → Prop), i < ps.length → Inv i st → Own R1 h1 S1 → Hp.ext R R1 → At R1 h1 st S1 → Rn R1 .u8 pw (ps.getD i []) →
      (∀ v R2 h2 S2, Stp R1 h1 R2 h2 S1 S2 → At R2 h2 (f st i (ps.getD i [])).2.2 S2 → Inv (i + 1) (f st i (ps.getD i [])).2.2 → (if (f st i (ps.getD i [])).1 = 0 then Rn R2 .u8 v (f st i (ps.getD i [])).2.1 else v = .slice none 0 0) → KK (.tuple #[v, .int .i64 (((f st i (ps.getD i [])).1 : Nat) : Int)]) h2) →
      callP P t1 [.int .i64 (i : Int), .bool (i + 1 == ps.length)] h1 fun t29 h => callP P t2 [t29, pw] h KK)
    (a0 : At R h st0 S) (i0 : Inv 0 st0)
    (k : ∀ v R' h' S', Stp R h R' h' S S' → At R' h' (goL f st0 0 ps).2.2 S' → ((goL f st0 0 ps).1 = 0 → (goL f st0 0 ps).2.1.flatten.length ≤ ps.length * LB) → (if (goL f st0 0 ps).1 = 0 then Rn R' .u8 v (goL f st0 0 ps).2.1.flatten else v = .slice none 0 0) → K (.tuple #[v, .int .i64 (((goL f st0 0 ps).1 : Nat) : Int)]) h') :
    Cn P n_seal_each #[vl, t1, t2] h K := by
  refine F_seal_each ?_
  unfold s_seal_each
  obtain ⟨bl, ol, cl, rfl, hcl, hpw⟩ := hp
  simp (disch := omega) only [GL, RL]
  refine Lp_mk (fun u vs h' => ∃ (i : Nat) (st : St) (R1 : Hp) (S1 : List Nat) (vo : Value) (So : List Nat) (xs : List (List Nat)), i + u = ps.length ∧ Stp R h R1 h' S (S1 ++ So) ∧ At R1 h' st S1 ∧ Inv i st ∧ OutAt t_uint8 1 h' vo (nv .u8 xs.flatten) xs.flatten.length So ∧ (∀ x, x ∈ So → x ∉ S1) ∧
      (goL f st0 0 ps).1 = (goL f st i (ps.drop i)).1 ∧ ((goL f st i (ps.drop i)).1 = 0 → (goL f st0 0 ps).2.1 = xs ++ (goL f st i (ps.drop i)).2.1) ∧ (goL f st0 0 ps).2.2 = (goL f st i (ps.drop i)).2.2 ∧ xs.flatten.length ≤ i * LB ∧ vs = [.slice none 0 0, .int .i64 0, vo, .int .i64 (i : Int)]) ps.length
    ⟨0, st0, R, S, .slice none 0 0, [], [], by omega, by simpa using Stp.refl w, a0, i0, .inl ⟨rfl, rfl, rfl, rfl⟩, by simp, by simp, by simp, by simp, by simp, rfl⟩ ?_
  rintro u vs h1 ⟨i, st, R1, S1, vo, So, xs, hi, stp, ha, hinv, hO, hdj, g1, g2, g3, hxl, rfl⟩
  simp (disch := omega) only [GL, RL, lt_dec]
  by_cases hlt : i < ps.length
  · obtain ⟨pw, hcw, rw'⟩ := hpw i hlt
    have c1 : h1.cell ⟨bl, ol + i, none⟩ = some pw := stp.own.sub.cle _ _ (stp.ext.cle _ _ hcw)
    have e1 : (((i : Nat) : Int) == ((ps.length : Nat) : Int) - 1) = (i + 1 == ps.length) := by
      rw [Bool.eq_iff_iff, beq_iff_eq, beq_iff_eq]; omega
    simp (disch := omega) only [GL, RL, hlt, decide_true, if_true, c1, wi64, e1]
    have oS : Own R1 h1 S1 := stp.own.sub' fun x hx => List.mem_append_left _ hx
    have oO : Own R1 h1 So := stp.own.sub' fun x hx => List.mem_append_right _ hx
    have hln := hlen i st hlt hinv
    rw [drop_cons hlt] at g1 g2 g3
    simp only [goL] at g1 g2 g3
    refine step i st R1 h1 S1 pw _ hlt hinv oS stp.ext ha (rw'.mono stp.ext.cle) fun v R2 h2 S2 s2 a2 i2 hv => ?_
    rw [ext0, ext1]
    have wd := s2.wide oO hdj
    obtain ⟨oO2, dj2, same2⟩ := s2.frame oO hdj
    by_cases h0 : (f st i (ps.getD i [])).1 = 0
    · simp only [if_pos h0] at hv g1 g2 g3
      have hln := hln h0
      generalize (f st i (ps.getD i [])).2.1 = x at hv g1 g2 g3 hln
      generalize (f st i (ps.getD i [])).2.2 = st' at a2 i2 g1 g2 g3
      rw [h0]
      simp (disch := omega) only [GL, RL, bne_self_eq_false, Bool.false_eq_true, if_false]
      have hO2 : OutAt t_uint8 1 h2 vo (nv .u8 xs.flatten) xs.flatten.length So := hO.keep same2
      have rv : Rds h2 1 v (nv .u8 x) x.length := s2.own.rn hv
      have hb1 : i * LB + LB ≤ ps.length * LB := by rw [← Nat.succ_mul]; exact Nat.mul_le_mul_right _ hlt
      refine aw_appendO u_Sl_uint8 u_Sl_uint8 nfo_uint8 rfl (by omega) hO2 rv (nv_flat _ _) (by omega) fun v' h3 So' o3 kp3 fr3 => ?_
      have s3 := OutAt.step oO2 o3 kp3 fr3
      have oS2 : Own R2 h2 S2 := s2.own
      have dj3 : ∀ b, b ∈ S2 → b ∉ So := fun b hb q => dj2 b q hb
      obtain ⟨_, dj4, same4⟩ := s3.frame oS2 dj3
      have wd3 := (s3.wide oS2 dj3).perm (T := S2 ++ So) (T' := S2 ++ So') (fun x => by simp [or_comm]) (fun x => by simp [or_comm])
      refine ⟨h3, .refl _, u - 1, by omega, i + 1, st', R2, S2, v', So', xs ++ [x], by omega, (stp.trans wd).trans wd3, hAt _ _ _ _ _ _ a2 (.refl _) same4, i2, ?_, fun b hb q => dj4 b q hb, g1, fun q => ?_, g3, ?_, rfl⟩
      · have e : (xs ++ [x]).flatten = xs.flatten ++ x := by simp
        rw [e, nv_app, List.length_append]
        exact o3
      · rw [g2 q, List.append_assoc]; rfl
      · have e : (xs ++ [x]).flatten.length = xs.flatten.length + x.length := by simp
        rw [e, Nat.succ_mul]; omega
    · simp only [if_neg h0] at hv g1 g2 g3
      generalize (f st i (ps.getD i [])).2.2 = st' at a2 i2 g1 g2 g3
      generalize (f st i (ps.getD i [])).1 = code at h0 hv g1 g2 g3
      have e0 : (((code : Nat) : Int) != 0) = true := by rw [bne_iff_ne]; omega
      simp (disch := omega) only [GL, RL, e0, if_true]
      have := k (.slice none 0 0) R2 h2 S2 ((stp.trans wd).drop fun x hx => List.mem_append_left _ hx) (by rw [g3]; exact a2) (fun q => by rw [g1] at q; exact absurd q h0) (by rw [g1, if_neg h0])
      rw [g1] at this
      exact this
  · obtain rfl : i = ps.length := by omega
    rw [List.drop_length] at g1 g2 g3
    simp only [goL] at g1 g2 g3
    simp only [hlt, decide_false, Bool.false_eq_true, if_false]
    have g2 := g2 (by trivial)
    rw [List.append_nil] at g2
    rcases hO with ⟨rfl, hn0, _, rfl⟩ | ⟨b, c, fz, hb, rfl, hc, hf, rfl, hl⟩
    · have := k (.slice none 0 0) R1 h1 S1 (stp.drop fun x hx => List.mem_append_left _ hx) (by rw [g3]; exact ha) (fun _ => by rw [g2]; exact hxl) (by
        rw [g1, if_pos rfl, g2, List.eq_nil_of_length_eq_zero hn0]; exact rn_nil _ _)
      rw [g1] at this
      exact this
    · have hbS : ∀ x, x ∈ S1 → x ≠ b := fun x hx => by rintro rfl; exact hdj x (by simp) hx
      have := k (.slice (some ⟨b, 0, none⟩) xs.flatten.length c) (R1.set b (.row t_uint8 (nv .u8 xs.flatten) (c * 1) (some fz))) h1 S1 (stp.fix (by simp) hb fun x hx => ⟨List.mem_append_left _ hx, hbS x hx⟩)
        (by rw [g3]; exact hAt _ _ _ _ _ _ ha (ext_set _ (stp.own.dis b (by simp))) fun _ _ => rfl) (fun _ => by rw [g2]; exact hxl) (by
          rw [g1, if_pos rfl, g2]
          exact ⟨by rw [nv_len]; omega, _, c, rfl, hc, .inr ⟨b, 0, rfl, fun j x e => by rw [cell_row (Hp.set_same ..), Nat.zero_add]; exact e⟩⟩)
      rw [g1] at this
      exact this
end
end Go.Proofs.Ytnecdbclhdbaoaa
