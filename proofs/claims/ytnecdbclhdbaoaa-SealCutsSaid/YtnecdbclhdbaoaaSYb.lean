/- What a box's bytes come to; steps that change what is owned. Conditions: each names its own. -/
import Derived.Test.YtnecdbclhdbaoaaSYa
set_option linter.unusedSimpArgs false
set_option linter.unusedVariables false
set_option maxRecDepth 100000
set_option maxHeartbeats 1000000
namespace Go.Proofs.Ytnecdbclhdbaoaa
open Go Go.SL Go.Pure

theorem putL_nv (l : List Nat) (j : Nat) (ys : List Nat) (h : j + ys.length ≤ l.length) : putL (nv .u8 l) j (nv .u8 ys) = nv .u8 (l.take j ++ ys ++ l.drop (j + ys.length)) := by
  rw [putL_eq _ _ _ (by rw [nv_len, nv_len]; exact h), nv_len]
  unfold nv
  rw [List.map_append, List.map_append, List.map_take, List.map_drop]
theorem nv_take (k : IntKind) (l : List Nat) (n : Nat) : (nv k l).take n = nv k (l.take n) := by unfold nv; rw [List.map_take]
theorem boxB_step (n len j : Nat) (hj : 8 * j < len) :
    ((boxB n len).take (8 * j) ++ List.replicate (len - 8 * j) 0).take (8 * j) ++ (bg 8 n).take (len - 8 * j) ++ ((boxB n len).take (8 * j) ++ List.replicate (len - 8 * j) 0).drop (8 * j + ((bg 8 n).take (len - 8 * j)).length) =
      (boxB n len).take (8 * (j + 1)) ++ List.replicate (len - 8 * (j + 1)) 0 := by
  have lt : ((boxB n len).take (8 * j)).length = 8 * j := by rw [List.length_take, boxB_len]; omega
  have lb : ((bg 8 n).take (len - 8 * j)).length = min (len - 8 * j) 8 := by rw [List.length_take, bg_len]
  rw [List.take_append_of_le_length (by omega), List.take_of_length_le (by omega), lb, List.drop_append, lt, List.drop_of_length_le (by omega), List.nil_append, List.drop_replicate, Nat.add_sub_cancel_left]
  have e1 : (boxB n len).take (8 * (j + 1)) = (boxB n len).take (8 * j) ++ (bg 8 n).take (len - 8 * j) := by
    apply List.ext_getElem
    · rw [List.length_append, lt, lb, List.length_take, boxB_len]; omega
    · intro i h1 h2
      rw [List.length_take, boxB_len] at h1
      rw [List.getElem_take]
      by_cases hi : i < 8 * j
      · rw [List.getElem_append_left (by omega), List.getElem_take]
      · rw [List.getElem_append_right (by omega), List.getElem_take]
        simp only [lt]
        have hl : i - 8 * j < (bg 8 n).length := by rw [bg_len]; omega
        simp only [boxB, List.getElem_map, List.getElem_range]
        rw [show i % 8 = i - 8 * j by omega]
        simp [List.getD_eq_getElem?_getD, hl]
  rw [e1, show len - 8 * j - min (len - 8 * j) 8 = len - 8 * (j + 1) by omega]

section
variable {h : Hp} {K : Value → Hp → Prop}
theorem T_bytesOf (n len : Nat) (hn : n < 9223372036854775808) (hl : len ≤ 70368744177664) (k : ∀ r h', Nn h t_uint8 .u8 r h' (boxB n len) → K r h') : Cn P n_crypt_bytesOf #[.int .i64 n, .int .i64 len] h K := by
  refine Cn_wk (F_crypt_bytesOf ?_)
  unfold s_crypt_bytesOf
  refine aw_make u_Sl_uint8 nfo_uint8 rfl (Nat.le_refl len) (by omega) (by omega) fun r h1 hw => ?_
  rw [replicate_nv] at hw
  by_cases h00 : len = 0
  · subst h00
    refine Lp_mk (fun m vs h' => m = 0 ∧ h' = h1 ∧ vs = [.int .i64 0]) 0 ⟨rfl, rfl, rfl⟩ ?_
    rintro m vs h2 ⟨rfl, rfl, rfl⟩
    have e0 : decide ((0 : Int) < ((0 : Nat) : Int)) = false := rfl
    simp (disch := omega) only [GL, RL, e0, Bool.false_eq_true, if_false]
    exact ⟨h2, .refl _, k _ _ hw⟩
  obtain ⟨b, c, f, hb, hc, rfl, hh1, _⟩ := hw.form (by omega)
  refine Lp_mk (fun m vs h' => ∃ j : Nat, m = (len + 7) / 8 - j ∧ j ≤ (len + 7) / 8 ∧ New h t_uint8 1 (.slice (some ⟨b, 0, none⟩) len c) h' (nv .u8 ((boxB n len).take (8 * j) ++ List.replicate (len - 8 * j) 0)) len ∧ vs = [.int .i64 ((8 * j : Nat) : Int)]) ((len + 7) / 8)
    ⟨0, rfl, Nat.zero_le _, by simpa using hw, rfl⟩ ?_
  clear hw hh1
  rintro m vs h2 ⟨j, hm, hj, hw, rfl⟩
  simp (disch := omega) only [GL, RL, wi64, lt_dec]
  by_cases hlt : 8 * j < len
  · simp only [hlt, decide_true, if_true]
    obtain ⟨b', c', f', hb', _, hv', hh', hfz⟩ := hw.form (by omega)
    simp only [Value.slice.injEq, Option.some.injEq, Addr.mk.injEq] at hv'
    obtain ⟨⟨rfl, _⟩, _, rfl⟩ := hv'
    have hcut : SL.cut (some ⟨b, 0, none⟩) c (8 * j) 1 = some ⟨b, 8 * j, none⟩ := by
      unfold SL.cut
      rw [if_neg (by omega), Option.map_some, add_off]
      simp
    have esl : ∀ H : Hp, peek P H (Instr.sliceAt t_Sl_uint8 (.slice (some ⟨b, 0, none⟩) len c) (some (.int .i64 ((8 * j : Nat) : Int))) none none) = some (.slice (some ⟨b, 8 * j, none⟩) (len - 8 * j) (c - 8 * j)) := fun H => by
      obtain ⟨x, hx, e⟩ := withVal_elim (K := fun x => x = .slice (some ⟨b, 8 * j, none⟩) (len - 8 * j) (c - 8 * j)) ((q_slLo (P := P) (h := H) (K := fun x => x = .slice (some ⟨b, 8 * j, none⟩) (len - 8 * j) (c - 8 * j)) u_Sl_uint8 z_uint8 (some ⟨b, 0, none⟩) len c .i64 (8 * j) (by omega) (by omega)).mpr (by rw [hcut]))
      rw [e] at hx
      exact hx
    rw [q_of (esl _)]
    simp (disch := omega) only [GL, RL, wu64i]
    refine T_word_Big64 n (by omega) fun t19 h3 n3 => ?_
    refine ⟨esl _, ?_⟩
    have hb3 : h3 b = some (.row t_uint8 (nv .u8 ((boxB n len).take (8 * j) ++ List.replicate (len - 8 * j) 0)) (c * 1) (some f')) := n3.ext _ _ (by rw [hh']; exact Hp.set_same ..)
    have lx : ((boxB n len).take (8 * j) ++ List.replicate (len - 8 * j) 0).length = len := by rw [List.length_append, List.length_take, boxB_len, List.length_replicate]; omega
    have r3 : Rds h3 1 t19 (nv .u8 (bg 8 n)) 8 := by have := n3.rn; unfold Rn at this; rwa [bg_len] at this
    refine aw_copyMin u_Sl_uint8 z_uint8 hb3 r3 (nv_flat _ _) (by rw [nv_len, lx]; omega) (fun i hi => hfz i (by rw [nv_len, lx] at hi; omega)) ?_
    have e8 : ((8 * j : Nat) : Int) + 8 = ((8 * (j + 1) : Nat) : Int) := by omega
    simp (disch := omega) only [GL, RL, wi64, e8]
    rw [nv_take, putL_nv _ _ _ (by rw [List.length_take, bg_len, lx]; omega), boxB_step n len j hlt]
    refine ⟨h.set b (.row t_uint8 (nv .u8 ((boxB n len).take (8 * (j + 1)) ++ List.replicate (len - 8 * (j + 1)) 0)) (c * 1) (some f')), le_set ((New.le hw).trans n3.le), m - 1, by omega, j + 1, by omega, by omega, ⟨?_, .inr ⟨b, c, f', hb', by omega, rfl, rfl, hfz⟩⟩, rfl⟩
    rw [nv_len, List.length_append, List.length_take, boxB_len, List.length_replicate]; omega
  · simp only [hlt, decide_false, Bool.false_eq_true, if_false]
    refine ⟨h2, .refl _, k _ _ ?_⟩
    rw [List.take_of_length_le (by rw [boxB_len]; omega), show len - 8 * j = 0 by omega, List.replicate_zero, List.append_nil] at hw
    unfold Nn
    rw [boxB_len]
    exact hw
end

/-- What is to be read (R) is known, what is owned (S) is known and not among it. -/
structure Own (R h : Hp) (S : List Nat) : Prop where
  sub : Hp.ext R h
  dis : ∀ b, b ∈ S → R b = none
  kn : ∀ b, b ∈ S → ∃ o, h b = some o
/-- A step: what is to be read (R) grows, what is owned (S) changes, all else that is known (h) stays. -/
structure Stp (R h R' h' : Hp) (S S' : List Nat) : Prop where
  ext : Hp.ext R R'
  keep : ∀ b o, b ∉ S → h b = some o → h' b = some o
  frS : ∀ b o, b ∉ S → h b = some o → b ∉ S'
  frR : ∀ b o, b ∉ S → h b = some o → R b = none → R' b = none
  own : Own R' h' S'
theorem Stp.refl {R h : Hp} {S : List Nat} (w : Own R h S) : Stp R h R h S S := ⟨.refl _, fun _ _ _ e => e, fun _ _ n _ => n, fun _ _ _ _ e => e, w⟩
theorem Stp.trans {R h R1 h1 R2 h2 : Hp} {S S1 S2 : List Nat} (a : Stp R h R1 h1 S S1) (b : Stp R1 h1 R2 h2 S1 S2) : Stp R h R2 h2 S S2 where
  ext := a.ext.trans b.ext
  own := b.own
  keep := fun x o n e => b.keep x o (a.frS x o n e) (a.keep x o n e)
  frS := fun x o n e => b.frS x o (a.frS x o n e) (a.keep x o n e)
  frR := fun x o n e r => b.frR x o (a.frS x o n e) (a.keep x o n e) (a.frR x o n e r)
/-- What is owned beside stays so. -/
theorem Stp.frame {R h R' h' : Hp} {S S' S2 : List Nat} (a : Stp R h R' h' S S') (w : Own R h S2) (n : ∀ b, b ∈ S2 → b ∉ S) : Own R' h' S2 ∧ (∀ b, b ∈ S2 → b ∉ S') ∧ ∀ b, b ∈ S2 → h' b = h b := by
  refine ⟨⟨a.own.sub, fun b hb => ?_, fun b hb => ?_⟩, fun b hb => ?_, fun b hb => ?_⟩ <;> obtain ⟨o, e⟩ := w.kn b hb
  · exact a.frR b o (n b hb) e (w.dis b hb)
  · exact ⟨o, a.keep b o (n b hb) e⟩
  · exact a.frS b o (n b hb) e
  · rw [e]; exact a.keep b o (n b hb) e
/-- A step, with what is owned beside. -/
theorem Stp.wide {R h R' h' : Hp} {S S' S2 : List Nat} (a : Stp R h R' h' S S') (w : Own R h S2) (n : ∀ b, b ∈ S2 → b ∉ S) : Stp R h R' h' (S ++ S2) (S' ++ S2) where
  ext := a.ext
  keep := fun b o hn e => a.keep b o (fun q => hn (List.mem_append_left _ q)) e
  frS := fun b o hn e q => (List.mem_append.1 q).elim (a.frS b o (fun q => hn (List.mem_append_left _ q)) e) (fun q => hn (List.mem_append_right _ q))
  frR := fun b o hn e r => a.frR b o (fun q => hn (List.mem_append_left _ q)) e r
  own := by
    obtain ⟨w2, _, _⟩ := a.frame w n
    exact ⟨w2.sub, fun b hb => (List.mem_append.1 hb).elim (a.own.dis b) (w2.dis b), fun b hb => (List.mem_append.1 hb).elim (a.own.kn b) (w2.kn b)⟩
theorem Own.nil {R h : Hp} {S : List Nat} (w : Own R h S) : Own R h [] := ⟨w.sub, fun b hb => (by cases hb), fun b hb => (by cases hb)⟩
/-- A step that only makes what is to be read: a block. -/
theorem Stp.block {R h : Hp} {S : List Nat} {r : Nat} (o : AObj) (w : Own R h S) (hr : h r = none) : Stp R h (R.set r o) (h.set r o) S S := by
  have hRb : R r = none := w.sub.none hr
  refine ⟨ext_set _ hRb, fun x o' hn e => ?_, fun x o' hn e => hn, fun x o' hn e r' => ?_, ⟨fun x o' e => ?_, fun x hx => ?_, fun x hx => ?_⟩⟩
  · rw [Hp.set_ne _ _ (by rintro rfl; rw [hr] at e; cases e)]; exact e
  · rw [Hp.set_ne _ _ (by rintro rfl; rw [hr] at e; cases e)]; exact r'
  · by_cases q : x = r
    · subst q; rw [Hp.set_same] at e ⊢; exact e
    · rw [Hp.set_ne _ _ q] at e ⊢; exact w.sub x o' e
  · rw [Hp.set_ne _ _ (by rintro rfl; obtain ⟨o2, e⟩ := w.kn x hx; rw [hr] at e; cases e)]; exact w.dis x hx
  · obtain ⟨o2, e⟩ := w.kn x hx
    exact ⟨o2, by rw [Hp.set_ne _ _ (by rintro rfl; rw [hr] at e; cases e)]; exact e⟩
/-- A new row, to be read. -/
theorem Stp.new {R h : Hp} {S : List Nat} {t s n : Nat} {v : Value} {h' : Hp} {xs : List Value} (w : Own R h S) (nw : New h t s v h' xs n) : ∃ R', Stp R h R' h' S S ∧ Rds R' s v xs n := by
  rcases nw.2 with ⟨rfl, rfl, rfl⟩ | ⟨b, c, f, hb, hc, rfl, rfl, hf⟩
  · exact ⟨R, .refl w, nw.1, none, 0, rfl, Nat.le_refl _, .inl rfl⟩
  · exact ⟨_, Stp.block _ w hb, nw.1, _, c, rfl, hc, .inr ⟨b, 0, rfl, fun i x e => by rw [cell_row (Hp.set_same ..), Nat.zero_add]; exact e⟩⟩
theorem Stp.newN {R h : Hp} {S : List Nat} {t : Nat} {v : Value} {h' : Hp} {k : IntKind} {l : List Nat} (w : Own R h S) (nw : Nn h t k v h' l) : ∃ R', Stp R h R' h' S S ∧ Rn R' k v l := Stp.new w nw
theorem Own.rn {R h : Hp} {S : List Nat} {k : IntKind} {v : Value} {l : List Nat} (w : Own R h S) (r : Rn R k v l) : Rn h k v l := r.mono w.sub.cle
end Go.Proofs.Ytnecdbclhdbaoaa
