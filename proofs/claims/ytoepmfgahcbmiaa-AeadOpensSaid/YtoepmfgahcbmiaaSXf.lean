/- What the reference's numbers as bytes come to: which is less; the prime. Conditions: each names its own. -/
import Derived.Test.YtoepmfgahcbmiaaSXe
import Derived.Test.YtoepmfgahcbmiaaSWl
set_option linter.unusedSimpArgs false
set_option linter.unusedVariables false
set_option maxRecDepth 100000
set_option maxHeartbeats 2000000
namespace Go.Proofs.Ytoepmfgahcbmiaa
open Go Go.SL Go.Pure

theorem leval_at (a : List Nat) (j : Nat) : leval a = leval (a.take j) + 256 ^ j * (a.getD j 0 + 256 * leval (a.drop (j + 1))) := by
  rw [leval_split a (j + 1), leval_take_succ, Nat.pow_succ, Nat.mul_add, ← Nat.mul_assoc]
  omega
theorem less_at {a b : List Nat} (ha : Bytes a) (hb : Bytes b) (j : Nat) (he : a.drop (j + 1) = b.drop (j + 1)) (hne : a.getD j 0 ≠ b.getD j 0) : (leval a < leval b) ↔ a.getD j 0 < b.getD j 0 := by
  rw [leval_at a j, leval_at b j, he]
  have h1 := leval_take_lt a ha j
  have h2 := leval_take_lt b hb j
  have hp : 0 < 256 ^ j := Nat.pow_pos (by decide)
  generalize 256 ^ j = M at h1 h2 hp ⊢
  generalize leval (b.drop (j + 1)) = D
  generalize a.getD j 0 = x at hne ⊢
  generalize b.getD j 0 = y at hne ⊢
  constructor
  · intro q
    rcases Nat.lt_or_ge x y with h | h
    · exact h
    · exfalso
      have hxy : y + 1 ≤ x := by omega
      have : M * (y + 1 + 256 * D) ≤ M * (x + 256 * D) := Nat.mul_le_mul_left M (by omega)
      have e : M * (y + 1 + 256 * D) = M * (y + 256 * D) + M := by rw [show y + 1 + 256 * D = (y + 256 * D) + 1 by omega, Nat.mul_add, Nat.mul_one]
      omega
  · intro q
    have : M * (x + 1 + 256 * D) ≤ M * (y + 256 * D) := Nat.mul_le_mul_left M (by omega)
    have e : M * (x + 1 + 256 * D) = M * (x + 256 * D) + M := by rw [show x + 1 + 256 * D = (x + 256 * D) + 1 by omega, Nat.mul_add, Nat.mul_one]
    omega

section
variable {h : Hp} {K : Value → Hp → Prop}
theorem T_ref_less {va vb : Value} {a b : List Nat} (ha : Rn h .i64 va a) (hb : Rn h .i64 vb b) (ba : Bytes a) (bb : Bytes b) (la : a.length = 17) (lb : b.length = 17) (k : K (.bool (decide (leval a < leval b))) h) : Cn P n_orlopref05_less #[va, vb] h K := by
  refine F_orlopref05_less ?_
  unfold s_orlopref05_less
  obtain ⟨aa, ca, rfl, hca⟩ := ha.shape
  obtain ⟨ab, cb, rfl, hcb⟩ := hb.shape
  obtain ⟨b1, o1, rfl, hy1⟩ := ha.pos (by omega)
  obtain ⟨b2, o2, rfl, hy2⟩ := hb.pos (by omega)
  refine Lp_mk (fun u vs h' => ∃ i : Nat, i = u ∧ i ≤ 17 ∧ h' = h ∧ a.drop i = b.drop i ∧ vs = [.bool false, .int .i64 ((i : Int) - 1)]) 17 ⟨17, rfl, by omega, rfl, by rw [List.drop_of_length_le (by omega), List.drop_of_length_le (by omega)], rfl⟩ ?_
  rintro u vs h2 ⟨i, rfl, hi, rfl, hd, rfl⟩
  by_cases h0 : i = 0
  · subst h0
    simp only [List.drop_zero] at hd
    subst hd
    have e : decide ((0 : Int) ≤ ((0 : Nat) : Int) - 1) = false := rfl
    simp (disch := omega) only [GL, RL, e, Bool.false_eq_true, if_false]
    simpa using k
  · obtain ⟨j, rfl⟩ : ∃ j, i = j + 1 := ⟨i - 1, by omega⟩
    have e0 : ((j + 1 : Nat) : Int) - 1 = (j : Int) := by omega
    have e1 : decide ((0 : Int) ≤ (j : Int)) = true := decide_eq_true (by omega)
    have c1 := hy1 j (by omega)
    have c2 := hy2 j (by omega)
    rw [e0]
    simp (disch := omega) only [GL, RL, e1, if_true, c1, c2, ne_dec, lt_dec]
    by_cases hne : a.getD j 0 ≠ b.getD j 0
    · have hl := less_at ba bb j hd hne
      simp only [hne, ne_eq, not_false_eq_true, decide_true, if_true]
      have : decide (leval a < leval b) = decide (a.getD j 0 < b.getD j 0) := by rw [decide_eq_decide]; exact hl
      rw [this] at k
      exact k
    · have he : a.getD j 0 = b.getD j 0 := by simpa using hne
      simp only [hne, ne_eq, not_true_eq_false, decide_false, Bool.false_eq_true, if_false]
      simp (disch := omega) only [GL, RL, wi64]
      refine ⟨_, .refl _, j, by omega, j, rfl, by omega, rfl, ?_, rfl⟩
      have q1 := List.drop_eq_getElem_cons (l := a) (i := j) (by omega)
      have q2 := List.drop_eq_getElem_cons (l := b) (i := j) (by omega)
      rw [q1, q2, hd]
      simp [List.getD_eq_getElem?_getD, show j < a.length by omega, show j < b.length by omega] at he
      rw [he]
end
end Go.Proofs.Ytoepmfgahcbmiaa
