/- What the reference's products come to. Conditions: each names its own. -/
import Derived.Test.YtoepmfgahcbmiaaSXg
set_option linter.unusedSimpArgs false
set_option linter.unusedVariables false
set_option maxRecDepth 100000
set_option maxHeartbeats 2000000
namespace Go.Proofs.Ytoepmfgahcbmiaa
open Go Go.SL Go.Pure

theorem le_leval {l : List Nat} (h : Bytes l) : le l.length (leval l) = l := by
  induction l with
  | nil => rfl
  | cons x l ih =>
    have hx := h x (List.mem_cons_self ..)
    have e1 : leval (x :: l) % 256 = x := by simp only [leval]; omega
    have e2 : leval (x :: l) / 256 = leval l := by simp only [leval]; omega
    simp only [List.length_cons, le, e1, e2, ih fun y hy => h y (List.mem_cons_of_mem _ hy)]
theorem leval_set (l : List Nat) (i x : Nat) (hi : i < l.length) : leval (l.set i x) + 256 ^ i * l.getD i 0 = leval l + 256 ^ i * x := by
  induction l generalizing i with
  | nil => simp at hi
  | cons y l ih =>
    cases i with
    | zero => simp [leval]; omega
    | succ i =>
      have := ih i (by simpa using hi)
      simp only [List.set_cons_succ, leval, List.getD_cons_succ, Nat.pow_succ]
      have e1 : 256 ^ i * 256 * l.getD i 0 = 256 * (256 ^ i * l.getD i 0) := by rw [Nat.mul_comm (256 ^ i) 256, Nat.mul_assoc]
      have e2 : 256 ^ i * 256 * x = 256 * (256 ^ i * x) := by rw [Nat.mul_comm (256 ^ i) 256, Nat.mul_assoc]
      rw [e1, e2]
      omega

/-- What is carried along in a product. -/
def Mul (a b : List Nat) (i k c : Nat) (o : List Nat) : Prop :=
  o.length = 36 ∧ Bytes o ∧ c < 256 ∧ leval o + 256 ^ (i + k) * c = leval (a.take i) * leval b + 256 ^ i * (a.getD i 0 * leval (b.take k))
theorem Mul.bound {a b o : List Nat} {i k c : Nat} (m : Mul a b i k c o) (ha : Bytes a) (hb : Bytes b) (hc : 0 < c) : k ≤ b.length := by
  obtain ⟨_, _, _, e⟩ := m
  rcases Nat.lt_or_ge b.length k with h | h
  · exfalso
    have h1 := leval_take_lt a ha i
    have h2 := leval_lt b hb
    have h3 := leval_take_lt b hb k
    have h4 := ha.getD i
    have h5 : leval (b.take k) = leval b := by rw [List.take_of_length_le (by omega)]
    rw [h5] at e
    -- the right side is below 256 ^ (i + 1 + b.length)
    have e1 : leval (a.take i) * leval b + 256 ^ i * (a.getD i 0 * leval b) = (leval (a.take i) + 256 ^ i * a.getD i 0) * leval b := by rw [Nat.add_mul, Nat.mul_assoc]
    have e2 : leval (a.take i) + 256 ^ i * a.getD i 0 = leval (a.take (i + 1)) := (leval_take_succ a i).symm
    have h6 := leval_take_lt a ha (i + 1)
    have h7 : leval (a.take (i + 1)) * leval b < 256 ^ (i + 1) * 256 ^ b.length := Nat.mul_lt_mul_of_lt_of_lt h6 h2
    rw [e1, e2] at e
    rw [← Nat.pow_add] at h7
    have h8 : 256 ^ (i + 1 + b.length) ≤ 256 ^ (i + k) := Nat.pow_le_pow_right (by decide) (by omega)
    have h9 : 256 ^ (i + k) ≤ 256 ^ (i + k) * c := Nat.le_mul_of_pos_right _ hc
    omega
  · exact h
theorem Mul.step {a b o : List Nat} {i k c : Nat} (m : Mul a b i k c o) (ha : Bytes a) (hb : Bytes b) (hk : i + k < 36) (v : Nat) (hv : v = o.getD (i + k) 0 + c + a.getD i 0 * b.getD k 0) : Mul a b i (k + 1) (v / 256) (o.set (i + k) (v % 256)) := by
  obtain ⟨lo, bo, hc, e⟩ := m
  have h1 := bo.getD (i + k)
  have h2 := ha.getD i
  have h3 := hb.getD k
  have h4 : a.getD i 0 * b.getD k 0 ≤ 255 * 255 := Nat.mul_le_mul (by omega) (by omega)
  refine ⟨by rw [List.length_set]; exact lo, bo.set _ (Nat.mod_lt _ (by decide)), by omega, ?_⟩
  have hs := leval_set o (i + k) (v % 256) (by omega)
  have ht := leval_take_succ b k
  rw [ht]
  have p1 : 256 ^ (i + (k + 1)) = 256 ^ (i + k) * 256 := by rw [← Nat.add_assoc, Nat.pow_succ]
  have p2 : 256 ^ i * (a.getD i 0 * (leval (b.take k) + 256 ^ k * b.getD k 0)) = 256 ^ i * (a.getD i 0 * leval (b.take k)) + 256 ^ (i + k) * (a.getD i 0 * b.getD k 0) := by
    rw [Nat.mul_add, Nat.mul_add, Nat.pow_add]
    congr 1
    rw [Nat.mul_left_comm (a.getD i 0), ← Nat.mul_assoc]
  rw [p1, p2, Nat.mul_assoc]
  have p3 : 256 ^ (i + k) * (256 * (v / 256)) + 256 ^ (i + k) * (v % 256) = 256 ^ (i + k) * v := by rw [← Nat.mul_add, Nat.div_add_mod]
  have p4 : 256 ^ (i + k) * v = 256 ^ (i + k) * o.getD (i + k) 0 + 256 ^ (i + k) * c + 256 ^ (i + k) * (a.getD i 0 * b.getD k 0) := by rw [hv, Nat.mul_add, Nat.mul_add]
  omega
end Go.Proofs.Ytoepmfgahcbmiaa
