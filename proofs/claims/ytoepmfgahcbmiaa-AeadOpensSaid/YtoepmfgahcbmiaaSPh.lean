/- Plain: what is left of a number by 2^130 - 5, in rounds. Conditions: none; no program in sight. -/
import Derived.Test.YtoepmfgahcbmiaaSPg
set_option linter.unusedSimpArgs false
set_option linter.unusedVariables false
set_option maxRecDepth 100000
namespace Go.Pure
abbrev QQ : Nat := 1361129467683753853853498429727072845824
def stepR (v : Nat) : Nat := v % QQ + 5 * (v / QQ)
def iterR (v : Nat) : Nat → Nat
  | 0 => v
  | i + 1 => stepR (iterR v i)
theorem stepR_le (v : Nat) : stepR v ≤ v := by unfold stepR QQ; omega
theorem iterR_le (v i : Nat) : iterR v i ≤ v := by
  induction i with
  | zero => exact Nat.le_refl _
  | succ i ih => exact Nat.le_trans (stepR_le _) ih
theorem stepR_red (v : Nat) : Red v (stepR v) := ⟨v / QQ, by unfold stepR QQ PP; omega⟩
theorem iterR_red (v i : Nat) : Red v (iterR v i) := by
  induction i with
  | zero => exact Red.refl _
  | succ i ih => exact ih.trans (stepR_red _)
theorem iterR_lt (v : Nat) (hv : v < 2 ^ 256) : iterR v 4 < QQ := by
  have h1 : iterR v 1 < 2 * QQ := by
    show stepR v < _
    unfold stepR QQ
    omega
  have h2 : iterR v 2 < QQ := by
    show stepR (iterR v 1) < QQ
    have h3 : iterR v 1 < 1361129467683753853853498429727072845824 + 600000000000000000000000000000000000000 := by
      show stepR v < _
      unfold stepR QQ
      omega
    generalize iterR v 1 = w at *
    unfold stepR QQ at *
    omega
  have h3 : iterR v 3 < QQ := Nat.lt_of_le_of_lt (stepR_le _) h2
  exact Nat.lt_of_le_of_lt (stepR_le _) h3
/-- The byte i of a number above 130 bits. -/
theorem high_byte {A : List Nat} (hA : Bytes A) (i : Nat) : leval A / QQ / 256 ^ i % 256 = A.getD (16 + i) 0 / 4 + A.getD (17 + i) 0 % 4 * 64 := by
  have e1 : leval A / QQ / 256 ^ i = leval (A.drop (16 + i)) / 4 := by
    rw [leval_drop A hA, Nat.pow_add, Nat.div_div_eq_div_mul, Nat.div_div_eq_div_mul]
    congr 1
    have : QQ = 256 ^ 16 * 4 := rfl
    rw [this, Nat.mul_assoc, Nat.mul_assoc, Nat.mul_comm 4]
  have e2 : leval (A.drop (16 + i)) = A.getD (16 + i) 0 + 256 * (A.getD (17 + i) 0 + 256 * leval (A.drop (18 + i))) := by
    have d : ∀ n, leval (A.drop n) = A.getD n 0 + 256 * leval (A.drop (n + 1)) := by
      intro n
      rcases Nat.lt_or_ge n A.length with q | q
      · rw [List.drop_eq_getElem_cons q]
        simp [leval, List.getD_eq_getElem?_getD, q]
      · rw [List.drop_of_length_le q, List.drop_of_length_le (by omega)]
        simp [leval, List.getElem?_eq_none q]
    rw [d (16 + i), show 16 + i + 1 = 17 + i by omega, d (17 + i), show 17 + i + 1 = 18 + i by omega]
  have h1 := hA.getD (16 + i)
  have h2 := hA.getD (17 + i)
  rw [e1, e2]
  omega
theorem low_val {A : List Nat} (hA : Bytes A) (hl : 17 ≤ A.length) : leval (A.take 16 ++ [A.getD 16 0 % 4]) = leval A % QQ := by
  rw [leval_append]
  have h16 : (A.take 16).length = 16 := by rw [List.length_take]; omega
  have e : leval A = leval (A.take 16) + 256 ^ 16 * leval (A.drop 16) := by
    conv => lhs; rw [← List.take_append_drop 16 A, leval_append, h16]
  have e2 : leval (A.drop 16) = A.getD 16 0 + 256 * leval (A.drop 17) := by
    rw [List.drop_eq_getElem_cons (show 16 < A.length by omega)]
    simp [leval, List.getD_eq_getElem?_getD, show 16 < A.length by omega]
  have h1 := leval_take_lt A hA 16
  rw [h16, e, e2]
  have p : (256 : Nat) ^ 16 = 340282366920938463463374607431768211456 := rfl
  rw [p] at *
  simp only [leval, QQ]
  omega
theorem le_take (n k v : Nat) (h : k ≤ n) : (le n v).take k = le k v := by
  obtain ⟨d, rfl⟩ : ∃ d, n = k + d := ⟨n - k, by omega⟩
  rw [le_append, List.take_append_of_le_length (by rw [le_len]; omega), List.take_of_length_le (by rw [le_len]; omega)]
/-- What is left, when the prime itself is taken away. -/
theorem rest_fin (w v : Nat) (hw : w < QQ) (r : Red v w) : v % PP = if w < PP then w else w + 5 - QQ := by
  rw [r.mod]
  split
  · rename_i h; exact Nat.mod_eq_of_lt h
  · rename_i h
    unfold QQ PP at *
    rw [Nat.mod_eq_sub_mod (by omega), Nat.mod_eq_of_lt (by omega)]
    omega
end Go.Pure
