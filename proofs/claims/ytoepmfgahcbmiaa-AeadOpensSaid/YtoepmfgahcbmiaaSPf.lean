/- Plain arithmetic of the tag: products, what is left, bytes. Conditions: none; no program in sight. -/
import Derived.Test.YtoepmfgahcbmiaaSPe
set_option linter.unusedSimpArgs false
set_option linter.unusedVariables false
namespace Go.Pure

/-! ### Products -/
theorem tval_spec (i k : Nat) (S R : List Nat) {B C : Nat} (bS : Lim B S) (bR : Lim C R) (hBC : B * C * 5 ≤ 18446744073709551616) (hB : 0 < B) (hC : 0 < C) :
    tval i k S R = (if 5 ≤ i + k then S.getD i 0 * R.getD k 0 * 5 else S.getD i 0 * R.getD k 0) ∧ tval i k S R < B * C * 5 := by
  have h1 := bS i
  have h2 := bR k
  have h3 : S.getD i 0 * R.getD k 0 < B * C := Nat.mul_lt_mul_of_lt_of_lt h1 h2
  unfold tval
  have m1 : S.getD i 0 * R.getD k 0 % 18446744073709551616 = S.getD i 0 * R.getD k 0 := Nat.mod_eq_of_lt (by omega)
  rw [m1]
  split
  · rw [Nat.mod_eq_of_lt (by omega)]
    exact ⟨rfl, by omega⟩
  · exact ⟨rfl, by omega⟩
theorem pow26_5 (n : Nat) : 67108864 ^ (n + 5) = 67108864 ^ n * (PP + 5) := by rw [Nat.pow_add]

theorem tin_spec (S R : List Nat) (i : Nat) (hi : i < 5) (O : List Nat) (hO : O.length = 5) {B C D : Nat} (bS : Lim B S) (bR : Lim C R) (hBC : B * C * 5 ≤ 18446744073709551616) (hB : 0 < B) (hC : 0 < C) (bO : Lim D O) (k : Nat) (hk : k ≤ 5)
    (hD : D + 5 * (B * C * 5) ≤ 18446744073709551616) :
    Red (lval O + 67108864 ^ i * (S.getD i 0 * lval (R.take k))) (lval (tin S R i O k)) ∧ Lim (D + k * (B * C * 5)) (tin S R i O k) := by
  have take_succ : ∀ (l : List Nat) (i : Nat), lval (l.take (i + 1)) = lval (l.take i) + 67108864 ^ i * l.getD i 0 := by
    intro l
    induction l with
    | nil => intro i; simp [lval]
    | cons x l ih =>
      intro i
      cases i with
      | zero => simp [lval]
      | succ i =>
        simp only [List.take_succ_cons, lval, List.getD_cons_succ, Nat.pow_succ]
        rw [ih i, Nat.mul_comm (67108864 ^ i) 67108864, Nat.mul_assoc]
        omega
  induction k with
  | zero => exact ⟨⟨0, by simp [tin, lval]⟩, by simpa [tin] using bO⟩
  | succ k ih =>
    obtain ⟨h1, h2⟩ := ih (by omega)
    obtain ⟨e1, b1⟩ := tval_spec i k S R bS bR hBC hB hC
    have hm : (i + k) % 5 < 5 := Nat.mod_lt _ (by decide)
    have hlen : (i + k) % 5 < (tin S R i O k).length := by rw [tin_len]; omega
    have hx := h2 ((i + k) % 5)
    have hkm : k * (B * C * 5) ≤ 4 * (B * C * 5) := Nat.mul_le_mul_right _ (by omega)
    have e2 : (k + 1) * (B * C * 5) = k * (B * C * 5) + B * C * 5 := Nat.succ_mul _ _
    have hw : (tin S R i O k).getD ((i + k) % 5) 0 + tval i k S R < 18446744073709551616 := by omega
    simp only [tin, Nat.mod_eq_of_lt hw]
    refine ⟨?_, fun j => ?_⟩
    · have hs := lval_set (tin S R i O k) ((i + k) % 5) ((tin S R i O k).getD ((i + k) % 5) 0 + tval i k S R) hlen
      rw [Nat.mul_add] at hs
      have hl : lval ((tin S R i O k).set ((i + k) % 5) ((tin S R i O k).getD ((i + k) % 5) 0 + tval i k S R)) = lval (tin S R i O k) + 67108864 ^ ((i + k) % 5) * tval i k S R := by omega
      rw [hl, take_succ, Nat.mul_add, Nat.mul_add, ← Nat.add_assoc]
      have e3 : 67108864 ^ i * (S.getD i 0 * (67108864 ^ k * R.getD k 0)) = 67108864 ^ (i + k) * (S.getD i 0 * R.getD k 0) := by
        rw [Nat.pow_add, Nat.mul_left_comm (S.getD i 0), Nat.mul_assoc]
      rw [e3]
      refine (h1.add _).trans ?_
      refine Red.addL _ ?_
      rw [e1]
      split
      · rename_i hge
        have e4 : i + k = (i + k) % 5 + 5 := by omega
        generalize (i + k) % 5 = n at e4 ⊢
        rw [e4, pow26_5]
        refine ⟨67108864 ^ n * (S.getD i 0 * R.getD k 0), ?_⟩
        rw [Nat.mul_add, Nat.add_mul, Nat.add_comm]
        congr 1
        · rw [Nat.mul_comm (S.getD i 0 * R.getD k 0) 5]; simp only [Nat.mul_assoc]
        · rw [Nat.mul_comm (67108864 ^ n) PP, Nat.mul_assoc]
      · rw [Nat.mod_eq_of_lt (show i + k < 5 by omega)]
        exact Red.refl _
    · rw [getD_setI _ _ _ _ hlen, e2]
      split
      · omega
      · have := h2 j; omega
theorem lval_take (l : List Nat) (i : Nat) : lval (l.take (i + 1)) = lval (l.take i) + 67108864 ^ i * l.getD i 0 := by
  induction l generalizing i with
  | nil => simp [lval]
  | cons x l ih =>
    cases i with
    | zero => simp [lval]
    | succ i =>
      simp only [List.take_succ_cons, lval, List.getD_cons_succ, Nat.pow_succ]
      rw [ih i, Nat.mul_comm (67108864 ^ i) 67108864, Nat.mul_assoc]
      omega
theorem tout_spec (S R : List Nat) (hS : S.length = 5) (hR : R.length = 5) {B C : Nat} (bS : Lim B S) (bR : Lim C R) (hBC : 26 * (B * C * 5) ≤ 18446744073709551616) (hB : 0 < B) (hC : 0 < C) (i : Nat) (hi : i ≤ 5) :
    Red (lval (S.take i) * lval R) (lval (tout S R i)) ∧ Lim (1 + 5 * i * (B * C * 5)) (tout S R i) := by
  induction i with
  | zero =>
    refine ⟨⟨0, ?_⟩, fun j => ?_⟩
    · simp [lval, tout, zero5]
    · match j with
      | 0 | 1 | 2 | 3 | 4 => simp [tout, zero5]
      | j + 5 => simp [tout, zero5]
  | succ i ih =>
    obtain ⟨h1, h2⟩ := ih (by omega)
    have hp : 0 < B * C * 5 := Nat.mul_pos (Nat.mul_pos hB hC) (by decide)
    have e0 : 5 * i * (B * C * 5) ≤ 20 * (B * C * 5) := Nat.mul_le_mul_right _ (by omega)
    obtain ⟨g1, g2⟩ := tin_spec S R i (by omega) (tout S R i) (tout_len S R i) bS bR (by omega) hB hC h2 5 (by omega) (by omega)
    have et : R.take 5 = R := List.take_of_length_le (by omega)
    rw [et] at g1
    have e2 : 5 * (i + 1) * (B * C * 5) = 5 * i * (B * C * 5) + 5 * (B * C * 5) := by rw [Nat.mul_add, Nat.add_mul]
    refine ⟨?_, by rw [e2, ← Nat.add_assoc]; exact g2⟩
    rw [lval_take, Nat.add_mul, Nat.mul_assoc]
    exact (h1.add _).trans g1
theorem timesL_spec (S R : List Nat) (hS : S.length = 5) (hR : R.length = 5) (bS : Lim 268435456 S) (bR : Lim 67108864 R) :
    Red (lval S * lval R) (lval (timesL S R)) ∧ Lim 67125248 (timesL S R) := by
  obtain ⟨h1, h2⟩ := tout_spec S R hS hR bS bR (by omega) (by omega) (by omega) 5 (by omega)
  rw [List.take_of_length_le (by omega)] at h1
  have h3 : Lim 2251799813685248001 (tout S R 5) := h2.mono (by omega)
  obtain ⟨g1, g2, g3, _⟩ := carryL_spec (tout S R 5) (tout_len S R 5) h3 (by omega)
  refine ⟨h1.trans g1, fun j => ?_⟩
  show (carryL (tout S R 5)).getD j 0 < _
  by_cases e : j = 1
  · subst e; omega
  · have := g2 j
    rw [getD_setI _ _ _ _ (by rw [carryL_len, tout_len]; omega), if_neg e] at this
    omega

/-! ### What is left -/
theorem redN_spec (T : List Nat) (hT : T.length = 5) (bT : Lim 67108864 T) (i : Nat) (hi : i ≤ 4) :
    lval (redN T i) = lval T + 5 ∧ (∀ j, j < i → (redN T i).getD j 0 < 67108864) ∧ (∀ j, i < j → (redN T i).getD j 0 = T.getD j 0) ∧ (redN T i).getD i 0 < 67108864 + 5 := by
  induction i with
  | zero =>
    have h0 := bT 0
    have m : (T.getD 0 0 + 5) % 18446744073709551616 = T.getD 0 0 + 5 := Nat.mod_eq_of_lt (by omega)
    have hs := lval_set T 0 (T.getD 0 0 + 5) (by omega)
    simp only [redN, m]
    refine ⟨by simp only [Nat.pow_zero, Nat.one_mul] at hs; omega, fun j hj => by omega, fun j hj => ?_, ?_⟩
    · rw [getD_setI _ _ _ _ (by omega), if_neg (by omega)]
    · rw [getD_setI _ _ _ _ (by omega), if_pos rfl]; omega
  | succ i ih =>
    obtain ⟨h1, h2, h3, h4⟩ := ih (by omega)
    have e1 := h3 (i + 1) (by omega)
    have b1 := bT (i + 1)
    have l1 : i + 1 < (redN T i).length := by rw [redN_len]; omega
    have m : ((redN T i).getD (i + 1) 0 + (redN T i).getD i 0 / 67108864) % 18446744073709551616 = (redN T i).getD (i + 1) 0 + (redN T i).getD i 0 / 67108864 := Nat.mod_eq_of_lt (by omega)
    have hs := lval_set (redN T i) (i + 1) ((redN T i).getD (i + 1) 0 + (redN T i).getD i 0 / 67108864) l1
    have g1 : ((redN T i).set (i + 1) ((redN T i).getD (i + 1) 0 + (redN T i).getD i 0 / 67108864)).getD i 0 = (redN T i).getD i 0 := by rw [getD_setI _ _ _ _ l1, if_neg (by omega)]
    have hs2 := lval_set ((redN T i).set (i + 1) ((redN T i).getD (i + 1) 0 + (redN T i).getD i 0 / 67108864)) i ((redN T i).getD i 0 % 67108864) (by rw [List.length_set]; omega)
    simp only [redN, m, g1]
    rw [g1] at hs2
    refine ⟨?_, fun j hj => ?_, fun j hj => ?_, ?_⟩
    · have hd := Nat.div_add_mod ((redN T i).getD i 0) 67108864
      rw [Nat.mul_add, Nat.pow_succ, Nat.mul_assoc, Nat.mul_assoc] at hs
      have : 67108864 ^ i * (67108864 * ((redN T i).getD i 0 / 67108864)) + 67108864 ^ i * ((redN T i).getD i 0 % 67108864) = 67108864 ^ i * (redN T i).getD i 0 := by rw [← Nat.mul_add, hd]
      omega
    · rw [getD_setI _ _ _ _ (by rw [List.length_set]; omega)]
      split
      · exact Nat.mod_lt _ (by decide)
      · rw [getD_setI _ _ _ _ l1, if_neg (by omega)]; exact h2 j (by omega)
    · rw [getD_setI _ _ _ _ (by rw [List.length_set]; omega), if_neg (by omega), getD_setI _ _ _ _ l1, if_neg (by omega)]; exact h3 j (by omega)
    · rw [getD_setI _ _ _ _ (by rw [List.length_set]; omega), if_neg (by omega), getD_setI _ _ _ _ l1, if_pos rfl]; omega
theorem lval_lt5 {T : List Nat} (hT : T.length = 5) (bT : Lim 67108864 T) : lval T < PP + 5 := by
  rw [lval5 hT]
  have h0 := bT 0
  have h1 := bT 1
  have h2 := bT 2
  have h3 := bT 3
  have h4 := bT 4
  simp only [PP]
  omega
theorem reduceL_spec (S : List Nat) (hS : S.length = 5) (bS : Lim 67125248 S) : lval (reduceL S) = lval S % PP ∧ Lim 67108864 (reduceL S) := by
  obtain ⟨a1, a2, a3, a4⟩ := carryL_spec S hS bS (by omega)
  have a4 := (a4 (by omega)).1
  have lA : (carryL S).length = 5 := by rw [carryL_len, hS]
  have bA : Lim 67108865 (carryL S) := fun j => by
    by_cases e : j = 1
    · subst e; omega
    · have := a2 j
      rw [getD_setI _ _ _ _ (by omega), if_neg e] at this
      omega
  obtain ⟨b1, b2, b3, b4⟩ := carryL_spec (carryL S) lA bA (by omega)
  have bB := (b4 (by omega)).2 a2 a4
  have lB : (carryL (carryL S)).length = 5 := by rw [carryL_len, lA]
  have hm := (a1.trans b1).mod
  unfold reduceL
  generalize carryL (carryL S) = T at bB lB hm
  obtain ⟨c1, c2, c3, c4⟩ := redN_spec T lB bB 4 (by omega)
  have hlt := lval_lt5 lB bB
  have lM : (redN T 4).length = 5 := by rw [redN_len, lB]
  unfold redE
  generalize redN T 4 = M at c1 c2 c3 c4 lM
  have d0 := c2 0 (by omega)
  have d1 := c2 1 (by omega)
  have d2 := c2 2 (by omega)
  have d3 := c2 3 (by omega)
  have e5 := lval5 lM
  have hs := lval_set M 4 (M.getD 4 0 % 67108864) (by omega)
  simp only [PP] at *
  split
  · rename_i hne
    have h4 : M.getD 4 0 / 67108864 = 1 := by omega
    have p4 : (67108864 : Nat) ^ 4 = 20282409603651670423947251286016 := rfl
    rw [p4] at hs
    refine ⟨?_, fun j => ?_⟩
    · rw [hm]
      have : lval T % 1361129467683753853853498429727072845819 = lval T - 1361129467683753853853498429727072845819 := by
        have h1 : 1361129467683753853853498429727072845819 ≤ lval T := by omega
        rw [Nat.mod_eq_sub_mod h1, Nat.mod_eq_of_lt (by omega)]
      rw [this]
      omega
    · rw [getD_setI _ _ _ _ (by omega)]
      split
      · exact Nat.mod_lt _ (by decide)
      · match j with
        | 0 => exact d0
        | 1 => exact d1
        | 2 => exact d2
        | 3 => exact d3
        | 4 => omega
        | j + 5 => simp [List.getElem?_eq_none (show M.length ≤ j + 5 by omega)]
  · rename_i hz
    refine ⟨?_, bB⟩
    rw [hm, Nat.mod_eq_of_lt]
    omega
end Go.Pure
