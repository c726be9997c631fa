/- Plain arithmetic of the tag: five limbs and the number they are, by 2^130 - 5. Conditions: none; no program in sight. -/
import Derived.Test.YtoepmfgahcbmiaaSPc
set_option linter.unusedSimpArgs false
set_option linter.unusedVariables false
namespace Go.Pure
abbrev PP : Nat := 1361129467683753853853498429727072845819
/-- The number that limbs are. -/
def lval : List Nat → Nat
  | [] => 0
  | x :: l => x + 67108864 * lval l
/-- What is less by a multiple. -/
def Red (a b : Nat) : Prop := ∃ q, a = b + PP * q
theorem Red.refl (a : Nat) : Red a a := ⟨0, rfl⟩
theorem Red.of {a b : Nat} (e : a = b) : Red a b := ⟨0, e⟩
theorem Red.trans {a b c : Nat} (x : Red a b) (y : Red b c) : Red a c := by
  obtain ⟨q, rfl⟩ := x
  obtain ⟨r, rfl⟩ := y
  exact ⟨r + q, by rw [Nat.mul_add]; omega⟩
theorem Red.mod {a b : Nat} (x : Red a b) : a % PP = b % PP := by
  obtain ⟨q, rfl⟩ := x
  exact Nat.add_mul_mod_self_left b PP q
theorem Red.add {a b : Nat} (x : Red a b) (c : Nat) : Red (a + c) (b + c) := by
  obtain ⟨q, rfl⟩ := x
  exact ⟨q, by omega⟩
theorem Red.addL {a b : Nat} (c : Nat) (x : Red a b) : Red (c + a) (c + b) := by
  obtain ⟨q, rfl⟩ := x
  exact ⟨q, by omega⟩

theorem lval_set (l : List Nat) (i x : Nat) (hi : i < l.length) : lval (l.set i x) + 67108864 ^ i * l.getD i 0 = lval l + 67108864 ^ i * x := by
  induction l generalizing i with
  | nil => simp at hi
  | cons y l ih =>
    cases i with
    | zero => simp [lval]; omega
    | succ i =>
      have := ih i (by simpa using hi)
      simp only [List.set_cons_succ, lval, List.getD_cons_succ, Nat.pow_succ]
      have e1 : 67108864 ^ i * 67108864 * l.getD i 0 = 67108864 * (67108864 ^ i * l.getD i 0) := by rw [Nat.mul_comm (67108864 ^ i) 67108864, Nat.mul_assoc]
      have e2 : 67108864 ^ i * 67108864 * x = 67108864 * (67108864 ^ i * x) := by rw [Nat.mul_comm (67108864 ^ i) 67108864, Nat.mul_assoc]
      rw [e1, e2]
      omega
theorem getD_setI (l : List Nat) (i j x : Nat) (hi : i < l.length) : (l.set i x).getD j 0 = if j = i then x else l.getD j 0 := by
  simp only [List.getD_eq_getElem?_getD, List.getElem?_set]
  by_cases e : i = j
  · subst e; simp [hi]
  · simp [e, Ne.symm e]
theorem list5 {l : List Nat} (h : l.length = 5) : ∃ a b c d e, l = [a, b, c, d, e] := by
  match l, h with
  | [a, b, c, d, e], _ => exact ⟨a, b, c, d, e, rfl⟩
theorem lval5 {l : List Nat} (h : l.length = 5) : lval l = l.getD 0 0 + 67108864 * l.getD 1 0 + 4503599627370496 * l.getD 2 0 + 302231454903657293676544 * l.getD 3 0 + 20282409603651670423947251286016 * l.getD 4 0 := by
  obtain ⟨a, b, c, d, e, rfl⟩ := list5 h
  simp [lval]; omega
/-- Limbs below a bound. -/
def Lim (B : Nat) (l : List Nat) : Prop := ∀ i, l.getD i 0 < B
theorem Lim.mono {B B' : Nat} {l : List Nat} (h : Lim B l) (hb : B ≤ B') : Lim B' l := fun i => Nat.lt_of_lt_of_le (h i) hb
theorem Lim.set {B : Nat} {l : List Nat} (h : Lim B l) (i : Nat) {x : Nat} (hx : x < B) : Lim B (l.set i x) := by
  intro j
  rcases Nat.lt_or_ge i l.length with hi | hi
  · rw [getD_setI l i j x hi]
    split
    · exact hx
    · exact h j
  · rw [List.set_eq_of_length_le hi]; exact h j

/-! ### Sums -/
theorem addN_spec (S M : List Nat) (hS : S.length = 5) {B C : Nat} (bS : Lim B S) (bM : Lim C M) (hBC : B + C ≤ 18446744073709551616) (hC : 0 < C) (i : Nat) (hi : i ≤ 5) :
    (∀ j, (addN S M i).getD j 0 = if j < i then S.getD j 0 + M.getD j 0 else S.getD j 0) := by
  induction i with
  | zero => intro j; simp [addN]
  | succ i ih =>
    intro j
    have ih := ih (by omega)
    have h1 := bS i
    have h2 := bM i
    have e0 : (addN S M i).getD i 0 = S.getD i 0 := by rw [ih i, if_neg (by omega)]
    rw [addN, getD_setI _ _ _ _ (by rw [addN_len]; omega), e0, Nat.mod_eq_of_lt (show S.getD i 0 + M.getD i 0 < 18446744073709551616 by omega)]
    by_cases e : j = i
    · subst e; rw [if_pos rfl, if_pos (by omega)]
    · rw [if_neg e, ih j]
      by_cases e2 : j < i
      · rw [if_pos e2, if_pos (by omega)]
      · rw [if_neg e2, if_neg (by omega)]
theorem addL_spec (S M : List Nat) (hS : S.length = 5) (hM : M.length = 5) {B C : Nat} (bS : Lim B S) (bM : Lim C M) (hBC : B + C ≤ 18446744073709551616) (hC : 0 < C) :
    lval (addL S M) = lval S + lval M ∧ Lim (B + C) (addL S M) := by
  have h := addN_spec S M hS bS bM hBC hC 5 (by omega)
  refine ⟨?_, fun j => ?_⟩
  · rw [lval5 (show (addL S M).length = 5 by rw [addL, addN_len, hS]), lval5 hS, lval5 hM]
    have e := fun j => h j
    unfold addL
    simp only [e]
    simp only [Nat.reduceLT, if_true]
    omega
  · unfold addL
    rw [h j]
    have h1 := bS j
    have h2 := bM j
    split <;> omega

/-! ### Carrying -/
theorem carryN_spec (S : List Nat) (hS : S.length = 5) {B : Nat} (bS : Lim B S) (hB : B ≤ 9223372036854775808) (i : Nat) (hi : i ≤ 5) :
    lval (carryN S i).2 + 67108864 ^ i * (carryN S i).1 = lval S ∧ (∀ j, i ≤ j → (carryN S i).2.getD j 0 = S.getD j 0) ∧ (∀ j, j < i → (carryN S i).2.getD j 0 < 67108864) ∧
      ((carryN S i).1 ≤ B / 33554432) ∧ (B ≤ 134217728 → (carryN S i).1 ≤ (if B ≤ 134217727 then 1 else 2)) := by
  induction i with
  | zero => exact ⟨by simp [carryN], fun _ _ => rfl, fun j hj => by omega, by simp [carryN], fun _ => by simp [carryN]⟩
  | succ i ih =>
    obtain ⟨h1, h2, h3, h4, h5⟩ := ih (by omega)
    have e2 := h2 i (Nat.le_refl _)
    have b2 := bS i
    have hlen : i < (carryN S i).2.length := by rw [carryN_len]; omega
    have hx : (carryN S i).2.getD i 0 + (carryN S i).1 < 18446744073709551616 := by rw [e2]; omega
    have hs := lval_set (carryN S i).2 i (((carryN S i).2.getD i 0 + (carryN S i).1) % 67108864) hlen
    simp only [carryN, Nat.mod_eq_of_lt hx]
    refine ⟨?_, fun j hj => ?_, fun j hj => ?_, ?_, fun hb => ?_⟩
    · rw [Nat.pow_succ, Nat.mul_assoc]
      have hd := Nat.div_add_mod ((carryN S i).2.getD i 0 + (carryN S i).1) 67108864
      have : 67108864 ^ i * (67108864 * (((carryN S i).2.getD i 0 + (carryN S i).1) / 67108864)) + 67108864 ^ i * (((carryN S i).2.getD i 0 + (carryN S i).1) % 67108864) =
          67108864 ^ i * (carryN S i).2.getD i 0 + 67108864 ^ i * (carryN S i).1 := by rw [← Nat.mul_add, hd, Nat.mul_add]
      omega
    · rw [getD_setI _ _ _ _ hlen, if_neg (by omega), h2 j (by omega)]
    · rw [getD_setI _ _ _ _ hlen]
      split
      · exact Nat.mod_lt _ (by decide)
      · exact h3 j (by omega)
    · rw [e2]; omega
    · have h5 := h5 hb
      rw [e2]
      split at h5
      · rename_i hle; rw [if_pos hle]; omega
      · rename_i hle; rw [if_neg hle]; omega

theorem carryL_spec (S : List Nat) (hS : S.length = 5) {B : Nat} (bS : Lim B S) (hB : B ≤ 9223372036854775808) :
    Red (lval S) (lval (carryL S)) ∧ Lim 67108864 ((carryL S).set 1 0) ∧ (carryL S).getD 1 0 < 67108864 + (B / 6710886 + 67108865) / 67108864 ∧
      (B ≤ 134217727 → (carryL S).getD 1 0 ≤ 67108864 ∧ (Lim 67108864 (S.set 1 0) → S.getD 1 0 ≤ 67108864 → Lim 67108864 (carryL S))) := by
  obtain ⟨h1, h2, h3, h4, h5⟩ := carryN_spec S hS bS hB 5 (by omega)
  have hT : (carryN S 5).2.length = 5 := by rw [carryN_len, hS]
  have eL : carryL S = carryE (carryN S 5).1 (carryN S 5).2 := rfl
  -- with no carry at all
  have hz : Lim 67108864 (S.set 1 0) → S.getD 1 0 ≤ 67108864 → (carryN S 5).1 = 0 ∧ (carryN S 5).2 = S ∧ Lim 67108864 S ∨ (carryN S 5).2.getD 1 0 = 0 := by
    intro hl h1'
    rcases Nat.lt_or_ge (S.getD 1 0) 67108864 with q | q
    · left
      have hS' : Lim 67108864 S := fun j => by
        have := hl j
        rw [getD_setI _ _ _ _ (by omega)] at this
        split at this
        · rename_i e; subst e; exact q
        · exact this
      have key : ∀ i, i ≤ 5 → carryN S i = (0, S) := by
        intro i hi
        induction i with
        | zero => rfl
        | succ i ih =>
          have := hS' i
          simp only [carryN, ih (by omega), Nat.add_zero, Nat.mod_eq_of_lt (show S.getD i 0 < 18446744073709551616 by omega), Nat.mod_eq_of_lt this, Nat.div_eq_of_lt this]
          congr 1
          apply List.ext_getElem?
          intro j
          rw [List.getElem?_set]
          split
          · rename_i e; subst e
            rw [if_pos (by omega)]
            simp [List.getElem?_eq_getElem (show i < S.length by omega)]
          · rfl
      rw [key 5 (by omega)]
      exact ⟨rfl, rfl, hS'⟩
    · right
      have e1 : S.getD 1 0 = 67108864 := by omega
      have h0 := hl 0
      rw [getD_setI _ _ _ _ (by omega), if_neg (by omega)] at h0
      have c0 : carryN S 1 = (0, S.set 0 (S.getD 0 0)) := by
        simp only [carryN, Nat.add_zero, Nat.mod_eq_of_lt (show S.getD 0 0 < 18446744073709551616 by omega), Nat.mod_eq_of_lt h0, Nat.div_eq_of_lt h0]
      have c1 : (carryN S 2).2.getD 1 0 = 0 := by
        show ((carryN S 1).2.set 1 _).getD 1 0 = 0
        rw [c0]
        simp only
        rw [getD_setI _ _ _ _ (by rw [List.length_set]; omega), if_pos rfl, getD_setI _ _ _ _ (by omega), if_neg (by omega), e1]
      have keep : ∀ i, 2 ≤ i → i ≤ 5 → (carryN S i).2.getD 1 0 = 0 := by
        intro i h2 h5
        induction i with
        | zero => omega
        | succ i ih =>
          rcases Nat.lt_or_ge i 2 with q | q
          · obtain rfl : i = 1 := by omega
            exact c1
          · simp only [carryN]
            rw [getD_setI _ _ _ _ (by rw [carryN_len]; omega), if_neg (by omega), ih q (by omega)]
      exact keep 5 (by omega) (by omega)
  have l5 := h3
  generalize carryN S 5 = U at h1 h2 h3 h4 h5 hT eL hz l5
  obtain ⟨c, T⟩ := U
  simp only at h1 h2 h3 h4 h5 hT eL hz l5
  obtain ⟨t0, t1, t2, t3, t4, rfl⟩ := list5 hT
  have b0 : t0 < 67108864 := h3 0 (by omega)
  have b1 : t1 < 67108864 := h3 1 (by omega)
  have b2 : t2 < 67108864 := h3 2 (by omega)
  have b3 : t3 < 67108864 := h3 3 (by omega)
  have b4 : t4 < 67108864 := h3 4 (by omega)
  have m1 : 5 * c % 18446744073709551616 = 5 * c := Nat.mod_eq_of_lt (by omega)
  have m2 : (t0 + 5 * c) % 18446744073709551616 = t0 + 5 * c := Nat.mod_eq_of_lt (by omega)
  have m3 : (t1 + (t0 + 5 * c) / 67108864) % 18446744073709551616 = t1 + (t0 + 5 * c) / 67108864 := Nat.mod_eq_of_lt (by omega)
  have eE : carryL S = [(t0 + 5 * c) % 67108864, t1 + (t0 + 5 * c) / 67108864, t2, t3, t4] := by
    rw [eL]
    simp [carryE, m1, m2, m3]
  rw [eE]
  refine ⟨⟨c, ?_⟩, fun j => ?_, ?_, fun hb => ⟨?_, fun hl h1' => ?_⟩⟩
  · rw [← h1]
    simp only [lval, PP]
    have : 67108864 ^ 5 * c = 1361129467683753853853498429727072845824 * c := by rw [show (67108864 : Nat) ^ 5 = 1361129467683753853853498429727072845824 from rfl]
    rw [this]
    omega
  · rw [getD_setI _ _ _ _ (by simp)]
    have : (t0 + 5 * c) % 67108864 < 67108864 := Nat.mod_lt _ (by decide)
    match j with
    | 0 => simpa using this
    | 1 => simp
    | 2 => simpa using b2
    | 3 => simpa using b3
    | 4 => simpa using b4
    | j + 5 => simp
  · show t1 + (t0 + 5 * c) / 67108864 < _
    omega
  · show t1 + (t0 + 5 * c) / 67108864 ≤ _
    have := h5 (by omega)
    rw [if_pos hb] at this
    omega
  · have hc := h5 (by omega)
    rw [if_pos hb] at hc
    have : (t0 + 5 * c) % 67108864 < 67108864 := Nat.mod_lt _ (by decide)
    have t1' : t1 + (t0 + 5 * c) / 67108864 < 67108864 := by
      rcases hz hl h1' with ⟨rfl, _, _⟩ | e
      · omega
      · have : t1 = 0 := e
        omega
    intro j
    match j with
    | 0 => simpa using this
    | 1 => simpa using t1'
    | 2 => simpa using b2
    | 3 => simpa using b3
    | 4 => simpa using b4
    | j + 5 => simp
end Go.Pure
