/- Plain: bytes in pieces; what is sealed is opened to itself. Conditions: none; no program in sight. -/
import Derived.Test.YtnecdbclhdbaoaaSPi
set_option linter.unusedSimpArgs false
set_option linter.unusedVariables false
set_option maxRecDepth 100000
namespace Go.Pure
/-- Bytes in pieces of n; one empty one of none. -/
def cutF (n : Nat) : Nat → List Nat → List (List Nat)
  | 0, b => [b]
  | f + 1, b => if n < b.length then b.take n :: cutF n f (b.drop n) else [b]
def cutL (n : Nat) (b : List Nat) : List (List Nat) := cutF n b.length b
theorem cutF_flat (n f : Nat) (b : List Nat) : (cutF n f b).flatten = b := by
  induction f generalizing b with
  | zero => simp [cutF]
  | succ f ih =>
    simp only [cutF]
    split
    · rw [List.flatten_cons, ih, List.take_append_drop]
    · simp
theorem cutL_flat (n : Nat) (b : List Nat) : (cutL n b).flatten = b := cutF_flat _ _ _
theorem cutF_ne (n f : Nat) (b : List Nat) : cutF n f b ≠ [] := by
  cases f with
  | zero => simp [cutF]
  | succ f => simp only [cutF]; split <;> simp
theorem cutL_ne (n : Nat) (b : List Nat) : cutL n b ≠ [] := cutF_ne _ _ _
/-- Pieces: all but the last have n, the last at most n, and something, if it isn't alone. -/
def Pcs (n : Nat) : List (List Nat) → Prop
  | [] => False
  | [p] => p.length ≤ n
  | p :: q :: ps => p.length = n ∧ (ps = [] → 0 < q.length) ∧ Pcs n (q :: ps)
theorem pcs_flat {n : Nat} (hn : 0 < n) (p q : List Nat) (qs : List (List Nat)) (h : Pcs n (p :: q :: qs)) : 0 < (q :: qs).flatten.length := by
  cases qs with
  | nil => have := h.2.1 rfl; simpa using this
  | cons r qs =>
    have := h.2.2.1
    simp only [List.flatten_cons, List.length_append]
    omega
theorem cutF_of {n : Nat} (hn : 0 < n) : ∀ (ps : List (List Nat)) (f : Nat), Pcs n ps → ps.length ≤ f + 1 → cutF n f ps.flatten = ps
  | [], _, h, _ => h.elim
  | [p], f, h, _ => by
    simp only [List.flatten_cons, List.flatten_nil, List.append_nil]
    cases f with
    | zero => rfl
    | succ f => simp only [cutF]; rw [if_neg (by have : p.length ≤ n := h; omega)]
  | p :: q :: ps, f, h, hf => by
    cases f with
    | zero => simp at hf
    | succ f =>
      have hp : p.length = n := h.1
      have h0 := pcs_flat hn _ _ _ h
      simp only [cutF, List.flatten_cons (l := p)]
      rw [if_pos (by rw [List.length_append]; omega), List.take_append_of_le_length (by omega), List.take_of_length_le (by omega), List.drop_append_of_le_length (by omega), List.drop_of_length_le (by omega), List.nil_append]
      rw [cutF_of hn (q :: ps) f h.2.2 (by simpa using hf)]
theorem pcs_len {n : Nat} (hn : 0 < n) : ∀ (ps : List (List Nat)), Pcs n ps → ps.length ≤ ps.flatten.length + 1
  | [], h => h.elim
  | [p], _ => by simp
  | p :: q :: ps, h => by
    have := pcs_len hn (q :: ps) h.2.2
    have := h.1
    simp only [List.length_cons, List.flatten_cons, List.length_append] at *
    omega
theorem cutL_of {n : Nat} (hn : 0 < n) {ps : List (List Nat)} (h : Pcs n ps) : cutL n ps.flatten = ps := cutF_of hn ps _ h (pcs_len hn ps h)
theorem cutF_pcs {n : Nat} (hn : 0 < n) : ∀ (f : Nat) (b : List Nat), b.length ≤ n * (f + 1) → Pcs n (cutF n f b)
  | 0, b, h => by simpa [cutF, Pcs] using h
  | f + 1, b, h => by
    simp only [cutF]
    split
    · rename_i hlt
      have ih := cutF_pcs hn f (b.drop n) (by rw [List.length_drop]; have e1 : n * (f + 1 + 1) = n * (f + 1) + n := Nat.mul_succ n (f + 1); omega)
      have hfl := cutF_flat n f (b.drop n)
      have hne := cutF_ne n f (b.drop n)
      generalize cutF n f (b.drop n) = L at ih hfl hne
      cases L with
      | nil => exact absurd rfl hne
      | cons q ps =>
        refine ⟨by rw [List.length_take]; omega, fun e => ?_, ih⟩
        subst e
        simp only [List.flatten_cons, List.flatten_nil, List.append_nil] at hfl
        rw [hfl, List.length_drop]
        omega
    · rename_i hlt
      show b.length ≤ n
      omega
theorem cutL_pcs {n : Nat} (hn : 0 < n) (b : List Nat) : Pcs n (cutL n b) := cutF_pcs hn _ _ (by
  have : b.length * 1 ≤ n * b.length := by rw [Nat.mul_one]; exact Nat.le_mul_of_pos_left _ hn
  rw [Nat.mul_add]; omega)
theorem pcs_count {n : Nat} (hn : 0 < n) : ∀ (ps : List (List Nat)), Pcs n ps → ps.length = if ps.flatten.length = 0 then 1 else (ps.flatten.length + n - 1) / n
  | [], h => h.elim
  | [p], h => by
    have hp : p.length ≤ n := h
    simp only [List.flatten_cons, List.flatten_nil, List.append_nil, List.length_cons, List.length_nil]
    split
    · rfl
    · have : (p.length + n - 1) / n = 1 := by
        rw [show p.length + n - 1 = (p.length - 1) + n by omega, Nat.add_div_right _ hn, Nat.div_eq_of_lt (by omega)]
      omega
  | p :: q :: ps, h => by
    have ih := pcs_count hn (q :: ps) h.2.2
    have h0 := pcs_flat hn _ _ _ h
    have hp : p.length = n := h.1
    rw [if_neg (by omega)] at ih
    rw [List.flatten_cons (l := p), List.length_append, if_neg (by omega), List.length_cons, ih, hp]
    rw [show n + (q :: ps).flatten.length + n - 1 = ((q :: ps).flatten.length + n - 1) + n by omega, Nat.add_div_right _ hn]
/-- The pieces, one by one. -/
theorem cutF_get {n : Nat} (hn : 0 < n) : ∀ (f : Nat) (b : List Nat) (i : Nat), b.length ≤ n * (f + 1) → 0 < b.length → i < (b.length + n - 1) / n → (cutF n f b)[i]? = some (chunkN n b i)
  | 0, b, i, h, h0, hi => by
    have : (b.length + n - 1) / n = 1 := by
      rw [show b.length + n - 1 = (b.length - 1) + n by omega, Nat.add_div_right _ hn, Nat.div_eq_of_lt (by omega)]
    obtain rfl : i = 0 := by omega
    simp only [cutF, List.getElem?_cons_zero, chunkN, Nat.mul_zero, Nat.zero_add, List.drop_zero]
    rw [List.take_of_length_le (by omega)]
  | f + 1, b, i, h, h0, hi => by
    simp only [cutF]
    split
    · rename_i hlt
      cases i with
      | zero =>
        simp only [List.getElem?_cons_zero, chunkN, Nat.mul_zero, Nat.zero_add, List.drop_zero]
        rw [Nat.min_eq_left (by omega)]
      | succ i =>
        have e1 : (b.length + n - 1) / n = ((b.drop n).length + n - 1) / n + 1 := by
          rw [List.length_drop, ← Nat.add_div_right _ hn]
          congr 1
          omega
        rw [List.getElem?_cons_succ, cutF_get hn f (b.drop n) i (by rw [List.length_drop]; have e1 : n * (f + 1 + 1) = n * (f + 1) + n := Nat.mul_succ n (f + 1); omega) (by rw [List.length_drop]; omega) (by omega)]
        unfold chunkN
        congr 1
        rw [List.drop_take, List.drop_take, List.drop_drop, List.length_drop]
        rw [show n + n * i = n * (i + 1) by rw [Nat.mul_add]; omega]
        have : n * (i + 1) = n * i + n := by rw [Nat.mul_add, Nat.mul_one]
        congr 1
        omega
    · rename_i hlt
      have : (b.length + n - 1) / n = 1 := by
        rw [show b.length + n - 1 = (b.length - 1) + n by omega, Nat.add_div_right _ hn, Nat.div_eq_of_lt (by omega)]
      obtain rfl : i = 0 := by omega
      simp only [List.getElem?_cons_zero, chunkN, Nat.mul_zero, Nat.zero_add, List.drop_zero]
      rw [List.take_of_length_le (by omega)]
theorem cutL_chunks {n : Nat} (hn : 0 < n) (b : List Nat) (h0 : 0 < b.length) : cutL n b = (List.range ((b.length + n - 1) / n)).map (chunkN n b) := by
  have hlen := pcs_count hn (cutL n b) (cutL_pcs hn b)
  rw [cutL_flat, if_neg (by omega)] at hlen
  apply List.ext_getElem?
  intro i
  by_cases hi : i < (b.length + n - 1) / n
  · rw [cutL, cutF_get hn _ b i (by
      have : b.length * 1 ≤ n * b.length := by rw [Nat.mul_one]; exact Nat.le_mul_of_pos_left _ hn
      rw [Nat.mul_add]; omega) h0 hi]
    simp [hi]
  · rw [List.getElem?_eq_none (by omega), List.getElem?_eq_none (by simp; omega)]
end Go.Pure
