/- Plain arithmetic: numbers as bytes. Conditions: none; no program in sight. -/
namespace Go.Pure
def le : Nat → Nat → List Nat
  | 0, _ => []
  | n + 1, v => v % 256 :: le n (v / 256)
def leval : List Nat → Nat
  | [] => 0
  | x :: l => x + 256 * leval l
def Bytes (l : List Nat) : Prop := ∀ x ∈ l, x < 256

theorem le_len (n v : Nat) : (le n v).length = n := by
  induction n generalizing v with
  | zero => rfl
  | succ n ih => simp [le, ih]
theorem le_bytes (n v : Nat) : Bytes (le n v) := by
  induction n generalizing v with
  | zero => intro x hx; cases hx
  | succ n ih =>
    intro x hx
    rcases List.mem_cons.1 hx with rfl | hx
    · exact Nat.mod_lt _ (by decide)
    · exact ih _ x hx
theorem le_get (n v i : Nat) (hi : i < n) : (le n v).getD i 0 = v / 256 ^ i % 256 := by
  induction n generalizing v i with
  | zero => omega
  | succ n ih =>
    cases i with
    | zero => simp [le]
    | succ i =>
      have := ih (v / 256) i (by omega)
      simp only [le, List.getD_cons_succ, this]
      rw [Nat.div_div_eq_div_mul, Nat.pow_succ, Nat.mul_comm]
theorem leval_lt (l : List Nat) (h : Bytes l) : leval l < 256 ^ l.length := by
  induction l with
  | nil => simp [leval]
  | cons x l ih =>
    have hx := h x (List.mem_cons_self ..)
    have := ih fun y hy => h y (List.mem_cons_of_mem _ hy)
    simp only [leval, List.length_cons, Nat.pow_succ]
    omega
theorem leval_append (a b : List Nat) : leval (a ++ b) = leval a + 256 ^ a.length * leval b := by
  induction a with
  | nil => simp [leval]
  | cons x a ih =>
    simp only [List.cons_append, leval, ih, List.length_cons, Nat.pow_succ]
    rw [Nat.mul_add, ← Nat.mul_assoc, Nat.mul_comm 256 (256 ^ a.length), Nat.add_assoc]
theorem leval_le (n v : Nat) : leval (le n v) = v % 256 ^ n := by
  induction n generalizing v with
  | zero => simp [le, leval, Nat.mod_one]
  | succ n ih =>
    simp only [le, leval, ih, Nat.pow_succ]
    rw [Nat.mul_comm (256 ^ n) 256, Nat.mod_mul]
theorem Bytes.take {l : List Nat} (h : Bytes l) (n : Nat) : Bytes (l.take n) := fun x hx => h x (List.mem_of_mem_take hx)
theorem Bytes.drop {l : List Nat} (h : Bytes l) (n : Nat) : Bytes (l.drop n) := fun x hx => h x (List.mem_of_mem_drop hx)
theorem Bytes.append {a b : List Nat} (h : Bytes a) (g : Bytes b) : Bytes (a ++ b) := fun x hx => (List.mem_append.1 hx).elim (h x) (g x)
theorem Bytes.getD {l : List Nat} (h : Bytes l) (i : Nat) : l.getD i 0 < 256 := by
  rw [List.getD_eq_getElem?_getD]
  cases hg : l[i]? with
  | none => simp
  | some x => exact h x (List.mem_of_getElem? hg)
theorem leval_take_succ (l : List Nat) (i : Nat) : leval (l.take (i + 1)) = leval (l.take i) + 256 ^ i * l.getD i 0 := by
  by_cases hi : i < l.length
  · rw [List.take_succ_eq_append_getElem hi, leval_append]
    simp [leval, List.length_take, Nat.min_eq_left (Nat.le_of_lt hi), hi]
  · rw [List.take_of_length_le (by omega), List.take_of_length_le (by omega)]
    simp [List.getElem?_eq_none (show l.length ≤ i by omega)]
theorem leval_take_lt (l : List Nat) (h : Bytes l) (i : Nat) : leval (l.take i) < 256 ^ i := by
  refine Nat.lt_of_lt_of_le (leval_lt _ (h.take i)) (Nat.pow_le_pow_right (by decide) ?_)
  rw [List.length_take]; exact Nat.min_le_left _ _
theorem or_add (a b n : Nat) (h : a < 2 ^ n) : a ||| b * 2 ^ n = a + b * 2 ^ n := by
  rw [Nat.mul_comm, Nat.or_comm, ← Nat.two_pow_add_eq_or_of_lt h, Nat.add_comm]
theorem pow256 (i : Nat) : 256 ^ i = 2 ^ (8 * i) := by rw [Nat.pow_mul]
end Go.Pure
