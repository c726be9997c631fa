/- Plain arithmetic of the tag, by five limbs: what the program's steps come to. Conditions: none; no program in sight. -/
import Derived.Test.YtnecdbclhdbaoaaSPa
namespace Go.Pure
abbrev W : Nat := 18446744073709551616
def W64 (l : List Nat) : Prop := ∀ x ∈ l, x < 18446744073709551616
theorem W64.getD {l : List Nat} (h : W64 l) (i : Nat) : l.getD i 0 < 18446744073709551616 := by
  rw [List.getD_eq_getElem?_getD]
  cases hg : l[i]? with
  | none => simp
  | some x => exact h x (List.mem_of_getElem? hg)
theorem W64.set {l : List Nat} (h : W64 l) (i : Nat) {x : Nat} (hx : x < 18446744073709551616) : W64 (l.set i x) := fun y hy => by
  rcases List.mem_or_eq_of_mem_set hy with q | rfl
  · exact h y q
  · exact hx
def zero5 : List Nat := [0, 0, 0, 0, 0]
theorem zero5_w : W64 zero5 := by intro x hx; simp [zero5] at hx; omega

def addN (S M : List Nat) : Nat → List Nat
  | 0 => S
  | i + 1 => (addN S M i).set i (((addN S M i).getD i 0 + M.getD i 0) % 18446744073709551616)
def addL (S M : List Nat) : List Nat := addN S M 5
theorem addN_len (S M : List Nat) (i : Nat) : (addN S M i).length = S.length := by
  induction i with
  | zero => rfl
  | succ i ih => simp [addN, ih]
theorem addN_w {S : List Nat} (h : W64 S) (M : List Nat) (i : Nat) : W64 (addN S M i) := by
  induction i with
  | zero => exact h
  | succ i ih => exact ih.set _ (Nat.mod_lt _ (by decide))

def carryN (S : List Nat) : Nat → Nat × List Nat
  | 0 => (0, S)
  | i + 1 => (((carryN S i).2.getD i 0 + (carryN S i).1) % 18446744073709551616 / 67108864, (carryN S i).2.set i (((carryN S i).2.getD i 0 + (carryN S i).1) % 18446744073709551616 % 67108864))
theorem carryN_len (S : List Nat) (i : Nat) : (carryN S i).2.length = S.length := by
  induction i with
  | zero => rfl
  | succ i ih => simp [carryN, ih]
theorem carryN_w {S : List Nat} (h : W64 S) (i : Nat) : (carryN S i).1 < 18446744073709551616 ∧ W64 (carryN S i).2 := by
  induction i with
  | zero => exact ⟨by show 0 < _; decide, h⟩
  | succ i ih =>
    have := Nat.mod_lt ((carryN S i).2.getD i 0 + (carryN S i).1) (show 18446744073709551616 > 0 by decide)
    exact ⟨by simp only [carryN]; omega, ih.2.set _ (by omega)⟩
def carryE (c : Nat) (T : List Nat) : List Nat :=
  let A := T.set 0 ((T.getD 0 0 + 5 * c % 18446744073709551616) % 18446744073709551616)
  let B := A.set 1 ((A.getD 1 0 + A.getD 0 0 / 67108864) % 18446744073709551616)
  B.set 0 (B.getD 0 0 % 67108864)
def carryL (S : List Nat) : List Nat := carryE (carryN S 5).1 (carryN S 5).2
theorem carryE_len (c : Nat) (T : List Nat) : (carryE c T).length = T.length := by simp [carryE]
theorem carryL_len (S : List Nat) : (carryL S).length = S.length := by rw [carryL, carryE_len, carryN_len]
theorem carryE_w (c : Nat) {T : List Nat} (h : W64 T) : W64 (carryE c T) := by
  have h1 := h.set 0 (Nat.mod_lt (T.getD 0 0 + 5 * c % 18446744073709551616) (show 18446744073709551616 > 0 by decide))
  refine (h1.set 1 (Nat.mod_lt _ (by decide))).set 0 ?_
  exact Nat.lt_of_lt_of_le (Nat.mod_lt _ (show 67108864 > 0 by decide)) (by decide)
theorem carryL_w {S : List Nat} (h : W64 S) : W64 (carryL S) := carryE_w _ (carryN_w h 5).2

def tval (i k : Nat) (S R : List Nat) : Nat :=
  if 5 ≤ i + k then S.getD i 0 * R.getD k 0 % 18446744073709551616 * 5 % 18446744073709551616 else S.getD i 0 * R.getD k 0 % 18446744073709551616
theorem tval_lt (i k : Nat) (S R : List Nat) : tval i k S R < 18446744073709551616 := by
  unfold tval; split <;> exact Nat.mod_lt _ (by decide)
def tin (S R : List Nat) (i : Nat) (O : List Nat) : Nat → List Nat
  | 0 => O
  | k + 1 => (tin S R i O k).set ((i + k) % 5) (((tin S R i O k).getD ((i + k) % 5) 0 + tval i k S R) % 18446744073709551616)
def tout (S R : List Nat) : Nat → List Nat
  | 0 => zero5
  | i + 1 => tin S R i (tout S R i) 5
def timesL (S R : List Nat) : List Nat := carryL (tout S R 5)
theorem tin_len (S R : List Nat) (i : Nat) (O : List Nat) (k : Nat) : (tin S R i O k).length = O.length := by
  induction k with
  | zero => rfl
  | succ k ih => simp [tin, ih]
theorem tout_len (S R : List Nat) (i : Nat) : (tout S R i).length = 5 := by
  induction i with
  | zero => rfl
  | succ i ih => rw [tout, tin_len, ih]
theorem tin_w (S R : List Nat) (i : Nat) {O : List Nat} (h : W64 O) (k : Nat) : W64 (tin S R i O k) := by
  induction k with
  | zero => exact h
  | succ k ih => exact ih.set _ (Nat.mod_lt _ (by decide))
theorem tout_w (S R : List Nat) (i : Nat) : W64 (tout S R i) := by
  induction i with
  | zero => exact zero5_w
  | succ i ih => exact tin_w S R i ih 5
theorem timesL_len (S R : List Nat) : (timesL S R).length = 5 := by rw [timesL, carryL_len, tout_len]
theorem timesL_w (S R : List Nat) : W64 (timesL S R) := carryL_w (tout_w S R 5)

def redN (T : List Nat) : Nat → List Nat
  | 0 => T.set 0 ((T.getD 0 0 + 5) % 18446744073709551616)
  | i + 1 =>
    let A := (redN T i).set (i + 1) (((redN T i).getD (i + 1) 0 + (redN T i).getD i 0 / 67108864) % 18446744073709551616)
    A.set i (A.getD i 0 % 67108864)
theorem redN_len (T : List Nat) (i : Nat) : (redN T i).length = T.length := by
  induction i with
  | zero => simp [redN]
  | succ i ih => simp [redN, ih]
theorem redN_w {T : List Nat} (h : W64 T) (i : Nat) : W64 (redN T i) := by
  induction i with
  | zero => exact h.set _ (Nat.mod_lt _ (by decide))
  | succ i ih =>
    refine (ih.set _ (Nat.mod_lt _ (by decide))).set _ ?_
    exact Nat.lt_of_lt_of_le (Nat.mod_lt _ (show 67108864 > 0 by decide)) (by decide)
def redE (T M : List Nat) : List Nat := if M.getD 4 0 / 67108864 ≠ 0 then M.set 4 (M.getD 4 0 % 67108864) else T
def reduceL (S : List Nat) : List Nat := redE (carryL (carryL S)) (redN (carryL (carryL S)) 4)
theorem redE_len (T M : List Nat) (h : M.length = T.length) : (redE T M).length = T.length := by unfold redE; split <;> simp [h]
theorem reduceL_len (S : List Nat) : (reduceL S).length = S.length := by
  unfold reduceL
  rw [redE_len _ _ (redN_len _ _), carryL_len, carryL_len]
theorem reduceL_w {S : List Nat} (h : W64 S) : W64 (reduceL S) := by
  have h2 := carryL_w (carryL_w h)
  unfold reduceL redE
  split
  · refine (redN_w h2 4).set _ ?_
    exact Nat.lt_of_lt_of_le (Nat.mod_lt _ (show 67108864 > 0 by decide)) (by decide)
  · exact h2

def lowL (S : List Nat) : Nat := (S.getD 0 0 ||| S.getD 1 0 * 2 ^ 26 % 18446744073709551616) ||| S.getD 2 0 * 2 ^ 52 % 18446744073709551616
def highL (S : List Nat) : Nat := (S.getD 2 0 / 2 ^ 12 ||| S.getD 3 0 * 2 ^ 14 % 18446744073709551616) ||| S.getD 4 0 * 2 ^ 40 % 18446744073709551616
def bytesL (S s : List Nat) : List Nat :=
  let a := leval (s.take 8)
  let lo := (lowL S + a) % 18446744073709551616
  let hi := (highL S + leval ((s.drop 8).take 8)) % 18446744073709551616
  le 8 lo ++ le 8 (if lo < a then (hi + 1) % 18446744073709551616 else hi)
theorem bytesL_len (S s : List Nat) : (bytesL S s).length = 16 := by simp [bytesL, le_len]
theorem bytesL_bytes (S s : List Nat) : Bytes (bytesL S s) := (le_bytes _ _).append (le_bytes _ _)

def loadI (b : List Nat) (i : Nat) : Nat := leval ((b.drop (min (26 * i / 8) b.length)).take 8) / 2 ^ (26 * i % 8) % 67108864
def loadN (b : List Nat) : Nat → List Nat
  | 0 => zero5
  | i + 1 => (loadN b i).set i (loadI b i)
def loadL (b : List Nat) : List Nat := loadN b 5
theorem loadI_lt (b : List Nat) (i : Nat) : loadI b i < 67108864 := Nat.mod_lt _ (by decide)
theorem loadN_len (b : List Nat) (i : Nat) : (loadN b i).length = 5 := by
  induction i with
  | zero => rfl
  | succ i ih => simp [loadN, ih]
theorem loadL_len (b : List Nat) : (loadL b).length = 5 := loadN_len b 5
theorem loadN_w (b : List Nat) (i : Nat) : W64 (loadN b i) := by
  induction i with
  | zero => exact zero5_w
  | succ i ih => exact ih.set _ (Nat.lt_of_lt_of_le (loadI_lt b i) (by decide))
theorem loadL_w (b : List Nat) : W64 (loadL b) := loadN_w b 5

def clampN (v : Nat) (l : List Nat) (is : List Nat) : List Nat := is.foldl (fun l i => l.set i (l.getD i 0 &&& v)) l
def clampL (k : List Nat) : List Nat := clampN 252 (clampN 15 k [3, 7, 11, 15]) [4, 8, 12]
theorem clampN_len (v : Nat) (is : List Nat) : ∀ l : List Nat, (clampN v l is).length = l.length := by
  induction is with
  | nil => exact fun l => rfl
  | cons i is ih => intro l; show (clampN v (l.set i _) is).length = _; rw [ih]; simp
theorem Bytes.set {l : List Nat} (h : Bytes l) (i : Nat) {x : Nat} (hx : x < 256) : Bytes (l.set i x) := fun y hy => by
  rcases List.mem_or_eq_of_mem_set hy with q | rfl
  · exact h y q
  · exact hx
theorem clampN_bytes (v : Nat) (is : List Nat) : ∀ {l : List Nat}, Bytes l → Bytes (clampN v l is) := by
  induction is with
  | nil => exact fun h => h
  | cons i is ih => intro l h; exact ih (h.set i (Nat.lt_of_le_of_lt Nat.and_le_left (h.getD i)))

/-- The ith of a row's pieces of n. -/
def chunkN (n : Nat) (m : List Nat) (i : Nat) : List Nat := (m.take (min (n * i + n) m.length)).drop (n * i)
abbrev chunk (m : List Nat) (i : Nat) : List Nat := chunkN 16 m i
theorem chunkN_bytes {m : List Nat} (h : Bytes m) (n i : Nat) : Bytes (chunkN n m i) := (h.take _).drop _
theorem chunkN_len (n : Nat) (m : List Nat) (i : Nat) : (chunkN n m i).length ≤ n := by unfold chunkN; rw [List.length_drop, List.length_take]; omega
def tagN (r m : List Nat) : Nat → List Nat
  | 0 => zero5
  | i + 1 => timesL (addL (tagN r m i) (loadL (chunk m i ++ [1]))) r
theorem tagN_len (r m : List Nat) (i : Nat) : (tagN r m i).length = 5 := by
  cases i with
  | zero => rfl
  | succ i => rw [tagN, timesL_len]
theorem tagN_w (r m : List Nat) (i : Nat) : W64 (tagN r m i) := by
  cases i with
  | zero => exact zero5_w
  | succ i => exact timesL_w _ _
def tagL (key m : List Nat) : List Nat := bytesL (reduceL (tagN (loadL (clampL (key.take 16))) m ((m.length + 15) / 16))) (key.drop 16)
theorem tagL_len (key m : List Nat) : (tagL key m).length = 16 := bytesL_len _ _
theorem tagL_bytes (key m : List Nat) : Bytes (tagL key m) := bytesL_bytes _ _
end Go.Pure
