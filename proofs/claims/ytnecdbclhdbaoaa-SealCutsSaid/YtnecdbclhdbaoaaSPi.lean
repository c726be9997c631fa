/- Plain: what hides and digests, the real one or a book, and a layer sealed in chunks. Conditions: none; no program in sight. -/
import Derived.Test.YtnecdbclhdbaoaaSPd
set_option linter.unusedSimpArgs false
set_option linter.unusedVariables false
set_option maxRecDepth 100000
namespace Go.Pure
/-- A number's bytes, the greatest first. -/
def bg (n v : Nat) : List Nat := (le n v).reverse
theorem bg_len (n v : Nat) : (bg n v).length = n := by simp [bg, le_len]
theorem bg_bytes (n v : Nat) : Bytes (bg n v) := fun x hx => le_bytes n v x (List.mem_reverse.1 hx)
/-- The number of bytes, the greatest first; what isn't there is 0. -/
def bval (l : List Nat) : Nat := l.foldl (fun v x => v * 256 + x) 0
theorem bval_append (a b : List Nat) (v : Nat) : (a ++ b).foldl (fun v x => v * 256 + x) v = b.foldl (fun v x => v * 256 + x) (a.foldl (fun v x => v * 256 + x) v) := List.foldl_append
theorem bval_snoc (a : List Nat) (x : Nat) : bval (a ++ [x]) = bval a * 256 + x := by simp [bval, List.foldl_append]
theorem bval_rev (l : List Nat) : bval l.reverse = leval l := by
  induction l with
  | nil => rfl
  | cons x l ih => rw [List.reverse_cons, bval_snoc, ih, leval]; omega
theorem bval_lt {l : List Nat} (h : Bytes l) : bval l < 256 ^ l.length := by
  have := leval_lt l.reverse (fun x hx => h x (List.mem_reverse.1 hx))
  rwa [← bval_rev, List.reverse_reverse, List.length_reverse] at this
theorem bval_bg (n v : Nat) : bval (bg n v) = v % 256 ^ n := by unfold bg; rw [bval_rev, leval_le]

/-- A box of a number. -/
def boxB (n len : Nat) : List Nat := (List.range len).map fun i => (bg 8 n).getD (i % 8) 0
theorem boxB_len (n len : Nat) : (boxB n len).length = len := by simp [boxB]
theorem boxB_bytes (n len : Nat) : Bytes (boxB n len) := by
  intro x hx
  obtain ⟨i, _, rfl⟩ := List.mem_map.1 hx
  exact (bg_bytes 8 n).getD _
theorem boxB_take8 (n len : Nat) (h : 8 ≤ len) : (boxB n len).take 8 = bg 8 n := by
  apply List.ext_getElem
  · rw [List.length_take, boxB_len, bg_len]; omega
  · intro i h1 h2
    rw [bg_len] at h2
    rw [List.getElem_take]
    simp only [boxB, List.getElem_map, List.getElem_range, Nat.mod_eq_of_lt h2]
    simp [List.getD_eq_getElem?_getD, bg_len, h2]

structure Box where
  key : List Nat
  nonce : List Nat
  beside : List Nat
  text : List Nat
  deriving DecidableEq
/-- What hides and digests: the real one, or a book of texts and boxes. -/
inductive Cr where
  | real
  | book (texts : List (List Nat)) (boxes : List Box)
def crSeal (c : Cr) (key nonce beside text : List Nat) : Nat × List Nat × Cr :=
  match c with
  | .real => if may key nonce then (0, sealL key nonce beside text, .real) else (1, [], .real)
  | .book ts bs => if may key nonce then (0, boxB bs.length (text.length + 16), .book ts (bs ++ [⟨key, nonce, beside, text⟩])) else (1, [], .book ts bs)
def bookOpen (bs : List Box) (key nonce beside box : List Nat) : Nat × List Nat :=
  if box.length < 16 then (8, [])
  else match bs[bval (box.take 8)]? with
    | none => (7, [])
    | some s => if s.key = key ∧ s.nonce = nonce ∧ s.beside = beside ∧ boxB (bval (box.take 8)) (s.text.length + 16) = box then (0, s.text) else (7, [])
def crOpen (c : Cr) (key nonce beside box : List Nat) : Nat × List Nat :=
  if may key nonce then
    match c with
    | .real => openL key nonce beside box
    | .book _ bs => bookOpen bs key nonce beside box
  else (1, [])
/-- The reference's book looks all boxes through. -/
def findBox (bs : List Box) (key nonce beside box : List Nat) : Nat → Option (List Nat)
  | i => match bs with
    | [] => none
    | s :: bs => if s.key = key ∧ s.nonce = nonce ∧ s.beside = beside ∧ boxB i (s.text.length + 16) = box then some s.text else findBox bs key nonce beside box (i + 1)
theorem findBox_eq (bs : List Box) (key nonce beside box : List Nat) (hl : 16 ≤ box.length) (i : Nat) (hi : i + bs.length ≤ 18446744073709551616) :
    findBox bs key nonce beside box i = if i ≤ bval (box.take 8) then (match bs[bval (box.take 8) - i]? with
      | none => none
      | some s => if s.key = key ∧ s.nonce = nonce ∧ s.beside = beside ∧ boxB (bval (box.take 8)) (s.text.length + 16) = box then some s.text else none) else none := by
  induction bs generalizing i with
  | nil => simp [findBox]
  | cons s bs ih =>
    simp only [List.length_cons] at hi
    simp only [findBox]
    have hb : ∀ n t, n < 18446744073709551616 → boxB n (t + 16) = box → bval (box.take 8) = n := fun n t hn e => by
      rw [← e, boxB_take8 _ _ (by omega), bval_bg, Nat.mod_eq_of_lt (by exact hn)]
    rw [ih (i + 1) (by omega)]
    by_cases h1 : i = bval (box.take 8)
    · subst h1
      simp only [Nat.le_refl, if_true, Nat.sub_self, List.getElem?_cons_zero]
      rw [if_neg (show ¬ bval (box.take 8) + 1 ≤ bval (box.take 8) by omega)]
    · have : ¬ (s.key = key ∧ s.nonce = nonce ∧ s.beside = beside ∧ boxB i (s.text.length + 16) = box) := fun q => h1 (hb i _ (by omega) q.2.2.2).symm
      rw [if_neg this]
      by_cases h2 : i ≤ bval (box.take 8)
      · rw [if_pos (show i + 1 ≤ bval (box.take 8) by omega), if_pos h2]
        obtain ⟨d, hd⟩ : ∃ d, bval (box.take 8) - i = d + 1 := ⟨bval (box.take 8) - i - 1, by omega⟩
        rw [hd, List.getElem?_cons_succ, show bval (box.take 8) - (i + 1) = d by omega]
      · rw [if_neg h2, if_neg (by omega)]
theorem bookOpen_find (bs : List Box) (key nonce beside box : List Nat) (hb : bs.length ≤ 18446744073709551616) :
    bookOpen bs key nonce beside box = if box.length < 16 then (8, []) else match findBox bs key nonce beside box 0 with
      | some t => (0, t)
      | none => (7, []) := by
  unfold bookOpen
  split
  · rfl
  · rename_i h16
    rw [findBox_eq bs key nonce beside box (by omega) 0 (by omega), if_pos (Nat.zero_le _), Nat.sub_zero]
    cases bs[bval (box.take 8)]? with
    | none => rfl
    | some s =>
      dsimp only
      split <;> rfl

/-! ### A layer in chunks -/
def headL (pre : List Nat) (size : Nat) : List Nat := [1] ++ pre ++ bg 4 size
def nonceN (pre : List Nat) (i : Nat) (last : Bool) : List Nat := pre ++ bg 4 i ++ [if last then 1 else 0]
/-- Bytes in pieces of n; one empty one of none. -/
def piecesL (b : List Nat) (n : Nat) : List (List Nat) := if b.length = 0 then [[]] else (List.range ((b.length + n - 1) / n)).map (chunkN n b)
def sealGo (c : Cr) (key beside pre : List Nat) (total : Nat) : Nat → List (List Nat) → Nat × List Nat × Cr
  | _, [] => (0, [], c)
  | i, p :: ps =>
    match crSeal c key (nonceN pre i (i + 1 == total)) beside p with
    | (0, x, c') => match sealGo c' key beside pre total (i + 1) ps with
      | (0, out, c'') => (0, x ++ out, c'')
      | (e, _, c'') => (e, [], c'')
    | (e, _, c') => (e, [], c')
def openGo (c : Cr) (key beside pre : List Nat) (total : Nat) : Nat → List (List Nat) → Nat × List Nat
  | _, [] => (0, [])
  | i, p :: ps =>
    match crOpen c key (nonceN pre i (i + 1 == total)) beside p with
    | (0, x) => match openGo c key beside pre total (i + 1) ps with
      | (0, out) => (0, x ++ out)
      | (e, _) => (e, [])
    | (e, _) => (e, [])
def maySz (size : Int) : Prop := 1 ≤ size ∧ size ≤ 65536
end Go.Pure
