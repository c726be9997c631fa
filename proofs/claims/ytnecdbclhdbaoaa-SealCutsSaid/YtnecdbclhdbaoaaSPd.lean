/- Boxes, as rows of bytes: what the program's steps come to. Conditions: none; no program in sight. -/
import Derived.Test.YtnecdbclhdbaoaaSPb
import Derived.Test.YtnecdbclhdbaoaaSPc
namespace Go.Pure
def need16 (n : Nat) : Nat := (16 - n % 16) % 16
def pad16 (o : List Nat) : List Nat := o ++ List.replicate (need16 o.length) 0
def padL (ps : List (List Nat)) : List Nat := ps.foldl (fun o p => pad16 (o ++ p)) []
theorem padL_take (ps : List (List Nat)) (i : Nat) (hi : i < ps.length) : padL (ps.take (i + 1)) = pad16 (padL (ps.take i) ++ ps.getD i []) := by
  rw [List.take_succ_eq_append_getElem hi]
  unfold padL
  rw [List.foldl_append]
  simp [List.getD_eq_getElem?_getD, hi]
theorem pad16_len (o : List Nat) : (pad16 o).length ≤ o.length + 15 := by
  unfold pad16 need16; rw [List.length_append, List.length_replicate]; omega
theorem pad16_bytes {o : List Nat} (h : Bytes o) : Bytes (pad16 o) := h.append fun x hx => by
  rw [List.mem_replicate] at hx; omega
def tagB (key nonce beside hidden : List Nat) : List Nat :=
  tagL ((blockL key nonce 0).take 32) (padL [beside, hidden] ++ (le 8 beside.length ++ le 8 hidden.length))
theorem tagB_len (key nonce beside hidden : List Nat) : (tagB key nonce beside hidden).length = 16 := tagL_len _ _
theorem tagB_bytes (key nonce beside hidden : List Nat) : Bytes (tagB key nonce beside hidden) := tagL_bytes _ _
def sealL (key nonce beside text : List Nat) : List Nat := xorL key nonce 1 text ++ tagB key nonce beside (xorL key nonce 1 text)
def may (key nonce : List Nat) : Prop := key.length = 32 ∧ nonce.length = 12
instance (key nonce : List Nat) : Decidable (may key nonce) := by unfold may; infer_instance
/-- What a box is opened to: the text, or a code. -/
def openL (key nonce beside box : List Nat) : Nat × List Nat :=
  if box.length < 16 then (8, [])
  else if tagB key nonce beside (box.take (box.length - 16)) = box.drop (box.length - 16) then (0, xorL key nonce 1 (box.take (box.length - 16)))
  else (7, [])
theorem sealL_len (key nonce b t : List Nat) : (sealL key nonce b t).length = t.length + 16 := by simp [sealL, xorL_len, tagB_len]
theorem sealL_bytes (key nonce b : List Nat) {t : List Nat} (h : Bytes t) : Bytes (sealL key nonce b t) := (xorL_bytes h).append (tagB_bytes _ _ _ _)
theorem xorL_xorL (key nonce : List Nat) (c : Nat) (t : List Nat) : xorL key nonce c (xorL key nonce c t) = t := by
  apply List.ext_getElem
  · rw [xorL_len, xorL_len]
  · intro i h1 h2
    rw [xorL_get _ _ _ _ _ (by rw [xorL_len]; exact h2)]
    have : (xorL key nonce c t).getD i 0 = t.getD i 0 ^^^ (blockL key nonce ((c + i / 64) % 4294967296)).getD (i % 64) 0 := by
      rw [← xorL_get _ _ _ _ _ h2]
      simp [List.getD_eq_getElem?_getD, show i < (xorL key nonce c t).length by rw [xorL_len]; exact h2]
    rw [this, Nat.xor_assoc, Nat.xor_self, Nat.xor_zero]
    simp [List.getD_eq_getElem?_getD, h2]
theorem open_seal (key nonce b t : List Nat) : openL key nonce b (sealL key nonce b t) = (0, t) := by
  have hl := sealL_len key nonce b t
  have e1 : (sealL key nonce b t).take ((sealL key nonce b t).length - 16) = xorL key nonce 1 t := by
    rw [hl, Nat.add_sub_cancel, sealL, List.take_append_of_le_length (by rw [xorL_len]; exact Nat.le_refl _), List.take_of_length_le (by rw [xorL_len]; exact Nat.le_refl _)]
  have e2 : (sealL key nonce b t).drop ((sealL key nonce b t).length - 16) = tagB key nonce b (xorL key nonce 1 t) := by
    have : t.length = (xorL key nonce 1 t).length := by rw [xorL_len]
    rw [hl, Nat.add_sub_cancel, sealL, this, List.drop_left]
  unfold openL
  rw [if_neg (by omega), e1, e2, if_pos rfl, xorL_xorL]
end Go.Pure
