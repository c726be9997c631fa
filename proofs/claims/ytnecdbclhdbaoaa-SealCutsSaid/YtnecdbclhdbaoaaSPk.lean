/- Plain: a layer sealed and opened. Conditions: none; no program in sight. -/
import Derived.Test.YtnecdbclhdbaoaaSPj
set_option linter.unusedSimpArgs false
set_option linter.unusedVariables false
set_option maxRecDepth 100000
namespace Go.Pure
/-- What is done with each piece, one behind the other. -/
def goL {St : Type} (f : St → Nat → List Nat → Nat × List Nat × St) : St → Nat → List (List Nat) → Nat × List (List Nat) × St
  | c, _, [] => (0, [], c)
  | c, i, p :: ps =>
    if (f c i p).1 = 0 then
      (((goL f (f c i p).2.2 (i + 1) ps).1), (f c i p).2.1 :: (goL f (f c i p).2.2 (i + 1) ps).2.1, (goL f (f c i p).2.2 (i + 1) ps).2.2)
    else ((f c i p).1, [], (f c i p).2.2)
def sealStep (key beside pre : List Nat) (total : Nat) (c : Cr) (i : Nat) (p : List Nat) : Nat × List Nat × Cr := crSeal c key (nonceN pre i (i + 1 == total)) beside p
def openStep (key beside pre : List Nat) (total : Nat) (c : Cr) (i : Nat) (p : List Nat) : Nat × List Nat × Cr :=
  ((crOpen c key (nonceN pre i (i + 1 == total)) beside p).1, (crOpen c key (nonceN pre i (i + 1 == total)) beside p).2, c)
def okAsk (key pre : List Nat) (size : Int) : Prop := key.length = 32 ∧ pre.length = 7 ∧ 1 ≤ size ∧ size ≤ 65536
instance (key pre : List Nat) (size : Int) : Decidable (okAsk key pre size) := by unfold okAsk; infer_instance
/-- A layer sealed: the code, the bytes, the crypt behind it. -/
def sealS (c : Cr) (key pre ctx layer : List Nat) (size : Int) : Nat × List Nat × Cr :=
  if okAsk key pre size then
    let r := goL (sealStep key (headL pre size.toNat ++ ctx) pre (cutL size.toNat layer).length) c 0 (cutL size.toNat layer)
    if r.1 = 0 then (0, headL pre size.toNat ++ r.2.1.flatten, r.2.2) else (r.1, [], r.2.2)
  else (1, [], c)
/-- A sealed layer opened. -/
def openS (c : Cr) (key ctx s : List Nat) : Nat × List Nat :=
  if key.length ≠ 32 then (1, [])
  else if s.length < 12 ∨ s.getD 0 0 ≠ 1 then (8, [])
  else
    let size := bval ((s.take 12).drop 8)
    if ¬ (1 ≤ size ∧ size ≤ 65536) then (8, [])
    else
      let l := cutL (size + 16) (s.drop 12)
      if (l.getLastD []).length < 16 ∨ ((l.getLastD []).length = 16 ∧ 1 < l.length) then (8, [])
      else
        let r := goL (openStep key (s.take 12 ++ ctx) ((s.take 8).drop 1) l.length) c 0 l
        if r.1 = 0 then (0, r.2.1.flatten) else (r.1, [])
def lengthS (layer size : Int) : Int :=
  if layer < 0 ∨ 2147483647 < layer ∨ ¬ (1 ≤ size ∧ size ≤ 65536) then 0 else 12 + layer + 16 * max 1 ((layer + size - 1) / size)
theorem headL_len (pre : List Nat) (size : Nat) (h : pre.length = 7) : (headL pre size).length = 12 := by simp [headL, bg_len, h]
theorem headL_bytes {pre : List Nat} (h : Bytes pre) (size : Nat) : Bytes (headL pre size) := ((Bytes.append (by intro x hx; simp at hx; omega) h)).append (bg_bytes 4 size)
theorem nonceN_len (pre : List Nat) (i : Nat) (l : Bool) : (nonceN pre i l).length = pre.length + 5 := by simp [nonceN, bg_len]
theorem nonceN_bytes {pre : List Nat} (h : Bytes pre) (i : Nat) (l : Bool) : Bytes (nonceN pre i l) := (h.append (bg_bytes 4 i)).append (by intro x hx; simp at hx; subst hx; split <;> omega)
end Go.Pure
