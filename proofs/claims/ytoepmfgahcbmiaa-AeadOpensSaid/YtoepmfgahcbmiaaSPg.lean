/- Plain arithmetic of the tag: what is loaded, what is told, and the tag as one number. Conditions: none; no program in sight. -/
import Derived.Test.YtoepmfgahcbmiaaSPf
set_option linter.unusedSimpArgs false
set_option linter.unusedVariables false
set_option maxRecDepth 100000
namespace Go.Pure

theorem leval_take8 (l : List Nat) (h : Bytes l) : leval (l.take 8) = leval l % 18446744073709551616 := by
  have e : leval l = leval (l.take 8) + 256 ^ (l.take 8).length * leval (l.drop 8) := by rw [← leval_append, List.take_append_drop]
  have h8 := leval_take_lt l h 8
  rcases Nat.lt_or_ge l.length 8 with q | q
  · rw [List.take_of_length_le (by omega)] at h8 ⊢
    exact (Nat.mod_eq_of_lt h8).symm
  · rw [List.length_take, Nat.min_eq_left q] at e
    have p8 : (256 : Nat) ^ 8 = 18446744073709551616 := rfl
    rw [p8] at e h8
    omega
theorem leval_drop (l : List Nat) (h : Bytes l) (n : Nat) : leval (l.drop n) = leval l / 256 ^ n := by
  rcases Nat.lt_or_ge l.length n with q | q
  · have := leval_lt l h
    have hp : 256 ^ l.length ≤ 256 ^ n := Nat.pow_le_pow_right (by decide) (by omega)
    rw [List.drop_of_length_le (by omega), Nat.div_eq_of_lt (by omega)]
    rfl
  · have e : leval l = leval (l.take n) + 256 ^ (l.take n).length * leval (l.drop n) := by rw [← leval_append, List.take_append_drop]
    rw [List.length_take, Nat.min_eq_left q] at e
    have hn := leval_take_lt l h n
    rw [e, Nat.add_mul_div_left _ _ (Nat.pow_pos (by decide)), Nat.div_eq_of_lt hn, Nat.zero_add]
theorem loadI_spec (b : List Nat) (h : Bytes b) (i : Nat) (hi : i < 5) (hv : leval b < PP + 5) (hl : b.length ≤ 17) : loadI b i = leval b / 67108864 ^ i % 67108864 := by
  unfold loadI
  have hb := leval_lt b h
  have hd : leval (b.drop (min (26 * i / 8) b.length)) = leval b / 256 ^ (26 * i / 8) := by
    rcases Nat.lt_or_ge b.length (26 * i / 8) with q | q
    · have hp : 256 ^ b.length ≤ 256 ^ (26 * i / 8) := Nat.pow_le_pow_right (by decide) (by omega)
      rw [Nat.min_eq_right (by omega), List.drop_of_length_le (Nat.le_refl _), Nat.div_eq_of_lt (by omega)]
      rfl
    · rw [Nat.min_eq_left q, leval_drop b h]
  rw [leval_take8 _ (h.drop _), hd]
  generalize leval b = V at hv ⊢
  have : i = 0 ∨ i = 1 ∨ i = 2 ∨ i = 3 ∨ i = 4 := by omega
  rcases this with rfl | rfl | rfl | rfl | rfl <;> simp only [PP] at hv <;> simp <;> omega
theorem loadL_spec (b : List Nat) (h : Bytes b) (hv : leval b < PP + 5) (hl : b.length ≤ 17) : lval (loadL b) = leval b ∧ Lim 67108864 (loadL b) := by
  have e : loadL b = [loadI b 0, loadI b 1, loadI b 2, loadI b 3, loadI b 4] := rfl
  refine ⟨?_, fun j => ?_⟩
  · rw [e, loadI_spec b h 0 (by omega) hv hl, loadI_spec b h 1 (by omega) hv hl, loadI_spec b h 2 (by omega) hv hl, loadI_spec b h 3 (by omega) hv hl, loadI_spec b h 4 (by omega) hv hl]
    generalize leval b = V at hv
    simp only [lval, PP] at *
    simp
    omega
  · rw [e]
    match j with
    | 0 => exact loadI_lt b 0
    | 1 => exact loadI_lt b 1
    | 2 => exact loadI_lt b 2
    | 3 => exact loadI_lt b 3
    | 4 => exact loadI_lt b 4
    | j + 5 => simp

theorem le_append (a b v : Nat) : le (a + b) v = le a v ++ le b (v / 256 ^ a) := by
  induction a generalizing v with
  | zero => simp [le]
  | succ a ih =>
    rw [show a + 1 + b = (a + b) + 1 by omega]
    simp only [le, List.cons_append, ih]
    rw [Nat.div_div_eq_div_mul, Nat.pow_succ, Nat.mul_comm 256]
theorem le_mod (n v : Nat) : le n (v % 256 ^ n) = le n v := by
  induction n generalizing v with
  | zero => rfl
  | succ n ih =>
    have hp : 0 < 256 ^ n := Nat.pow_pos (by decide)
    have e1 : v % 256 ^ (n + 1) % 256 = v % 256 := by
      rw [Nat.pow_succ, Nat.mul_comm, Nat.mod_mul, Nat.add_mul_mod_self_left, Nat.mod_mod]
    have e2 : v % 256 ^ (n + 1) / 256 = v / 256 % 256 ^ n := by
      rw [Nat.pow_succ, Nat.mul_comm, Nat.mod_mul, Nat.add_mul_div_left _ _ (by decide), Nat.div_eq_of_lt (Nat.mod_lt _ (by decide)), Nat.zero_add]
    simp only [le, e1, e2, ih]
theorem le_congr {n v u : Nat} (e : v % 256 ^ n = u % 256 ^ n) : le n v = le n u := by rw [← le_mod n v, e, le_mod]

theorem lowL_spec (S : List Nat) (hS : S.length = 5) (bS : Lim 67108864 S) : lowL S = lval S % 18446744073709551616 := by
  rw [lval5 hS]
  unfold lowL
  have h0 := bS 0
  have h1 := bS 1
  have h2 := bS 2
  generalize S.getD 0 0 = a at *
  generalize S.getD 1 0 = b at *
  generalize S.getD 2 0 = c at *
  generalize S.getD 3 0 = d at *
  generalize S.getD 4 0 = e at *
  have m1 : b * 2 ^ 26 % 18446744073709551616 = b * 2 ^ 26 := Nat.mod_eq_of_lt (by omega)
  have m2 : c * 2 ^ 52 % 18446744073709551616 = (c % 4096) * 2 ^ 52 := Nat.mul_mod_mul_right (2 ^ 52) c 4096
  rw [m1, or_add a b 26 (by omega), m2, or_add _ _ 52 (by omega)]
  omega
theorem highL_spec (S : List Nat) (hS : S.length = 5) (bS : Lim 67108864 S) : highL S = lval S / 18446744073709551616 % 18446744073709551616 := by
  rw [lval5 hS]
  unfold highL
  have h0 := bS 0
  have h1 := bS 1
  have h2 := bS 2
  have h3 := bS 3
  generalize S.getD 0 0 = a at *
  generalize S.getD 1 0 = b at *
  generalize S.getD 2 0 = c at *
  generalize S.getD 3 0 = d at *
  generalize S.getD 4 0 = e at *
  have m1 : d * 2 ^ 14 % 18446744073709551616 = d * 2 ^ 14 := Nat.mod_eq_of_lt (by omega)
  have m2 : e * 2 ^ 40 % 18446744073709551616 = (e % 16777216) * 2 ^ 40 := Nat.mul_mod_mul_right (2 ^ 40) e 16777216
  rw [m1, or_add (c / 2 ^ 12) d 14 (by omega), m2, or_add _ _ 40 (by omega)]
  omega
theorem bytesL_spec (S s : List Nat) (hS : S.length = 5) (bS : Lim 67108864 S) (hs : s.length = 16) (bs : Bytes s) : bytesL S s = le 16 (lval S + leval s) := by
  unfold bytesL
  simp only [lowL_spec S hS bS, highL_spec S hS bS]
  have e8 : leval ((s.drop 8).take 8) = leval (s.drop 8) := by rw [List.take_of_length_le (by rw [List.length_drop]; omega)]
  have es : leval s = leval (s.take 8) + 256 ^ (s.take 8).length * leval (s.drop 8) := by rw [← leval_append, List.take_append_drop]
  rw [List.length_take, Nat.min_eq_left (by omega)] at es
  have h1 := leval_take_lt s bs 8
  have h2 := leval_lt _ (bs.drop 8)
  rw [List.length_drop, hs] at h2
  rw [e8, es]
  generalize leval (s.take 8) = a at *
  generalize leval (s.drop 8) = b at *
  generalize lval S = V
  have p8 : (256 : Nat) ^ 8 = 18446744073709551616 := rfl
  have p88 : (256 : Nat) ^ (16 - 8) = 18446744073709551616 := rfl
  rw [p8] at h1 ⊢
  rw [p88] at h2
  rw [show (16 : Nat) = 8 + 8 from rfl, le_append]
  congr 1
  · refine le_congr ?_
    rw [p8]
    omega
  · refine le_congr ?_
    rw [p8]
    split <;> omega

/-! ### The key's first half -/
def clampR (key : List Nat) : List Nat := (List.range 16).map fun i => if i % 4 = 3 then key.getD i 0 % 16 else if 0 < i ∧ i % 4 = 0 then key.getD i 0 / 4 * 4 else key.getD i 0
theorem and15 : ∀ x, x < 256 → x &&& 15 = x % 16 := by decide
theorem and252 : ∀ x, x < 256 → x &&& 252 = x / 4 * 4 := by decide
theorem list16 {l : List Nat} (h : l.length = 16) : ∃ a b c d e f g i j k m n o p q r, l = [a, b, c, d, e, f, g, i, j, k, m, n, o, p, q, r] := by
  match l, h with
  | [a, b, c, d, e, f, g, i, j, k, m, n, o, p, q, r], _ => exact ⟨a, b, c, d, e, f, g, i, j, k, m, n, o, p, q, r, rfl⟩
theorem clamp_eq (key : List Nat) (h : Bytes key) (hl : 16 ≤ key.length) : clampL (key.take 16) = clampR key := by
  have hg : ∀ i, i < 16 → key.getD i 0 = (key.take 16).getD i 0 := fun i hi => by
    rw [List.getD_eq_getElem?_getD, List.getD_eq_getElem?_getD, List.getElem?_take, if_pos hi]
  have hb : Bytes (key.take 16) := h.take 16
  have eR : clampR key = clampR (key.take 16) := by
    unfold clampR
    apply List.map_congr_left
    intro i hi
    rw [List.mem_range] at hi
    rw [hg i hi]
  rw [eR]
  obtain ⟨a, b, c, d, e, f, g, i, j, k, m, n, o, p, q, r, hk⟩ := list16 (l := key.take 16) (by rw [List.length_take]; omega)
  rw [hk] at hb ⊢
  have bx : ∀ x ∈ [a, b, c, d, e, f, g, i, j, k, m, n, o, p, q, r], x < 256 := hb
  simp only [List.mem_cons, List.not_mem_nil, or_false, forall_eq_or_imp, forall_eq] at bx
  obtain ⟨b0, b1, b2, b3, b4, b5, b6, b7, b8, b9, b10, b11, b12, b13, b14, b15⟩ := bx
  simp [clampL, clampN, clampR, List.range, List.range.loop, and15, and252, b3, b4, b7, b8, b11, b12, b15]
theorem clampL_bytes' {k : List Nat} (h : Bytes k) : Bytes (clampL k) := clampN_bytes 252 _ (clampN_bytes 15 _ h)

/-! ### The tag -/
def accR (r : Nat) (m : List Nat) : Nat → Nat
  | 0 => 0
  | i + 1 => (accR r m i + leval (chunk m i ++ [1])) * r % PP
theorem accR_lt (r : Nat) (m : List Nat) (i : Nat) : accR r m i < PP := by
  cases i with
  | zero => show 0 < _; decide
  | succ i => exact Nat.mod_lt _ (by decide)
theorem chunk1_lt {m : List Nat} (h : Bytes m) (i : Nat) : leval (chunk m i ++ [1]) < 680564733841876926926749214863536422912 := by
  have h1 := leval_lt _ (chunkN_bytes h 16 i)
  have h2 := chunkN_len 16 m i
  have h3 : 256 ^ (chunkN 16 m i).length ≤ 256 ^ 16 := Nat.pow_le_pow_right (by decide) h2
  have p : (256 : Nat) ^ 16 = 340282366920938463463374607431768211456 := rfl
  rw [p] at h3
  show leval (chunkN 16 m i ++ [1]) < _
  rw [leval_append]
  simp only [leval, Nat.mul_zero, Nat.add_zero, Nat.mul_one]
  omega
theorem tagN_spec (r m : List Nat) (br : Bytes r) (hr : r.length = 16) (bm : Bytes m) (i : Nat) : lval (tagN (loadL r) m i) % PP = accR (leval r) m i ∧ Lim 67125248 (tagN (loadL r) m i) := by
  have hrl := leval_lt r br
  rw [hr] at hrl
  obtain ⟨er, lr⟩ := loadL_spec r br (by simp only [PP]; omega) (by omega)
  induction i with
  | zero =>
    refine ⟨by simp [tagN, zero5, lval, accR], fun j => ?_⟩
    match j with
    | 0 | 1 | 2 | 3 | 4 => simp [tagN, zero5]
    | j + 5 => simp [tagN, zero5]
  | succ i ih =>
    obtain ⟨h1, h2⟩ := ih
    have lc := chunkN_len 16 m i
    have bc : Bytes (chunk m i ++ [1]) := (chunkN_bytes bm 16 i).append (by intro x hx; simp at hx; omega)
    obtain ⟨ec, lcl⟩ := loadL_spec (chunk m i ++ [1]) bc (by have := chunk1_lt bm i; simp only [PP]; omega) (by simp; omega)
    obtain ⟨ea, la⟩ := addL_spec (tagN (loadL r) m i) (loadL (chunk m i ++ [1])) (tagN_len _ _ _) (loadL_len _) h2 lcl (by omega) (by omega)
    obtain ⟨et, lt⟩ := timesL_spec (addL (tagN (loadL r) m i) (loadL (chunk m i ++ [1]))) (loadL r) (by rw [addL, addN_len, tagN_len]) (loadL_len _) (la.mono (by omega)) lr
    refine ⟨?_, lt⟩
    show lval (timesL _ _) % PP = _
    rw [← et.mod, ea, ec, er]
    show _ = (accR (leval r) m i + leval (chunk m i ++ [1])) * leval r % PP
    rw [← h1, Nat.mul_mod, Nat.add_mod]
    conv => rhs; rw [Nat.mul_mod, Nat.add_mod, Nat.mod_mod]
theorem tagL_eq (key m : List Nat) (hk : key.length = 32) (bk : Bytes key) (bm : Bytes m) :
    tagL key m = le 16 (accR (leval (clampR key)) m ((m.length + 15) / 16) + leval (key.drop 16)) := by
  have bc : Bytes (clampL (key.take 16)) := clampL_bytes' (bk.take 16)
  have lc : (clampL (key.take 16)).length = 16 := by unfold clampL; rw [clampN_len, clampN_len, List.length_take]; omega
  obtain ⟨h1, h2⟩ := tagN_spec (clampL (key.take 16)) m bc lc bm ((m.length + 15) / 16)
  obtain ⟨g1, g2⟩ := reduceL_spec _ (tagN_len _ _ _) h2
  unfold tagL
  rw [bytesL_spec _ _ (by rw [reduceL_len, tagN_len]) g2 (by rw [List.length_drop]; omega) (bk.drop 16), g1, h1, clamp_eq key bk (by omega)]
end Go.Pure
