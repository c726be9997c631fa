/- An ask of the crypts, in memory; a book and another one. Conditions: each names its own. -/
import Derived.Test.YtnecdbclhdbaoaaSYn
set_option linter.unusedSimpArgs false
set_option linter.unusedVariables false
set_option maxRecDepth 100000
set_option maxHeartbeats 1000000
namespace Go.Proofs.Ytnecdbclhdbaoaa
open Go Go.SL Go.Pure

theorem cf0 {h : Hp} {K : Value → Prop} (r : Nat) : q P h (Instr.fieldAt t_orloplaw12_Ask (.pointer (some ⟨r, 0, none⟩)) 0) K = K (.pointer (some ⟨r, 0, none⟩)) := q_of (by kernel_rfl) K
theorem cf1 {h : Hp} {K : Value → Prop} (r : Nat) : q P h (Instr.fieldAt t_orloplaw12_Ask (.pointer (some ⟨r, 0, none⟩)) 1) K = K (.pointer (some ⟨r, 32, none⟩)) := q_of (by kernel_rfl) K
theorem cf2 {h : Hp} {K : Value → Prop} (r : Nat) : q P h (Instr.fieldAt t_orloplaw12_Ask (.pointer (some ⟨r, 0, none⟩)) 2) K = K (.pointer (some ⟨r, 44, none⟩)) := q_of (by kernel_rfl) K
theorem cf3 {h : Hp} {K : Value → Prop} (r : Nat) : q P h (Instr.fieldAt t_orloplaw12_Ask (.pointer (some ⟨r, 0, none⟩)) 3) K = K (.pointer (some ⟨r, 45, none⟩)) := q_of (by kernel_rfl) K
theorem pcf3 {h : Hp} (r : Nat) : peek P h (Instr.fieldAt t_orloplaw12_Ask (.pointer (some ⟨r, 0, none⟩)) 3) = some (.pointer (some ⟨r, 45, none⟩)) := by kernel_rfl
theorem sl32 {h : Hp} {K : Value → Prop} (r : Nat) : q P h (Instr.sliceAt t_32_uint8 (.pointer (some ⟨r, 0, none⟩)) none none none) K = K (.slice (some ⟨r, 0, none⟩) 32 32) := q_of (by kernel_rfl) K
theorem sl12 {h : Hp} {K : Value → Prop} (r : Nat) : q P h (Instr.sliceAt t_12_uint8 (.pointer (some ⟨r, 32, none⟩)) none none none) K = K (.slice (some ⟨r, 32, none⟩) 12 12) := q_of (by kernel_rfl) K
theorem sl12z {h : Hp} {K : Value → Prop} (r : Nat) : q P h (Instr.sliceAt t_12_uint8 (.pointer (some ⟨r, 0, none⟩)) none none none) K = K (.slice (some ⟨r, 0, none⟩) 12 12) := q_of (by kernel_rfl) K
/-- The cells of an ask. -/
def askC (key nonce : List Nat) (vb vt : Value) : List Value := nv .u8 key ++ nv .u8 nonce ++ [vb, vt]
theorem askC_len {key nonce : List Nat} {vb vt : Value} (lk : key.length = 32) (ln : nonce.length = 12) : (askC key nonce vb vt).length = 46 := by simp [askC, nv_len, lk, ln]
theorem sz_ask12 : sz P t_orloplaw12_Ask = some 46 := by kernel_rfl
theorem zr_ask12 : zr P t_orloplaw12_Ask = some (.agg (askC (List.replicate 32 0) (List.replicate 12 0) (.slice none 0 0) (.slice none 0 0)).toArray) := by kernel_rfl
theorem zr_32u8 : zr P t_32_uint8 = some (.agg (nv .u8 (List.replicate 32 0)).toArray) := by kernel_rfl
theorem zr_12u8 : zr P t_12_uint8 = some (.agg (nv .u8 (List.replicate 12 0)).toArray) := by kernel_rfl
theorem sz_12u8 : sz P t_12_uint8 = some 12 := by kernel_rfl
theorem sz_3u8 : sz P t_3_uint8 = some 3 := by kernel_rfl
theorem askC_flat {key nonce : List Nat} {vb vt : Value} (fb : flat vb = true) (ft : flat vt = true) : ∀ y ∈ askC key nonce vb vt, flat y = true := by
  intro y hy
  rcases List.mem_append.1 hy with q | q
  · rcases List.mem_append.1 q with q | q
    · exact nv_flat _ _ y q
    · exact nv_flat _ _ y q
  · simp only [List.mem_cons, List.not_mem_nil, or_false] at q
    rcases q with rfl | rfl
    · exact fb
    · exact ft
/-- A row that holds an ask. -/
def Ask12 (R : Hp) (r : Nat) (key nonce : List Nat) (vb vt : Value) : Prop := ∃ f, R r = some (.row t_orloplaw12_Ask (askC key nonce vb vt) 46 f)
theorem Ask12.facts {R h : Hp} {r : Nat} {key nonce : List Nat} {vb vt : Value} (a : Ask12 R r key nonce vb vt) (x : Hp.ext R h) (lk : key.length = 32) (ln : nonce.length = 12) :
    Rn h .u8 (.slice (some ⟨r, 0, none⟩) 32 32) key ∧ Rn h .u8 (.slice (some ⟨r, 32, none⟩) 12 12) nonce ∧ h.cell ⟨r, 44, none⟩ = some vb ∧ h.cell ⟨r, 45, none⟩ = some vt := by
  obtain ⟨f, a⟩ := a
  have e := x _ _ a
  have lk' : (nv .u8 key).length = 32 := by rw [nv_len, lk]
  have ln' : (nv .u8 nonce).length = 12 := by rw [nv_len, ln]
  refine ⟨⟨by rw [nv_len]; omega, some ⟨r, 0, none⟩, 32, by rw [lk], by omega, .inr ⟨r, 0, rfl, fun i y ey => ?_⟩⟩, ⟨by rw [nv_len]; omega, some ⟨r, 32, none⟩, 12, by rw [ln], by omega, .inr ⟨r, 32, rfl, fun i y ey => ?_⟩⟩, ?_, ?_⟩
  · have hi := (List.getElem?_eq_some_iff.1 ey).1
    rw [cell_row e, Nat.zero_add, askC, List.append_assoc, List.getElem?_append_left hi]
    exact ey
  · have hi := (List.getElem?_eq_some_iff.1 ey).1
    rw [cell_row e, askC, List.append_assoc, List.getElem?_append_right (by omega), lk', List.getElem?_append_left (by omega), show 32 + i - 32 = i by omega]
    exact ey
  · rw [cell_row e, askC, List.getElem?_append_right (by rw [List.length_append]; omega), List.length_append, lk', ln']; rfl
  · rw [cell_row e, askC, List.getElem?_append_right (by rw [List.length_append]; omega), List.length_append, lk', ln']; rfl
/-- A row of bytes of its own, as a slice. -/
theorem rn_row {h : Hp} {r e c : Nat} {l : List Nat} {f : Option (Nat × Nat)} (n : Nat) (hr : h r = some (.row e (nv .u8 l) c f)) (hl : l.length = n) : Rn h .u8 (.slice (some ⟨r, 0, none⟩) n n) l := by
  subst hl
  exact ⟨by rw [nv_len]; omega, some ⟨r, 0, none⟩, l.length, rfl, Nat.le_refl _, .inr ⟨r, 0, rfl, fun i y ey => by rw [cell_row hr, Nat.zero_add]; exact ey⟩⟩

theorem q_build3 {h : Hp} {K : Value → Prop} : q P h (Instr.build t_3_uint8 #[]) K = K (.agg #[.int .u8 0, .int .u8 0, .int .u8 0]) := q_of (by kernel_rfl) K
theorem pk_eql3_0 {h : Hp} (x y : Operand) : peek P h (eqop .eql t_3_uint8 x y (.agg #[.int .u8 ((0 : Nat) : Int), .int .u8 ((0 : Nat) : Int), .int .u8 ((0 : Nat) : Int)]) (.agg #[.int .u8 0, .int .u8 0, .int .u8 0])) = some (.bool true) := by kernel_rfl
theorem pk_eql3_a {h : Hp} (x y : Operand) (a b c : Nat) : peek P h (eqop .eql t_3_uint8 x y (.agg #[.int .u8 (((a + 1 : Nat) : Int)), .int .u8 ((b : Int)), .int .u8 ((c : Int))]) (.agg #[.int .u8 0, .int .u8 0, .int .u8 0])) = some (.bool false) := by kernel_rfl
theorem pk_eql3_b {h : Hp} (x y : Operand) (a b c : Nat) : peek P h (eqop .eql t_3_uint8 x y (.agg #[.int .u8 (((0 : Nat) : Int)), .int .u8 (((b + 1 : Nat) : Int)), .int .u8 ((c : Int))]) (.agg #[.int .u8 0, .int .u8 0, .int .u8 0])) = some (.bool false) := by kernel_rfl
theorem pk_eql3_c {h : Hp} (x y : Operand) (a b c : Nat) : peek P h (eqop .eql t_3_uint8 x y (.agg #[.int .u8 (((0 : Nat) : Int)), .int .u8 (((0 : Nat) : Int)), .int .u8 (((c + 1 : Nat) : Int))]) (.agg #[.int .u8 0, .int .u8 0, .int .u8 0])) = some (.bool false) := by kernel_rfl
theorem pk_eql3 {h : Hp} (x y : Operand) (a b c : Nat) : peek P h (eqop .eql t_3_uint8 x y (.agg #[.int .u8 (a : Int), .int .u8 (b : Int), .int .u8 (c : Int)]) (.agg #[.int .u8 0, .int .u8 0, .int .u8 0])) = some (.bool (decide (a = 0 ∧ b = 0 ∧ c = 0))) := by
  match a, b, c with
  | 0, 0, 0 => exact pk_eql3_0 x y
  | a + 1, b, c => rw [decide_eq_false (by omega)]; exact pk_eql3_a x y a b c
  | 0, b + 1, c => rw [decide_eq_false (by omega)]; exact pk_eql3_b x y 0 b c
  | 0, 0, c + 1 => rw [decide_eq_false (by omega)]; exact pk_eql3_c x y 0 0 c
theorem q_eql3 {h : Hp} {K : Value → Prop} (x y : Operand) (a b c : Nat) : q P h (eqop .eql t_3_uint8 x y (.agg #[.int .u8 (a : Int), .int .u8 (b : Int), .int .u8 (c : Int)]) (.agg #[.int .u8 0, .int .u8 0, .int .u8 0])) K = K (.bool (decide (a = 0 ∧ b = 0 ∧ c = 0))) := q_of (pk_eql3 x y a b c) K

/-- Another key, nonce, or word beside. -/
theorem set_xor {l : List Nat} {i x : Nat} (hi : i < l.length) (e : l.set i (l.getD i 0 ^^^ x) = l) : x = 0 := by
  have := congrArg (fun m => m.getD i 0) e
  simp only [List.getD_eq_getElem?_getD, List.getElem?_set, if_true, hi] at this
  rw [List.getElem?_eq_getElem hi] at this
  simp only [Option.getD_some] at this
  have h2 : l[i] ^^^ (l[i] ^^^ x) = l[i] ^^^ l[i] := by rw [this]
  rwa [← Nat.xor_assoc, Nat.xor_self, Nat.zero_xor] at h2
theorem others_open {key nonce b t : List Nat} (x y z : Nat) (hm : may key nonce) :
    crOpen (.book [] [⟨key, nonce, b, t⟩]) (key.set 3 (key.getD 3 0 ^^^ x)) (nonce.set 3 (nonce.getD 3 0 ^^^ y)) (if z = 0 then b else b ++ [z]) (boxB 0 (t.length + 16)) = if x = 0 ∧ y = 0 ∧ z = 0 then (0, t) else (7, []) := by
  have hm2 : may (key.set 3 (key.getD 3 0 ^^^ x)) (nonce.set 3 (nonce.getD 3 0 ^^^ y)) := ⟨by rw [List.length_set]; exact hm.1, by rw [List.length_set]; exact hm.2⟩
  simp only [crOpen, if_pos hm2]
  unfold bookOpen
  rw [if_neg (by rw [boxB_len]; omega), boxB_take8 _ _ (by omega), bval_bg]
  have e0 : 0 % 256 ^ 8 = 0 := rfl
  rw [e0]
  simp only [List.getElem?_cons_zero]
  have lk : key.length = 32 := hm.1
  have ln : nonce.length = 12 := hm.2
  by_cases hz : x = 0 ∧ y = 0 ∧ z = 0
  · obtain ⟨rfl, rfl, rfl⟩ := hz
    rw [if_pos (show 0 = 0 ∧ 0 = 0 ∧ 0 = 0 from ⟨rfl, rfl, rfl⟩), Nat.xor_zero, Nat.xor_zero, if_pos (show 0 = 0 from rfl)]
    have s1 : key.set 3 (key.getD 3 0) = key := by
      rw [List.getD_eq_getElem?_getD, List.getElem?_eq_getElem (by omega)]; simp
    have s2 : nonce.set 3 (nonce.getD 3 0) = nonce := by
      rw [List.getD_eq_getElem?_getD, List.getElem?_eq_getElem (by omega)]; simp
    rw [if_pos ⟨s1.symm, s2.symm, rfl, trivial⟩]
  · rw [if_neg hz, if_neg]
    rintro ⟨q1, q2, q3, _⟩
    have z1 := set_xor (by omega) q1.symm
    have z2 := set_xor (by omega) q2.symm
    refine hz ⟨z1, z2, ?_⟩
    by_cases q : z = 0
    · exact q
    · rw [if_neg q] at q3
      have := congrArg List.length q3
      simp at this
end Go.Proofs.Ytnecdbclhdbaoaa
