/- wrapSame_holds wrapSame proved lifted over: part 2 of its proof; each part's own remarks stand with its declarations. Conditions: each lemma names its own. -/
import Derived.Test.YtoikhbagchfeoaaWrapSame1
set_option linter.unusedSimpArgs false
set_option linter.unusedVariables false
set_option linter.unusedSimpArgs false
set_option linter.unusedVariables false
set_option maxRecDepth 100000
namespace Go.Proofs.Ytoikhbagchfeoaa
open Go Go.SL Go.Pure
theorem T_rot {h : Hp} {K : Value → Hp → Prop} (x n : Nat) (hx : x < 4294967296) (hn : 0 < n) (hn2 : n < 32) (k : K (.int .u32 ((rotl x n : Nat) : Int)) h) : Cn P n_bits_RotateLeft32 #[.int .u32 x, .int .i64 n] h K := by
  refine F_bits_RotateLeft32 ?_
  unfold s_bits_RotateLeft32
  have e0 : iand .u64 (n : Int) 31 = (n : Int) := by
    rw [and64 (by omega) (by omega) (by omega) (by omega)]
    have : n &&& 31 = n := by
      have := Nat.and_two_pow_sub_one_eq_mod n 5
      simp only [Nat.reducePow, Nat.add_one_sub_one, Nat.reduceSub] at this
      rw [this]; omega
    rw [Int.toNat_natCast]
    show ((n &&& 31 : Nat) : Int) = n
    rw [this]
  simp (disch := omega) only [GL, RL, wu64i, e0]
  have e1 : min n IntKind.u32.bits = n := by simp only [IntKind.bits]; omega
  have e2 : min ((32 : Int) - n).toNat IntKind.u32.bits = 32 - n := by simp only [IntKind.bits]; omega
  have h1 : x / 2 ^ (32 - n) ≤ x := Nat.div_le_self _ _
  rw [e1, e2, mulp, fdivp, wu32]
  unfold rotl at k
  generalize x / 2 ^ (32 - n) = y at h1 k ⊢
  rw [or32 (by omega) (by omega) (by omega) (by omega)]
  exact k
theorem T_half {h : Hp} {K : Value → Hp → Prop} {g e cap : Nat} {f : Nat × Nat} (S : List Nat) (a b d n : Nat) (hS : S.length = 16) (hw : W32 S) (ha : a < 16) (hb : b < 16) (hd : d < 16) (hn : 0 < n) (hn2 : n < 32)
    (hg : h g = some (.row e (nv .u32 S) cap (some f))) (hf : ∀ i, i < 16 → ¬ (f.1 ≤ i ∧ i < f.2)) (k : K (.tuple #[]) (h.set g (.row e (nv .u32 (halfL S a b d n)) cap (some f)))) :
    Cn P n_chacha_state_half #[.pointer (some ⟨g, 0, none⟩), .int .i64 a, .int .i64 b, .int .i64 d, .int .i64 n] h K := by
  refine F_chacha_state_half ?_
  unfold s_chacha_state_half
  have c1 : h.cell ⟨g, a, none⟩ = some (.int .u32 ((S.getD a 0 : Nat) : Int)) := by rw [cell_row hg, nv_getD _ _ _ (by omega)]
  have c2 : h.cell ⟨g, b, none⟩ = some (.int .u32 ((S.getD b 0 : Nat) : Int)) := by rw [cell_row hg, nv_getD _ _ _ (by omega)]
  simp (disch := omega) only [GL, RL, c1, c2]
  rw [← Int.natCast_add, wu32]
  have hl : (nv .u32 S).length = 16 := by rw [nv_len]; exact hS
  refine aw_store z_uint32 rfl (put_row hg (by omega) (hf _ (by omega)) _) ?_
  rw [nv_set]
  obtain ⟨S1, hS1⟩ : ∃ S1, S.set a ((S.getD a 0 + S.getD b 0) % 4294967296) = S1 := ⟨_, rfl⟩
  have hl1 : S1.length = 16 := by rw [← hS1, List.length_set]; exact hS
  have hw1 : W32 S1 := by rw [← hS1]; exact hw.set _ (Nat.mod_lt _ (by decide))
  rw [hS1]
  obtain ⟨h1, hh1⟩ : ∃ h1, h.set g (.row e (nv .u32 S1) cap (some f)) = h1 := ⟨_, rfl⟩
  have hg1 : h1 g = some (.row e (nv .u32 S1) cap (some f)) := by rw [← hh1]; exact Hp.set_same ..
  rw [hh1]
  have c3 : h1.cell ⟨g, d, none⟩ = some (.int .u32 ((S1.getD d 0 : Nat) : Int)) := by rw [cell_row hg1, nv_getD _ _ _ (by omega)]
  have c4 : h1.cell ⟨g, a, none⟩ = some (.int .u32 ((S1.getD a 0 : Nat) : Int)) := by rw [cell_row hg1, nv_getD _ _ _ (by omega)]
  simp (disch := omega) only [GL, RL, c3, c4]
  have b3 := hw1.getD d
  have b4 := hw1.getD a
  rw [xor32 (by omega) (by omega) (by omega) (by omega), Int.toNat_natCast, Int.toNat_natCast]
  have b5 : S1.getD d 0 ^^^ S1.getD a 0 < 4294967296 := Nat.xor_lt_two_pow (n := 32) b3 b4
  refine T_rot _ n b5 hn hn2 ?_
  have hl2 : (nv .u32 S1).length = 16 := by rw [nv_len]; exact hl1
  refine aw_store z_uint32 rfl (put_row hg1 (by omega) (hf _ (by omega)) _) ?_
  rw [nv_set, ← hh1, Hp.set_set]
  have : halfL S a b d n = S1.set d (rotl (S1.getD d 0 ^^^ S1.getD a 0) n) := by unfold halfL; rw [hS1]
  rw [← this]
  exact k
theorem T_quarter {h : Hp} {K : Value → Hp → Prop} {g e cap : Nat} {f : Nat × Nat} (S : List Nat) (a b c d : Nat) (hS : S.length = 16) (hw : W32 S) (ha : a < 16) (hb : b < 16) (hc : c < 16) (hd : d < 16)
    (hg : h g = some (.row e (nv .u32 S) cap (some f))) (hf : ∀ i, i < 16 → ¬ (f.1 ≤ i ∧ i < f.2)) (k : K (.tuple #[]) (h.set g (.row e (nv .u32 (quarterL S a b c d)) cap (some f)))) :
    Cn P n_chacha_state_quarter #[.pointer (some ⟨g, 0, none⟩), .agg #[.int .i64 a, .int .i64 b, .int .i64 c, .int .i64 d]] h K := by
  refine Cn_wk (F_chacha_state_quarter ?_)
  unfold s_chacha_state_quarter
  refine aw_box fun r hr => ?_
  have hne : r ≠ g := by rintro rfl; rw [hr] at hg; cases hg
  obtain ⟨O, hO⟩ : ∃ O, AObj.row t_4_int (Value.agg #[.int .i64 (a : Int), .int .i64 (b : Int), .int .i64 (c : Int), .int .i64 (d : Int)]).cells.toList (Value.agg #[.int .i64 (a : Int), .int .i64 (b : Int), .int .i64 (c : Int), .int .i64 (d : Int)]).cells.size (some (0, 0)) = O := ⟨_, rfl⟩
  have cells : ∀ (S' : List Nat), (((h.set r O).set g (.row e (nv .u32 S') cap (some f))).cell ⟨r, 0, none⟩ = some (.int .i64 (a : Int))) ∧ (((h.set r O).set g (.row e (nv .u32 S') cap (some f))).cell ⟨r, 1, none⟩ = some (.int .i64 (b : Int))) ∧
      (((h.set r O).set g (.row e (nv .u32 S') cap (some f))).cell ⟨r, 2, none⟩ = some (.int .i64 (c : Int))) ∧ (((h.set r O).set g (.row e (nv .u32 S') cap (some f))).cell ⟨r, 3, none⟩ = some (.int .i64 (d : Int))) := by
    intro S'
    have : ((h.set r O).set g (.row e (nv .u32 S') cap (some f))) r = some O := by rw [Hp.set_ne _ _ hne, Hp.set_same]
    rw [← hO] at this ⊢
    exact ⟨by rw [cell_row this]; rfl, by rw [cell_row this]; rfl, by rw [cell_row this]; rfl, by rw [cell_row this]; rfl⟩
  have start : h.set r O = (h.set r O).set g (.row e (nv .u32 S) cap (some f)) := by
    funext j
    by_cases ej : j = g
    · subst ej; rw [Hp.set_same, Hp.set_ne _ _ (Ne.symm hne), hg]
    · rw [Hp.set_ne _ _ ej]
  have one : ∀ (S' : List Nat) (x y z n : Nat) (K' : Value → Hp → Prop), S'.length = 16 → W32 S' → x < 16 → y < 16 → z < 16 → 0 < n → n < 32 → K' (.tuple #[]) ((h.set r O).set g (.row e (nv .u32 (halfL S' x y z n)) cap (some f))) →
      Cn P n_chacha_state_half #[.pointer (some ⟨g, 0, none⟩), .int .i64 x, .int .i64 y, .int .i64 z, .int .i64 n] ((h.set r O).set g (.row e (nv .u32 S') cap (some f))) K' := by
    intro S' x y z n K' h1 h2 h3 h4 h5 h6 h7 q
    refine T_half S' x y z n h1 h2 h3 h4 h5 h6 h7 (Hp.set_same ..) hf ?_
    rw [Hp.set_set]
    exact q
  show q P (h.set r (AObj.row t_4_int (Value.agg #[.int .i64 (a : Int), .int .i64 (b : Int), .int .i64 (c : Int), .int .i64 (d : Int)]).cells.toList (Value.agg #[.int .i64 (a : Int), .int .i64 (b : Int), .int .i64 (c : Int), .int .i64 (d : Int)]).cells.size (some (0, 0)))) _ _
  rw [hO, start]
  obtain ⟨q0, q1, q2, q3⟩ := cells S
  simp (disch := omega) only [GL, RL, Int.reduceToNat, q0, q1, q2, q3]
  refine one S a b d 16 _ hS hw ha hb hd (by omega) (by omega) ?_
  obtain ⟨q0, q1, q2, q3⟩ := cells (halfL S a b d 16)
  simp (disch := omega) only [GL, RL, Int.reduceToNat, q0, q1, q2, q3]
  have l1 := halfL_len S a b d 16
  have w1 := halfL_w hw a b d 16
  refine one _ c d b 12 _ (by omega) w1 hc hd hb (by omega) (by omega) ?_
  obtain ⟨q0, q1, q2, q3⟩ := cells (halfL (halfL S a b d 16) c d b 12)
  simp (disch := omega) only [GL, RL, Int.reduceToNat, q0, q1, q2, q3]
  have l2 := halfL_len (halfL S a b d 16) c d b 12
  have w2 := halfL_w w1 c d b 12
  refine one _ a b d 8 _ (by omega) w2 ha hb hd (by omega) (by omega) ?_
  obtain ⟨q0, q1, q2, q3⟩ := cells (halfL (halfL (halfL S a b d 16) c d b 12) a b d 8)
  simp (disch := omega) only [GL, RL, Int.reduceToNat, q0, q1, q2, q3]
  have l3 := halfL_len (halfL (halfL S a b d 16) c d b 12) a b d 8
  have w3 := halfL_w w2 a b d 8
  refine one _ c d b 7 _ (by omega) w3 hc hd hb (by omega) (by omega) ?_
  exact ⟨_, le_set (le_fresh hr), k⟩
theorem zr_state : zr P t_chacha_state = some (.agg #[.int .u32 0, .int .u32 0, .int .u32 0, .int .u32 0, .int .u32 0, .int .u32 0, .int .u32 0, .int .u32 0, .int .u32 0, .int .u32 0, .int .u32 0, .int .u32 0, .int .u32 0, .int .u32 0, .int .u32 0, .int .u32 0]) := by kernel_rfl
theorem T_begin {h : Hp} {K : Value → Hp → Prop} {vk vn : Value} {key nonce : List Nat} (counter : Nat) (hc : counter < 4294967296) (hk : Rn h .u8 vk key) (hn : Rn h .u8 vn nonce) (bk : Bytes key) (bn : Bytes nonce) (lk : key.length = 32) (ln : nonce.length = 12)
    (k : K (.agg (nv .u32 (beginL key nonce counter)).toArray) h) : Cn P n_chacha_begin #[vk, vn, .int .u32 counter] h K := by
  refine Cn_wk (F_chacha_begin ?_)
  unfold s_chacha_begin
  refine aw_allocL (List.replicate 16 (Value.int .u32 0)) zr_state rfl fun r6 hr6 => ?_
  have eb : peek P (h.set r6 (.row t_chacha_state (List.replicate 16 (Value.int .u32 0)) 16 (some (0, 0)))) (Instr.build t_chacha_state #[(0, (Value.int .u32 1634760805)), (1, (Value.int .u32 857760878)), (2, (Value.int .u32 2036477234)), (3, (Value.int .u32 1797285236))]) =
      some (.agg #[.int .u32 1634760805, .int .u32 857760878, .int .u32 2036477234, .int .u32 1797285236, .int .u32 0, .int .u32 0, .int .u32 0, .int .u32 0, .int .u32 0, .int .u32 0, .int .u32 0, .int .u32 0, .int .u32 0, .int .u32 0, .int .u32 0, .int .u32 0]) := by kernel_rfl
  show q P (h.set r6 (.row t_chacha_state (List.replicate 16 (Value.int .u32 0)) 16 (some (0, 0)))) _ _
  rw [q_of eb]
  obtain ⟨O, hO⟩ : ∃ O, AObj.row t_chacha_state (List.replicate 16 (Value.int .u32 0)) (List.replicate 16 (Value.int .u32 0)).length (some (0, 0)) = O := ⟨_, rfl⟩
  rw [hO]
  refine aw_allocL (List.replicate 16 (Value.int .u32 0)) zr_state rfl fun r7 hr7 => ?_
  have hne : r7 ≠ r6 := by rintro rfl; rw [Hp.set_same] at hr7; cases hr7
  have hr7' : h r7 = none := by rwa [Hp.set_ne _ _ hne] at hr7
  refine aw_storeRow (ys := nv .u32 (consts ++ List.replicate 12 0)) (xs := List.replicate 16 (Value.int .u32 0)) (f := (0, 0)) (by exact z_chacha_state) (Hp.set_same ..) rfl (nv_flat _ _) (fun i _ => by simp) ?_
  rw [Hp.set_set]
  have key1 : ∀ o : AObj, Hp.cle h ((h.set r6 O).set r7 o) := fun o => (cle_set r6 O hr6).trans (cle_set r7 o hr7)
  refine Lp_mk (fun m vs h' => ∃ i : Nat, i + m = 8 ∧ h' = (h.set r6 O).set r7 (.row t_chacha_state (nv .u32 (consts ++ words key i ++ List.replicate (12 - i) 0)) 16 (some (0, 0))) ∧ vs = [.int .i64 (i : Int)]) 8 ⟨0, rfl, by simp [words], rfl⟩ ?_
  rintro m vs h' ⟨i, hi, rfl, rfl⟩
  simp (disch := omega) only [GL, RL, wi64]
  have hlen : (consts ++ words key i).length = 4 + i := by rw [List.length_append, words_len]; rfl
  split
  · rename_i hlt
    simp only [decide_eq_true_eq] at hlt
    have e1 : (4 * (i : Int)) = ((4 * i : Nat) : Int) := by push_cast; rfl
    have e2 : ((4 : Int) + (i : Int)).toNat = 4 + i := by omega
    rw [e1]
    refine q_slRn u_Sl_uint8 z_uint8 (hk.mono (key1 _)) .i64 (4 * i) (by omega) fun w' hw' => ?_
    refine T_word_Get32 hw' (bk.drop _) ?_
    simp (disch := omega) only [GL, RL, wi64, e2]
    refine aw_store z_uint32 rfl (put_row (Hp.set_same ..) (by rw [nv_len, List.length_append, hlen, List.length_replicate]; omega) (by simp) _) ?_
    refine ⟨_, .refl _, m - 1, by omega, i + 1, by omega, ?_, rfl⟩
    rw [Hp.set_set, nv_set, ← hlen, show 12 - i = (12 - (i + 1)) + 1 by omega, set_end, words_succ key i, ← List.append_assoc]
  · rename_i hge
    simp only [decide_eq_true_eq] at hge
    obtain rfl : i = 8 := by omega
    simp (disch := omega) only [GL, RL, Int.reduceToNat]
    refine aw_store z_uint32 rfl (put_row (Hp.set_same ..) (by rw [nv_len, List.length_append, hlen, List.length_replicate]; omega) (by simp) _) ?_
    rw [Hp.set_set, nv_set, show (12 : Nat) = (consts ++ words key 8).length by rw [hlen]]
    rw [show (consts ++ words key 8).length - 8 = 3 + 1 by rw [hlen], set_end]
    refine Lp_mk (fun m vs h' => ∃ i : Nat, i + m = 3 ∧ h' = (h.set r6 O).set r7 (.row t_chacha_state (nv .u32 (consts ++ words key 8 ++ [counter] ++ words nonce i ++ List.replicate (3 - i) 0)) 16 (some (0, 0))) ∧ vs = [.int .i64 (i : Int)]) 3 ⟨0, rfl, by simp [words], rfl⟩ ?_
    rintro m vs h' ⟨i, hi', rfl, rfl⟩
    simp (disch := omega) only [GL, RL, wi64]
    have hlen2 : (consts ++ words key 8 ++ [counter] ++ words nonce i).length = 13 + i := by rw [List.length_append, List.length_append, hlen, words_len]; rfl
    split
    · rename_i hlt
      simp only [decide_eq_true_eq] at hlt
      have e1 : (4 * (i : Int)) = ((4 * i : Nat) : Int) := by push_cast; rfl
      have e2 : ((13 : Int) + (i : Int)).toNat = 13 + i := by omega
      rw [e1]
      refine q_slRn u_Sl_uint8 z_uint8 (hn.mono (key1 _)) .i64 (4 * i) (by omega) fun w' hw' => ?_
      refine T_word_Get32 hw' (bn.drop _) ?_
      simp (disch := omega) only [GL, RL, wi64, e2]
      refine aw_store z_uint32 rfl (put_row (Hp.set_same ..) (by rw [nv_len, List.length_append, hlen2, List.length_replicate]; omega) (by simp) _) ?_
      refine ⟨_, .refl _, m - 1, by omega, i + 1, by omega, ?_, rfl⟩
      rw [Hp.set_set, nv_set, ← hlen2, show 3 - i = (3 - (i + 1)) + 1 by omega, set_end, words_succ nonce i, ← List.append_assoc]
    · rename_i hge
      simp only [decide_eq_true_eq] at hge
      obtain rfl : i = 3 := by omega
      have hfin : consts ++ words key 8 ++ [counter] ++ words nonce 3 ++ List.replicate (3 - 3) 0 = beginL key nonce counter := by simp [beginL]
      rw [hfin]
      have hl16 : (nv .u32 (beginL key nonce counter)).length = 16 := by rw [nv_len, beginL_len]
      rw [q_ldRow u_chacha_state rfl (by rw [hl16]; exact z_chacha_state) (Hp.set_same ..)]
      refine aw_storeRow (xs := List.replicate 16 (Value.int .u32 0)) (f := (0, 0)) (cap := 16) (e := t_chacha_state) (by rw [hl16]; exact z_chacha_state) (by rw [Hp.set_ne _ _ (Ne.symm hne), Hp.set_same, ← hO]; rfl) (by rw [hl16]; rfl) (nv_flat _ _) (fun i _ => by simp) ?_
      rw [q_resRow u_chacha_state rfl (by rw [hl16]; exact z_chacha_state) (Hp.set_same ..)]
      refine ⟨h, fun b o e => ?_, k⟩
      have n6 : b ≠ r6 := by rintro rfl; rw [hr6] at e; cases e
      have n7 : b ≠ r7 := by rintro rfl; rw [hr7'] at e; cases e
      exact ⟨o, by rw [Hp.set_ne _ _ n6, Hp.set_ne _ _ n7, Hp.set_ne _ _ n6]; exact e, .refl _⟩
/-! ### A block -/
def qv (q : Nat × Nat × Nat × Nat) : List Value := [.int .i64 (q.1 : Int), .int .i64 (q.2.1 : Int), .int .i64 (q.2.2.1 : Int), .int .i64 (q.2.2.2 : Int)]
def tbl : List Value := quads.flatMap qv
theorem bld4 {h : Hp} {K : Value → Prop} (a b c d : Int) : q P h (Instr.build t_4_int #[(0, .int .i64 a), (1, .int .i64 b), (2, .int .i64 c), (3, .int .i64 d)]) K = K (.agg #[.int .i64 a, .int .i64 b, .int .i64 c, .int .i64 d]) := q_of (by kernel_rfl) K
theorem zr_table : zr P t_8_4_int = some (.agg (List.replicate 32 (Value.int .i64 0)).toArray) := by kernel_rfl
theorem T_quarters {h : Hp} {K : Value → Hp → Prop} (k : K (.agg tbl.toArray) h) : Cn P n_chacha_quarters #[] h K := by
  refine Cn_wk (F_chacha_quarters ?_)
  unfold s_chacha_quarters
  refine aw_allocL (List.replicate 32 (Value.int .i64 0)) zr_table rfl fun r hr => ?_
  simp only [bld4]
  obtain ⟨H, hH⟩ : ∃ H, h.set r (AObj.row t_8_4_int (List.replicate 32 (Value.int .i64 0)) (List.replicate 32 (Value.int .i64 0)).length (some (0, 0))) = H := ⟨_, rfl⟩
  rw [hH, q_of (v := .agg tbl.toArray) (by kernel_rfl)]
  refine aw_storeRow (xs := List.replicate 32 (Value.int .i64 0)) (f := (0, 0)) (cap := 32) (e := t_8_4_int) (by exact z_8_4_int) (by rw [← hH]; exact Hp.set_same ..) rfl (by decide) (fun i _ => by simp) ?_
  rw [q_resRow (ys := tbl) u_8_4_int rfl (by exact z_8_4_int) (Hp.set_same ..)]
  refine ⟨h, ?_, k⟩
  rw [← hH, Hp.set_set]
  exact le_fresh hr
theorem tbl_at {h : Hp} {K : Value → Prop} (i : Nat) (hi : i < 8) : q P h (Instr.index t_8_4_int (.agg tbl.toArray) (.int .i64 i)) K = K (.agg (qv (quads.getD i (0, 0, 0, 0))).toArray) := by
  have : i = 0 ∨ i = 1 ∨ i = 2 ∨ i = 3 ∨ i = 4 ∨ i = 5 ∨ i = 6 ∨ i = 7 := by omega
  rcases this with rfl | rfl | rfl | rfl | rfl | rfl | rfl | rfl <;> exact q_of (by kernel_rfl) K
theorem zr_4 : zr P t_4_int = some (.agg (List.replicate 4 (Value.int .i64 0)).toArray) := by kernel_rfl
theorem qv_bound (q : Nat × Nat × Nat × Nat) (hq : q ∈ quads) : q.1 < 16 ∧ q.2.1 < 16 ∧ q.2.2.1 < 16 ∧ q.2.2.2 < 16 := by
  revert q; decide
theorem out_step (s x : List Nat) (i : Nat) : outL s x (i + 1) = outL s x i ++ le 4 ((s.getD i 0 + x.getD i 0) % 4294967296) := rfl
theorem T_block {h : Hp} {K : Value → Hp → Prop} {vk vn : Value} {key nonce : List Nat} (counter : Nat) (hc : counter < 4294967296) (hk : Rn h .u8 vk key) (hn : Rn h .u8 vn nonce) (bk : Bytes key) (bn : Bytes nonce) (lk : key.length = 32) (ln : nonce.length = 12)
    (k : ∀ v h', Nn h t_uint8 .u8 v h' (blockL key nonce counter) → K v h') : Cn P n_chacha_block #[vk, vn, .int .u32 counter] h K := by
  refine Cn_wk (F_chacha_block ?_)
  unfold s_chacha_block
  refine T_begin counter hc hk hn bk bn lk ln ?_
  obtain ⟨B, hB⟩ : ∃ B, beginL key nonce counter = B := ⟨_, rfl⟩
  have lB : B.length = 16 := by rw [← hB, beginL_len]
  have wB : W32 B := by rw [← hB]; exact beginL_w bk bn hc
  rw [hB]
  have l16 : ∀ S : List Nat, S.length = 16 → (nv .u32 S).length = 16 := fun S hS => by rw [nv_len, hS]
  refine aw_allocL (List.replicate 16 (Value.int .u32 0)) zr_state rfl fun r7 hr7 => ?_
  refine aw_storeRow (xs := List.replicate 16 (Value.int .u32 0)) (f := (0, 0)) (e := t_chacha_state) (by rw [l16 B lB]; exact z_chacha_state) (Hp.set_same ..) (by rw [l16 B lB]; rfl) (nv_flat _ _) (fun i _ => by simp) ?_
  rw [Hp.set_set, q_ldRow u_chacha_state rfl (by rw [l16 B lB]; exact z_chacha_state) (Hp.set_same ..)]
  obtain ⟨h1, hh1⟩ : ∃ h1, h.set r7 (AObj.row t_chacha_state (nv .u32 B) (List.replicate 16 (Value.int .u32 0)).length (some (0, 0))) = h1 := ⟨_, rfl⟩
  rw [hh1]
  have h1r7 : h1 r7 = some (AObj.row t_chacha_state (nv .u32 B) 16 (some (0, 0))) := by rw [← hh1]; exact Hp.set_same ..
  have le1 : Hp.le h h1 := by rw [← hh1]; exact le_fresh hr7
  refine aw_allocL (List.replicate 16 (Value.int .u32 0)) zr_state rfl fun r8 hr8 => ?_
  have n78 : r7 ≠ r8 := by rintro rfl; rw [h1r7] at hr8; cases hr8
  refine aw_storeRow (xs := List.replicate 16 (Value.int .u32 0)) (f := (0, 0)) (e := t_chacha_state) (by rw [l16 B lB]; exact z_chacha_state) (Hp.set_same ..) (by rw [l16 B lB]; rfl) (nv_flat _ _) (fun i _ => by simp) ?_
  rw [Hp.set_set]
  refine T_quarters ?_
  refine aw_allocL (List.replicate 32 (Value.int .i64 0)) zr_table rfl fun r9 hr9 => ?_
  have n89 : r8 ≠ r9 := by rintro rfl; rw [Hp.set_same] at hr9; cases hr9
  have n79 : r7 ≠ r9 := by rintro rfl; rw [Hp.set_ne _ _ n78, h1r7] at hr9; cases hr9
  refine aw_storeRow (ys := tbl) (xs := List.replicate 32 (Value.int .i64 0)) (f := (0, 0)) (cap := 32) (e := t_8_4_int) (by exact z_8_4_int) (Hp.set_same ..) rfl (by decide) (fun i _ => by simp) ?_
  rw [Hp.set_set]
  -- the memory, by the state
  obtain ⟨M, hM⟩ : ∃ M : List Nat → Hp, ∀ S, (h1.set r8 (AObj.row t_chacha_state (nv .u32 S) (List.replicate 16 (Value.int .u32 0)).length (some (0, 0)))).set r9 (AObj.row t_8_4_int tbl 32 (some (0, 0))) = M S := ⟨fun S => _, fun S => rfl⟩
  rw [hM]
  have M8 : ∀ S, M S r8 = some (AObj.row t_chacha_state (nv .u32 S) 16 (some (0, 0))) := fun S => by rw [← hM, Hp.set_ne _ _ n89, Hp.set_same]; rfl
  have M7 : ∀ S, M S r7 = some (AObj.row t_chacha_state (nv .u32 B) 16 (some (0, 0))) := fun S => by rw [← hM, Hp.set_ne _ _ n79, Hp.set_ne _ _ n78, h1r7]
  have M9 : ∀ S, M S r9 = some (AObj.row t_8_4_int tbl 32 (some (0, 0))) := fun S => by rw [← hM, Hp.set_same]
  have Mset : ∀ S S', (M S).set r8 (AObj.row t_chacha_state (nv .u32 S') 16 (some (0, 0))) = M S' := fun S S' => by
    rw [← hM, ← hM, Hp.set_comm _ _ _ (Ne.symm n89), Hp.set_set]; rfl
  have r9h1 : h1 r9 = none := by rwa [Hp.set_ne _ _ (Ne.symm n89)] at hr9
  have leM : ∀ S, Hp.le h (M S) := fun S => by
    rw [← hM]
    refine le1.trans ((le_fresh hr8).trans (le_fresh ?_))
    rw [Hp.set_ne _ _ (Ne.symm n89)]; exact r9h1
  refine Lp_mk (fun m vs h' => ∃ i : Nat, i + m = 10 ∧ h' = M (rounds i B) ∧ vs = [.int .i64 (i : Int)]) 10 ⟨0, rfl, rfl, rfl⟩ ?_
  rintro m vs h' ⟨i, hi, rfl, rfl⟩
  have lR : (rounds i B).length = 16 := by rw [rounds_len, lB]
  have wR : W32 (rounds i B) := rounds_w i wB
  generalize hR : rounds i B = R at lR wR ⊢
  simp (disch := omega) only [GL, RL, wi64]
  split
  · rename_i hlt
    simp only [decide_eq_true_eq] at hlt
    rw [q_ldRow u_8_4_int rfl (by exact z_8_4_int) (M9 R)]
    refine Lp_mk (fun m' vs h' => ∃ j : Nat, j + m' = 8 ∧ h' = M ((quads.take j).foldl stepL R) ∧ vs = [.int .i64 (j : Int)]) 8 ⟨0, rfl, rfl, rfl⟩ ?_
    rintro m' vs h' ⟨j, hj, rfl, rfl⟩
    have lS : ((quads.take j).foldl stepL R).length = 16 := by rw [foldStep_len, lR]
    have wS : W32 ((quads.take j).foldl stepL R) := foldStep_w _ wR
    generalize hS : (quads.take j).foldl stepL R = S at lS wS ⊢
    simp (disch := omega) only [GL, RL, wi64]
    split
    · rename_i hlt2
      simp only [decide_eq_true_eq] at hlt2
      have hj8 : j < 8 := by omega
      rw [tbl_at j hj8]
      have hjl : j < quads.length := hj8
      obtain ⟨q, hq⟩ : ∃ q, quads.getD j (0, 0, 0, 0) = q := ⟨_, rfl⟩
      have hq' : quads[j] = q := by rw [← hq]; simp [List.getD_eq_getElem?_getD, hjl]
      have hmem : q ∈ quads := by rw [← hq']; exact List.getElem_mem hjl
      obtain ⟨q1, q2, q3, q4⟩ := qv_bound q hmem
      rw [hq]
      refine aw_allocL (List.replicate 4 (Value.int .i64 0)) zr_4 rfl fun r11 hr11 => ?_
      refine aw_storeRow (ys := qv q) (xs := List.replicate 4 (Value.int .i64 0)) (f := (0, 0)) (e := t_4_int) (by exact z_4_int) (Hp.set_same ..) rfl (by intro y hy; simp [qv] at hy; rcases hy with rfl | rfl | rfl | rfl <;> rfl) (fun i _ => by simp) ?_
      rw [Hp.set_set, q_ldRow (ys := qv q) u_4_int rfl (by exact z_4_int) (Hp.set_same ..)]
      refine Cn.weaken (le_fresh hr11) (T_quarter S q.1 q.2.1 q.2.2.1 q.2.2.2 lS wS q1 q2 q3 q4 (M8 S) (fun i _ => by simp) ?_)
      refine ⟨_, .refl _, m' - 1, by omega, j + 1, by omega, ?_, rfl⟩
      rw [Mset, List.take_succ_eq_append_getElem hjl, List.foldl_append, hS, hq']
      rfl
    · rename_i hge
      simp only [decide_eq_true_eq] at hge
      obtain rfl : j = 8 := by omega
      refine ⟨_, .refl _, m - 1, by omega, i + 1, by omega, ?_, rfl⟩
      rw [← hS, rounds, hR, droundL]
      rfl
  · rename_i hge
    simp only [decide_eq_true_eq] at hge
    obtain rfl : i = 10 := by omega
    refine aw_make (n := 0) (c := 64) u_Sl_uint8 nfo_uint8 rfl (by omega) (by omega) (by omega) fun r h2 hw => ?_
    refine Lp_mk (fun m' vs h' => ∃ (j : Nat) (v : Value), j + m' = 16 ∧ New (M R) t_uint8 1 v h' (nv .u8 (outL R B j)) (4 * j) ∧ vs = [v, .int .i64 (j : Int)]) 16 ⟨0, r, rfl, hw, rfl⟩ ?_
    clear hw
    rintro m' vs h3 ⟨j, v, hj, hw, rfl⟩
    simp (disch := omega) only [GL, RL, wi64]
    split
    · rename_i hlt2
      simp only [decide_eq_true_eq] at hlt2
      have c1 : h3.cell ⟨r8, j, none⟩ = some (.int .u32 ((R.getD j 0 : Nat) : Int)) := hw.cle _ _ (by rw [cell_row (M8 R), nv_getD _ _ _ (by omega)])
      have c2 : h3.cell ⟨r7, j, none⟩ = some (.int .u32 ((B.getD j 0 : Nat) : Int)) := hw.cle _ _ (by rw [cell_row (M7 R), nv_getD _ _ _ (by omega)])
      simp (disch := omega) only [GL, RL, wi64, c1, c2]
      rw [← Int.natCast_add, wu32]
      refine T_word_Put32 _ (Nat.mod_lt _ (by decide)) fun r' h4 hp => ?_
      have hp' : New h3 t_uint8 1 r' h4 (nv .u8 (le 4 ((R.getD j 0 + B.getD j 0) % 4294967296))) 4 := by
        unfold Nn at hp; rw [le_len] at hp; exact hp
      refine aw_appendN u_Sl_uint8 u_Sl_uint8 nfo_uint8 rfl (by omega) hw hp' (nv_flat _ _) (by omega) fun v' h5 hw5 => ?_
      refine ⟨_, .refl _, m' - 1, by omega, j + 1, v', by omega, ?_, rfl⟩
      rw [out_step, nv_app]
      exact hw5
    · rename_i hge2
      simp only [decide_eq_true_eq] at hge2
      obtain rfl : j = 16 := by omega
      have hfin : outL R B 16 = blockL key nonce counter := by unfold blockL; rw [hB, hR]
      rw [hfin] at hw
      obtain ⟨h0, l0, hw0⟩ := New.down (leM R) hw
      refine ⟨h0, l0, k _ _ ?_⟩
      unfold Nn
      rw [blockL_len]
      exact hw0
theorem T_may {h : Hp} {K : Value → Hp → Prop} {vk vn : Value} {key nonce : List Nat} (hk : Rn h .u8 vk key) (hn : Rn h .u8 vn nonce) (k : K (.bool (decide (key.length = 32 ∧ nonce.length = 12))) h) : Cn P n_chacha_may #[vk, vn] h K := by
  refine F_chacha_may ?_
  obtain ⟨a, c, rfl, hc⟩ := hk.shape
  obtain ⟨a', c', rfl, hc'⟩ := hn.shape
  unfold s_chacha_may
  simp (disch := omega) only [GL, RL]
  have e1 : ((key.length : Int) == 32) = decide (key.length = 32) := by rw [Bool.eq_iff_iff]; simp; omega
  have e2 : ((nonce.length : Int) == 12) = decide (nonce.length = 12) := by rw [Bool.eq_iff_iff]; simp; omega
  rw [e1, e2]
  by_cases h1 : key.length = 32
  · simpa [h1] using k
  · simpa [h1] using k
theorem T_Block {h : Hp} {K : Value → Hp → Prop} {vk vn : Value} {key nonce : List Nat} (counter : Nat) (hc : counter < 4294967296) (hk : Rn h .u8 vk key) (hn : Rn h .u8 vn nonce) (bk : Bytes key) (bn : Bytes nonce)
    (k : ∀ v h', (if key.length = 32 ∧ nonce.length = 12 then Nn h t_uint8 .u8 v h' (blockL key nonce counter) else v = .slice none 0 0 ∧ h' = h) → K (.tuple #[v, .int .i64 (if key.length = 32 ∧ nonce.length = 12 then 0 else 1)]) h') : Cn P n_chacha_Block #[vk, vn, .int .u32 counter] h K := by
  refine F_chacha_Block ?_
  unfold s_chacha_Block
  refine T_may hk hn ?_
  simp (disch := omega) only [GL, RL]
  by_cases hm : key.length = 32 ∧ nonce.length = 12
  · simp only [hm, decide_true, Bool.not_true, Bool.false_eq_true, if_false, and_self, if_true] at k ⊢
    exact T_block counter hc hk hn bk bn hm.1 hm.2 fun v h' hw => k v h' hw
  · simp only [hm, decide_false, Bool.not_false, if_true, if_false] at k ⊢
    exact k _ _ ⟨rfl, rfl⟩
theorem ixor8_nat (a b : Nat) (ha : a < 256) (hb : b < 256) : ixor .u8 (a : Int) (b : Int) = ((a ^^^ b : Nat) : Int) := by
  rw [xor8 (by omega) (by omega) (by omega) (by omega), Int.toNat_natCast, Int.toNat_natCast]
theorem T_Xor {h : Hp} {K : Value → Hp → Prop} {vk vn vb : Value} {key nonce b : List Nat} (counter : Nat) (hc : counter < 4294967296) (hk : Rn h .u8 vk key) (hn : Rn h .u8 vn nonce) (hb : Rn h .u8 vb b) (bk : Bytes key) (bn : Bytes nonce) (bb : Bytes b) (hl : b.length ≤ 70368744177664)
    (k : ∀ v h', (if key.length = 32 ∧ nonce.length = 12 then Nn h t_uint8 .u8 v h' (xorL key nonce counter b) else v = .slice none 0 0 ∧ h' = h) → K (.tuple #[v, .int .i64 (if key.length = 32 ∧ nonce.length = 12 then 0 else 1)]) h') : Cn P n_chacha_Xor #[vk, vn, .int .u32 counter, vb] h K := by
  refine F_chacha_Xor ?_
  unfold s_chacha_Xor
  refine T_may hk hn ?_
  obtain ⟨ab, cb, rfl, hcb⟩ := hb.shape
  simp (disch := omega) only [GL, RL]
  by_cases hm : key.length = 32 ∧ nonce.length = 12
  case neg =>
    simp only [hm, decide_false, Bool.not_false, if_true, if_false] at k ⊢
    exact k _ _ ⟨rfl, rfl⟩
  simp only [hm, decide_true, Bool.not_true, Bool.false_eq_true, if_false, and_self, if_true] at k ⊢
  refine aw_make (n := 0) (c := b.length) u_Sl_uint8 nfo_uint8 rfl (by omega) (by omega) (by omega) fun r h1 hw => ?_
  obtain ⟨X, hX⟩ : ∃ X, xorL key nonce counter b = X := ⟨_, rfl⟩
  have lX : X.length = b.length := by rw [← hX, xorL_len]
  rw [hX] at k
  refine Lp_mk (fun m vs h' => ∃ (i : Nat) (v : Value), i + m = (b.length + 63) / 64 ∧ New h t_uint8 1 v h' (nv .u8 (X.take (64 * i))) (X.take (64 * i)).length ∧ vs = [.int .u32 (((counter + i) % 4294967296 : Nat) : Int), v, .int .i64 ((64 * i : Nat) : Int)]) ((b.length + 63) / 64)
    ⟨0, r, by omega, by simpa [nv] using hw, by rw [Nat.add_zero, Nat.mod_eq_of_lt hc]; rfl⟩ ?_
  clear hw
  rintro m vs h2 ⟨i, v, hi, hw, rfl⟩
  simp (disch := omega) only [GL, RL, wi64]
  by_cases hlt : 64 * i < b.length
  · rw [if_pos (by simpa using (by omega : ((64 * i : Nat) : Int) < (b.length : Int)))]
    refine T_block _ (Nat.mod_lt _ (by decide)) (hk.mono hw.cle) (hn.mono hw.cle) bk bn hm.1 hm.2 fun vb' h3 hblk => ?_
    obtain ⟨BL, hBL⟩ : ∃ BL, blockL key nonce ((counter + i) % 4294967296) = BL := ⟨_, rfl⟩
    have lBL : BL.length = 64 := by rw [← hBL, blockL_len]
    have bBL : Bytes BL := by rw [← hBL]; exact blockL_bytes _ _ _
    rw [hBL] at hblk
    obtain ⟨rb, crb, frb, hrb, hcrb, rfl, hh3, _⟩ := New.form hblk (by omega)
    have hblk3 : ∀ j, j < 64 → h3.cell ⟨rb, j, none⟩ = some (.int .u8 ((BL.getD j 0 : Nat) : Int)) := fun j hj => by
      rw [hh3, cell_row (Hp.set_same ..), nv_getD _ _ _ (by omega)]
    have hw3 := hw.add hrb (AObj.row t_uint8 (nv .u8 BL) (crb * 1) (some frb))
    rw [← hh3] at hw3
    have hrbh : h rb = none := hw.noneAt hrb
    obtain ⟨hb0, hhb0⟩ : ∃ hb0, h.set rb (AObj.row t_uint8 (nv .u8 BL) (crb * 1) (some frb)) = hb0 := ⟨_, rfl⟩
    rw [hhb0] at hw3
    have hb0c : ∀ j, j < 64 → hb0.cell ⟨rb, j, none⟩ = some (.int .u8 ((BL.getD j 0 : Nat) : Int)) := fun j hj => by
      rw [← hhb0, cell_row (Hp.set_same ..), nv_getD _ _ _ (by omega)]
    have hb0b : Hp.cle h hb0 := by rw [← hhb0]; exact cle_set rb _ hrbh
    have hb0l : Hp.le h hb0 := by rw [← hhb0]; exact le_fresh hrbh
    clear hblk3 hh3 hw
    have ec : IntKind.u32.wrap (((counter + i) % 4294967296 : Nat) + 1 : Int) = (((counter + (i + 1)) % 4294967296 : Nat) : Int) := by
      rw [inc, wu32]; congr 1; omega
    refine Lp_mk (fun m' vs h' => ∃ (j : Nat) (v : Value), j + m' = 64 ∧ 64 * i + j ≤ b.length ∧ New hb0 t_uint8 1 v h' (nv .u8 (X.take (64 * i + j))) (X.take (64 * i + j)).length ∧ vs = [v, .int .i64 (j : Int)]) 64 ⟨0, v, rfl, by omega, hw3, rfl⟩ ?_
    clear hw3
    rintro m' vs h4 ⟨j, v', hj, hjb, hw, rfl⟩
    have fin : (64 * i + j = b.length ∨ j = 64) → ∃ h0, Hp.le h0 h4 ∧ ∃ m_1, m_1 < m ∧ ∃ (i' : Nat) (v : Value), i' + m_1 = (b.length + 63) / 64 ∧ New h t_uint8 1 v h0 (nv .u8 (X.take (64 * i'))) (X.take (64 * i')).length ∧
        [Value.int .u32 (((counter + (i + 1)) % 4294967296 : Nat) : Int), v', .int .i64 (((64 * i : Nat) : Int) + 64)] = [.int .u32 (((counter + i') % 4294967296 : Nat) : Int), v, .int .i64 ((64 * i' : Nat) : Int)] := by
      intro hd
      have e1 : X.take (64 * i + j) = X.take (64 * (i + 1)) := by
        rcases hd with hd | hd
        · rw [List.take_of_length_le (by omega), List.take_of_length_le (by omega)]
        · rw [hd, Nat.mul_add]
      rw [e1] at hw
      obtain ⟨h0, l0, hw0⟩ := New.down hb0l hw
      exact ⟨h0, l0, m - 1, by omega, i + 1, v', by omega, hw0, by rw [Nat.mul_add]; rfl⟩
    simp (disch := omega) only [GL, RL, wi64, ec]
    by_cases hj64 : j < 64
    · rw [if_pos (by simpa using (by omega : (j : Int) < 64))]
      by_cases hjb2 : 64 * i + j < b.length
      · rw [if_pos (by simp; omega)]
        obtain ⟨bb', ob, rfl, hyb⟩ := hb.pos (by omega)
        have e2 : (((64 * i : Nat) : Int) + (j : Int)).toNat = 64 * i + j := by omega
        have c1 : h4.cell ⟨bb', ob + (64 * i + j), none⟩ = some (.int .u8 ((b.getD (64 * i + j) 0 : Nat) : Int)) := hw.cle _ _ (hb0b _ _ (hyb _ hjb2))
        have c2 : h4.cell ⟨rb, j, none⟩ = some (.int .u8 ((BL.getD j 0 : Nat) : Int)) := hw.cle _ _ (hb0c j hj64)
        simp (disch := omega) only [GL, RL, wi64, e2, c1, c2]
        rw [ixor8_nat _ _ (bb.getD _) (bBL.getD _)]
        refine aw_lit (ps := [(0, _)]) u_Sl_uint8 z_uint8 zr_uint8 rfl (by omega) (by intro p hp; rw [List.mem_singleton.1 hp]; exact ⟨rfl, by omega⟩) fun x h5 hx _ => ?_
        refine aw_appendN u_Sl_uint8 u_Sl_uint8 nfo_uint8 rfl (by omega) hw hx (by intro y hy; simp [fillL] at hy; subst hy; rfl) (by rw [List.length_take]; omega) fun v2 h6 hw6 => ?_
        refine ⟨_, .refl _, m' - 1, by omega, j + 1, v2, by omega, by omega, ?_, rfl⟩
        have e3 : X.take (64 * i + (j + 1)) = X.take (64 * i + j) ++ [b.getD (64 * i + j) 0 ^^^ BL.getD j 0] := by
          rw [← hX, ← Nat.add_assoc, xorL_take _ _ _ _ _ hjb2, ← hBL, show (64 * i + j) / 64 = i by omega, show (64 * i + j) % 64 = j by omega]
        rw [e3, nv_app, List.length_append]
        exact hw6
      · rw [if_neg (by simp; omega)]
        exact fin (.inl (by omega))
    · rw [if_neg (by simp; omega)]
      exact fin (.inr (by omega))
  · rw [if_neg (by simp; omega)]
    rw [List.take_of_length_le (by omega)] at hw
    exact k _ _ hw
end Go.Proofs.Ytoikhbagchfeoaa
namespace Go.Pure
abbrev W : Nat := 18446744073709551616
def W64 (l : List Nat) : Prop := ∀ x ∈ l, x < 18446744073709551616
theorem W64.getD {l : List Nat} (h : W64 l) (i : Nat) : l.getD i 0 < 18446744073709551616 := by
  rw [List.getD_eq_getElem?_getD]
  cases hg : l[i]? with
  | none => simp
  | some x => exact h x (List.mem_of_getElem? hg)
theorem W64.set {l : List Nat} (h : W64 l) (i : Nat) {x : Nat} (hx : x < 18446744073709551616) : W64 (l.set i x) := fun y hy => by
  rcases List.mem_or_eq_of_mem_set hy with q | rfl
  · exact h y q
  · exact hx
def zero5 : List Nat := [0, 0, 0, 0, 0]
theorem zero5_w : W64 zero5 := by intro x hx; simp [zero5] at hx; omega
def addN (S M : List Nat) : Nat → List Nat
  | 0 => S
  | i + 1 => (addN S M i).set i (((addN S M i).getD i 0 + M.getD i 0) % 18446744073709551616)
def addL (S M : List Nat) : List Nat := addN S M 5
theorem addN_len (S M : List Nat) (i : Nat) : (addN S M i).length = S.length := by
  induction i with
  | zero => rfl
  | succ i ih => simp [addN, ih]
theorem addN_w {S : List Nat} (h : W64 S) (M : List Nat) (i : Nat) : W64 (addN S M i) := by
  induction i with
  | zero => exact h
  | succ i ih => exact ih.set _ (Nat.mod_lt _ (by decide))
def carryN (S : List Nat) : Nat → Nat × List Nat
  | 0 => (0, S)
  | i + 1 => (((carryN S i).2.getD i 0 + (carryN S i).1) % 18446744073709551616 / 67108864, (carryN S i).2.set i (((carryN S i).2.getD i 0 + (carryN S i).1) % 18446744073709551616 % 67108864))
theorem carryN_len (S : List Nat) (i : Nat) : (carryN S i).2.length = S.length := by
  induction i with
  | zero => rfl
  | succ i ih => simp [carryN, ih]
theorem carryN_w {S : List Nat} (h : W64 S) (i : Nat) : (carryN S i).1 < 18446744073709551616 ∧ W64 (carryN S i).2 := by
  induction i with
  | zero => exact ⟨by show 0 < _; decide, h⟩
  | succ i ih =>
    have := Nat.mod_lt ((carryN S i).2.getD i 0 + (carryN S i).1) (show 18446744073709551616 > 0 by decide)
    exact ⟨by simp only [carryN]; omega, ih.2.set _ (by omega)⟩
def carryE (c : Nat) (T : List Nat) : List Nat :=
  let A := T.set 0 ((T.getD 0 0 + 5 * c % 18446744073709551616) % 18446744073709551616)
  let B := A.set 1 ((A.getD 1 0 + A.getD 0 0 / 67108864) % 18446744073709551616)
  B.set 0 (B.getD 0 0 % 67108864)
def carryL (S : List Nat) : List Nat := carryE (carryN S 5).1 (carryN S 5).2
theorem carryE_len (c : Nat) (T : List Nat) : (carryE c T).length = T.length := by simp [carryE]
theorem carryL_len (S : List Nat) : (carryL S).length = S.length := by rw [carryL, carryE_len, carryN_len]
theorem carryE_w (c : Nat) {T : List Nat} (h : W64 T) : W64 (carryE c T) := by
  have h1 := h.set 0 (Nat.mod_lt (T.getD 0 0 + 5 * c % 18446744073709551616) (show 18446744073709551616 > 0 by decide))
  refine (h1.set 1 (Nat.mod_lt _ (by decide))).set 0 ?_
  exact Nat.lt_of_lt_of_le (Nat.mod_lt _ (show 67108864 > 0 by decide)) (by decide)
theorem carryL_w {S : List Nat} (h : W64 S) : W64 (carryL S) := carryE_w _ (carryN_w h 5).2
def tval (i k : Nat) (S R : List Nat) : Nat :=
  if 5 ≤ i + k then S.getD i 0 * R.getD k 0 % 18446744073709551616 * 5 % 18446744073709551616 else S.getD i 0 * R.getD k 0 % 18446744073709551616
def tin (S R : List Nat) (i : Nat) (O : List Nat) : Nat → List Nat
  | 0 => O
  | k + 1 => (tin S R i O k).set ((i + k) % 5) (((tin S R i O k).getD ((i + k) % 5) 0 + tval i k S R) % 18446744073709551616)
def tout (S R : List Nat) : Nat → List Nat
  | 0 => zero5
  | i + 1 => tin S R i (tout S R i) 5
def timesL (S R : List Nat) : List Nat := carryL (tout S R 5)
theorem tin_len (S R : List Nat) (i : Nat) (O : List Nat) (k : Nat) : (tin S R i O k).length = O.length := by
  induction k with
  | zero => rfl
  | succ k ih => simp [tin, ih]
theorem tout_len (S R : List Nat) (i : Nat) : (tout S R i).length = 5 := by
  induction i with
  | zero => rfl
  | succ i ih => rw [tout, tin_len, ih]
theorem tin_w (S R : List Nat) (i : Nat) {O : List Nat} (h : W64 O) (k : Nat) : W64 (tin S R i O k) := by
  induction k with
  | zero => exact h
  | succ k ih => exact ih.set _ (Nat.mod_lt _ (by decide))
theorem tout_w (S R : List Nat) (i : Nat) : W64 (tout S R i) := by
  induction i with
  | zero => exact zero5_w
  | succ i ih => exact tin_w S R i ih 5
theorem timesL_len (S R : List Nat) : (timesL S R).length = 5 := by rw [timesL, carryL_len, tout_len]
theorem timesL_w (S R : List Nat) : W64 (timesL S R) := carryL_w (tout_w S R 5)
def redN (T : List Nat) : Nat → List Nat
  | 0 => T.set 0 ((T.getD 0 0 + 5) % 18446744073709551616)
  | i + 1 =>
    let A := (redN T i).set (i + 1) (((redN T i).getD (i + 1) 0 + (redN T i).getD i 0 / 67108864) % 18446744073709551616)
    A.set i (A.getD i 0 % 67108864)
theorem redN_len (T : List Nat) (i : Nat) : (redN T i).length = T.length := by
  induction i with
  | zero => simp [redN]
  | succ i ih => simp [redN, ih]
theorem redN_w {T : List Nat} (h : W64 T) (i : Nat) : W64 (redN T i) := by
  induction i with
  | zero => exact h.set _ (Nat.mod_lt _ (by decide))
  | succ i ih =>
    refine (ih.set _ (Nat.mod_lt _ (by decide))).set _ ?_
    exact Nat.lt_of_lt_of_le (Nat.mod_lt _ (show 67108864 > 0 by decide)) (by decide)
def redE (T M : List Nat) : List Nat := if M.getD 4 0 / 67108864 ≠ 0 then M.set 4 (M.getD 4 0 % 67108864) else T
def reduceL (S : List Nat) : List Nat := redE (carryL (carryL S)) (redN (carryL (carryL S)) 4)
theorem redE_len (T M : List Nat) (h : M.length = T.length) : (redE T M).length = T.length := by unfold redE; split <;> simp [h]
theorem reduceL_len (S : List Nat) : (reduceL S).length = S.length := by
  unfold reduceL
  rw [redE_len _ _ (redN_len _ _), carryL_len, carryL_len]
theorem reduceL_w {S : List Nat} (h : W64 S) : W64 (reduceL S) := by
  have h2 := carryL_w (carryL_w h)
  unfold reduceL redE
  split
  · refine (redN_w h2 4).set _ ?_
    exact Nat.lt_of_lt_of_le (Nat.mod_lt _ (show 67108864 > 0 by decide)) (by decide)
  · exact h2
def lowL (S : List Nat) : Nat := (S.getD 0 0 ||| S.getD 1 0 * 2 ^ 26 % 18446744073709551616) ||| S.getD 2 0 * 2 ^ 52 % 18446744073709551616
def highL (S : List Nat) : Nat := (S.getD 2 0 / 2 ^ 12 ||| S.getD 3 0 * 2 ^ 14 % 18446744073709551616) ||| S.getD 4 0 * 2 ^ 40 % 18446744073709551616
def bytesL (S s : List Nat) : List Nat :=
  let a := leval (s.take 8)
  let lo := (lowL S + a) % 18446744073709551616
  let hi := (highL S + leval ((s.drop 8).take 8)) % 18446744073709551616
  le 8 lo ++ le 8 (if lo < a then (hi + 1) % 18446744073709551616 else hi)
theorem bytesL_len (S s : List Nat) : (bytesL S s).length = 16 := by simp [bytesL, le_len]
theorem bytesL_bytes (S s : List Nat) : Bytes (bytesL S s) := (le_bytes _ _).append (le_bytes _ _)
def loadI (b : List Nat) (i : Nat) : Nat := leval ((b.drop (min (26 * i / 8) b.length)).take 8) / 2 ^ (26 * i % 8) % 67108864
def loadN (b : List Nat) : Nat → List Nat
  | 0 => zero5
  | i + 1 => (loadN b i).set i (loadI b i)
def loadL (b : List Nat) : List Nat := loadN b 5
theorem loadI_lt (b : List Nat) (i : Nat) : loadI b i < 67108864 := Nat.mod_lt _ (by decide)
theorem loadN_len (b : List Nat) (i : Nat) : (loadN b i).length = 5 := by
  induction i with
  | zero => rfl
  | succ i ih => simp [loadN, ih]
theorem loadL_len (b : List Nat) : (loadL b).length = 5 := loadN_len b 5
theorem loadN_w (b : List Nat) (i : Nat) : W64 (loadN b i) := by
  induction i with
  | zero => exact zero5_w
  | succ i ih => exact ih.set _ (Nat.lt_of_lt_of_le (loadI_lt b i) (by decide))
theorem loadL_w (b : List Nat) : W64 (loadL b) := loadN_w b 5
def clampN (v : Nat) (l : List Nat) (is : List Nat) : List Nat := is.foldl (fun l i => l.set i (l.getD i 0 &&& v)) l
def clampL (k : List Nat) : List Nat := clampN 252 (clampN 15 k [3, 7, 11, 15]) [4, 8, 12]
theorem clampN_len (v : Nat) (is : List Nat) : ∀ l : List Nat, (clampN v l is).length = l.length := by
  induction is with
  | nil => exact fun l => rfl
  | cons i is ih => intro l; show (clampN v (l.set i _) is).length = _; rw [ih]; simp
theorem Bytes.set {l : List Nat} (h : Bytes l) (i : Nat) {x : Nat} (hx : x < 256) : Bytes (l.set i x) := fun y hy => by
  rcases List.mem_or_eq_of_mem_set hy with q | rfl
  · exact h y q
  · exact hx
theorem clampN_bytes (v : Nat) (is : List Nat) : ∀ {l : List Nat}, Bytes l → Bytes (clampN v l is) := by
  induction is with
  | nil => exact fun h => h
  | cons i is ih => intro l h; exact ih (h.set i (Nat.lt_of_le_of_lt Nat.and_le_left (h.getD i)))
/-- The ith of a row's pieces of n. -/
def chunkN (n : Nat) (m : List Nat) (i : Nat) : List Nat := (m.take (min (n * i + n) m.length)).drop (n * i)
abbrev chunk (m : List Nat) (i : Nat) : List Nat := chunkN 16 m i
theorem chunkN_bytes {m : List Nat} (h : Bytes m) (n i : Nat) : Bytes (chunkN n m i) := (h.take _).drop _
theorem chunkN_len (n : Nat) (m : List Nat) (i : Nat) : (chunkN n m i).length ≤ n := by unfold chunkN; rw [List.length_drop, List.length_take]; omega
def tagN (r m : List Nat) : Nat → List Nat
  | 0 => zero5
  | i + 1 => timesL (addL (tagN r m i) (loadL (chunk m i ++ [1]))) r
theorem tagN_len (r m : List Nat) (i : Nat) : (tagN r m i).length = 5 := by
  cases i with
  | zero => rfl
  | succ i => rw [tagN, timesL_len]
theorem tagN_w (r m : List Nat) (i : Nat) : W64 (tagN r m i) := by
  cases i with
  | zero => exact zero5_w
  | succ i => exact timesL_w _ _
def tagL (key m : List Nat) : List Nat := bytesL (reduceL (tagN (loadL (clampL (key.take 16))) m ((m.length + 15) / 16))) (key.drop 16)
theorem tagL_len (key m : List Nat) : (tagL key m).length = 16 := bytesL_len _ _
theorem tagL_bytes (key m : List Nat) : Bytes (tagL key m) := bytesL_bytes _ _
end Go.Pure
set_option linter.unusedSimpArgs false
set_option linter.unusedVariables false
set_option maxRecDepth 100000
namespace Go.Proofs.Ytoikhbagchfeoaa
open Go Go.SL Go.Pure
theorem set_idem {h : Hp} {g : Nat} {o : AObj} (e : h g = some o) : h.set g o = h := by
  funext j
  by_cases ej : j = g
  · subst ej; rw [Hp.set_same, e]
  · rw [Hp.set_ne _ _ ej]
theorem cellN {h : Hp} {g e cap i : Nat} {k : IntKind} {S : List Nat} {fz : Option (Nat × Nat)} (hg : h g = some (.row e (nv k S) cap fz)) (hi : i < S.length) : h.cell ⟨g, i, none⟩ = some (.int k ((S.getD i 0 : Nat) : Int)) := by
  rw [cell_row hg, nv_getD _ _ _ hi]
theorem storeN {h : Hp} {t g e cap i x : Nat} {k : IntKind} {S : List Nat} {f : Nat × Nat} {K : Unit → Hp → Prop} (hs : sz P t = some 1) (hg : h g = some (.row e (nv k S) cap (some f))) (hi : i < S.length) (hf : ¬ (f.1 ≤ i ∧ i < f.2))
    (q : K () (h.set g (.row e (nv k (S.set i x)) cap (some f)))) : aw P (Instr.storeAt t (.pointer (some ⟨g, i, none⟩)) (.int k (x : Int))) K h := by
  refine aw_store hs rfl (put_row hg (by rw [nv_len]; exact hi) hf _) ?_
  rw [nv_set]
  exact q
theorem and26 {a : Nat} (ha : a < 18446744073709551616) : iand .u64 (a : Int) 67108863 = ((a % 67108864 : Nat) : Int) := by
  rw [and64 (by omega) (by omega) (by omega) (by omega), Int.toNat_natCast]
  have := Nat.and_two_pow_sub_one_eq_mod a 26
  simp only [Nat.reducePow, Nat.add_one_sub_one, Nat.reduceSub] at this
  show ((a &&& 67108863 : Nat) : Int) = _
  rw [this]
theorem shr64 (a n : Nat) (hn : n ≤ 64) : ((a : Int).fdiv (2 ^ min ((n : Nat) : Int).toNat IntKind.u64.bits)) = ((a / 2 ^ n : Nat) : Int) := by
  have : min ((n : Nat) : Int).toNat IntKind.u64.bits = n := by simp only [IntKind.bits, Int.toNat_natCast]; omega
  rw [this, fdivp]
theorem shr26 (a : Nat) : ((a : Int).fdiv (2 ^ min ((26 : Int)).toNat IntKind.u64.bits)) = ((a / 67108864 : Nat) : Int) := shr64 a 26 (by omega)
theorem shr26' (a : Nat) : ((a : Int).fdiv (2 ^ min 26 IntKind.u64.bits)) = ((a / 67108864 : Nat) : Int) := shr64 a 26 (by omega)
theorem add64 (a b : Nat) : IntKind.u64.wrap ((a : Int) + (b : Int)) = (((a + b) % 18446744073709551616 : Nat) : Int) := by rw [← Int.natCast_add, wu64]
theorem mul64 (a b : Nat) : IntKind.u64.wrap ((a : Int) * (b : Int)) = (((a * b) % 18446744073709551616 : Nat) : Int) := by rw [← Int.natCast_mul, wu64]
theorem lt_dec5 (i : Nat) : decide ((i : Int) < 5) = decide (i < 5) := lt_dec i 5
theorem lt_dec4 (i : Nat) : decide ((i : Int) < 4) = decide (i < 4) := lt_dec i 4
theorem lt_dec3 (i : Nat) : decide ((i : Int) < 3) = decide (i < 3) := lt_dec i 3
theorem zr_number : zr P t_poly_number = some (.agg (nv .u64 zero5).toArray) := by kernel_rfl
section
variable {h : Hp} {K : Value → Hp → Prop}
theorem T_add {g e cap : Nat} {f : Nat × Nat} (S M : List Nat) (hS : S.length = 5) (hM : M.length = 5) (hg : h g = some (.row e (nv .u64 S) cap (some f))) (hf : ∀ i, i < 5 → ¬ (f.1 ≤ i ∧ i < f.2))
    (k : K (.tuple #[]) (h.set g (.row e (nv .u64 (addL S M)) cap (some f)))) : Cn P n_poly_number_add #[.pointer (some ⟨g, 0, none⟩), .agg (nv .u64 M).toArray] h K := by
  refine Cn_wk (F_poly_number_add ?_)
  unfold s_poly_number_add
  refine aw_box fun r hr => ?_
  have hne : g ≠ r := by rintro rfl; rw [hr] at hg; cases hg
  have hO : ∀ T, ((h.set g (.row e (nv .u64 T) cap (some f))).set r (.row t_poly_number (nv .u64 M) 5 (some (0, 0)))) g = some (.row e (nv .u64 T) cap (some f)) := fun T => by rw [Hp.set_ne _ _ hne, Hp.set_same]
  have hR : ∀ T, ((h.set g (.row e (nv .u64 T) cap (some f))).set r (.row t_poly_number (nv .u64 M) 5 (some (0, 0)))) r = some (.row t_poly_number (nv .u64 M) 5 (some (0, 0))) := fun T => Hp.set_same ..
  have hC : (Value.agg (nv .u64 M).toArray).cells.toList = nv .u64 M := rfl
  have hC2 : (Value.agg (nv .u64 M).toArray).cells.size = 5 := by show (nv .u64 M).toArray.size = 5; simp [nv_len, hM]
  rw [hC, hC2]
  refine Lp_mk (fun m vs h' => ∃ i : Nat, i + m = 5 ∧ h' = (h.set g (.row e (nv .u64 (addN S M i)) cap (some f))).set r (.row t_poly_number (nv .u64 M) 5 (some (0, 0))) ∧ vs = [.int .i64 (i : Int)]) 5 ⟨0, rfl, by rw [addN, set_idem hg], rfl⟩ ?_
  rintro m vs h' ⟨i, hi, rfl, rfl⟩
  have lT := addN_len S M i
  simp (disch := omega) only [GL, RL, wi64, lt_dec5]
  by_cases hlt : i < 5
  · have c1 := cellN (i := i) (hO (addN S M i)) (by omega)
    have c2 := cellN (i := i) (hR (addN S M i)) (by omega)
    simp (disch := omega) only [GL, RL, wi64, hlt, decide_true, if_true, c1, c2, add64]
    refine storeN z_uint64 (hO _) (by omega) (hf i hlt) ?_
    refine ⟨_, .refl _, m - 1, by omega, i + 1, by omega, ?_, rfl⟩
    rw [Hp.set_comm _ _ _ (Ne.symm hne), Hp.set_set]
    rfl
  · obtain rfl : i = 5 := by omega
    simp only [hlt, decide_false, Bool.false_eq_true, if_false]
    exact ⟨_, le_fresh (by rw [Hp.set_ne _ _ (Ne.symm hne)]; exact hr), k⟩
theorem T_carry {g e cap : Nat} {f : Nat × Nat} (S : List Nat) (hS : S.length = 5) (wS : W64 S) (hg : h g = some (.row e (nv .u64 S) cap (some f))) (hf : ∀ i, i < 5 → ¬ (f.1 ≤ i ∧ i < f.2))
    (k : K (.tuple #[]) (h.set g (.row e (nv .u64 (carryL S)) cap (some f)))) : Cn P n_poly_number_carry #[.pointer (some ⟨g, 0, none⟩)] h K := by
  refine F_poly_number_carry ?_
  unfold s_poly_number_carry
  obtain ⟨M, hM⟩ : ∃ M : List Nat → Hp, ∀ T, h.set g (.row e (nv .u64 T) cap (some f)) = M T := ⟨_, fun T => rfl⟩
  have Mg : ∀ T, M T g = some (.row e (nv .u64 T) cap (some f)) := fun T => by rw [← hM, Hp.set_same]
  have Ms : ∀ T T', (M T).set g (.row e (nv .u64 T') cap (some f)) = M T' := fun T T' => by rw [← hM, ← hM, Hp.set_set]
  have h0 : h = M S := by rw [← hM, set_idem hg]
  rw [hM] at k
  refine Lp_mk (fun m vs h' => ∃ i : Nat, i + m = 5 ∧ h' = M (carryN S i).2 ∧ vs = [.int .u64 ((carryN S i).1 : Nat), .int .i64 (i : Int)]) 5 ⟨0, rfl, h0, rfl⟩ ?_
  rintro m vs h' ⟨i, hi, rfl, rfl⟩
  have lT := carryN_len S i
  obtain ⟨wc, wT⟩ := carryN_w wS i
  obtain ⟨c, hc⟩ : ∃ c, (carryN S i).1 = c := ⟨_, rfl⟩
  obtain ⟨T, hT⟩ : ∃ T, (carryN S i).2 = T := ⟨_, rfl⟩
  rw [hc] at wc
  rw [hT] at wT lT
  rw [hc, hT]
  simp (disch := omega) only [GL, RL, wi64, lt_dec5]
  by_cases hlt : i < 5
  · have c1 := cellN (i := i) (Mg T) (by omega)
    simp (disch := omega) only [GL, RL, wi64, hlt, decide_true, if_true, c1, add64]
    refine storeN z_uint64 (Mg _) (by omega) (hf i hlt) ?_
    rw [Ms]
    have c2 := cellN (i := i) (Mg (T.set i ((T.getD i 0 + c) % 18446744073709551616))) (by rw [List.length_set]; omega)
    have e2 : (T.set i ((T.getD i 0 + c) % 18446744073709551616)).getD i 0 = (T.getD i 0 + c) % 18446744073709551616 := by
      rw [List.getD_eq_getElem?_getD, List.getElem?_set_self (by omega)]; rfl
    rw [e2] at c2
    have lv : (T.getD i 0 + c) % 18446744073709551616 < 18446744073709551616 := Nat.mod_lt _ (by decide)
    simp (disch := omega) only [GL, RL, wi64, c2, shr26, and26 lv]
    refine storeN z_uint64 (Mg _) (by rw [List.length_set]; omega) (hf i hlt) ?_
    rw [Ms, List.set_set]
    refine ⟨_, .refl _, m - 1, by omega, i + 1, by omega, ?_, ?_⟩
    · simp only [carryN, hc, hT]
    · simp only [carryN, hc, hT]; rfl
  · obtain rfl : i = 5 := by omega
    have c1 := cellN (i := 0) (Mg T) (by omega)
    simp (disch := omega) only [GL, RL, wi64, hlt, decide_false, Bool.false_eq_true, if_false, Int.reduceToNat, c1]
    have e5 : IntKind.u64.wrap (5 * (c : Int)) = ((5 * c % 18446744073709551616 : Nat) : Int) := mul64 5 c
    simp (disch := omega) only [e5, add64]
    refine storeN (S := T) z_uint64 (Mg _) (by omega) (hf 0 (by omega)) ?_
    rw [Ms]
    have hcl : carryL S = carryE c T := by rw [carryL, hc, hT]
    unfold carryE at hcl
    dsimp only at hcl
    have w1 := wT.set 0 (Nat.mod_lt (T.getD 0 0 + 5 * c % 18446744073709551616) (show 18446744073709551616 > 0 by decide))
    generalize hA : T.set 0 ((T.getD 0 0 + 5 * c % 18446744073709551616) % 18446744073709551616) = A at hcl w1 ⊢
    have lA : A.length = 5 := by rw [← hA, List.length_set, ← hT, carryN_len]; exact hS
    have c2 := cellN (i := 0) (Mg A) (by omega)
    have c3 := cellN (i := 1) (Mg A) (by omega)
    simp (disch := omega) only [GL, RL, wi64, Int.reduceToNat, c2, c3, shr26', add64]
    refine storeN (S := A) z_uint64 (Mg A) (by omega) (hf 1 (by omega)) ?_
    rw [Ms]
    have w2 := w1.set 1 (Nat.mod_lt (A.getD 1 0 + A.getD 0 0 / 67108864) (show 18446744073709551616 > 0 by decide))
    generalize hB : A.set 1 ((A.getD 1 0 + A.getD 0 0 / 67108864) % 18446744073709551616) = B at hcl w2 ⊢
    have lB : B.length = 5 := by rw [← hB, List.length_set]; exact lA
    have c4 := cellN (i := 0) (Mg B) (by omega)
    simp (disch := omega) only [GL, RL, wi64, Int.reduceToNat, c4, and26 (w2.getD 0)]
    refine storeN z_uint64 (Mg _) (by omega) (hf 0 (by omega)) ?_
    rw [Ms, ← hcl]
    exact k
theorem T_times {g e cap : Nat} {f : Nat × Nat} (S R : List Nat) (hS : S.length = 5) (hR : R.length = 5) (wS : W64 S) (hg : h g = some (.row e (nv .u64 S) cap (some f))) (hf : ∀ i, i < 5 → ¬ (f.1 ≤ i ∧ i < f.2))
    (k : K (.tuple #[]) (h.set g (.row e (nv .u64 (timesL S R)) cap (some f)))) : Cn P n_poly_number_times #[.pointer (some ⟨g, 0, none⟩), .agg (nv .u64 R).toArray] h K := by
  refine Cn_wk (F_poly_number_times ?_)
  unfold s_poly_number_times
  refine aw_box fun r hr => ?_
  have hgr : g ≠ r := by rintro rfl; rw [hr] at hg; cases hg
  have hC : (Value.agg (nv .u64 R).toArray).cells.toList = nv .u64 R := rfl
  have hC2 : (Value.agg (nv .u64 R).toArray).cells.size = 5 := by show (nv .u64 R).toArray.size = 5; simp [nv_len, hR]
  rw [hC, hC2]
  refine aw_allocL (nv .u64 zero5) zr_number (by rfl) fun o ho => ?_
  have hro : r ≠ o := by rintro rfl; rw [Hp.set_same] at ho; cases ho
  have hgo : g ≠ o := by rintro rfl; rw [Hp.set_ne _ _ hgr, hg] at ho; cases ho
  have hor : h o = none := by rwa [Hp.set_ne _ _ (Ne.symm hro)] at ho
  obtain ⟨M, hM⟩ : ∃ M : List Nat → Hp, ∀ T, (h.set r (.row t_poly_number (nv .u64 R) 5 (some (0, 0)))).set o (.row t_poly_number (nv .u64 T) 5 (some (0, 0))) = M T := ⟨_, fun T => rfl⟩
  have Mo : ∀ T, M T o = some (.row t_poly_number (nv .u64 T) 5 (some (0, 0))) := fun T => by rw [← hM, Hp.set_same]
  have Mr : ∀ T, M T r = some (.row t_poly_number (nv .u64 R) 5 (some (0, 0))) := fun T => by rw [← hM, Hp.set_ne _ _ hro, Hp.set_same]
  have Mg : ∀ T, M T g = some (.row e (nv .u64 S) cap (some f)) := fun T => by rw [← hM, Hp.set_ne _ _ hgo, Hp.set_ne _ _ hgr, hg]
  have Ms : ∀ T T', (M T).set o (.row t_poly_number (nv .u64 T') 5 (some (0, 0))) = M T' := fun T T' => by rw [← hM, ← hM, Hp.set_set]
  have leM : ∀ T, Hp.le h (M T) := fun T => by rw [← hM]; exact (le_fresh hr).trans (le_fresh ho)
  rw [show (nv IntKind.u64 zero5).length = 5 from rfl, hM]
  refine Lp_mk (fun m vs h' => ∃ i : Nat, i + m = 5 ∧ h' = M (tout S R i) ∧ vs = [.int .i64 (i : Int)]) 5 ⟨0, rfl, rfl, rfl⟩ ?_
  rintro m vs h' ⟨i, hi, rfl, rfl⟩
  have lT := tout_len S R i
  simp (disch := omega) only [GL, RL, wi64, lt_dec5]
  by_cases hlt : i < 5
  · simp (disch := omega) only [hlt, decide_true, if_true]
    refine Lp_mk (fun m' vs h' => ∃ j : Nat, j + m' = 5 ∧ h' = M (tin S R i (tout S R i) j) ∧ vs = [.int .i64 (j : Int)]) 5 ⟨0, rfl, rfl, rfl⟩ ?_
    rintro m' vs h' ⟨j, hj, rfl, rfl⟩
    have lI : (tin S R i (tout S R i) j).length = 5 := by rw [tin_len]; exact lT
    simp (disch := omega) only [GL, RL, wi64, lt_dec5]
    by_cases hlt2 : j < 5
    · have c1 := cellN (i := i) (Mg (tin S R i (tout S R i) j)) (by omega)
      have c2 := cellN (i := j) (Mr (tin S R i (tout S R i) j)) (by omega)
      simp (disch := omega) only [GL, RL, wi64, hlt2, decide_true, if_true, c1, c2, mul64]
      have e1 : ((i : Int) + (j : Int)).tmod 5 = (((i + j) % 5 : Nat) : Int) := by rw [← Int.natCast_add]; exact (Int.ofNat_tmod (i + j) 5).symm
      have e2 : decide (5 ≤ (i : Int) + (j : Int)) = decide (5 ≤ i + j) := by rw [decide_eq_decide]; omega
      have e3 : ∀ x : Nat, IntKind.u64.wrap ((x : Int) * 5) = ((x * 5 % 18446744073709551616 : Nat) : Int) := fun x => mul64 x 5
      have hm5 : (i + j) % 5 < 5 := Nat.mod_lt _ (by decide)
      have c3 := cellN (i := (i + j) % 5) (Mo (tin S R i (tout S R i) j)) (by omega)
      have fin : ∀ v : Nat, v = tval i j S R → aw P (Instr.storeAt t_uint64 (Value.pointer (some ⟨o, (i + j) % 5, none⟩)) (.int .u64 ((((tin S R i (tout S R i) j).getD ((i + j) % 5) 0 + v) % 18446744073709551616 : Nat) : Int))) (fun _ h =>
            ∃ h0, Hp.le h0 h ∧ ∃ m, m < m' ∧ ∃ j_1 : Nat, j_1 + m = 5 ∧ h0 = M (tin S R i (tout S R i) j_1) ∧ [Value.int .i64 ((j : Int) + 1)] = [.int .i64 (j_1 : Int)]) (M (tin S R i (tout S R i) j)) := by
        rintro v rfl
        refine storeN z_uint64 (Mo _) (by omega) (by simp) ?_
        rw [Ms]
        exact ⟨_, .refl _, m' - 1, by omega, j + 1, by omega, rfl, rfl⟩
      simp only [e2, e3]
      by_cases h5 : 5 ≤ i + j
      · simp (disch := omega) only [GL, RL, wi64, h5, decide_true, if_true, e1, c3, add64]
        refine fin _ ?_
        unfold tval; rw [if_pos h5]
      · simp (disch := omega) only [GL, RL, wi64, h5, decide_false, Bool.false_eq_true, if_false, e1, c3, add64]
        refine fin _ ?_
        unfold tval; rw [if_neg h5]
    · obtain rfl : j = 5 := by omega
      simp (disch := omega) only [GL, RL, wi64, hlt2, decide_false, Bool.false_eq_true, if_false]
      exact ⟨_, .refl _, m - 1, by omega, i + 1, by omega, rfl, rfl⟩
  · obtain rfl : i = 5 := by omega
    simp (disch := omega) only [GL, RL, wi64, hlt, decide_false, Bool.false_eq_true, if_false]
    have l5 := tout_len S R 5
    have w5 := tout_w S R 5
    have ht : timesL S R = carryL (tout S R 5) := rfl
    rw [ht] at k
    generalize tout S R 5 = U at l5 w5 k lT ⊢
    have hz : sz P t_poly_number = some (nv .u64 U).length := by rw [nv_len, l5]; exact z_poly_number
    rw [q_ldRow u_poly_number rfl hz (Mo _)]
    refine aw_storeRow hz (Mg _) (by rw [nv_len, nv_len, l5, hS]) (nv_flat _ _) (fun i hi => hf i (by rwa [nv_len, hS] at hi)) ?_
    refine T_carry U l5 w5 (Hp.set_same ..) hf ?_
    rw [Hp.set_set]
    exact ⟨_, le_set (leM _), k⟩
theorem T_reduce {g e cap : Nat} {f : Nat × Nat} (S : List Nat) (hS : S.length = 5) (wS : W64 S) (hg : h g = some (.row e (nv .u64 S) cap (some f))) (hf : ∀ i, i < 5 → ¬ (f.1 ≤ i ∧ i < f.2))
    (k : K (.tuple #[]) (h.set g (.row e (nv .u64 (reduceL S)) cap (some f)))) : Cn P n_poly_number_reduce #[.pointer (some ⟨g, 0, none⟩)] h K := by
  refine Cn_wk (F_poly_number_reduce ?_)
  unfold s_poly_number_reduce
  refine T_carry S hS wS hg hf ?_
  refine T_carry (carryL S) (by rw [carryL_len, hS]) (carryL_w wS) (Hp.set_same ..) hf ?_
  rw [Hp.set_set]
  have lT : (carryL (carryL S)).length = 5 := by rw [carryL_len, carryL_len, hS]
  have wT := carryL_w (carryL_w wS)
  have hr : reduceL S = redE (carryL (carryL S)) (redN (carryL (carryL S)) 4) := rfl
  rw [hr] at k
  generalize carryL (carryL S) = T at lT wT k ⊢
  have hzz : ∀ U : List Nat, U.length = 5 → sz P t_poly_number = some (nv .u64 U).length := fun U hU => by rw [nv_len, hU]; exact z_poly_number
  simp (disch := omega) only [GL, RL]
  rw [q_ldRow u_poly_number rfl (hzz T lT) (Hp.set_same ..)]
  refine aw_allocL (nv .u64 zero5) zr_number (by rfl) fun o ho => ?_
  have hgo : g ≠ o := by rintro rfl; rw [Hp.set_same] at ho; cases ho
  refine aw_storeRow (hzz T lT) (Hp.set_same ..) (by rw [nv_len, nv_len, lT]; rfl) (nv_flat _ _) (fun i hi => by simp) ?_
  rw [Hp.set_set, show (nv IntKind.u64 zero5).length = 5 from rfl]
  obtain ⟨M, hM⟩ : ∃ M : List Nat → Hp, ∀ U, (h.set g (.row e (nv .u64 T) cap (some f))).set o (.row t_poly_number (nv .u64 U) 5 (some (0, 0))) = M U := ⟨_, fun T => rfl⟩
  have Mo : ∀ U, M U o = some (.row t_poly_number (nv .u64 U) 5 (some (0, 0))) := fun T => by rw [← hM, Hp.set_same]
  have Mg : ∀ U, M U g = some (.row e (nv .u64 T) cap (some f)) := fun U => by rw [← hM, Hp.set_ne _ _ hgo, Hp.set_same]
  have Ms : ∀ U U', (M U).set o (.row t_poly_number (nv .u64 U') 5 (some (0, 0))) = M U' := fun T T' => by rw [← hM, ← hM, Hp.set_set]
  rw [hM]
  have c0 := cellN (i := 0) (Mo T) (by omega)
  simp (disch := omega) only [GL, RL, Int.reduceToNat, c0]
  have e5 : IntKind.u64.wrap ((T.getD 0 0 : Int) + 5) = (((T.getD 0 0 + 5) % 18446744073709551616 : Nat) : Int) := add64 _ 5
  rw [e5]
  refine storeN z_uint64 (Mo _) (by omega) (by simp) ?_
  rw [Ms]
  refine Lp_mk (fun m vs h' => ∃ i : Nat, i + m = 4 ∧ h' = M (redN T i) ∧ vs = [.int .i64 (i : Int)]) 4 ⟨0, rfl, rfl, rfl⟩ ?_
  rintro m vs h' ⟨i, hi, rfl, rfl⟩
  have lU : (redN T i).length = 5 := by rw [redN_len, lT]
  have wU := redN_w wT i
  obtain ⟨U, hU⟩ : ∃ U, redN T i = U := ⟨_, rfl⟩
  rw [hU] at lU wU ⊢
  simp (disch := omega) only [GL, RL, wi64, lt_dec4]
  by_cases hlt : i < 4
  · have e1 : ((i : Int) + 1).toNat = i + 1 := by omega
    have c1 := cellN (i := i) (Mo U) (by omega)
    have c2 := cellN (i := i + 1) (Mo U) (by omega)
    simp (disch := omega) only [GL, RL, wi64, hlt, decide_true, if_true, e1, c1, c2, shr26, shr26', add64, Int.reduceToNat]
    refine storeN z_uint64 (Mo _) (by omega) (by simp) ?_
    rw [Ms]
    obtain ⟨A, hA⟩ : ∃ A, U.set (i + 1) ((U.getD (i + 1) 0 + U.getD i 0 / 67108864) % 18446744073709551616) = A := ⟨_, rfl⟩
    have lA : A.length = 5 := by rw [← hA, List.length_set]; omega
    have wA : W64 A := by rw [← hA]; exact wU.set _ (Nat.mod_lt _ (by decide))
    rw [hA]
    have c3 := cellN (i := i) (Mo A) (by omega)
    simp (disch := omega) only [GL, RL, wi64, c3, and26 (wA.getD i)]
    refine storeN z_uint64 (Mo _) (by omega) (by simp) ?_
    rw [Ms]
    refine ⟨_, .refl _, m - 1, by omega, i + 1, by omega, ?_, rfl⟩
    simp only [redN, hU, hA]
  · obtain rfl : i = 4 := by omega
    have c1 := cellN (i := 4) (Mo U) (by omega)
    rw [hU] at k
    simp (disch := omega) only [GL, RL, wi64, hlt, decide_false, Bool.false_eq_true, if_false, Int.reduceToNat, c1, shr26, shr26']
    have e0 : (((U.getD 4 0 / 67108864 : Nat) : Int) != 0) = decide (U.getD 4 0 / 67108864 ≠ 0) := by
      rw [Bool.eq_iff_iff, bne_iff_ne, decide_eq_true_eq]; omega
    rw [e0]
    by_cases h0 : U.getD 4 0 / 67108864 ≠ 0
    · rw [if_pos (by simpa using h0)]
      simp (disch := omega) only [and26 (wU.getD 4)]
      refine storeN z_uint64 (Mo _) (by omega) (by simp) ?_
      rw [Ms]
      have hE : redE T U = U.set 4 (U.getD 4 0 % 67108864) := by unfold redE; rw [if_pos h0]
      rw [← hE]
      have lE : (redE T U).length = 5 := by rw [redE_len _ _ (by omega)]; exact lT
      rw [q_ldRow u_poly_number rfl (hzz _ lE) (Mo _)]
      refine aw_storeRow (hzz _ lE) (Mg _) (by rw [nv_len, nv_len, lT, lE]) (nv_flat _ _) (fun i hi => hf i (by rwa [nv_len, lT] at hi)) ?_
      refine ⟨_, ?_, k⟩
      have : Hp.le (h.set g (.row e (nv .u64 T) cap (some f))) (M (redE T U)) := by rw [← hM]; exact le_fresh ho
      have := le_set (b := g) (o := .row e (nv .u64 (redE T U)) cap (some f)) this
      rwa [Hp.set_set] at this
    · rw [if_neg (by simpa using h0)]
      have hE : redE T U = T := by unfold redE; rw [if_neg h0]
      rw [hE] at k
      exact ⟨_, by rw [← hM]; exact le_fresh ho, k⟩
end
end Go.Proofs.Ytoikhbagchfeoaa
namespace Go.Curve
/-- Residues by n, with inverses; a curve's number d, which is no square. -/
structure Ed (n : Nat) [NeZero n] where
  d : Fin n
  c : Fin n
  inv : Fin n → Fin n
  one : (1 : Fin n) ≠ 0
  two : (2 : Fin n) ≠ 0
  inv0 : inv 0 = 0
  hinv : ∀ a, a ≠ 0 → a * inv a = 1
  hd : ∀ z w : Fin n, z * z = d * (w * w) → w = 0
  hc : d * (c + 1) = c
variable {n : Nat} [NeZero n] (E : Ed n)
abbrev Pt (n : Nat) := Fin n × Fin n
def Ed.On (P : Pt n) : Prop := P.1 * P.1 + P.2 * P.2 = 1 + E.d * P.1 * P.1 * P.2 * P.2
def Ed.e (P Q : Pt n) : Fin n := E.d * P.1 * Q.1 * P.2 * Q.2
def Ed.add (P Q : Pt n) : Pt n := ((P.1 * Q.2 + P.2 * Q.1) * E.inv (1 + E.e P Q), (P.2 * Q.2 - P.1 * Q.1) * E.inv (1 - E.e P Q))
def O : Pt n := (0, 1)
variable {E}
theorem Ed.nzd (E : Ed n) {a b : Fin n} (h : a * b = 0) : a = 0 ∨ b = 0 := by
  by_cases ha : a = 0
  · exact .inl ha
  · right
    have := E.hinv a ha
    grobner
theorem Ed.den {P Q : Pt n} (hP : E.On P) (hQ : E.On Q) : 1 + E.e P Q ≠ 0 ∧ 1 - E.e P Q ≠ 0 := by
  obtain ⟨x1, y1⟩ := P
  obtain ⟨x2, y2⟩ := Q
  simp only [Ed.On, Ed.e] at *
  have h2 := E.two
  have fin : ∀ t : Fin n, E.d * x1 * x2 * y1 * y2 = t → t * t = 1 → False := by
    intro t ht tt
    have a1 := E.hd (x1 + t * y1) (x1 * y1 * (x2 + y2)) (by grobner)
    have a2 := E.hd (x1 - t * y1) (x1 * y1 * (x2 - y2)) (by grobner)
    have a3 : (2 : Fin n) * t = 0 := by grobner
    rcases E.nzd a3 with h | h
    · exact h2 h
    · have := E.one
      grobner
  constructor
  · intro h
    exact fin (-1) (by grobner) (by grobner)
  · intro h
    exact fin 1 (by grobner) (by grobner)
theorem clo_poly (d x1 y1 x2 y2 : Fin n) (e1 : x1*x1+y1*y1 = 1 + d*x1*x1*y1*y1) (e2 : x2*x2+y2*y2 = 1 + d*x2*x2*y2*y2) (n1 m1 d1 g1 : Fin n) (hn1 : n1 = x1*y2+y1*x2) (hm1 : m1 = y1*y2-x1*x2) (hd1 : d1 = 1 + d*x1*x2*y1*y2) (hg1 : g1 = 1 - d*x1*x2*y1*y2) :
    n1*n1*g1*g1 + m1*m1*d1*d1 = d1*d1*g1*g1 + d*n1*n1*m1*m1 := by
  subst hn1 hm1 hd1 hg1
  grobner
theorem assoc_x (d x1 y1 x2 y2 x3 y3 : Fin n) (e1 : x1*x1+y1*y1 = 1 + d*x1*x1*y1*y1) (e2 : x2*x2+y2*y2 = 1 + d*x2*x2*y2*y2) (e3 : x3*x3+y3*y3 = 1 + d*x3*x3*y3*y3)
    (n1 m1 d1 g1 n2 m2 d2 g2 : Fin n) (hn1 : n1 = x1*y2+y1*x2) (hm1 : m1 = y1*y2-x1*x2) (hd1 : d1 = 1 + d*x1*x2*y1*y2) (hg1 : g1 = 1 - d*x1*x2*y1*y2)
    (hn2 : n2 = x2*y3+y2*x3) (hm2 : m2 = y2*y3-x2*x3) (hd2 : d2 = 1 + d*x2*x3*y2*y3) (hg2 : g2 = 1 - d*x2*x3*y2*y3) :
    (n1*g1*y3 + m1*d1*x3)*(d2*g2 + d*n2*m2*x1*y1) = (n2*g2*y1+m2*d2*x1)*(d1*g1+d*n1*m1*x3*y3) := by
  subst hn1 hm1 hd1 hg1 hn2 hm2 hd2 hg2
  grobner
theorem assoc_y (d x1 y1 x2 y2 x3 y3 : Fin n) (e1 : x1*x1+y1*y1 = 1 + d*x1*x1*y1*y1) (e2 : x2*x2+y2*y2 = 1 + d*x2*x2*y2*y2) (e3 : x3*x3+y3*y3 = 1 + d*x3*x3*y3*y3)
    (n1 m1 d1 g1 n2 m2 d2 g2 : Fin n) (hn1 : n1 = x1*y2+y1*x2) (hm1 : m1 = y1*y2-x1*x2) (hd1 : d1 = 1 + d*x1*x2*y1*y2) (hg1 : g1 = 1 - d*x1*x2*y1*y2)
    (hn2 : n2 = x2*y3+y2*x3) (hm2 : m2 = y2*y3-x2*x3) (hd2 : d2 = 1 + d*x2*x3*y2*y3) (hg2 : g2 = 1 - d*x2*x3*y2*y3) :
    (m1*d1*y3 - n1*g1*x3)*(d2*g2 - d*n2*m2*x1*y1) = (m2*d2*y1-n2*g2*x1)*(d1*g1-d*n1*m1*x3*y3) := by
  subst hn1 hm1 hd1 hg1 hn2 hm2 hd2 hg2
  grobner
theorem dadd_poly (d x1 y1 x2 y2 : Fin n) (e1 : x1*x1+y1*y1 = 1 + d*x1*x1*y1*y1) (e2 : x2*x2+y2*y2 = 1 + d*x2*x2*y2*y2) (mp mm dp dm : Fin n) (hp : mp = y1*y2-x1*x2) (hm : mm = y1*y2 + x1*x2) (hd1 : dp = 1 - d*x1*x2*y1*y2) (hg1 : dm = 1 + d*x1*x2*y1*y2) :
    (dp + mp)*(dm+mm)*((y1-y2)*(y1-y2)) = (dp - mp)*(dm-mm)*((y1+y2)*(y1+y2)) := by
  subst hp hm hd1 hg1
  grobner
theorem Ed.add_on {P Q : Pt n} (hP : E.On P) (hQ : E.On Q) : E.On (E.add P Q) := by
  obtain ⟨h1, h2⟩ := E.den hP hQ
  have i1 := E.hinv _ h1
  have i2 := E.hinv _ h2
  obtain ⟨x1, y1⟩ := P
  obtain ⟨x2, y2⟩ := Q
  simp only [Ed.On, Ed.add, Ed.e] at *
  have c := clo_poly E.d x1 y1 x2 y2 hP hQ _ _ _ _ rfl rfl rfl rfl
  generalize E.inv (1 + E.d * x1 * x2 * y1 * y2) = i at *
  generalize E.inv (1 - E.d * x1 * x2 * y1 * y2) = j at *
  generalize 1 + E.d * x1 * x2 * y1 * y2 = d1 at *
  generalize 1 - E.d * x1 * x2 * y1 * y2 = g1 at *
  generalize x1 * y2 + y1 * x2 = n1 at *
  generalize y1 * y2 - x1 * x2 = m1 at *
  have e1 : (d1 * i) * (d1 * i) * ((g1 * j) * (g1 * j)) = 1 := by rw [i1, i2]; grobner
  have q1 : n1 * i * (n1 * i) = (n1 * n1 * g1 * g1) * (i * i * (j * j)) := by grobner
  have q2 : m1 * j * (m1 * j) = (m1 * m1 * d1 * d1) * (i * i * (j * j)) := by grobner
  have q3 : (d1 * d1 * g1 * g1) * (i * i * (j * j)) = 1 := by grobner
  grobner
theorem O_on : E.On O := by simp only [Ed.On, O]; grobner
theorem Ed.add_comm (P Q : Pt n) : E.add P Q = E.add Q P := by
  obtain ⟨x1, y1⟩ := P
  obtain ⟨x2, y2⟩ := Q
  simp only [Ed.add, Ed.e]
  have a : E.d * x1 * x2 * y1 * y2 = E.d * x2 * x1 * y2 * y1 := by grobner
  have b : x1 * y2 + y1 * x2 = x2 * y1 + y2 * x1 := by grobner
  have c : y1 * y2 - x1 * x2 = y2 * y1 - x2 * x1 := by grobner
  rw [a, b, c]
theorem Ed.inv1 : E.inv 1 = 1 := by
  have := E.hinv 1 E.one
  grobner
theorem Ed.add_O (P : Pt n) : E.add P O = P := by
  obtain ⟨x, y⟩ := P
  simp only [Ed.add, Ed.e, O]
  have a : 1 + E.d * x * 0 * y * 1 = 1 := by grobner
  have b : 1 - E.d * x * 0 * y * 1 = 1 := by grobner
  rw [a, b, E.inv1]
  congr 1 <;> grobner
theorem Ed.O_add (P : Pt n) : E.add O P = P := by rw [E.add_comm, E.add_O]
theorem frac_eq {A D k B F l : Fin n} (hk : D * k = 1) (hl : F * l = 1) (h : A * F = B * D) : A * k = B * l := by
  have : A * k = A * k * (F * l) := by rw [hl]; grobner
  have : B * l = B * l * (D * k) := by rw [hk]; grobner
  grobner
theorem fr1 {a1 a2 d1 g1 : Fin n} (i1 : d1 * a1 = 1) (i2 : g1 * a2 = 1) (n1 m1 x3 y3 : Fin n) : n1 * a1 * y3 + m1 * a2 * x3 = (n1 * g1 * y3 + m1 * d1 * x3) * (a1 * a2) := by grobner
theorem fr2 {a1 a2 d1 g1 : Fin n} (i1 : d1 * a1 = 1) (i2 : g1 * a2 = 1) (d n1 m1 x3 y3 : Fin n) : 1 + d * (n1 * a1) * x3 * (m1 * a2) * y3 = (d1 * g1 + d * n1 * m1 * x3 * y3) * (a1 * a2) := by grobner
theorem fr3 {a3 a4 d2 g2 : Fin n} (i1 : d2 * a3 = 1) (i2 : g2 * a4 = 1) (d n2 m2 x1 y1 : Fin n) : 1 + d * x1 * (n2 * a3) * y1 * (m2 * a4) = (d2 * g2 + d * n2 * m2 * x1 * y1) * (a3 * a4) := by grobner
theorem fr4 {a3 a4 d2 g2 : Fin n} (i1 : d2 * a3 = 1) (i2 : g2 * a4 = 1) (n2 m2 x1 y1 : Fin n) : x1 * (m2 * a4) + y1 * (n2 * a3) = (n2 * g2 * y1 + m2 * d2 * x1) * (a3 * a4) := by grobner
theorem fr5 {a1 a2 d1 g1 : Fin n} (i1 : d1 * a1 = 1) (i2 : g1 * a2 = 1) (n1 m1 x3 y3 : Fin n) : m1 * a2 * y3 - n1 * a1 * x3 = (m1 * d1 * y3 - n1 * g1 * x3) * (a1 * a2) := by grobner
theorem fr6 {a1 a2 d1 g1 : Fin n} (i1 : d1 * a1 = 1) (i2 : g1 * a2 = 1) (d n1 m1 x3 y3 : Fin n) : 1 - d * (n1 * a1) * x3 * (m1 * a2) * y3 = (d1 * g1 - d * n1 * m1 * x3 * y3) * (a1 * a2) := by grobner
theorem fr7 {a3 a4 d2 g2 : Fin n} (i1 : d2 * a3 = 1) (i2 : g2 * a4 = 1) (d n2 m2 x1 y1 : Fin n) : 1 - d * x1 * (n2 * a3) * y1 * (m2 * a4) = (d2 * g2 - d * n2 * m2 * x1 * y1) * (a3 * a4) := by grobner
theorem fr8 {a3 a4 d2 g2 : Fin n} (i1 : d2 * a3 = 1) (i2 : g2 * a4 = 1) (n2 m2 x1 y1 : Fin n) : y1 * (m2 * a4) - x1 * (n2 * a3) = (m2 * d2 * y1 - n2 * g2 * x1) * (a3 * a4) := by grobner
theorem fr9 {A B C D a b : Fin n} (h : A * B = C * D) : A * a * (B * b) = C * b * (D * a) := by grobner
theorem Ed.assoc {P Q R : Pt n} (hP : E.On P) (hQ : E.On Q) (hR : E.On R) : E.add (E.add P Q) R = E.add P (E.add Q R) := by
  have o1 := E.add_on hP hQ
  have o2 := E.add_on hQ hR
  obtain ⟨h1, h2⟩ := E.den hP hQ
  obtain ⟨h3, h4⟩ := E.den hQ hR
  obtain ⟨h5, h6⟩ := E.den o1 hR
  obtain ⟨h7, h8⟩ := E.den hP o2
  have i1 := E.hinv _ h1
  have i2 := E.hinv _ h2
  have i3 := E.hinv _ h3
  have i4 := E.hinv _ h4
  have i5 := E.hinv _ h5
  have i6 := E.hinv _ h6
  have i7 := E.hinv _ h7
  have i8 := E.hinv _ h8
  clear h1 h2 h3 h4 h5 h6 h7 h8 o1 o2
  obtain ⟨x1, y1⟩ := P
  obtain ⟨x2, y2⟩ := Q
  obtain ⟨x3, y3⟩ := R
  simp only [Ed.On, Ed.add, Ed.e] at *
  have ax := assoc_x E.d x1 y1 x2 y2 x3 y3 hP hQ hR _ _ _ _ _ _ _ _ rfl rfl rfl rfl rfl rfl rfl rfl
  have ay := assoc_y E.d x1 y1 x2 y2 x3 y3 hP hQ hR _ _ _ _ _ _ _ _ rfl rfl rfl rfl rfl rfl rfl rfl
  clear hP hQ hR
  generalize E.inv (1 + E.d * x1 * x2 * y1 * y2) = a1 at *
  generalize E.inv (1 - E.d * x1 * x2 * y1 * y2) = a2 at *
  generalize E.inv (1 + E.d * x2 * x3 * y2 * y3) = a3 at *
  generalize E.inv (1 - E.d * x2 * x3 * y2 * y3) = a4 at *
  generalize 1 + E.d * x1 * x2 * y1 * y2 = d1 at *
  generalize 1 - E.d * x1 * x2 * y1 * y2 = g1 at *
  generalize 1 + E.d * x2 * x3 * y2 * y3 = d2 at *
  generalize 1 - E.d * x2 * x3 * y2 * y3 = g2 at *
  generalize x1 * y2 + y1 * x2 = n1 at *
  generalize y1 * y2 - x1 * x2 = m1 at *
  generalize x2 * y3 + y2 * x3 = n2 at *
  generalize y2 * y3 - x2 * x3 = m2 at *
  congr 1
  · refine frac_eq i5 i7 ?_
    rw [fr1 i1 i2, fr2 i1 i2, fr3 i3 i4, fr4 i3 i4]
    exact fr9 ax
  · refine frac_eq i6 i8 ?_
    rw [fr5 i1 i2, fr6 i1 i2, fr7 i3 i4, fr8 i3 i4]
    exact fr9 ay
/-- Multiples of a point. -/
def Ed.smul (E : Ed n) : Nat → Pt n → Pt n
  | 0, _ => O
  | k + 1, P => E.add (E.smul k P) P
theorem Ed.smul_on {P : Pt n} (hP : E.On P) : ∀ k, E.On (E.smul k P)
  | 0 => O_on
  | k + 1 => E.add_on (Ed.smul_on hP k) hP
theorem Ed.smul_add {P : Pt n} (hP : E.On P) (a : Nat) : ∀ b, E.smul (a + b) P = E.add (E.smul a P) (E.smul b P)
  | 0 => by rw [Nat.add_zero, Ed.smul, E.add_O]
  | b + 1 => by
    show E.add (E.smul (a + b) P) P = _
    rw [Ed.smul_add hP a b, E.assoc (E.smul_on hP a) (E.smul_on hP b) hP]
    rfl
theorem Ed.smul_mul {P : Pt n} (hP : E.On P) (a : Nat) : ∀ b, E.smul b (E.smul a P) = E.smul (a * b) P
  | 0 => rfl
  | b + 1 => by
    show E.add (E.smul b (E.smul a P)) (E.smul a P) = _
    rw [Ed.smul_mul hP a b, Nat.mul_add, Nat.mul_one, E.smul_add hP]
theorem Ed.smul_O : ∀ k, E.smul k O = O
  | 0 => rfl
  | k + 1 => by
    show E.add (E.smul k O) O = O
    rw [E.add_O, Ed.smul_O k]
end Go.Curve
namespace Go.Curve
variable {n : Nat} [NeZero n] {E : Ed n}
/-- A pair that stands for a point. -/
def Rep (X Z : Fin n) (Q : Pt n) : Prop := ∃ l : Fin n, l ≠ 0 ∧ X = l * (1 + Q.2) ∧ Z = l * (1 - Q.2)
/-- A point's coordinate. -/
def Ed.uOf (E : Ed n) (Q : Pt n) : Fin n := (1 + Q.2) * E.inv (1 - Q.2)
theorem Ed.nz_mul (E : Ed n) {a b : Fin n} (ha : a ≠ 0) (hb : b ≠ 0) : a * b ≠ 0 := fun h => by
  rcases E.nzd h with h | h
  · exact ha h
  · exact hb h
theorem dbl_x {d c x y l X Z q : Fin n} (e : x*x + y*y = 1 + d*x*x*y*y) (hc : d * (c + 1) = c) (hX : X = l * (1 + y)) (hZ : Z = l * (1 - y)) (hq : (1 - d*x*x*y*y) * q = 1) :
    ((X+Z)*(X+Z))*((X-Z)*(X-Z)) = 8 * (l*l*(l*l)) * (1 + c*(1 - y*y)) * (1 - d*x*x*y*y) * (1 + (y*y - x*x) * q) := by
  subst hX hZ
  have e1 : (1 - x*x) * (1 + c * (1 - y*y)) = y*y := by grobner
  have e2 : (1 - d*x*x*y*y) * (1 + (y*y - x*x) * q) = 2 * (1 - x*x) := by grobner
  have e3 : ((l*(1+y) + l*(1-y))*(l*(1+y)+l*(1-y)))*((l*(1+y)-l*(1-y))*(l*(1+y)-l*(1-y))) = 16 * (l*l*(l*l)) * (y*y) := by grobner
  rw [e3, ← e1]
  grobner
theorem dbl_z {d c x y l X Z q : Fin n} (e : x*x + y*y = 1 + d*x*x*y*y) (hc : d * (c + 1) = c) (hX : X = l * (1 + y)) (hZ : Z = l * (1 - y)) (hq : (1 - d*x*x*y*y) * q = 1) :
    ((X+Z)*(X+Z) - (X-Z)*(X-Z)) * ((X+Z)*(X+Z) + c * ((X+Z)*(X+Z) - (X-Z)*(X-Z))) = 8 * (l*l*(l*l)) * (1 + c*(1 - y*y)) * (1 - d*x*x*y*y) * (1 - (y*y - x*x) * q) := by
  subst hX hZ
  have e2 : (1 - d*x*x*y*y) * (1 - (y*y - x*x) * q) = 2 * (1 - y*y) := by grobner
  have e3 : (l*(1+y) + l*(1-y))*(l*(1+y)+l*(1-y)) = 4 * (l*l) := by grobner
  have e4 : (l*(1+y)-l*(1-y))*(l*(1+y)-l*(1-y)) = 4 * (l*l) * (y*y) := by grobner
  rw [e3, e4]
  grobner
/-- Doubled. -/
theorem Rep.dbl {X Z : Fin n} {Q : Pt n} (hQ : E.On Q) (r : Rep X Z Q) : Rep (((X+Z)*(X+Z))*((X-Z)*(X-Z))) (((X+Z)*(X+Z) - (X-Z)*(X-Z)) * ((X+Z)*(X+Z) + E.c * ((X+Z)*(X+Z) - (X-Z)*(X-Z)))) (E.add Q Q) := by
  obtain ⟨l, hl, hX, hZ⟩ := r
  obtain ⟨_, h2⟩ := E.den hQ hQ
  have i2 := E.hinv _ h2
  obtain ⟨x, y⟩ := Q
  simp only [Ed.On, Ed.e, Ed.add] at *
  refine ⟨8 * (l*l*(l*l)) * (1 + E.c*(1 - y*y)) * (1 - E.d*x*x*y*y), ?_, dbl_x hQ E.hc hX hZ i2, dbl_z hQ E.hc hX hZ i2⟩
  refine E.nz_mul (E.nz_mul (E.nz_mul ?_ (E.nz_mul (E.nz_mul hl hl) (E.nz_mul hl hl))) ?_) h2
  · have : (8 : Fin n) = 2 * (2 * 2) := by grobner
    rw [this]
    exact E.nz_mul E.two (E.nz_mul E.two E.two)
  · intro h
    have hc := E.hc
    have h1 : E.d * (y * y) = 1 := by
      have c1 : (E.c + 1) * (1 - E.d * (y * y)) = 0 := by grobner
      rcases E.nzd c1 with h | h
      · exfalso
        have : (0 : Fin n) = 1 := by
          have : E.c = 0 := by rw [h] at hc; grobner
          grobner
        exact E.one this.symm
      · grobner
    have := E.hd 1 y (by grobner)
    have := E.one
    apply this
    grobner
theorem sum_x {y1 y2 l m X Z U W : Fin n} (hX : X = l * (1 + y1)) (hZ : Z = l * (1 - y1)) (hU : U = m * (1 + y2)) (hW : W = m * (1 - y2)) :
    (U - W) * (X + Z) + (U + W) * (X - Z) = 4 * (l * m) * (y2 + y1) ∧ (U - W) * (X + Z) - (U + W) * (X - Z) = 4 * (l * m) * (y2 - y1) := by
  subst hX hZ hU hW
  constructor <;> grobner
theorem diff_rel {d x1 y1 x2 y2 u i j : Fin n} (e1 : x1*x1+y1*y1 = 1 + d*x1*x1*y1*y1) (e2 : x2*x2+y2*y2 = 1 + d*x2*x2*y2*y2) (hi : (1 + d*x1*x2*y1*y2) * i = 1) (hj : (1 - d*x1*x2*y1*y2) * j = 1)
    (hu : u * (1 - (y1*y2 + x1*x2) * i) = 1 + (y1*y2 + x1*x2) * i) :
    (1 + (y1*y2 - x1*x2) * j) * (u * (1 - (y1*y2 + x1*x2) * i)) * ((y1 - y2)*(y1 - y2)) = (1 - (y1*y2 - x1*x2) * j) * (1 - (y1*y2 + x1*x2) * i) * ((y1 + y2)*(y1 + y2)) := by
  have := dadd_poly d x1 y1 x2 y2 e1 e2 _ _ _ _ rfl rfl rfl rfl
  rw [hu]
  generalize 1 + d*x1*x2*y1*y2 = D at *
  generalize 1 - d*x1*x2*y1*y2 = G at *
  generalize y1*y2 - x1*x2 = A at *
  generalize y1*y2 + x1*x2 = B at *
  clear e1 e2 hu
  have q1 : 1 + A * j = (G + A) * j := by grobner
  have q2 : 1 - A * j = (G - A) * j := by grobner
  have q3 : 1 + B * i = (D + B) * i := by grobner
  have q4 : 1 - B * i = (D - B) * i := by grobner
  rw [q1, q2, q3, q4]
  grobner
theorem sub_y {P Q : Pt n} (hP : E.On P) (hQ : E.On Q) : P.2 = (Q.2 * (E.add Q P).2 + Q.1 * (E.add Q P).1) * E.inv (1 + E.d * Q.1 * (E.add Q P).1 * Q.2 * (E.add Q P).2) := by
  have hN : E.On (-Q.1, Q.2) := by
    simp only [Ed.On] at *
    grobner
  have e0 : E.add (-Q.1, Q.2) Q = O := by
    obtain ⟨h1, h2⟩ := E.den hN hQ
    have i2 := E.hinv _ h2
    simp only [Ed.add, Ed.e, Ed.On, O] at *
    congr 1
    · have : -Q.1 * Q.2 + Q.2 * Q.1 = 0 := by grobner
      rw [this]; grobner
    · have : Q.2 * Q.2 - -Q.1 * Q.1 = 1 - E.d * -Q.1 * Q.1 * Q.2 * Q.2 := by grobner
      rw [this]; exact i2
  have e1 : E.add (-Q.1, Q.2) (E.add Q P) = P := by
    rw [← E.assoc hN hQ hP, e0, E.O_add]
  have e2 := congrArg Prod.snd e1
  rw [← e2]
  simp only [Ed.add, Ed.e]
  congr 1
  · grobner
  · congr 1
    grobner
/-- Added, the difference being known. -/
theorem Rep.sum {X Z U W u : Fin n} {P Q : Pt n} (hP : E.On P) (hQ : E.On Q) (r : Rep X Z Q) (s : Rep U W (E.add Q P)) (u0 : u ≠ 0) (hu : u * (1 - P.2) = 1 + P.2) (hP1 : 1 - P.2 ≠ 0) :
    Rep (((U - W) * (X + Z) + (U + W) * (X - Z)) * ((U - W) * (X + Z) + (U + W) * (X - Z))) (u * (((U - W) * (X + Z) - (U + W) * (X - Z)) * ((U - W) * (X + Z) - (U + W) * (X - Z)))) (E.add Q (E.add Q P)) := by
  have hR := E.add_on hQ hP
  have hy := sub_y hP hQ
  generalize E.add Q P = R at *
  obtain ⟨l, hl, hX, hZ⟩ := r
  obtain ⟨m, hm, hU, hW⟩ := s
  obtain ⟨h1, h2⟩ := E.den hQ hR
  have i1 := E.hinv _ h1
  have i2 := E.hinv _ h2
  obtain ⟨sx, sz⟩ := sum_x hX hZ hU hW
  rw [sx, sz]
  clear sx sz hX hZ hU hW
  obtain ⟨x1, y1⟩ := Q
  obtain ⟨x2, y2⟩ := R
  obtain ⟨xP, yP⟩ := P
  simp only [Ed.On, Ed.e, Ed.add] at *
  have four : (4 : Fin n) * (l * m) ≠ 0 := by
    have : (4 : Fin n) = 2 * 2 := by grobner
    rw [this]
    exact E.nz_mul (E.nz_mul E.two E.two) (E.nz_mul hl hm)
  generalize (4 : Fin n) * (l * m) = k at *
  have key := diff_rel (u := u) hQ hR i1 i2 (by rw [← hy]; exact hu)
  rw [← hy] at key
  have nz0 : ¬ (y1 + y2 = 0 ∧ y1 - y2 = 0) := by
    rintro ⟨a, b⟩
    have t1 : (2 : Fin n) * y1 = 0 := by grobner
    have t2 : (2 : Fin n) * y2 = 0 := by grobner
    obtain rfl : y1 = 0 := (E.nzd t1).resolve_left E.two
    obtain rfl : y2 = 0 := (E.nzd t2).resolve_left E.two
    have q1 : x1 * x1 = 1 := by grobner
    have q2 : x2 * x2 = 1 := by grobner
    have q3 : 1 + E.d * x1 * x2 * 0 * 0 = 1 := by grobner
    rw [q3, E.inv1] at hy
    have q4 : yP * yP = 1 := by rw [hy]; grobner
    have q5 : (1 - yP) * (u * (1 - yP)) = 0 := by rw [hu]; grobner
    rcases E.nzd q5 with h | h
    · exact hP1 h
    · rcases E.nzd h with h | h
      · exact u0 h
      · exact hP1 h
  clear hy i1 h1 hP
  generalize (y1 * y2 - x1 * x2) * E.inv (1 - E.d * x1 * x2 * y1 * y2) = w at *
  clear i2 h2 hQ hR
  have key2 : (1 + w) * (u * ((y1 - y2) * (y1 - y2))) = (1 - w) * ((y1 + y2) * (y1 + y2)) := by
    have : ((1 + w) * (u * ((y1 - y2) * (y1 - y2))) - (1 - w) * ((y1 + y2) * (y1 + y2))) * (1 - yP) = 0 := by grobner
    rcases E.nzd this with h | h
    · grobner
    · exact absurd h hP1
  by_cases hw : 1 + w = 0
  · have a : (2 : Fin n) * ((y1 + y2) * (y1 + y2)) = 0 := by grobner
    have a0 : (y1 + y2) * (y1 + y2) = 0 := (E.nzd a).resolve_left E.two
    have a1 : y1 + y2 = 0 := by rcases E.nzd a0 with h | h <;> exact h
    have a2 : y1 - y2 ≠ 0 := fun b => nz0 ⟨a1, b⟩
    have i := E.hinv _ E.two
    generalize E.inv 2 = t at i
    have t0 : t ≠ 0 := by
      rintro rfl
      apply E.one
      grobner
    refine ⟨t * (u * ((k * (y1 - y2)) * (k * (y1 - y2)))), E.nz_mul t0 (E.nz_mul u0 (E.nz_mul (E.nz_mul four a2) (E.nz_mul four a2))), ?_, ?_⟩
    · grobner
    · grobner
  · have i := E.hinv _ hw
    generalize E.inv (1 + w) = t at i
    have t0 : t ≠ 0 := by
      rintro rfl
      apply E.one
      grobner
    have a1 : y1 + y2 ≠ 0 := by
      intro a
      have : (1 + w) * (u * ((y1 - y2) * (y1 - y2))) = 0 := by rw [key2, a]; grobner
      have a2 : (y1 - y2) * (y1 - y2) = 0 := (E.nzd ((E.nzd this).resolve_left hw)).resolve_left u0
      exact nz0 ⟨a, by rcases E.nzd a2 with h | h <;> exact h⟩
    refine ⟨t * ((k * (y1 + y2)) * (k * (y1 + y2))), E.nz_mul t0 (E.nz_mul (E.nz_mul four a1) (E.nz_mul four a1)), ?_, ?_⟩
    · grobner
    · grobner
/-- What stands for a point tells its coordinate. -/
theorem Rep.u {X Z : Fin n} {Q : Pt n} (r : Rep X Z Q) : X * E.inv Z = E.uOf Q := by
  obtain ⟨l, hl, rfl, rfl⟩ := r
  unfold Ed.uOf
  by_cases h : 1 - Q.2 = 0
  · rw [h]
    have : l * 0 = 0 := by grobner
    rw [this, E.inv0]
    grobner
  · have i1 := E.hinv _ h
    have i2 := E.hinv _ (E.nz_mul hl h)
    generalize E.inv (1 - Q.2) = a at *
    generalize E.inv (l * (1 - Q.2)) = b at *
    have : b * l = a := by
      have : b * l * ((1 - Q.2) * a) = a := by grobner
      rw [i1] at this
      grobner
    rw [← this]
    grobner
/-- A bit of the ladder. -/
def stepF (c u : Fin n) (s : Fin n × Fin n × Fin n × Fin n) : Fin n × Fin n × Fin n × Fin n :=
  let a := s.1 + s.2.1
  let b := s.1 - s.2.1
  let aa := a * a
  let bb := b * b
  let e := aa - bb
  let d := (s.2.2.1 - s.2.2.2) * a
  let c' := (s.2.2.1 + s.2.2.2) * b
  (aa * bb, e * (aa + c * e), (d + c') * (d + c'), u * ((d - c') * (d - c')))
def swapF (b : Bool) (s : Fin n × Fin n × Fin n × Fin n) : Fin n × Fin n × Fin n × Fin n := if b then (s.2.2.1, s.2.2.2, s.1, s.2.1) else s
def bitF (c u : Fin n) (b : Bool) (s : Fin n × Fin n × Fin n × Fin n) : Fin n × Fin n × Fin n × Fin n := swapF b (stepF c u (swapF b s))
/-- The number of bits, the highest first. -/
def numB : List Bool → Nat → Nat
  | [], k => k
  | b :: l, k => numB l (2 * k + b.toNat)
def ladF (c u : Fin n) : List Bool → Fin n × Fin n × Fin n × Fin n → Fin n × Fin n × Fin n × Fin n
  | [], s => s
  | b :: l, s => ladF c u l (bitF c u b s)
theorem bit_rep {u : Fin n} {P : Pt n} (hP : E.On P) (u0 : u ≠ 0) (hu : u * (1 - P.2) = 1 + P.2) (hP1 : 1 - P.2 ≠ 0) {k : Nat} {b : Bool} {s : Fin n × Fin n × Fin n × Fin n} (r : Rep s.1 s.2.1 (E.smul k P)) (q : Rep s.2.2.1 s.2.2.2 (E.smul (k + 1) P)) :
    Rep (bitF E.c u b s).1 (bitF E.c u b s).2.1 (E.smul (2 * k + b.toNat) P) ∧ Rep (bitF E.c u b s).2.2.1 (bitF E.c u b s).2.2.2 (E.smul (2 * k + b.toNat + 1) P) := by
  obtain ⟨X, Z, U, W⟩ := s
  have sm : ∀ a b, E.add (E.smul a P) (E.smul b P) = E.smul (a + b) P := fun a b => (E.smul_add hP a b).symm
  have q' : Rep U W (E.add (E.smul k P) P) := q
  have su := Rep.sum (E := E) hP (E.smul_on hP k) r q' u0 hu hP1
  have e1 : E.add (E.smul k P) P = E.smul (k + 1) P := rfl
  rw [e1, sm] at su
  cases b with
  | false =>
    have db := Rep.dbl (E := E) (E.smul_on hP k) r
    rw [sm] at db
    have e2 : 2 * k + false.toNat = k + k := by simp; omega
    rw [e2]
    exact ⟨db, su⟩
  | true =>
    have db := Rep.dbl (E := E) (E.smul_on hP (k + 1)) q
    rw [sm] at db
    have e2 : 2 * k + true.toNat = k + (k + 1) := by simp; omega
    have e3 : k + (k + 1) + 1 = k + 1 + (k + 1) := by omega
    rw [e2, e3]
    refine ⟨?_, db⟩
    have x1 : (bitF E.c u true (X, Z, U, W)).1 = ((U - W) * (X + Z) + (U + W) * (X - Z)) * ((U - W) * (X + Z) + (U + W) * (X - Z)) := by
      simp only [bitF, swapF, stepF, if_true]
      grobner
    have x2 : (bitF E.c u true (X, Z, U, W)).2.1 = u * (((U - W) * (X + Z) - (U + W) * (X - Z)) * ((U - W) * (X + Z) - (U + W) * (X - Z))) := by
      simp only [bitF, swapF, stepF, if_true]
      grobner
    rw [x1, x2]
    exact su
theorem lad_rep {u : Fin n} {P : Pt n} (hP : E.On P) (u0 : u ≠ 0) (hu : u * (1 - P.2) = 1 + P.2) (hP1 : 1 - P.2 ≠ 0) : ∀ (l : List Bool) (k : Nat) (s : Fin n × Fin n × Fin n × Fin n), Rep s.1 s.2.1 (E.smul k P) → Rep s.2.2.1 s.2.2.2 (E.smul (k + 1) P) →
    Rep (ladF E.c u l s).1 (ladF E.c u l s).2.1 (E.smul (numB l k) P)
  | [], k, s, r, q => r
  | b :: l, k, s, r, q => by
    obtain ⟨r', q'⟩ := bit_rep (b := b) hP u0 hu hP1 r q
    exact lad_rep hP u0 hu hP1 l _ _ r' q'
/-- The ladder's outcome. -/
theorem lad_u {u : Fin n} {P : Pt n} (hP : E.On P) (u0 : u ≠ 0) (hu : u * (1 - P.2) = 1 + P.2) (hP1 : 1 - P.2 ≠ 0) (l : List Bool) :
    (ladF E.c u l (1, 0, u, 1)).1 * E.inv (ladF E.c u l (1, 0, u, 1)).2.1 = E.uOf (E.smul (numB l 0) P) := by
  refine Rep.u (lad_rep hP u0 hu hP1 l 0 _ ?_ ?_)
  · have i := E.hinv _ E.two
    generalize E.inv 2 = t at i
    refine ⟨t, ?_, ?_, ?_⟩
    · rintro rfl
      apply E.one
      grobner
    · show (1 : Fin n) = t * (1 + 1)
      grobner
    · show (0 : Fin n) = t * (1 - 1)
      grobner
  · have i := E.hinv _ hP1
    have e : E.smul 1 P = P := E.O_add P
    rw [e]
    generalize E.inv (1 - P.2) = t at i
    refine ⟨t, ?_, ?_, ?_⟩
    · rintro rfl
      apply E.one
      grobner
    · show u = t * (1 + P.2)
      grobner
    · show (1 : Fin n) = t * (1 - P.2)
      grobner
end Go.Curve
set_option linter.unusedVariables false
set_option maxRecDepth 100000
namespace Go.Curve
def Pr (n : Nat) : Prop := 1 < n ∧ ∀ d, d ∣ n → d = 1 ∨ d = n
theorem pigeon : ∀ (m : Nat) (f : Nat → Nat), (∀ i, i < m → f i < m) → (∀ i j, i < m → j < m → f i = f j → i = j) → ∀ y, y < m → ∃ i, i < m ∧ f i = y
  | 0, _, _, _, y, hy => absurd hy (Nat.not_lt_zero _)
  | m + 1, f, hf, hi, y, hy => by
    by_cases h : ∃ i, i < m + 1 ∧ f i = y
    · exact h
    · exfalso
      have hny : ∀ i, i < m + 1 → f i ≠ y := fun i hi e => h ⟨i, hi, e⟩
      have gm : ∀ i, i < m + 1 → (if f i = m then y else f i) < m := by
        intro i h1
        have := hf i h1
        split
        · rename_i e
          have := hny i h1
          omega
        · omega
      have gi : ∀ i j, i < m + 1 → j < m + 1 → (if f i = m then y else f i) = (if f j = m then y else f j) → i = j := by
        intro i j h1 h2 e
        have n1 := hny i h1
        have n2 := hny j h2
        split at e <;> split at e
        · exact hi i j h1 h2 (by omega)
        · exact absurd e.symm n2
        · exact absurd e n1
        · exact hi i j h1 h2 e
      obtain ⟨i, h1, e⟩ := pigeon m (fun i => if f i = m then y else f i) (fun i h => gm i (by omega)) (fun i j h1 h2 => gi i j (by omega) (by omega)) _ (gm m (by omega))
      have := gi i m (by omega) (by omega) e
      omega
theorem leastN {p : Nat → Prop} (h : ∃ n, p n) : ∃ n, p n ∧ ∀ m, p m → n ≤ m := by
  obtain ⟨n, hn⟩ := h
  induction n using Nat.strongRecOn with
  | _ n ih =>
    by_cases q : ∃ m, m < n ∧ p m
    · obtain ⟨m, hm, pm⟩ := q
      exact ih m hm pm
    · exact ⟨n, hn, fun m pm => by
        rcases Nat.lt_or_ge m n with h | h
        · exact absurd ⟨m, h, pm⟩ q
        · exact h⟩
/-- A prime divides a factor. -/
theorem Pr.mul {q a b : Nat} (h : Pr q) (d : q ∣ a * b) : q ∣ a ∨ q ∣ b := by
  rcases h.2 (Nat.gcd q a) (Nat.gcd_dvd_left _ _) with e | e
  · exact .inr (Nat.Coprime.dvd_of_dvd_mul_left e d)
  · exact .inl (e ▸ Nat.gcd_dvd_right q a)
theorem least_prime {e : Nat} (h : 1 < e) : ∃ q, Pr q ∧ q ∣ e := by
  obtain ⟨q, ⟨h1, h2⟩, hm⟩ := leastN (p := fun q => 1 < q ∧ q ∣ e) ⟨e, h, Nat.dvd_refl e⟩
  refine ⟨q, ⟨h1, fun d hd => ?_⟩, h2⟩
  have hp : 0 < q := by omega
  have dle := Nat.le_of_dvd hp hd
  have d0 : 0 < d := Nat.pos_of_dvd_of_pos hd hp
  by_cases d1 : d = 1
  · exact .inl d1
  · exact .inr (Nat.le_antisymm dle (hm d ⟨by omega, Nat.dvd_trans hd h2⟩))
theorem prime_in : ∀ {fs : List Nat} {q : Nat}, Pr q → q ∣ fs.prod → (∀ f ∈ fs, Pr f) → q ∈ fs
  | [], q, hq, hd, _ => by
    simp at hd
    have := hq.1
    omega
  | f :: fs, q, hq, hd, hf => by
    rw [List.prod_cons] at hd
    rcases hq.mul hd with h | h
    · rcases (hf f (by simp)).2 q h with e | e
      · have := hq.1; omega
      · rw [e]; simp
    · exact List.mem_cons_of_mem _ (prime_in hq h fun g hg => hf g (List.mem_cons_of_mem _ hg))
theorem pow_one_mod {a n k : Nat} (hn : 1 < n) (h : a ^ k % n = 1) (j : Nat) : a ^ (k * j) % n = 1 := by
  rw [Nat.pow_mul, Nat.pow_mod, h, Nat.one_pow]
  exact Nat.mod_eq_of_lt hn
/-- All residues are powers of one. -/
structure Gen (n a : Nat) : Prop where
  n1 : 1 < n
  one : a ^ (n - 1) % n = 1
  all : ∀ x, 0 < x → x < n → ∃ i, a ^ i % n = x
theorem lucas {n a : Nat} (fs : List Nat) (hn : 1 < n) (hp : ∀ f ∈ fs, Pr f) (hprod : fs.prod = n - 1) (h1 : a ^ (n - 1) % n = 1) (h2 : ∀ f ∈ fs, a ^ ((n - 1) / f) % n ≠ 1) : Gen n a := by
  refine ⟨hn, h1, ?_⟩
  obtain ⟨d, ⟨d0, hd⟩, hm⟩ := leastN (p := fun d => 0 < d ∧ a ^ d % n = 1) ⟨n - 1, by omega, h1⟩
  have hdn : d ∣ n - 1 := by
    have e : (n - 1) = d * ((n - 1) / d) + (n - 1) % d := (Nat.div_add_mod _ _).symm
    have r : a ^ ((n - 1) % d) % n = 1 := by
      rw [e, Nat.pow_add, Nat.mul_mod, pow_one_mod hn hd, Nat.one_mul, Nat.mod_mod] at h1
      exact h1
    have lt := Nat.mod_lt (n - 1) d0
    rcases Nat.eq_zero_or_pos ((n - 1) % d) with z | z
    · exact Nat.dvd_of_mod_eq_zero z
    · have := hm _ ⟨z, r⟩
      omega
  have hdl : d ≤ n - 1 := Nat.le_of_dvd (by omega) hdn
  have hd1 : d = n - 1 := by
    obtain ⟨e, he⟩ := hdn
    by_cases h : e = 1
    · rw [h, Nat.mul_one] at he; exact he.symm
    · exfalso
      have e0 : e ≠ 0 := by rintro rfl; omega
      obtain ⟨q, hq, hqe⟩ := least_prime (e := e) (by omega)
      have hin := prime_in hq (by rw [hprod, he]; exact Nat.dvd_trans hqe (Nat.dvd_mul_left e d)) hp
      obtain ⟨g, rfl⟩ := hqe
      have hq1 := hq.1
      have : (n - 1) / q = d * g := by rw [he, show d * (q * g) = q * (d * g) by rw [Nat.mul_left_comm], Nat.mul_div_cancel_left _ (by omega)]
      exact h2 q hin (by rw [this]; exact pow_one_mod hn hd g)
  subst hd1
  have pos : ∀ i, i ≤ n - 1 → a ^ i % n ≠ 0 := by
    intro i hi z
    have : a ^ (n - 1) % n = 0 := by
      rw [show n - 1 = i + (n - 1 - i) by omega, Nat.pow_add, Nat.mul_mod, z, Nat.zero_mul, Nat.zero_mod]
    omega
  have inj : ∀ i j, i < n - 1 → j < n - 1 → i < j → a ^ i % n ≠ a ^ j % n := by
    intro i j hi hj hij e
    have : a ^ (j - i) % n = 1 := by
      have e1 : a ^ (n - 1) % n = a ^ ((n - 1) + (j - i)) % n := by
        rw [show (n - 1) + (j - i) = j + (n - 1 - i) by omega, Nat.pow_add, Nat.mul_mod, ← e, ← Nat.mul_mod, ← Nat.pow_add]
        congr 2
        omega
      rw [h1, Nat.pow_add, Nat.mul_mod, h1, Nat.one_mul, Nat.mod_mod] at e1
      exact e1.symm
    have := hm _ ⟨by omega, this⟩
    omega
  intro x hx hxn
  obtain ⟨i, hi, e⟩ := pigeon (n - 1) (fun i => a ^ i % n - 1) (fun i hi => by
      have := pos i (by omega)
      have := Nat.mod_lt (a ^ i) (show n > 0 by omega)
      show a ^ i % n - 1 < n - 1
      omega) (fun i j hi hj e => by
      have p1 := pos i (by omega)
      have p2 := pos j (by omega)
      have e : a ^ i % n - 1 = a ^ j % n - 1 := e
      rcases Nat.lt_trichotomy i j with h | h | h
      · exact absurd (by omega) (inj i j hi hj h)
      · exact h
      · exact absurd (by omega) (inj j i hj hi h)) (x - 1) (by omega)
  refine ⟨i, ?_⟩
  have p1 := pos i (by omega)
  have e : a ^ i % n - 1 = x - 1 := e
  omega
theorem Gen.fermat {n a : Nat} (g : Gen n a) {x : Nat} (h : x % n ≠ 0) : x ^ (n - 1) % n = 1 := by
  have n1 := g.n1
  obtain ⟨i, e⟩ := g.all (x % n) (by omega) (Nat.mod_lt _ (by omega))
  rw [Nat.pow_mod, ← e, ← Nat.pow_mod, ← Nat.pow_mul, Nat.mul_comm, pow_one_mod n1 g.one]
theorem Gen.pr {n a : Nat} (g : Gen n a) : Pr n := by
  have n1 := g.n1
  refine ⟨n1, fun d hd => ?_⟩
  have dle := Nat.le_of_dvd (by omega) hd
  have d0 : 0 < d := Nat.pos_of_dvd_of_pos hd (by omega)
  by_cases h : d = n
  · exact .inr h
  · left
    have hf := g.fermat (x := d) (by rw [Nat.mod_eq_of_lt (by omega)]; omega)
    have d2 : d ∣ d ^ (n - 1) := by
      rw [show n - 1 = (n - 2) + 1 by omega, Nat.pow_succ]
      exact Nat.dvd_mul_left _ _
    have := (Nat.dvd_mod_iff (k := d) (m := d ^ (n - 1)) hd).2 d2
    rw [hf] at this
    exact Nat.dvd_one.1 this
/-- Powers, by their bits. -/
def pw : Nat → Nat → Nat → Nat → Nat → Nat
  | 0, _, _, _, r => r
  | f + 1, a, e, m, r => if e = 0 then r else pw f (a * a % m) (e / 2) m (if e % 2 = 1 then r * a % m else r)
theorem pw_spec : ∀ (f a e m r : Nat), e < 2 ^ f → pw f a e m r % m = r * a ^ e % m
  | 0, a, e, m, r, h => by
    obtain rfl : e = 0 := by simp at h; exact h
    simp [pw]
  | f + 1, a, e, m, r, h => by
    rw [pw]
    split
    · rename_i e0; subst e0; simp
    · rw [pw_spec f _ _ _ _ (by rw [Nat.pow_succ] at h; omega)]
      have e1 : a ^ e = (a * a) ^ (e / 2) * a ^ (e % 2) := by
        rw [← Nat.pow_two, ← Nat.pow_mul, ← Nat.pow_add]
        congr 1
        omega
      rw [e1]
      by_cases b : e % 2 = 1
      · rw [if_pos b, b, Nat.pow_one, Nat.mul_mod, Nat.mod_mod, ← Nat.pow_mod, ← Nat.mul_mod]
        congr 1
        rw [Nat.mul_assoc r a, Nat.mul_comm a]
      · rw [if_neg b, show e % 2 = 0 by omega, Nat.pow_zero, Nat.mul_one, Nat.mul_mod, ← Nat.pow_mod, ← Nat.mul_mod]
theorem lucas_c {n a : Nat} (fs : List Nat) (c : (decide (1 < n) && decide (n - 1 < 2 ^ 256) && (fs.prod == n - 1) && (pw 256 a (n - 1) n 1 % n == 1) && fs.all fun f => pw 256 a ((n - 1) / f) n 1 % n != 1) = true) (hp : ∀ f ∈ fs, Pr f) : Gen n a := by
  simp only [Bool.and_eq_true, decide_eq_true_eq, beq_iff_eq, List.all_eq_true, bne_iff_ne, ne_eq] at c
  obtain ⟨⟨⟨⟨c1, c2⟩, c3⟩, c4⟩, c5⟩ := c
  rw [pw_spec _ _ _ _ _ c2, Nat.one_mul] at c4
  refine lucas fs c1 hp c3 c4 fun f hf h => c5 f hf ?_
  rw [pw_spec _ _ _ _ _ (Nat.lt_of_le_of_lt (Nat.div_le_self _ _) c2), Nat.one_mul]
  exact h
/-- A small prime. -/
theorem pr_small {n : Nat} (c : (decide (1 < n) && decide (n < 65536) && (List.range 256).all fun d => decide (d ≤ 1) || decide (n ≤ d) || n % d != 0) = true) : Pr n := by
  simp only [Bool.and_eq_true, decide_eq_true_eq, List.all_eq_true, List.mem_range, Bool.or_eq_true, bne_iff_ne, ne_eq] at c
  obtain ⟨⟨c1, c2⟩, c3⟩ := c
  refine ⟨c1, fun d hd => ?_⟩
  obtain ⟨e, rfl⟩ := hd
  have no : ∀ x y, 1 < x → x < 256 → d * e = x * y → 1 < y → False := by
    intro x y hx h2 h3 hy
    have h4 := c3 x h2
    rcases h4 with (h4 | h4) | h4
    · omega
    · have : x * 1 < x * y := Nat.mul_lt_mul_of_pos_left hy (by omega)
      omega
    · exact h4 (by rw [h3]; exact Nat.mul_mod_right _ _)
  by_cases h1 : d = 1
  · exact .inl h1
  · by_cases h2 : e = 1
    · right; rw [h2, Nat.mul_one]
    · exfalso
      have d0 : d ≠ 0 := by rintro rfl; simp at c1
      have e0 : e ≠ 0 := by rintro rfl; simp at c1
      rcases Nat.lt_or_ge d 256 with h | h
      · exact no d e (by omega) h rfl (by omega)
      · rcases Nat.lt_or_ge e 256 with h' | h'
        · exact no e d (by omega) h' (Nat.mul_comm _ _) (by omega)
        · have := Nat.mul_le_mul h h'
          omega
theorem pr_2 : Pr 2 := pr_small (by decide +kernel)
theorem pr_3 : Pr 3 := pr_small (by decide +kernel)
theorem pr_65147 : Pr 65147 := pr_small (by decide +kernel)
theorem pr_353 : Pr 353 := pr_small (by decide +kernel)
theorem pr_57467 : Pr 57467 := pr_small (by decide +kernel)
theorem pr_7 : Pr 7 := pr_small (by decide +kernel)
theorem pr_131 : Pr 131 := pr_small (by decide +kernel)
theorem gn_132049 : Gen 132049 26 := lucas_c [2, 2, 2, 2, 3, 3, 7, 131] (by decide +kernel) (by simp only [List.forall_mem_cons]; exact ⟨pr_2, pr_2, pr_2, pr_2, pr_3, pr_3, pr_7, pr_131, fun _ h => by cases h⟩)
theorem pr_132049 : Pr 132049 := gn_132049.pr
theorem pr_43 : Pr 43 := pr_small (by decide +kernel)
theorem pr_3727 : Pr 3727 := pr_small (by decide +kernel)
theorem gn_1923133 : Gen 1923133 2 := lucas_c [2, 2, 3, 43, 3727] (by decide +kernel) (by simp only [List.forall_mem_cons]; exact ⟨pr_2, pr_2, pr_3, pr_43, pr_3727, fun _ h => by cases h⟩)
theorem pr_1923133 : Pr 1923133 := gn_1923133.pr
theorem pr_31 : Pr 31 := pr_small (by decide +kernel)
theorem pr_107 : Pr 107 := pr_small (by decide +kernel)
theorem pr_223 : Pr 223 := pr_small (by decide +kernel)
theorem pr_4153 : Pr 4153 := pr_small (by decide +kernel)
theorem pr_5 : Pr 5 := pr_small (by decide +kernel)
theorem pr_1723 : Pr 1723 := pr_small (by decide +kernel)
theorem gn_430751 : Gen 430751 17 := lucas_c [2, 5, 5, 5, 1723] (by decide +kernel) (by simp only [List.forall_mem_cons]; exact ⟨pr_2, pr_5, pr_5, pr_5, pr_1723, fun _ h => by cases h⟩)
theorem pr_430751 : Pr 430751 := gn_430751.pr
theorem gn_31757755568855353 : Gen 31757755568855353 10 := lucas_c [2, 2, 2, 3, 31, 107, 223, 4153, 430751] (by decide +kernel) (by simp only [List.forall_mem_cons]; exact ⟨pr_2, pr_2, pr_2, pr_3, pr_31, pr_107, pr_223, pr_4153, pr_430751, fun _ h => by cases h⟩)
theorem pr_31757755568855353 : Pr 31757755568855353 := gn_31757755568855353.pr
theorem pr_37853 : Pr 37853 := pr_small (by decide +kernel)
theorem gn_75707 : Gen 75707 2 := lucas_c [2, 37853] (by decide +kernel) (by simp only [List.forall_mem_cons]; exact ⟨pr_2, pr_37853, fun _ h => by cases h⟩)
theorem pr_75707 : Pr 75707 := gn_75707.pr
theorem pr_13 : Pr 13 := pr_small (by decide +kernel)
theorem pr_2437 : Pr 2437 := pr_small (by decide +kernel)
theorem pr_97 : Pr 97 := pr_small (by decide +kernel)
theorem pr_419 : Pr 419 := pr_small (by decide +kernel)
theorem gn_569003 : Gen 569003 2 := lucas_c [2, 7, 97, 419] (by decide +kernel) (by simp only [List.forall_mem_cons]; exact ⟨pr_2, pr_7, pr_97, pr_419, fun _ h => by cases h⟩)
theorem pr_569003 : Pr 569003 := gn_569003.pr
theorem gn_2773320623 : Gen 2773320623 5 := lucas_c [2, 2437, 569003] (by decide +kernel) (by simp only [List.forall_mem_cons]; exact ⟨pr_2, pr_2437, pr_569003, fun _ h => by cases h⟩)
theorem pr_2773320623 : Pr 2773320623 := gn_2773320623.pr
theorem gn_72106336199 : Gen 72106336199 7 := lucas_c [2, 13, 2773320623] (by decide +kernel) (by simp only [List.forall_mem_cons]; exact ⟨pr_2, pr_13, pr_2773320623, fun _ h => by cases h⟩)
theorem pr_72106336199 : Pr 72106336199 := gn_72106336199.pr
theorem pr_19 : Pr 19 := pr_small (by decide +kernel)
theorem pr_47 : Pr 47 := pr_small (by decide +kernel)
theorem pr_127 : Pr 127 := pr_small (by decide +kernel)
theorem pr_103 : Pr 103 := pr_small (by decide +kernel)
theorem pr_991 : Pr 991 := pr_small (by decide +kernel)
theorem gn_8574133 : Gen 8574133 2 := lucas_c [2, 2, 3, 7, 103, 991] (by decide +kernel) (by simp only [List.forall_mem_cons]; exact ⟨pr_2, pr_2, pr_3, pr_7, pr_103, pr_991, fun _ h => by cases h⟩)
theorem pr_8574133 : Pr 8574133 := gn_8574133.pr
theorem gn_1919519569386763 : Gen 1919519569386763 2 := lucas_c [2, 3, 7, 19, 47, 47, 127, 8574133] (by decide +kernel) (by simp only [List.forall_mem_cons]; exact ⟨pr_2, pr_3, pr_7, pr_19, pr_47, pr_47, pr_127, pr_8574133, fun _ h => by cases h⟩)
theorem pr_1919519569386763 : Pr 1919519569386763 := gn_1919519569386763.pr
theorem gn_75445702479781427272750846543864801 : Gen 75445702479781427272750846543864801 7 := lucas_c [2, 2, 2, 2, 2, 3, 3, 5, 5, 75707, 72106336199, 1919519569386763] (by decide +kernel) (by simp only [List.forall_mem_cons]; exact ⟨pr_2, pr_2, pr_2, pr_2, pr_2, pr_3, pr_3, pr_5, pr_5, pr_75707, pr_72106336199, pr_1919519569386763, fun _ h => by cases h⟩)
theorem pr_75445702479781427272750846543864801 : Pr 75445702479781427272750846543864801 := gn_75445702479781427272750846543864801.pr
theorem gn_74058212732561358302231226437062788676166966415465897661863160754340907 : Gen 74058212732561358302231226437062788676166966415465897661863160754340907 2 := lucas_c [2, 3, 353, 57467, 132049, 1923133, 31757755568855353, 75445702479781427272750846543864801] (by decide +kernel) (by simp only [List.forall_mem_cons]; exact ⟨pr_2, pr_3, pr_353, pr_57467, pr_132049, pr_1923133, pr_31757755568855353, pr_75445702479781427272750846543864801, fun _ h => by cases h⟩)
theorem pr_74058212732561358302231226437062788676166966415465897661863160754340907 : Pr 74058212732561358302231226437062788676166966415465897661863160754340907 := gn_74058212732561358302231226437062788676166966415465897661863160754340907.pr
theorem gn_57896044618658097711785492504343953926634992332820282019728792003956564819949 : Gen 57896044618658097711785492504343953926634992332820282019728792003956564819949 2 := lucas_c [2, 2, 3, 65147, 74058212732561358302231226437062788676166966415465897661863160754340907] (by decide +kernel) (by simp only [List.forall_mem_cons]; exact ⟨pr_2, pr_2, pr_3, pr_65147, pr_74058212732561358302231226437062788676166966415465897661863160754340907, fun _ h => by cases h⟩)
theorem pr_11 : Pr 11 := pr_small (by decide +kernel)
theorem pr_23 : Pr 23 := pr_small (by decide +kernel)
theorem pr_34123 : Pr 34123 := pr_small (by decide +kernel)
theorem gn_409477 : Gen 409477 2 := lucas_c [2, 2, 3, 34123] (by decide +kernel) (by simp only [List.forall_mem_cons]; exact ⟨pr_2, pr_2, pr_3, pr_34123, fun _ h => by cases h⟩)
theorem pr_409477 : Pr 409477 := gn_409477.pr
theorem gn_14741173 : Gen 14741173 2 := lucas_c [2, 2, 3, 3, 409477] (by decide +kernel) (by simp only [List.forall_mem_cons]; exact ⟨pr_2, pr_2, pr_3, pr_3, pr_409477, fun _ h => by cases h⟩)
theorem pr_14741173 : Pr 14741173 := gn_14741173.pr
theorem gn_58964693 : Gen 58964693 2 := lucas_c [2, 2, 14741173] (by decide +kernel) (by simp only [List.forall_mem_cons]; exact ⟨pr_2, pr_2, pr_14741173, fun _ h => by cases h⟩)
theorem pr_58964693 : Pr 58964693 := gn_58964693.pr
theorem pr_30703 : Pr 30703 := pr_small (by decide +kernel)
theorem pr_41081 : Pr 41081 := pr_small (by decide +kernel)
theorem gn_82163 : Gen 82163 2 := lucas_c [2, 41081] (by decide +kernel) (by simp only [List.forall_mem_cons]; exact ⟨pr_2, pr_41081, fun _ h => by cases h⟩)
theorem pr_82163 : Pr 82163 := gn_82163.pr
theorem pr_22111 : Pr 22111 := pr_small (by decide +kernel)
theorem gn_132667 : Gen 132667 5 := lucas_c [2, 3, 22111] (by decide +kernel) (by simp only [List.forall_mem_cons]; exact ⟨pr_2, pr_3, pr_22111, fun _ h => by cases h⟩)
theorem pr_132667 : Pr 132667 := gn_132667.pr
theorem pr_17231 : Pr 17231 := pr_small (by decide +kernel)
theorem gn_137849 : Gen 137849 3 := lucas_c [2, 2, 2, 17231] (by decide +kernel) (by simp only [List.forall_mem_cons]; exact ⟨pr_2, pr_2, pr_2, pr_17231, fun _ h => by cases h⟩)
theorem pr_137849 : Pr 137849 := gn_137849.pr
theorem gn_3044861653679985063343 : Gen 3044861653679985063343 5 := lucas_c [2, 3, 11, 30703, 82163, 132667, 137849] (by decide +kernel) (by simp only [List.forall_mem_cons]; exact ⟨pr_2, pr_3, pr_11, pr_30703, pr_82163, pr_132667, pr_137849, fun _ h => by cases h⟩)
theorem pr_3044861653679985063343 : Pr 3044861653679985063343 := gn_3044861653679985063343.pr
theorem gn_198211423230930754013084525763697 : Gen 198211423230930754013084525763697 5 := lucas_c [2, 2, 2, 2, 3, 23, 58964693, 3044861653679985063343] (by decide +kernel) (by simp only [List.forall_mem_cons]; exact ⟨pr_2, pr_2, pr_2, pr_2, pr_3, pr_23, pr_58964693, pr_3044861653679985063343, fun _ h => by cases h⟩)
theorem pr_198211423230930754013084525763697 : Pr 198211423230930754013084525763697 := gn_198211423230930754013084525763697.pr
theorem pr_269 : Pr 269 := pr_small (by decide +kernel)
theorem pr_73 : Pr 73 := pr_small (by decide +kernel)
theorem pr_307 : Pr 307 := pr_small (by decide +kernel)
theorem pr_5879 : Pr 5879 := pr_small (by decide +kernel)
theorem gn_292386187 : Gen 292386187 2 := lucas_c [2, 3, 3, 3, 3, 307, 5879] (by decide +kernel) (by simp only [List.forall_mem_cons]; exact ⟨pr_2, pr_3, pr_3, pr_3, pr_3, pr_307, pr_5879, fun _ h => by cases h⟩)
theorem pr_292386187 : Pr 292386187 := gn_292386187.pr
theorem gn_213441916511 : Gen 213441916511 13 := lucas_c [2, 5, 73, 292386187] (by decide +kernel) (by simp only [List.forall_mem_cons]; exact ⟨pr_2, pr_5, pr_73, pr_292386187, fun _ h => by cases h⟩)
theorem pr_213441916511 : Pr 213441916511 := gn_213441916511.pr
theorem pr_1361 : Pr 1361 := pr_small (by decide +kernel)
theorem pr_2851 : Pr 2851 := pr_small (by decide +kernel)
theorem pr_41 : Pr 41 := pr_small (by decide +kernel)
theorem pr_3797 : Pr 3797 := pr_small (by decide +kernel)
theorem gn_531581 : Gen 531581 2 := lucas_c [2, 2, 5, 7, 3797] (by decide +kernel) (by simp only [List.forall_mem_cons]; exact ⟨pr_2, pr_2, pr_5, pr_7, pr_3797, fun _ h => by cases h⟩)
theorem pr_531581 : Pr 531581 := gn_531581.pr
theorem pr_2551 : Pr 2551 := pr_small (by decide +kernel)
theorem gn_1224481 : Gen 1224481 13 := lucas_c [2, 2, 2, 2, 2, 3, 5, 2551] (by decide +kernel) (by simp only [List.forall_mem_cons]; exact ⟨pr_2, pr_2, pr_2, pr_2, pr_2, pr_3, pr_5, pr_2551, fun _ h => by cases h⟩)
theorem pr_1224481 : Pr 1224481 := gn_1224481.pr
theorem gn_1257559732178653 : Gen 1257559732178653 2 := lucas_c [2, 2, 3, 7, 23, 531581, 1224481] (by decide +kernel) (by simp only [List.forall_mem_cons]; exact ⟨pr_2, pr_2, pr_3, pr_7, pr_23, pr_531581, pr_1224481, fun _ h => by cases h⟩)
theorem pr_1257559732178653 : Pr 1257559732178653 := gn_1257559732178653.pr
theorem gn_4434155615661930479 : Gen 4434155615661930479 17 := lucas_c [2, 41, 43, 1257559732178653] (by decide +kernel) (by simp only [List.forall_mem_cons]; exact ⟨pr_2, pr_41, pr_43, pr_1257559732178653, fun _ h => by cases h⟩)
theorem pr_4434155615661930479 : Pr 4434155615661930479 := gn_4434155615661930479.pr
theorem gn_172054593956031949258510691 : Gen 172054593956031949258510691 2 := lucas_c [2, 5, 1361, 2851, 4434155615661930479] (by decide +kernel) (by simp only [List.forall_mem_cons]; exact ⟨pr_2, pr_5, pr_1361, pr_2851, pr_4434155615661930479, fun _ h => by cases h⟩)
theorem pr_172054593956031949258510691 : Pr 172054593956031949258510691 := gn_172054593956031949258510691.pr
theorem gn_19757330305831588566944191468367130476339 : Gen 19757330305831588566944191468367130476339 2 := lucas_c [2, 269, 213441916511, 172054593956031949258510691] (by decide +kernel) (by simp only [List.forall_mem_cons]; exact ⟨pr_2, pr_269, pr_213441916511, pr_172054593956031949258510691, fun _ h => by cases h⟩)
theorem pr_19757330305831588566944191468367130476339 : Pr 19757330305831588566944191468367130476339 := gn_19757330305831588566944191468367130476339.pr
theorem gn_276602624281642239937218680557139826668747 : Gen 276602624281642239937218680557139826668747 2 := lucas_c [2, 7, 19757330305831588566944191468367130476339] (by decide +kernel) (by simp only [List.forall_mem_cons]; exact ⟨pr_2, pr_7, pr_19757330305831588566944191468367130476339, fun _ h => by cases h⟩)
theorem pr_276602624281642239937218680557139826668747 : Pr 276602624281642239937218680557139826668747 := gn_276602624281642239937218680557139826668747.pr
theorem gn_7237005577332262213973186563042994240857116359379907606001950938285454250989 : Gen 7237005577332262213973186563042994240857116359379907606001950938285454250989 2 := lucas_c [2, 2, 3, 11, 198211423230930754013084525763697, 276602624281642239937218680557139826668747] (by decide +kernel) (by simp only [List.forall_mem_cons]; exact ⟨pr_2, pr_2, pr_3, pr_11, pr_198211423230930754013084525763697, pr_276602624281642239937218680557139826668747, fun _ h => by cases h⟩)
end Go.Curve
set_option linter.unusedVariables false
set_option maxRecDepth 100000
namespace Go.Curve
abbrev pp : Nat := 57896044618658097711785492504343953926634992332820282019728792003956564819949
abbrev el : Nat := 7237005577332262213973186563042994240857116359379907606001950938285454250989
instance : NeZero pp := ⟨by decide⟩
abbrev F := Fin pp
def invP (a : F) : F := Fin.ofNat pp (pw 256 a.val (pp - 2) pp 1)
theorem gp : Gen pp 2 := gn_57896044618658097711785492504343953926634992332820282019728792003956564819949
theorem gl : Gen el 2 := gn_7237005577332262213973186563042994240857116359379907606001950938285454250989
theorem powP (a e : Nat) (h : e < 2 ^ 256) : pw 256 a e pp 1 % pp = a ^ e % pp := by rw [pw_spec _ _ _ _ _ h, Nat.one_mul]
theorem f_ne {a : F} (h : a ≠ 0) : a.val % pp ≠ 0 := by
  intro e
  apply h
  apply Fin.ext
  rw [Nat.mod_eq_of_lt a.isLt] at e
  exact e
theorem f_val (a b : F) : (a * b).val = a.val * b.val % pp := Fin.val_mul a b
theorem inv_val (a : F) : (invP a).val = a.val ^ (pp - 2) % pp := by
  show pw 256 a.val (pp - 2) pp 1 % pp = _
  exact powP _ _ (by decide)
theorem hinvP (a : F) (h : a ≠ 0) : a * invP a = 1 := by
  apply Fin.ext
  rw [f_val, inv_val, Nat.mul_mod, Nat.mod_mod, ← Nat.mul_mod, Nat.mul_comm, ← Nat.pow_succ]
  exact gp.fermat (f_ne h)
theorem inv0P : invP 0 = 0 := by decide +kernel
def dP : F := 20800338683988658368647408995589388737092878452977063003340006470870624536394
theorem dnr : dP.val ^ ((pp - 1) / 2) % pp = pp - 1 := by
  rw [← powP _ _ (by decide)]
  decide +kernel
theorem hdP (z w : F) (h : z * z = dP * (w * w)) : w = 0 := by
  apply Classical.byContradiction
  intro hw
  have h1 : z.val * z.val % pp = dP.val * (w.val * w.val) % pp := by
    have := congrArg Fin.val h
    rw [f_val, f_val, f_val, Nat.mul_mod_mod] at this
    exact this
  have h2 : (z.val * z.val) ^ ((pp - 1) / 2) % pp = (dP.val * (w.val * w.val)) ^ ((pp - 1) / 2) % pp := by
    rw [Nat.pow_mod, h1, ← Nat.pow_mod]
  have sq : ∀ x : Nat, (x * x) ^ ((pp - 1) / 2) = x ^ (pp - 1) := fun x => by
    rw [← Nat.pow_two, ← Nat.pow_mul]
    exact congrArg (fun e => x ^ e) (by decide +kernel)
  have fw := gp.fermat (f_ne hw)
  rw [sq, Nat.mul_pow, sq, Nat.mul_mod, dnr, fw] at h2
  have e1 : (pp - 1) * 1 % pp = pp - 1 := by decide +kernel
  rw [e1] at h2
  by_cases hz : z = 0
  · subst hz
    have e2 : (0 : F).val ^ (pp - 1) % pp = 0 := by
      rw [show (0 : F).val = 0 from rfl, Nat.zero_pow (by decide)]
      exact Nat.zero_mod _
    rw [e2] at h2
    exact absurd h2 (by decide)
  · rw [gp.fermat (f_ne hz)] at h2
    exact absurd h2 (by decide)
def cE : Ed pp where
  d := dP
  c := 121665
  inv := invP
  one := by decide +kernel
  two := by decide +kernel
  inv0 := inv0P
  hinv := hinvP
  hd := hdP
  hc := by decide +kernel
def bP : Pt pp := (9771384041963202563870679428059935816164187996444183106833894008023910952347, 46316835694926478169428394003475163141307993866256225615783033603165251855960)
theorem b_on : cE.On bP := by
  show bP.1 * bP.1 + bP.2 * bP.2 = 1 + dP * bP.1 * bP.1 * bP.2 * bP.2
  decide +kernel
theorem b_u : (9 : F) * (1 - bP.2) = 1 + bP.2 := by decide +kernel
theorem b_y1 : 1 - bP.2 ≠ 0 := by decide +kernel
theorem nine0 : (9 : F) ≠ 0 := by decide +kernel
theorem b_neO : bP ≠ O := by
  intro h
  have := congrArg Prod.fst h
  exact absurd this (by decide +kernel)
/-- The bits of a number below 2^n, the highest first. -/
def bitsN (x : Nat) : Nat → List Bool
  | 0 => []
  | n + 1 => x.testBit n :: bitsN x n
theorem numB_bits (x : Nat) : ∀ n k, numB (bitsN x n) k = k * 2 ^ n + x % 2 ^ n
  | 0, k => by simp [bitsN, numB, Nat.mod_one]
  | n + 1, k => by
    have tb : (x.testBit n).toNat = x / 2 ^ n % 2 := by
      rw [Nat.testBit_eq_decide_div_mod_eq]
      rcases Nat.mod_two_eq_zero_or_one (x / 2 ^ n) with h | h <;> simp [h]
    have e1 : 2 * k * 2 ^ n = k * (2 ^ n * 2) := by
      rw [Nat.mul_comm 2 k, Nat.mul_assoc, Nat.mul_comm 2]
    rw [bitsN, numB, numB_bits x n, tb, Nat.pow_succ, Nat.add_mul, e1, Nat.mod_mul, Nat.mul_comm (2 ^ n) (x / 2 ^ n % 2)]
    omega
theorem one_y {P : Pt pp} (h : cE.On P) (y : P.2 = 1 ∨ P.2 = -1) : P.1 = 0 := by
  obtain ⟨a, b⟩ := P
  have h : a * a + b * b = 1 + dP * a * a * b * b := h
  have e : (1 - dP) * (a * a) = 0 := by
    rcases y with rfl | rfl <;> grobner
  have n : (1 - dP : F) ≠ 0 := by decide +kernel
  have := (cE.nzd e).resolve_left n
  rcases cE.nzd this with h | h <;> exact h
theorem ladZ : (ladF (121665 : F) 9 (bitsN el 253) (1, 0, 9, 1)).2.1 = 0 := by decide +kernel
theorem lad_base (l : List Bool) : Rep (ladF (121665 : F) 9 l (1, 0, 9, 1)).1 (ladF (121665 : F) 9 l (1, 0, 9, 1)).2.1 (cE.smul (numB l 0) bP) := by
  refine lad_rep (E := cE) b_on nine0 b_u b_y1 l 0 (1, 0, 9, 1) ?_ ?_
  · have i := cE.hinv _ cE.two
    generalize cE.inv 2 = t at i
    refine ⟨t, ?_, ?_, ?_⟩
    · rintro rfl
      apply cE.one
      grobner
    · show (1 : F) = t * (1 + 1)
      grobner
    · show (0 : F) = t * (1 - 1)
      grobner
  · have i := cE.hinv _ b_y1
    have e : cE.smul 1 bP = bP := cE.O_add bP
    have u := b_u
    show Rep (9 : F) 1 (cE.smul 1 bP)
    rw [e]
    unfold Rep
    generalize bP.2 = y at *
    generalize cE.inv (1 - y) = t at i
    refine ⟨t, ?_, ?_, ?_⟩
    · rintro rfl
      apply cE.one
      grobner
    · show (9 : F) = t * (1 + y)
      grobner
    · show (1 : F) = t * (1 - y)
      grobner
theorem elB' (l : List Bool) (hz : (ladF (121665 : F) 9 l (1, 0, 9, 1)).2.1 = 0) (hn : numB l 0 = el) : cE.smul el bP = O := by
  have r := lad_base l
  rw [hn, hz] at r
  obtain ⟨l, hl, _, hz⟩ := r
  have h1 : 1 - (cE.smul el bP).2 = 0 := (cE.nzd hz.symm).resolve_left hl
  have on := cE.smul_on b_on el
  generalize cE.smul el bP = Q at *
  have y1 : Q.2 = 1 := by grobner
  exact Prod.ext (one_y on (.inl y1)) y1
theorem elB : cE.smul el bP = O := elB' (bitsN el 253) ladZ (by rw [numB_bits]; decide +kernel)
/-- A multiple that is nothing is one of the order. -/
theorem ord {k : Nat} (h : cE.smul k bP = O) : k % el = 0 := by
  apply Classical.byContradiction
  intro hk
  have hf := gl.fermat hk
  have e1 : k * k ^ (el - 2) = el * (k * k ^ (el - 2) / el) + 1 := by
    have : k * k ^ (el - 2) % el = 1 := by rw [Nat.mul_comm, ← Nat.pow_succ]; exact hf
    have := Nat.div_add_mod (k * k ^ (el - 2)) el
    omega
  have e2 : cE.smul (k * k ^ (el - 2)) bP = O := by rw [← cE.smul_mul b_on, h, cE.smul_O]
  rw [e1, cE.smul_add b_on, ← cE.smul_mul b_on, elB, cE.smul_O, cE.O_add] at e2
  exact b_neO ((cE.O_add bP).symm.trans e2)
theorem neg_two {P : Pt pp} (h : cE.On P) (y : P.2 = -1) : cE.add P P = O := by
  have x := one_y h (.inr y)
  obtain ⟨a, b⟩ := P
  have x : a = 0 := x
  have y : b = -1 := y
  subst x y
  show ((0 * -1 + -1 * 0) * invP (1 + dP * 0 * 0 * -1 * -1), (-1 * -1 - 0 * 0) * invP (1 - dP * 0 * 0 * -1 * -1)) = ((0, 1) : Pt pp)
  decide +kernel
/-- A multiple that isn't one of the order stands at neither end. -/
theorem ends {k : Nat} (h : k % el ≠ 0) : 1 - (cE.smul k bP).2 ≠ 0 ∧ 1 + (cE.smul k bP).2 ≠ 0 := by
  have on := cE.smul_on b_on k
  constructor
  · intro e
    have y1 : (cE.smul k bP).2 = 1 := by grobner
    exact h (ord (Prod.ext (one_y on (.inl y1)) y1))
  · intro e
    have y1 : (cE.smul k bP).2 = -1 := by grobner
    have := neg_two on y1
    rw [← cE.smul_add b_on] at this
    have h2 := ord this
    have e2 : el ∣ 2 * k := Nat.dvd_of_mod_eq_zero (by rw [Nat.two_mul]; exact h2)
    rcases gl.pr.mul e2 with h3 | h3
    · exact absurd (Nat.le_of_dvd (by decide) h3) (by decide)
    · exact h (Nat.mod_eq_zero_of_dvd h3)
theorem mul_el {a b : Nat} (ha : a % el ≠ 0) (hb : b % el ≠ 0) : a * b % el ≠ 0 := fun h => by
  rcases gl.pr.mul (Nat.dvd_of_mod_eq_zero h) with q | q
  · exact ha (Nat.mod_eq_zero_of_dvd q)
  · exact hb (Nat.mod_eq_zero_of_dvd q)
/-- What the ladder tells of a scalar's bits and a coordinate. -/
def xlad (l : List Bool) (u : F) : F := (ladF 121665 u l (1, 0, u, 1)).1 * invP (ladF 121665 u l (1, 0, u, 1)).2.1
theorem xlad_base (l : List Bool) : xlad l 9 = cE.uOf (cE.smul (numB l 0) bP) := lad_u (E := cE) b_on nine0 b_u b_y1 l
theorem xlad_mul (l : List Bool) {m : Nat} (hm : m % el ≠ 0) : xlad l (cE.uOf (cE.smul m bP)) = cE.uOf (cE.smul (m * numB l 0) bP) := by
  obtain ⟨h1, h2⟩ := ends hm
  have i := cE.hinv _ h1
  have e : cE.uOf (cE.smul m bP) * (1 - (cE.smul m bP).2) = 1 + (cE.smul m bP).2 := by
    unfold Ed.uOf
    generalize cE.inv (1 - (cE.smul m bP).2) = t at i
    grobner
  have u0 : cE.uOf (cE.smul m bP) ≠ 0 := by
    intro h
    rw [h] at e
    apply h2
    grobner
  rw [← cE.smul_mul b_on]
  exact lad_u (E := cE) (cE.smul_on b_on m) u0 e h1 l
/-- The secret is the same from both sides, and isn't 0. -/
theorem xlad_comm (a b : List Bool) (ha : numB a 0 % el ≠ 0) (hb : numB b 0 % el ≠ 0) : xlad a (xlad b 9) = xlad b (xlad a 9) := by
  rw [xlad_base, xlad_base, xlad_mul a hb, xlad_mul b ha, Nat.mul_comm]
theorem xlad_ne0 (a b : List Bool) (ha : numB a 0 % el ≠ 0) (hb : numB b 0 % el ≠ 0) : xlad a (xlad b 9) ≠ 0 := by
  rw [xlad_base, xlad_mul a hb]
  obtain ⟨h1, h2⟩ := ends (mul_el hb ha)
  have i := cE.hinv _ h1
  unfold Ed.uOf
  intro h
  rcases cE.nzd h with q | q
  · exact h2 q
  · rw [q] at i
    have : (1 - (cE.smul (numB b 0 * numB a 0) bP).2) * 0 = 0 := by grobner
    rw [this] at i
    exact cE.one i.symm
/-- A clamped scalar isn't one of the order's multiples. -/
theorem clamped {m : Nat} (h1 : 2 ^ 251 ≤ m) (h2 : m < 2 ^ 252) : 8 * m % el ≠ 0 := fun h => by
  rcases gl.pr.mul (Nat.dvd_of_mod_eq_zero h) with q | q
  · exact absurd (Nat.le_of_dvd (by decide) q) (by decide)
  · have := Nat.le_of_dvd (by omega) q
    have : 7237005577332262213973186563042994240857116359379907606001950938285454250989 ≤ m := this
    omega
end Go.Curve
set_option linter.unusedVariables false
set_option maxRecDepth 100000
namespace Go.Curve
open Go.Pure
/-- A number's residue. -/
def ph (x : Nat) : F := Fin.ofNat pp x
theorem ph_val (x : Nat) : (ph x).val = x % pp := rfl
theorem ph_add (a b : Nat) : ph (a + b) = ph a + ph b := by
  apply Fin.ext
  rw [Fin.val_add]
  simp only [ph_val]
  rw [← Nat.add_mod]
theorem ph_mul (a b : Nat) : ph (a * b) = ph a * ph b := by
  apply Fin.ext
  rw [f_val]
  simp only [ph_val]
  rw [← Nat.mul_mod]
theorem ph_self (x : F) : ph x.val = x := by
  apply Fin.ext
  rw [ph_val, Nat.mod_eq_of_lt x.isLt]
theorem ph_19 : ph 19 = 19 := by decide +kernel
def t51 : F := ph 2251799813685248
theorem t51_5 : t51 * t51 * t51 * t51 * t51 = 19 := by decide +kernel
theorem ph_div (x : Nat) : ph x = ph (x % 2251799813685248) + t51 * ph (x / 2251799813685248) := by
  rw [t51, ← ph_mul, ← ph_add]
  congr 1
  omega
/-- Five limbs' residue. -/
def ev5 (a b c d e : Nat) : F := ph a + t51 * (ph b + t51 * (ph c + t51 * (ph d + t51 * ph e)))
theorem ev_car {a b c d e b' c' d' e' : Nat} (hb : b' = b + a / 2251799813685248) (hc : c' = c + b' / 2251799813685248) (hd : d' = d + c' / 2251799813685248) (he : e' = e + d' / 2251799813685248) :
    ev5 (a % 2251799813685248 + 19 * (e' / 2251799813685248)) (b' % 2251799813685248) (c' % 2251799813685248) (d' % 2251799813685248) (e' % 2251799813685248) = ev5 a b c d e := by
  have h0 := ph_div a
  have h1 := ph_div b'
  have h2 := ph_div c'
  have h3 := ph_div d'
  have h4 := ph_div e'
  have t := t51_5
  have g1 : ph b' = ph b + ph (a / 2251799813685248) := by rw [hb, ph_add]
  have g2 : ph c' = ph c + ph (b' / 2251799813685248) := by rw [hc, ph_add]
  have g3 : ph d' = ph d + ph (c' / 2251799813685248) := by rw [hd, ph_add]
  have g4 : ph e' = ph e + ph (d' / 2251799813685248) := by rw [he, ph_add]
  rw [g1] at h1
  rw [g2] at h2
  rw [g3] at h3
  rw [g4] at h4
  clear g1 g2 g3 g4
  simp only [ev5, ph_add, ph_mul, ph_19]
  generalize ph (a % 2251799813685248) = A at *
  generalize ph (a / 2251799813685248) = A' at *
  generalize ph (b' % 2251799813685248) = B at *
  generalize ph (b' / 2251799813685248) = B' at *
  generalize ph (c' % 2251799813685248) = C at *
  generalize ph (c' / 2251799813685248) = C' at *
  generalize ph (d' % 2251799813685248) = D at *
  generalize ph (d' / 2251799813685248) = D' at *
  generalize ph (e' % 2251799813685248) = X at *
  generalize ph (e' / 2251799813685248) = X' at *
  rw [h0]
  have q1 : ph b = B + t51 * B' - A' := by rw [← h1]; grobner
  have q2 : ph c = C + t51 * C' - B' := by rw [← h2]; grobner
  have q3 : ph d = D + t51 * D' - C' := by rw [← h3]; grobner
  have q4 : ph e = X + t51 * X' - D' := by rw [← h4]; grobner
  rw [q1, q2, q3, q4]
  clear h0 h1 h2 h3 h4 q1 q2 q3 q4 hb hc hd he
  generalize t51 = t at *
  grobner
theorem ev_add (a b c d e a' b' c' d' e' : Nat) : ev5 (a + a') (b + b') (c + c') (d + d') (e + e') = ev5 a b c d e + ev5 a' b' c' d' e' := by
  simp only [ev5, ph_add]
  generalize t51 = t
  grobner
theorem four_p : ev5 9007199254740916 9007199254740988 9007199254740988 9007199254740988 9007199254740988 = 0 := by decide +kernel
/-- A difference: four times p is added ahead. -/
theorem ev_sub {a b c d e a' b' c' d' e' : Nat} (ha : a' ≤ 9007199254740916) (hb : b' ≤ 9007199254740988) (hc : c' ≤ 9007199254740988) (hd : d' ≤ 9007199254740988) (he : e' ≤ 9007199254740988) :
    ev5 (a + (9007199254740916 - a')) (b + (9007199254740988 - b')) (c + (9007199254740988 - c')) (d + (9007199254740988 - d')) (e + (9007199254740988 - e')) = ev5 a b c d e - ev5 a' b' c' d' e' := by
  have h := ev_add (a + (9007199254740916 - a')) (b + (9007199254740988 - b')) (c + (9007199254740988 - c')) (d + (9007199254740988 - d')) (e + (9007199254740988 - e')) a' b' c' d' e'
  have e1 := ev_add a b c d e 9007199254740916 9007199254740988 9007199254740988 9007199254740988 9007199254740988
  rw [four_p] at e1
  rw [show a + (9007199254740916 - a') + a' = a + 9007199254740916 by omega, show b + (9007199254740988 - b') + b' = b + 9007199254740988 by omega, show c + (9007199254740988 - c') + c' = c + 9007199254740988 by omega,
    show d + (9007199254740988 - d') + d' = d + 9007199254740988 by omega, show e + (9007199254740988 - e') + e' = e + 9007199254740988 by omega, e1] at h
  grobner
/-- A product's limbs. -/
theorem ev_mul (a b c d e v w x y z : Nat) :
    ev5 (a*v + 19*(b*z) + 19*(c*y) + 19*(d*x) + 19*(e*w)) (a*w + b*v + 19*(c*z) + 19*(d*y) + 19*(e*x)) (a*x + b*w + c*v + 19*(d*z) + 19*(e*y)) (a*y + b*x + c*w + d*v + 19*(e*z)) (a*z + b*y + c*x + d*w + e*v) = ev5 a b c d e * ev5 v w x y z := by
  have t := t51_5
  simp only [ev5, ph_add, ph_mul, ph_19]
  generalize t51 = t at *
  generalize ph a = A
  generalize ph b = B
  generalize ph c = C
  generalize ph d = D
  generalize ph e = E
  generalize ph v = V
  generalize ph w = W
  generalize ph x = X
  generalize ph y = Y
  generalize ph z = Z
  grobner
/-- What is left over is carried into the second limb. -/
theorem ev_up (a b c d e : Nat) : ev5 (a % 2251799813685248) (b + a / 2251799813685248) c d e = ev5 a b c d e := by
  have h0 := ph_div a
  simp only [ev5, ph_add]
  rw [h0]
  generalize t51 = t at *
  grobner
/-- Limbs carried once. -/
theorem ev_car0 {a b c d e b' c' d' e' : Nat} (hb : b' = b + a / 2251799813685248) (hc : c' = c + b' / 2251799813685248) (hd : d' = d + c' / 2251799813685248) (he : e' = e + d' / 2251799813685248) :
    ev5 (19 * (e' / 2251799813685248) + a % 2251799813685248) (b' % 2251799813685248) (c' % 2251799813685248) (d' % 2251799813685248) (e' % 2251799813685248) = ev5 a b c d e := by
  rw [Nat.add_comm]
  exact ev_car hb hc hd he
/-- The number of five limbs. -/
def num5 (a b c d e : Nat) : Nat := a + 2251799813685248 * (b + 2251799813685248 * (c + 2251799813685248 * (d + 2251799813685248 * e)))
theorem ev_num (a b c d e : Nat) : ev5 a b c d e = ph (num5 a b c d e) := by
  simp only [num5, ph_add, ph_mul]
  rfl
theorem num_lt {a b c d e : Nat} (ha : a < 2251799813685248) (hb : b < 2251799813685248) (hc : c < 2251799813685248) (hd : d < 2251799813685248) (he : e < 2251799813685248) : num5 a b c d e < 57896044618658097711785492504343953926634992332820282019728792003956564819968 := by
  unfold num5
  omega
/-- The bytes of a residue, the least first. -/
def nb (x : F) : List Nat := le 32 x.val
theorem leval_take_mod {l : List Nat} (h : Bytes l) (n : Nat) : leval (l.take n) = leval l % 256 ^ n := by
  rcases Nat.lt_or_ge l.length n with q | q
  · rw [List.take_of_length_le (by omega), Nat.mod_eq_of_lt]
    exact Nat.lt_of_lt_of_le (leval_lt l h) (Nat.pow_le_pow_right (by decide) (by omega))
  · have e := leval_append (l.take n) (l.drop n)
    rw [List.take_append_drop, List.length_take, Nat.min_eq_left q] at e
    rw [e, Nat.add_mul_mod_self_left, Nat.mod_eq_of_lt]
    have := leval_lt (l.take n) (h.take n)
    rwa [List.length_take, Nat.min_eq_left q] at this
theorem leval_drop_div {l : List Nat} (h : Bytes l) {n : Nat} (q : n ≤ l.length) : leval (l.drop n) = leval l / 256 ^ n := by
  have e := leval_append (l.take n) (l.drop n)
  rw [List.take_append_drop, List.length_take, Nat.min_eq_left q] at e
  have lt := leval_lt (l.take n) (h.take n)
  rw [List.length_take, Nat.min_eq_left q] at lt
  rw [e, Nat.add_mul_div_left _ _ (Nat.lt_of_le_of_lt (Nat.zero_le _) lt), Nat.div_eq_of_lt lt, Nat.zero_add]
theorem le_mod : ∀ (n v : Nat), le n (v % 256 ^ n) = le n v
  | 0, _ => rfl
  | n + 1, v => by
    have e1 : v % 256 ^ (n + 1) % 256 = v % 256 := by rw [Nat.pow_succ, Nat.mul_comm, Nat.mod_mul_right_mod]
    have e2 : v % 256 ^ (n + 1) / 256 = v / 256 % 256 ^ n := by rw [Nat.pow_succ, Nat.mul_comm, Nat.mod_mul_right_div_self]
    rw [le, le, e1, e2, le_mod n]
theorem le_app : ∀ (n m v : Nat), le (n + m) v = le n v ++ le m (v / 256 ^ n)
  | 0, m, v => by rw [Nat.zero_add, Nat.pow_zero, Nat.div_one]; rfl
  | n + 1, m, v => by
    rw [show n + 1 + m = (n + m) + 1 by omega, le, le, le_app n m, List.cons_append, Nat.div_div_eq_div_mul, Nat.pow_succ, Nat.mul_comm 256]
theorem nb_inj {x y : F} (h : nb x = nb y) : x = y := by
  have e := congrArg leval h
  unfold nb at e
  rw [leval_le, leval_le] at e
  have l1 := x.isLt
  have l2 := y.isLt
  apply Fin.ext
  have p256 : pp ≤ 256 ^ 32 := by decide +kernel
  rw [Nat.mod_eq_of_lt (by omega), Nat.mod_eq_of_lt (by omega)] at e
  exact e
theorem nb_len (x : F) : (nb x).length = 32 := le_len 32 _
theorem nb_bytes (x : F) : Bytes (nb x) := le_bytes 32 _
theorem leval_nb (x : F) : leval (nb x) = x.val := by
  have p256 : pp ≤ 256 ^ 32 := by decide +kernel
  have := x.isLt
  unfold nb
  rw [leval_le, Nat.mod_eq_of_lt (by omega)]
theorem chain5 {a b c d e b' c' d' e' : Nat} (g1 : b' = b + a / 2251799813685248) (g2 : c' = c + b' / 2251799813685248) (g3 : d' = d + c' / 2251799813685248) (g4 : e' = e + d' / 2251799813685248) :
    num5 (a % 2251799813685248) (b' % 2251799813685248) (c' % 2251799813685248) (d' % 2251799813685248) (e' % 2251799813685248) + 57896044618658097711785492504343953926634992332820282019728792003956564819968 * (e' / 2251799813685248) = num5 a b c d e := by
  have h0 := Nat.mod_add_div a 2251799813685248
  have h1 := Nat.mod_add_div b' 2251799813685248
  have h2 := Nat.mod_add_div c' 2251799813685248
  have h3 := Nat.mod_add_div d' 2251799813685248
  have h4 := Nat.mod_add_div e' 2251799813685248
  unfold num5
  generalize a % 2251799813685248 = ra at *
  generalize a / 2251799813685248 = qa at *
  generalize b' % 2251799813685248 = rb at *
  generalize b' / 2251799813685248 = qb at *
  generalize c' % 2251799813685248 = rc at *
  generalize c' / 2251799813685248 = qc at *
  generalize d' % 2251799813685248 = rd at *
  generalize d' / 2251799813685248 = qd at *
  generalize e' % 2251799813685248 = re at *
  generalize e' / 2251799813685248 = qe at *
  omega
/-- All limbs below 2^51: the number below 2^255, by the prime. -/
theorem reduce5 {a b c d e q1 q2 q3 q4 q5 b' c' d' e' : Nat} (ha : a < 2251799813685248) (hb : b < 2251799813685248) (hc : c < 2251799813685248) (hd : d < 2251799813685248) (he : e < 2251799813685248)
    (h1 : q1 = (a + 19) / 2251799813685248) (h2 : q2 = (b + q1) / 2251799813685248) (h3 : q3 = (c + q2) / 2251799813685248) (h4 : q4 = (d + q3) / 2251799813685248) (h5 : q5 = (e + q4) / 2251799813685248)
    (g1 : b' = b + (a + 19 * q5) / 2251799813685248) (g2 : c' = c + b' / 2251799813685248) (g3 : d' = d + c' / 2251799813685248) (g4 : e' = e + d' / 2251799813685248) :
    num5 ((a + 19 * q5) % 2251799813685248) (b' % 2251799813685248) (c' % 2251799813685248) (d' % 2251799813685248) (e' % 2251799813685248) = num5 a b c d e % pp := by
  have hq : q5 = 0 ∨ q5 = 1 := by omega
  have C1 := chain5 (a := a + 19) (b := b) (c := c) (d := d) (e := e) (b' := b + q1) (c' := c + q2) (d' := d + q3) (e' := e + q4) (by rw [h1]) (by rw [h2]) (by rw [h3]) (by rw [h4])
  have C2 := chain5 g1 g2 g3 g4
  have L1 := num_lt (Nat.mod_lt (a + 19) (show 0 < 2251799813685248 by decide)) (Nat.mod_lt (b + q1) (show 0 < 2251799813685248 by decide)) (Nat.mod_lt (c + q2) (show 0 < 2251799813685248 by decide)) (Nat.mod_lt (d + q3) (show 0 < 2251799813685248 by decide)) (Nat.mod_lt (e + q4) (show 0 < 2251799813685248 by decide))
  have L2 := num_lt (Nat.mod_lt (a + 19 * q5) (show 0 < 2251799813685248 by decide)) (Nat.mod_lt b' (show 0 < 2251799813685248 by decide)) (Nat.mod_lt c' (show 0 < 2251799813685248 by decide)) (Nat.mod_lt d' (show 0 < 2251799813685248 by decide)) (Nat.mod_lt e' (show 0 < 2251799813685248 by decide))
  have L3 := num_lt ha hb hc hd he
  rw [← h5] at C1
  have e1 : num5 (a + 19) b c d e = num5 a b c d e + 19 := by unfold num5; omega
  have e2 : num5 (a + 19 * q5) b c d e = num5 a b c d e + 19 * q5 := by unfold num5; omega
  rw [e1] at C1
  rw [e2] at C2
  clear e1 e2 g1 g2 g3 g4 h1 h2 h3 h4 h5 ha hb hc hd he
  generalize num5 ((a + 19) % 2251799813685248) ((b + q1) % 2251799813685248) ((c + q2) % 2251799813685248) ((d + q3) % 2251799813685248) ((e + q4) % 2251799813685248) = R at *
  generalize num5 ((a + 19 * q5) % 2251799813685248) (b' % 2251799813685248) (c' % 2251799813685248) (d' % 2251799813685248) (e' % 2251799813685248) = M at *
  generalize num5 a b c d e = N at *
  generalize e' / 2251799813685248 = t at *
  show M = N % 57896044618658097711785492504343953926634992332820282019728792003956564819949
  rcases hq with rfl | rfl
  · rw [Nat.mod_eq_of_lt (by omega)]
    omega
  · rw [Nat.mod_eq_sub_mod (by omega), Nat.mod_eq_of_lt (by omega)]
    omega
end Go.Curve
set_option linter.unusedSimpArgs false
set_option linter.unusedVariables false
set_option maxRecDepth 100000
set_option maxHeartbeats 2000000
namespace Go.Proofs.Ytoikhbagchfeoaa
open Go Go.SL Go.Pure
theorem ext_upd {h H : Hp} {r : Nat} {o : AObj} (x : Hp.ext h H) (n : h r = none) : Hp.ext h (H.set r o) := fun b o' e => by
  have hb : b ≠ r := by rintro rfl; rw [n] at e; cases e
  rw [Hp.set_ne _ _ hb]; exact x b o' e
theorem fe0 {h : Hp} {K : Value → Prop} (b : Nat) : q P h (Instr.fieldAt t_field_Elem (.pointer (some ⟨b, 0, none⟩)) 0) K = K (.pointer (some ⟨b, 0, none⟩)) := q_of (by kernel_rfl) K
theorem zr_elem : zr P t_field_Elem = some (.agg (nv .u64 [0, 0, 0, 0, 0]).toArray) := by kernel_rfl
theorem sz_elem : sz P t_field_Elem = some 5 := by kernel_rfl
theorem and51 {a : Nat} (ha : a < 18446744073709551616) : iand .u64 (a : Int) 2251799813685247 = ((a % 2251799813685248 : Nat) : Int) := by
  rw [and64 (by omega) (by omega) (by omega) (by omega), Int.toNat_natCast]
  have := Nat.and_two_pow_sub_one_eq_mod a 51
  simp only [Nat.reducePow, Nat.add_one_sub_one, Nat.reduceSub] at this
  show ((a &&& 2251799813685247 : Nat) : Int) = _
  rw [this]
theorem shr51 (a : Nat) : ((a : Int).fdiv (2 ^ min ((51 : Int)).toNat IntKind.u64.bits)) = ((a / 2251799813685248 : Nat) : Int) := shr64 a 51 (by omega)
/-- Carried on, limb by limb. -/
def carN (S : List Nat) : Nat → List Nat × Nat
  | 0 => (S, 0)
  | i + 1 => ((carN S i).1.set i ((((carN S i).1.getD i 0 + (carN S i).2) % 18446744073709551616) % 2251799813685248), (((carN S i).1.getD i 0 + (carN S i).2) % 18446744073709551616) / 2251799813685248)
theorem carN_len (S : List Nat) : ∀ i, (carN S i).1.length = S.length
  | 0 => rfl
  | i + 1 => by rw [carN, List.length_set, carN_len S i]
def carL (S : List Nat) : List Nat := (carN S 5).1.set 0 (((carN S 5).1.getD 0 0 + 19 * (carN S 5).2 % 18446744073709551616) % 18446744073709551616)
theorem carL_len (S : List Nat) : (carL S).length = S.length := by rw [carL, List.length_set, carN_len]
section
variable {h : Hp} {K : Value → Hp → Prop}
/-- An element is handed back. -/
theorem ret_elem {H : Hp} {r1 r2 e1 e2 : Nat} {S Z : List Nat} {f1 : Option (Nat × Nat)} {F : Value → Hp → Prop} (h1 : H r1 = some (.row e1 (nv .u64 S) 5 f1)) (h2 : H r2 = some (.row e2 (nv .u64 Z) 5 (some (0, 0)))) (lS : S.length = 5) (lZ : Z.length = 5)
    (k : F (.agg (nv .u64 S).toArray) (H.set r2 (.row e2 (nv .u64 S) 5 (some (0, 0))))) :
    q P H (Instr.loadAt t_field_Elem (.pointer (some ⟨r1, 0, none⟩))) fun t37 => aw P (Instr.storeAt t_field_Elem (.pointer (some ⟨r2, 0, none⟩)) t37) (fun _ h => q P h ((asAddr (.pointer (some ⟨r2, 0, none⟩))).bind (loadVar t_field_Elem)) fun r0 => F r0 h) H := by
  have l5 : sz P t_field_Elem = some (nv .u64 S).length := by rw [nv_len, lS]; exact sz_elem
  rw [q_ldRow u_field_Elem rfl l5 h1]
  refine aw_storeRow l5 h2 (by rw [nv_len, nv_len, lS, lZ]) (nv_flat _ _) (fun i _ => by simp) ?_
  rw [q_resRow u_field_Elem rfl l5 (Hp.set_same ..)]
  exact k
/-- An outcome is handed back. -/
theorem ret_val {H : Hp} {r2 e2 : Nat} {S Z : List Nat} {F : Value → Hp → Prop} (h2 : H r2 = some (.row e2 (nv .u64 Z) 5 (some (0, 0)))) (lS : S.length = 5) (lZ : Z.length = 5)
    (k : F (.agg (nv .u64 S).toArray) (H.set r2 (.row e2 (nv .u64 S) 5 (some (0, 0))))) :
    aw P (Instr.storeAt t_field_Elem (.pointer (some ⟨r2, 0, none⟩)) (.agg (nv .u64 S).toArray)) (fun _ h => q P h ((asAddr (.pointer (some ⟨r2, 0, none⟩))).bind (loadVar t_field_Elem)) fun r0 => F r0 h) H := by
  have l5 : sz P t_field_Elem = some (nv .u64 S).length := by rw [nv_len, lS]; exact sz_elem
  refine aw_storeRow l5 h2 (by rw [nv_len, nv_len, lS, lZ]) (nv_flat _ _) (fun i _ => by simp) ?_
  rw [q_resRow u_field_Elem rfl l5 (Hp.set_same ..)]
  exact k
theorem aw_boxE {H : Hp} {S : List Nat} {F : Value → Hp → Prop} (lS : S.length = 5) (x : Hp.ext h H) (k : ∀ r H', h r = none → H r = none → Hp.ext h H' → Hp.ext H H' → H' r = some (.row t_field_Elem (nv .u64 S) 5 (some (0, 0))) → (∀ b, b ≠ r → H' b = H b) → F (.pointer (some ⟨r, 0, none⟩)) H') :
    aw P (Instr.box t_field_Elem (.agg (nv .u64 S).toArray)) F H := by
  refine aw_box fun r hr => ?_
  have e1 : (Value.agg (nv .u64 S).toArray).cells.toList = nv .u64 S := rfl
  have e2 : (Value.agg (nv .u64 S).toArray).cells.size = 5 := by show (nv .u64 S).toArray.size = 5; simp [nv_len, lS]
  rw [e1, e2]
  exact k r _ (x.none hr) hr (x.trans (ext_set _ hr)) (ext_set _ hr) (Hp.set_same ..) fun b hb => Hp.set_ne _ _ hb
theorem aw_allocE {H : Hp} {F : Value → Hp → Prop} (x : Hp.ext h H) (k : ∀ r H', h r = none → H r = none → Hp.ext h H' → Hp.ext H H' → H' r = some (.row t_field_Elem (nv .u64 [0, 0, 0, 0, 0]) 5 (some (0, 0))) → (∀ b, b ≠ r → H' b = H b) → F (.pointer (some ⟨r, 0, none⟩)) H') :
    aw P (Instr.alloc t_field_Elem true (.tuple #[])) F H := by
  refine aw_allocL (nv .u64 [0, 0, 0, 0, 0]) zr_elem rfl fun r hr => ?_
  exact k r _ (x.none hr) hr (x.trans (ext_set _ hr)) (ext_set _ hr) (Hp.set_same ..) fun b hb => Hp.set_ne _ _ hb
theorem getD_set {S : List Nat} {i x : Nat} (hi : i < S.length) : (S.set i x).getD i 0 = x := by
  rw [List.getD_eq_getElem?_getD, List.getElem?_set_self hi]; rfl
theorem T_carried (a : List Nat) (la : a.length = 5) (k : K (.agg (nv .u64 (carL a)).toArray) h) : Cn P n_field_Elem_carried #[.agg (nv .u64 a).toArray] h K := by
  refine Cn_wk (F_field_Elem_carried ?_)
  unfold s_field_Elem_carried
  refine aw_boxE la (.refl h) fun r1 H1 n1 m1 x1 y1 e1 f1 => ?_
  refine aw_allocE x1 fun r2 H2 n2 m2 x2 y2 e2 f2 => ?_
  have ne : r1 ≠ r2 := by rintro rfl; rw [e1] at m2; cases m2
  have e1' := y2 _ _ e1
  clear m1 m2 f1 f2 y1 y2 e1
  refine Lp_mk (fun m vs H => ∃ i : Nat, i + m = 5 ∧ Hp.ext h H ∧ H r1 = some (.row t_field_Elem (nv .u64 (carN a i).1) 5 (some (0, 0))) ∧ H r2 = some (.row t_field_Elem (nv .u64 [0, 0, 0, 0, 0]) 5 (some (0, 0))) ∧ vs = [.int .u64 (((carN a i).2 : Nat) : Int), .int .i64 (i : Int)]) 5
    ⟨0, rfl, x2, e1', e2, rfl⟩ ?_
  clear e1' e2 x2 x1
  rintro m vs H ⟨i, hi, x, e1, e2, rfl⟩
  have lS : (carN a i).1.length = 5 := by rw [carN_len, la]
  simp (disch := omega) only [GL, RL, lt_dec5]
  by_cases hlt : i < 5
  · have c1 := cellN (i := i) e1 (by omega)
    simp (disch := omega) only [GL, RL, fe0, hlt, decide_true, if_true, c1, add64]
    refine storeN z_uint64 e1 (by omega) (by simp) ?_
    generalize hX : ((carN a i).1.getD i 0 + (carN a i).2) % 18446744073709551616 = X
    have hXl : X < 18446744073709551616 := by rw [← hX]; exact Nat.mod_lt _ (by decide)
    have e1b : (H.set r1 (.row t_field_Elem (nv .u64 ((carN a i).1.set i X)) 5 (some (0, 0)))) r1 = _ := Hp.set_same ..
    have c2 := cellN (i := i) e1b (by rw [List.length_set]; omega)
    rw [getD_set (by omega)] at c2
    have ei : IntKind.i64.wrap ((i : Int) + 1) = ((i + 1 : Nat) : Int) := by rw [wi64 (by omega) (by omega)]; omega
    simp (disch := omega) only [GL, RL, fe0, c2, shr51, and51 hXl, ei]
    refine storeN z_uint64 e1b (by rw [List.length_set]; omega) (by simp) ?_
    rw [Hp.set_set, List.set_set]
    refine ⟨_, .refl _, m - 1, by omega, i + 1, by omega, ext_upd x n1, ?_, ?_, ?_⟩
    · rw [Hp.set_same, carN, hX]
    · rw [Hp.set_ne _ _ (Ne.symm ne)]; exact e2
    · rw [carN, hX]
  · obtain rfl : i = 5 := by omega
    have c1 := cellN (i := 0) e1 (by omega)
    have i0 : ((0 : Int)).toNat = 0 := rfl
    simp (disch := omega) only [GL, RL, fe0, decide_false, Bool.false_eq_true, if_false, i0, Nat.add_zero, hlt, c1]
    have m19 : IntKind.u64.wrap (19 * (((carN a 5).2 : Nat) : Int)) = ((19 * (carN a 5).2 % 18446744073709551616 : Nat) : Int) := by
      have := mul64 19 (carN a 5).2
      exact this
    rw [m19, add64]
    refine storeN z_uint64 e1 (by omega) (by simp) ?_
    refine ret_elem (Hp.set_same ..) (by rw [Hp.set_ne _ _ (Ne.symm ne)]; exact e2) (by rw [List.length_set]; omega) rfl ?_
    exact ⟨h, (ext_upd (ext_upd x n1) n2).le, k⟩
theorem T_fadd (a b : List Nat) (la : a.length = 5) (lb : b.length = 5) (k : K (.agg (nv .u64 (carL (addL a b))).toArray) h) : Cn P n_field_Elem_Add #[.agg (nv .u64 a).toArray, .agg (nv .u64 b).toArray] h K := by
  refine Cn_wk (F_field_Elem_Add ?_)
  unfold s_field_Elem_Add
  refine aw_boxE la (.refl h) fun r1 H1 n1 m1 x1 y1 e1 f1 => ?_
  refine aw_boxE lb x1 fun r2 H2 n2 m2 x2 y2 e2 f2 => ?_
  refine aw_allocE x2 fun r3 H3 n3 m3 x3 y3 e3 f3 => ?_
  have e1' := y2 _ _ e1
  have ne12 : r1 ≠ r2 := by rintro rfl; rw [e1] at m2; cases m2
  have ne13 : r1 ≠ r3 := by rintro rfl; rw [e1'] at m3; cases m3
  have e1'' := y3 _ _ e1'
  have e2' := y3 _ _ e2
  clear m1 m2 m3 f1 f2 f3 y1 y2 y3 e1 e1' e2
  refine Lp_mk (fun m vs H => ∃ i : Nat, i + m = 5 ∧ Hp.ext h H ∧ H r1 = some (.row t_field_Elem (nv .u64 (addN a b i)) 5 (some (0, 0))) ∧ H r2 = some (.row t_field_Elem (nv .u64 b) 5 (some (0, 0))) ∧ H r3 = some (.row t_field_Elem (nv .u64 [0, 0, 0, 0, 0]) 5 (some (0, 0))) ∧ vs = [.int .i64 (i : Int)]) 5
    ⟨0, rfl, x3, e1'', e2', e3, rfl⟩ ?_
  clear e1'' e2' e3 x3 x2 x1
  rintro m vs H ⟨i, hi, x, e1, e2, e3, rfl⟩
  have lS : (addN a b i).length = 5 := by rw [addN_len, la]
  simp (disch := omega) only [GL, RL, lt_dec5]
  by_cases hlt : i < 5
  · have c1 := cellN (i := i) e1 (by omega)
    have c2 := cellN (i := i) e2 (by omega)
    simp (disch := omega) only [GL, RL, fe0, hlt, decide_true, if_true, c1, c2, add64]
    refine storeN z_uint64 e1 (by omega) (by simp) ?_
    have ei : IntKind.i64.wrap ((i : Int) + 1) = ((i + 1 : Nat) : Int) := by rw [wi64 (by omega) (by omega)]; omega
    rw [ei]
    refine ⟨_, .refl _, m - 1, by omega, i + 1, by omega, ext_upd x n1, ?_, ?_, ?_, rfl⟩
    · rw [Hp.set_same, addN]
    · rw [Hp.set_ne _ _ (Ne.symm ne12)]; exact e2
    · rw [Hp.set_ne _ _ (Ne.symm ne13)]; exact e3
  · obtain rfl : i = 5 := by omega
    simp only [hlt, decide_false, Bool.false_eq_true, if_false]
    rw [q_ldRow u_field_Elem rfl (by rw [nv_len, lS]; exact sz_elem) e1]
    refine T_carried _ lS ?_
    refine ret_val e3 (by rw [carL_len]; exact lS) rfl ?_
    exact ⟨h, (ext_upd x n3).le, k⟩
/-- Of the twofold prime, a limb. -/
def tw (i : Nat) : Nat := if i = 0 then 9007199254740916 else 9007199254740988
def subN (S M : List Nat) : Nat → List Nat
  | 0 => S
  | i + 1 => (subN S M i).set i (((subN S M i).getD i 0 + (tw i - M.getD i 0)) % 18446744073709551616)
theorem subN_len (S M : List Nat) : ∀ i, (subN S M i).length = S.length
  | 0 => rfl
  | i + 1 => by rw [subN, List.length_set, subN_len S M i]
theorem T_fsub (a b : List Nat) (la : a.length = 5) (lb : b.length = 5) (hb : ∀ i, i < 5 → (carL (carL b)).getD i 0 ≤ tw i) (k : K (.agg (nv .u64 (carL (subN a (carL (carL b)) 5))).toArray) h) : Cn P n_field_Elem_Sub #[.agg (nv .u64 a).toArray, .agg (nv .u64 b).toArray] h K := by
  refine Cn_wk (F_field_Elem_Sub ?_)
  unfold s_field_Elem_Sub
  refine aw_boxE la (.refl h) fun r1 H1 n1 m1 x1 y1 e1 f1 => ?_
  refine aw_boxE lb x1 fun r2 H2 n2 m2 x2 y2 e2 f2 => ?_
  refine aw_allocE x2 fun r3 H3 n3 m3 x3 y3 e3 f3 => ?_
  have e1' := y2 _ _ e1
  have ne12 : r1 ≠ r2 := by rintro rfl; rw [e1] at m2; cases m2
  have ne13 : r1 ≠ r3 := by rintro rfl; rw [e1'] at m3; cases m3
  have ne23 : r2 ≠ r3 := by rintro rfl; rw [e2] at m3; cases m3
  have e1'' := y3 _ _ e1'
  have e2' := y3 _ _ e2
  clear m1 m2 m3 f1 f2 f3 y1 y2 y3 e1 e1' e2
  rw [q_ldRow u_field_Elem rfl (by rw [nv_len, lb]; exact sz_elem) e2']
  refine T_carried _ lb ?_
  refine T_carried _ (by rw [carL_len, lb]) ?_
  have lc : (carL (carL b)).length = 5 := by rw [carL_len, carL_len, lb]
  generalize carL (carL b) = c at hb k lc
  refine aw_storeRow (by rw [nv_len, lc]; exact sz_elem) e2' (by rw [nv_len, nv_len, lb, lc]) (nv_flat _ _) (fun i _ => by simp) ?_
  refine Lp_mk (fun m vs H => ∃ i : Nat, i + m = 5 ∧ Hp.ext h H ∧ H r1 = some (.row t_field_Elem (nv .u64 (subN a c i)) 5 (some (0, 0))) ∧ H r2 = some (.row t_field_Elem (nv .u64 c) 5 (some (0, 0))) ∧ H r3 = some (.row t_field_Elem (nv .u64 [0, 0, 0, 0, 0]) 5 (some (0, 0))) ∧ vs = [.int .i64 (i : Int)]) 5
    ⟨0, rfl, ext_upd x3 n2, by rw [Hp.set_ne _ _ ne12]; exact e1'', Hp.set_same .., by rw [Hp.set_ne _ _ (Ne.symm ne23)]; exact e3, rfl⟩ ?_
  clear e1'' e2' e3 x3 x2 x1
  rintro m vs H ⟨i, hi, x, e1, e2, e3, rfl⟩
  have lS : (subN a c i).length = 5 := by rw [subN_len, la]
  simp (disch := omega) only [GL, RL, lt_dec5]
  by_cases hlt : i < 5
  · have c1 := cellN (i := i) e1 (by omega)
    have c2 := cellN (i := i) e2 (by omega)
    have hbi := hb i hlt
    have ei : IntKind.i64.wrap ((i : Int) + 1) = ((i + 1 : Nat) : Int) := by rw [wi64 (by omega) (by omega)]; omega
    have fin : aw P (Instr.storeAt t_uint64 (.pointer (some ⟨r1, i, none⟩)) (.int .u64 ((((subN a c i).getD i 0 + (tw i - c.getD i 0)) % 18446744073709551616 : Nat) : Int)))
        (fun _ h2 => ∃ h0, Hp.le h0 h2 ∧ ∃ m1, m1 < m ∧ ∃ i1 : Nat, i1 + m1 = 5 ∧ Hp.ext h h0 ∧ h0 r1 = some (.row t_field_Elem (nv .u64 (subN a c i1)) 5 (some (0, 0))) ∧ h0 r2 = some (.row t_field_Elem (nv .u64 c) 5 (some (0, 0))) ∧ h0 r3 = some (.row t_field_Elem (nv .u64 [0, 0, 0, 0, 0]) 5 (some (0, 0))) ∧ [Value.int .i64 ((i + 1 : Nat) : Int)] = [.int .i64 (i1 : Int)]) H := by
      refine storeN z_uint64 e1 (by omega) (by simp) ?_
      refine ⟨_, .refl _, m - 1, by omega, i + 1, by omega, ext_upd x n1, ?_, ?_, ?_, rfl⟩
      · rw [Hp.set_same, subN]
      · rw [Hp.set_ne _ _ (Ne.symm ne12)]; exact e2
      · rw [Hp.set_ne _ _ (Ne.symm ne13)]; exact e3
    have sb : ∀ (t : Int) (T : Nat), IntKind.u64.wrap (2 * t) = (T : Int) → tw i = T → T < 18446744073709551616 → IntKind.u64.wrap (((subN a c i).getD i 0 : Nat) + IntKind.u64.wrap (IntKind.u64.wrap (2 * t) - ((c.getD i 0 : Nat) : Int))) = ((((subN a c i).getD i 0 + (tw i - c.getD i 0)) % 18446744073709551616 : Nat) : Int) := by
      intro t T h1 h2 h3
      have hT : c.getD i 0 ≤ T := by omega
      have e2 : (T : Int) - ((c.getD i 0 : Nat) : Int) = ((T - c.getD i 0 : Nat) : Int) := by omega
      have e3 : IntKind.u64.wrap ((T - c.getD i 0 : Nat) : Int) = ((T - c.getD i 0 : Nat) : Int) := wu64i (by omega) (by omega)
      rw [h1, e2, e3, add64, h2]
    by_cases h0 : i = 0
    · subst h0
      have b0 : (((0 : Nat) : Int) == 0) = true := rfl
      simp (disch := omega) only [GL, RL, fe0, hlt, decide_true, if_true, c1, c2, b0, ei]
      rw [sb 4503599627370458 9007199254740916 (by decide +kernel) rfl (by decide)]
      exact fin
    · have b0 : (((i : Nat) : Int) == 0) = false := by rw [beq_eq_false_iff_ne]; omega
      simp (disch := omega) only [GL, RL, fe0, hlt, decide_true, if_true, c1, c2, b0, Bool.false_eq_true, if_false, ei]
      rw [sb 4503599627370494 9007199254740988 (by decide +kernel) (by rw [tw, if_neg h0]) (by decide)]
      exact fin
  · obtain rfl : i = 5 := by omega
    simp only [hlt, decide_false, Bool.false_eq_true, if_false]
    rw [q_ldRow u_field_Elem rfl (by rw [nv_len, lS]; exact sz_elem) e1]
    refine T_carried _ lS ?_
    refine ret_val e3 (by rw [carL_len]; exact lS) rfl ?_
    exact ⟨h, (ext_upd x n3).le, k⟩
end
end Go.Proofs.Ytoikhbagchfeoaa
set_option linter.unusedSimpArgs false
set_option linter.unusedVariables false
namespace Go.SL
open Go
section
variable {P : Program} {h : Hp}
/-- A part of a row is overwritten. -/
theorem aw_storePart {t : Nat} {b o : Nat} {e : TypeId} {xs : List Value} {cap : Nat} {f : Nat × Nat} {ys : List Value} {K : Unit → Hp → Prop} (hs : sz P t = some ys.length) (hb : h b = some (.row e xs cap (some f))) (hl : o + ys.length ≤ xs.length) (hfl : ∀ y ∈ ys, flat y = true)
    (hf : ∀ i, i < xs.length → ¬ (f.1 ≤ i ∧ i < f.2)) (k : K () (h.set b (.row e (putL xs o ys) cap (some f)))) : aw P (Instr.storeAt t (.pointer (some ⟨b, o, none⟩)) (.agg ys.toArray)) K h := by
  refine aw_of ?_
  show awp P (Sem.bind (sizeOf t) _) K h
  rw [awp_bind, peek_awp P _ _ _ (pk_size hs)]
  show awp P (if (Value.agg ys.toArray).cells.size ≠ ys.length then _ else _) K h
  rw [if_neg (by simp [Value.cells])]
  show awp P (storeCells ⟨b, o, none⟩ ys.toArray.toList 0) K h
  exact awp_putCells ys xs h K o 0 hb hfl (by omega) hf k
/-- A part of a row is read. -/
theorem q_ldPart {t : Nat} {d : TypeDesc} {K : Value → Prop} {b o : Nat} {e : TypeId} {xs ys : List Value} {cap : Nat} {fz : Option (Nat × Nat)} (ht : P.underlying t = some d) (hd : aggB d = true) (hs : sz P t = some ys.length)
    (hb : h b = some (.row e xs cap fz)) (hy : ∀ (j : Nat) (x : Value), ys[j]? = some x → xs[o + j]? = some x) : q P h (Instr.loadAt t (.pointer (some ⟨b, o, none⟩))) K = K (.agg ys.toArray) :=
  q_ldAgg ht hd hs fun j x e => by rw [cell_row hb]; exact hy j x e
/-- A part up to a place, with no more room behind. -/
theorem pk_boundsHM (n c : Nat) (k' k2 : IntKind) (hi mx : Nat) (h2 : hi ≤ mx) (h3 : mx ≤ c) : peek P h (Instr.sliceBounds true n c none (some (.int k' hi)) (some (.int k2 mx))) = some (0, hi, mx) := by
  have e0 : peek P h (Instr.sliceBound (.int k2 (mx : Int)) c .slice3Acap) = some mx := pk_bound k2 mx c h3 _
  have e1 : peek P h (Instr.sliceBound (.int k' (hi : Int)) mx .slice3B) = some hi := pk_bound k' hi mx h2 _
  unfold Instr.sliceBounds
  simp only [if_true, Option.isSome_some, pk_bind e0, pk_bind e1]
  rfl
theorem q_slHM {t e s : Nat} {K : Value → Prop} (ht : P.underlying t = some (.slice e)) (hs : sz P e = some s) (a : Option Addr) (n c : Nat) (k' k2 : IntKind) (hi mx : Nat) (h2 : hi ≤ mx) (h3 : mx ≤ c) :
    q P h (Instr.sliceAt t (.slice a n c) none (some (.int k' hi)) (some (.int k2 mx))) K = K (.slice (cut a mx 0 s) hi mx) := q_of (by
  show peek P h (Sem.bind (underlying t) _) = _
  rw [peek_bind, pk_und ht, Option.bind_some]
  show peek P h (Sem.bind (underlying t) _) = _
  rw [peek_bind, pk_und ht, Option.bind_some]
  show peek P h (Sem.bind (Instr.sliceBounds true n c _ _ _) _) = _
  rw [peek_bind, pk_boundsHM n c k' k2 hi mx h2 h3, Option.bind_some]
  show peek P h (Sem.bind (sizeOf e) _) = _
  rw [peek_bind, pk_size hs]
  rfl) K
/-- A call of a function with a body, by its value. -/
theorem callP_cn {g : FuncId} {x y : Array Value} {args : List Value} {K : Value → Hp → Prop} (e : extB P g = false) (c : Cn P g (x.toList ++ args ++ y.toList).toArray h K) : callP P (.func (.func g) x y) args h K := by
  show (if extB P g = true then _ else _)
  rw [if_neg (by rw [e]; decide)]
  exact c
end
end Go.SL
set_option linter.unusedSimpArgs false
set_option linter.unusedVariables false
set_option maxRecDepth 100000
set_option maxHeartbeats 2000000
namespace Go.Proofs.Ytoikhbagchfeoaa
open Go Go.SL Go.Pure
theorem and32m {a : Nat} (ha : a < 18446744073709551616) : iand .u64 (a : Int) 4294967295 = ((a % 4294967296 : Nat) : Int) := by
  rw [and64 (by omega) (by omega) (by omega) (by omega), Int.toNat_natCast]
  have := Nat.and_two_pow_sub_one_eq_mod a 32
  simp only [Nat.reducePow, Nat.add_one_sub_one, Nat.reduceSub] at this
  show ((a &&& 4294967295 : Nat) : Int) = _
  rw [this]
theorem shr32 (a : Nat) : ((a : Int).fdiv (2 ^ min ((32 : Int)).toNat IntKind.u64.bits)) = ((a / 4294967296 : Nat) : Int) := shr64 a 32 (by omega)
/-- A product's halves, by those of its factors. -/
theorem mul_parts (x y : Nat) (hx : x < 18446744073709551616) (hy : y < 18446744073709551616) :
    x * y = (x / 4294967296 * (y / 4294967296)) * 18446744073709551616 + (x / 4294967296 * (y % 4294967296) + x % 4294967296 * (y / 4294967296)) * 4294967296 + x % 4294967296 * (y % 4294967296) ∧
      x / 4294967296 * (y / 4294967296) ≤ 18446744065119617025 ∧ x / 4294967296 * (y % 4294967296) ≤ 18446744065119617025 ∧ x % 4294967296 * (y / 4294967296) ≤ 18446744065119617025 ∧ x % 4294967296 * (y % 4294967296) ≤ 18446744065119617025 := by
  have b1 : x / 4294967296 ≤ 4294967295 := by omega
  have b2 : x % 4294967296 ≤ 4294967295 := by omega
  have b3 : y / 4294967296 ≤ 4294967295 := by omega
  have b4 : y % 4294967296 ≤ 4294967295 := by omega
  have e1 : x = x / 4294967296 * 4294967296 + x % 4294967296 := by omega
  have e2 : y = y / 4294967296 * 4294967296 + y % 4294967296 := by omega
  refine ⟨?_, Nat.mul_le_mul b1 b3, Nat.mul_le_mul b1 b4, Nat.mul_le_mul b2 b3, Nat.mul_le_mul b2 b4⟩
  generalize x / 4294967296 = x1 at *
  generalize x % 4294967296 = x0 at *
  generalize y / 4294967296 = y1 at *
  generalize y % 4294967296 = y0 at *
  subst e1 e2
  grind
section
variable {h : Hp} {K : Value → Hp → Prop}
theorem T_Mul64 (x y : Nat) (hx : x < 18446744073709551616) (hy : y < 18446744073709551616) (k : K (.tuple #[.int .u64 ((x * y / 18446744073709551616 : Nat) : Int), .int .u64 ((x * y % 18446744073709551616 : Nat) : Int)]) h) :
    Cn P n_bits_Mul64 #[.int .u64 (x : Int), .int .u64 (y : Int)] h K := by
  refine F_bits_Mul64 ?_
  unfold s_bits_Mul64
  obtain ⟨hxy, b1, b2, b3, b4⟩ := mul_parts x y hx hy
  simp (disch := omega) only [GL, RL, and32m hx, and32m hy, shr32, mul64]
  generalize x / 4294967296 * (y / 4294967296) = D at *
  generalize x / 4294967296 * (y % 4294967296) = B at *
  generalize x % 4294967296 * (y / 4294967296) = C at *
  generalize x % 4294967296 * (y % 4294967296) = A at *
  have w1 : A % 18446744073709551616 = A := Nat.mod_eq_of_lt (by omega)
  have w2 : B % 18446744073709551616 = B := Nat.mod_eq_of_lt (by omega)
  have w3 : C % 18446744073709551616 = C := Nat.mod_eq_of_lt (by omega)
  have w4 : D % 18446744073709551616 = D := Nat.mod_eq_of_lt (by omega)
  simp (disch := omega) only [GL, RL, shr32, mul64, add64, w1, w2, w3, w4]
  have w5 : (B + A / 4294967296) % 18446744073709551616 = B + A / 4294967296 := Nat.mod_eq_of_lt (by omega)
  simp (disch := omega) only [GL, RL, and32m, shr32, mul64, add64, w5]
  have w6 : ((B + A / 4294967296) % 4294967296 + C) % 18446744073709551616 = (B + A / 4294967296) % 4294967296 + C := Nat.mod_eq_of_lt (by omega)
  have w7 : (D + (B + A / 4294967296) / 4294967296) % 18446744073709551616 = D + (B + A / 4294967296) / 4294967296 := Nat.mod_eq_of_lt (by omega)
  simp (disch := omega) only [GL, RL, and32m, shr32, mul64, add64, w6, w7]
  have e : (D + (B + A / 4294967296) / 4294967296 + ((B + A / 4294967296) % 4294967296 + C) / 4294967296) % 18446744073709551616 = x * y / 18446744073709551616 := by rw [hxy]; omega
  rw [e]
  exact k
theorem ex_add0 (a b : Nat) : exP P n_bits_Add64 #[.int .u64 (a : Int), .int .u64 (b : Int), .int .u64 0] h K = K (.tuple #[.int .u64 (((a + b) % 18446744073709551616 : Nat) : Int), .int .u64 (((a + b) / 18446744073709551616 : Nat) : Int)]) h :=
  exP_of (v := .tuple #[.int .u64 (((a + b) % 18446744073709551616 : Nat) : Int), .int .u64 (((a + b) / 18446744073709551616 : Nat) : Int)]) (by kernel_rfl)
theorem ex_add1 (a b : Nat) : exP P n_bits_Add64 #[.int .u64 (a : Int), .int .u64 (b : Int), .int .u64 1] h K = K (.tuple #[.int .u64 (((a + b + 1) % 18446744073709551616 : Nat) : Int), .int .u64 (((a + b + 1) / 18446744073709551616 : Nat) : Int)]) h :=
  exP_of (v := .tuple #[.int .u64 (((a + b + 1) % 18446744073709551616 : Nat) : Int), .int .u64 (((a + b + 1) / 18446744073709551616 : Nat) : Int)]) (by kernel_rfl)
theorem ex_add (a b c : Nat) (hc : c ≤ 1) : exP P n_bits_Add64 #[.int .u64 (a : Int), .int .u64 (b : Int), .int .u64 (c : Int)] h K = K (.tuple #[.int .u64 (((a + b + c) % 18446744073709551616 : Nat) : Int), .int .u64 (((a + b + c) / 18446744073709551616 : Nat) : Int)]) h := by
  match c with
  | 0 => exact ex_add0 a b
  | 1 => exact ex_add1 a b
  | c + 2 => omega
theorem fw0 {h : Hp} {K : Value → Prop} (b o : Nat) : q P h (Instr.fieldAt t_field_wide (.pointer (some ⟨b, o, none⟩)) 0) K = K (.pointer (some ⟨b, o + 0, none⟩)) := q_of (by kernel_rfl) K
theorem fw1 {h : Hp} {K : Value → Prop} (b o : Nat) : q P h (Instr.fieldAt t_field_wide (.pointer (some ⟨b, o, none⟩)) 1) K = K (.pointer (some ⟨b, o + 1, none⟩)) := q_of (by kernel_rfl) K
/-- A number of 128 bits. -/
def wv (v : Nat) : List Nat := [v / 18446744073709551616, v % 18446744073709551616]
theorem wv_len (v : Nat) : (wv v).length = 2 := rfl
theorem sz_wide : sz P t_field_wide = some 2 := by kernel_rfl
theorem zr_wide : zr P t_field_wide = some (.agg (nv .u64 [0, 0]).toArray) := by kernel_rfl
theorem T_plus (v x y : Nat) (hv : v + x * y < 340282366920938463463374607431768211456) (hx : x < 18446744073709551616) (hy : y < 18446744073709551616) (k : K (.agg (nv .u64 (wv (v + x * y))).toArray) h) :
    Cn P n_field_wide_plus #[.agg (nv .u64 (wv v)).toArray, .int .u64 (x : Int), .int .u64 (y : Int)] h K := by
  refine Cn_wk (F_field_wide_plus ?_)
  unfold s_field_wide_plus
  refine aw_box fun r1 m1 => ?_
  have hC : (Value.agg (nv .u64 (wv v)).toArray).cells.toList = nv .u64 (wv v) := rfl
  have hC2 : (Value.agg (nv .u64 (wv v)).toArray).cells.size = 2 := rfl
  rw [hC, hC2]
  refine aw_allocL (nv .u64 [0, 0]) zr_wide rfl fun r2 m2 => ?_
  have ne : r1 ≠ r2 := by rintro rfl; rw [Hp.set_same] at m2; cases m2
  have n2 : h r2 = none := by rwa [Hp.set_ne _ _ (Ne.symm ne)] at m2
  have x0 : Hp.ext h ((h.set r1 (.row t_field_wide (nv .u64 (wv v)) 2 (some (0, 0)))).set r2 (.row t_field_wide (nv .u64 [0, 0]) 2 (some (0, 0)))) := (ext_set _ m1).trans (ext_set _ m2)
  have e1 : ((h.set r1 (.row t_field_wide (nv .u64 (wv v)) 2 (some (0, 0)))).set r2 (.row t_field_wide (nv .u64 [0, 0]) 2 (some (0, 0)))) r1 = some (.row t_field_wide (nv .u64 (wv v)) 2 (some (0, 0))) := by rw [Hp.set_ne _ _ ne, Hp.set_same]
  have e2 : ((h.set r1 (.row t_field_wide (nv .u64 (wv v)) 2 (some (0, 0)))).set r2 (.row t_field_wide (nv .u64 [0, 0]) 2 (some (0, 0)))) r2 = some (.row t_field_wide (nv .u64 [0, 0]) 2 (some (0, 0))) := Hp.set_same ..
  show Cn P n_bits_Mul64 _ ((h.set r1 (.row t_field_wide (nv .u64 (wv v)) 2 (some (0, 0)))).set r2 (.row t_field_wide (nv .u64 [0, 0]) 2 (some (0, 0)))) _
  generalize (h.set r1 (.row t_field_wide (nv .u64 (wv v)) 2 (some (0, 0)))).set r2 (.row t_field_wide (nv .u64 [0, 0]) 2 (some (0, 0))) = H at *
  refine T_Mul64 x y hx hy ?_
  have c1 := cellN (i := 1) e1 (by rw [wv_len]; omega)
  rw [ext0, ext1]
  simp (disch := omega) only [GL, RL, fw0, fw1, c1]
  rw [ex_add0, ext0, ext1]
  refine storeN z_uint64 e1 (by rw [wv_len]; omega) (by simp) ?_
  have e1b : (H.set r1 (.row t_field_wide (nv .u64 ((wv v).set 1 (((wv v).getD 1 0 + x * y % 18446744073709551616) % 18446744073709551616))) 2 (some (0, 0)))) r1 = _ := Hp.set_same ..
  have c2 := cellN (i := 0) e1b (by rw [List.length_set, wv_len]; omega)
  simp (disch := omega) only [GL, RL, fw0, fw1, c2]
  rw [ex_add _ _ _ (by have h1 : (wv v).getD 1 0 = v % 18446744073709551616 := rfl
                       rw [h1]
                       omega), ext0, ext1]
  refine storeN z_uint64 e1b (by rw [List.length_set, wv_len]; omega) (by simp) ?_
  rw [Hp.set_set]
  have fin : (((wv v).set 1 (((wv v).getD 1 0 + x * y % 18446744073709551616) % 18446744073709551616)).set 0
      ((((wv v).set 1 (((wv v).getD 1 0 + x * y % 18446744073709551616) % 18446744073709551616)).getD 0 0 + x * y / 18446744073709551616 + ((wv v).getD 1 0 + x * y % 18446744073709551616) / 18446744073709551616) % 18446744073709551616)) = wv (v + x * y) := by
    simp only [wv, List.set_cons_succ, List.set_cons_zero, List.getD_cons_zero, List.getD_cons_succ]
    generalize x * y = z at *
    congr 1
    · omega
    · congr 1
      omega
  rw [fin]
  have l2 : sz P t_field_wide = some (nv .u64 (wv (v + x * y))).length := by rw [nv_len]; exact sz_wide
  rw [q_ldRow u_field_wide rfl l2 (Hp.set_same ..)]
  refine aw_storeRow (xs := nv .u64 [0, 0]) (f := (0, 0)) l2 (by rw [Hp.set_ne _ _ (Ne.symm ne)]; exact e2) (by rw [nv_len, nv_len]; rfl) (nv_flat _ _) (fun i _ => by simp) ?_
  rw [q_resRow u_field_wide rfl l2 (Hp.set_same ..)]
  exact ⟨h, (ext_upd (ext_upd x0 m1) n2).le, k⟩
end
end Go.Proofs.Ytoikhbagchfeoaa
set_option linter.unusedSimpArgs false
set_option linter.unusedVariables false
set_option maxRecDepth 100000
set_option maxHeartbeats 4000000
namespace Go.Proofs.Ytoikhbagchfeoaa
open Go Go.SL Go.Pure
theorem len5 : ∀ {l : List Nat}, l.length = 5 → ∃ a b c d e, l = [a, b, c, d, e]
  | [a, b, c, d, e], _ => ⟨a, b, c, d, e, rfl⟩
  | [], h => by simp at h
  | [_], h => by simp at h
  | [_, _], h => by simp at h
  | [_, _, _], h => by simp at h
  | [_, _, _, _], h => by simp at h
  | _ :: _ :: _ :: _ :: _ :: _ :: _, h => by simp at h
/-- The sums of products. -/
def mulIn (a b : List Nat) (i : Nat) (W : List Nat) : Nat → List Nat
  | 0 => W
  | k + 1 => (mulIn a b i W k).set ((i + k) % 5) ((mulIn a b i W k).getD ((i + k) % 5) 0 + a.getD i 0 * (if 5 ≤ i + k then b.getD k 0 * 19 else b.getD k 0))
def mulOut (a b : List Nat) : Nat → List Nat
  | 0 => [0, 0, 0, 0, 0]
  | i + 1 => mulIn a b i (mulOut a b i) 5
theorem mulIn_len (a b : List Nat) (i : Nat) (W : List Nat) : ∀ k, (mulIn a b i W k).length = W.length
  | 0 => rfl
  | k + 1 => by rw [mulIn, List.length_set, mulIn_len a b i W k]
theorem mulOut_len (a b : List Nat) : ∀ i, (mulOut a b i).length = 5
  | 0 => rfl
  | i + 1 => by rw [mulOut, mulIn_len, mulOut_len a b i]
theorem mulOut_eq (a b c d e v w x y z : Nat) : mulOut [a, b, c, d, e] [v, w, x, y, z] 5 =
    [0 + a*v + b*(z*19) + c*(y*19) + d*(x*19) + e*(w*19), 0 + a*w + b*v + c*(z*19) + d*(y*19) + e*(x*19), 0 + a*x + b*w + c*v + d*(z*19) + e*(y*19), 0 + a*y + b*x + c*w + d*v + e*(z*19), 0 + a*z + b*y + c*x + d*w + e*v] := by
  simp [mulOut, mulIn]
/-- What is carried from sum to sum. -/
def carW (W : List Nat) : Nat → List Nat × Nat
  | 0 => ([0, 0, 0, 0, 0], 0)
  | i + 1 => ((carW W i).1.set i ((W.getD i 0 + (carW W i).2) % 2251799813685248), (W.getD i 0 + (carW W i).2) / 2251799813685248)
theorem carW_len (W : List Nat) : ∀ i, (carW W i).1.length = 5
  | 0 => rfl
  | i + 1 => by rw [carW, List.length_set, carW_len W i]
theorem carW_lt {W : List Nat} (h : ∀ i, W.getD i 0 < 10384593717069655257060992658440192) : ∀ i, (carW W i).2 < 10384593717069655257060992658440192
  | 0 => by show 0 < _; omega
  | i + 1 => by
    have := carW_lt h i
    have := h i
    rw [carW]
    show (W.getD i 0 + (carW W i).2) / 2251799813685248 < _
    omega
def mulEnd (W : List Nat) : List Nat :=
  ((carW W 5).1.set 0 ((19 * (carW W 5).2 + (carW W 5).1.getD 0 0) % 2251799813685248)).set 1 (((carW W 5).1.getD 1 0) + (19 * (carW W 5).2 + (carW W 5).1.getD 0 0) / 2251799813685248)
def fl2 (W : List Nat) : List Nat := W.flatMap wv
theorem fl2_get {W : List Nat} (lW : W.length = 5) {j : Nat} (hj : j < 5) (i : Nat) (x : Value) (hx : (nv .u64 (wv (W.getD j 0)))[i]? = some x) : (nv .u64 (fl2 W))[0 + j * 2 + i]? = some x := by
  obtain ⟨a, b, c, d, e, rfl⟩ := len5 lW
  match i with
  | 0 =>
    match j with
    | 0 => exact hx
    | 1 => exact hx
    | 2 => exact hx
    | 3 => exact hx
    | 4 => exact hx
  | 1 =>
    match j with
    | 0 => exact hx
    | 1 => exact hx
    | 2 => exact hx
    | 3 => exact hx
    | 4 => exact hx
  | i + 2 => simp [nv, wv] at hx
theorem fl2_put {W : List Nat} (lW : W.length = 5) {j : Nat} (hj : j < 5) (z : Nat) : putL (nv .u64 (fl2 W)) (0 + j * 2) (nv .u64 (wv z)) = nv .u64 (fl2 (W.set j z)) := by
  obtain ⟨a, b, c, d, e, rfl⟩ := len5 lW
  match j with
  | 0 => rfl
  | 1 => rfl
  | 2 => rfl
  | 3 => rfl
  | 4 => rfl
theorem fl2_len {W : List Nat} (lW : W.length = 5) : (fl2 W).length = 10 := by
  obtain ⟨a, b, c, d, e, rfl⟩ := len5 lW
  rfl
theorem idx5 {h : Hp} {K : Value → Prop} {a : List Nat} (la : a.length = 5) {i : Nat} (hi : i < 5) : q P h (Instr.index t_5_uint64 (.agg (nv .u64 a).toArray) (.int .i64 (i : Int))) K = K (.int .u64 ((a.getD i 0 : Nat) : Int)) := by
  obtain ⟨a, b, c, d, e, rfl⟩ := len5 la
  match i with
  | 0 => exact q_of (by kernel_rfl) K
  | 1 => exact q_of (by kernel_rfl) K
  | 2 => exact q_of (by kernel_rfl) K
  | 3 => exact q_of (by kernel_rfl) K
  | 4 => exact q_of (by kernel_rfl) K
theorem idxW {h : Hp} {K : Value → Prop} {W : List Nat} (la : W.length = 5) {i : Nat} (hi : i < 5) : q P h (Instr.index t_5_field_wide (.agg (nv .u64 (fl2 W)).toArray) (.int .i64 (i : Int))) K = K (.agg (nv .u64 (wv (W.getD i 0))).toArray) := by
  obtain ⟨a, b, c, d, e, rfl⟩ := len5 la
  match i with
  | 0 => exact q_of (by kernel_rfl) K
  | 1 => exact q_of (by kernel_rfl) K
  | 2 => exact q_of (by kernel_rfl) K
  | 3 => exact q_of (by kernel_rfl) K
  | 4 => exact q_of (by kernel_rfl) K
theorem ix5w {h : Hp} {K : Value → Prop} (b j : Nat) (hj : j < 5) : q P h (Instr.indexAt t_5_field_wide (.pointer (some ⟨b, 0, none⟩)) (.int .i64 (j : Int))) K = K (.pointer (some ⟨b, 0 + j * 2, none⟩)) := by
  rw [q_idxA u_5_field_wide sz_wide _ _ _ (by omega) (by omega), Int.toNat_natCast, add_off]
theorem zr_wides : zr P t_5_field_wide = some (.agg (nv .u64 (fl2 [0, 0, 0, 0, 0])).toArray) := by kernel_rfl
theorem sz_wides : sz P t_5_field_wide = some 10 := by kernel_rfl
theorem bld_wide0 {h : Hp} {K : Value → Prop} : q P h (Instr.build t_field_wide #[]) K = K (.agg (nv .u64 (wv 0)).toArray) := q_of (by kernel_rfl) K
theorem bld_wide {h : Hp} {K : Value → Prop} (a b : Int) : q P h (Instr.build t_field_wide #[(0, .int .u64 a), (1, .int .u64 b)]) K = K (.agg #[.int .u64 a, .int .u64 b]) := q_of (by kernel_rfl) K
theorem or13 (a b : Nat) (ha : a < 8192) (hb : b * 8192 < 18446744073709551616) : ior .u64 (a : Int) ((b * 8192 : Nat) : Int) = ((a + b * 8192 : Nat) : Int) := by
  rw [or64 (by omega) (by omega) (by omega) (by omega), Int.toNat_natCast, Int.toNat_natCast]
  have := Nat.two_pow_add_eq_or_of_lt (i := 13) (b := a) (by simpa using ha) b
  rw [Nat.or_comm, Nat.mul_comm b, show 8192 = 2 ^ 13 from rfl, ← this, Nat.add_comm]
theorem shl13 (a : Nat) (ha : a * 8192 < 18446744073709551616) : IntKind.u64.wrap ((a : Int) * 2 ^ min ((13 : Int)).toNat IntKind.u64.bits) = ((a * 8192 : Nat) : Int) := by
  have e : ((a : Int) * 2 ^ min ((13 : Int)).toNat IntKind.u64.bits) = ((a * 8192 : Nat) : Int) := by
    show (a : Int) * 2 ^ 13 = _
    omega
  rw [e, wu64, Nat.mod_eq_of_lt ha]
theorem tmod5 (i k : Nat) : ((i : Int) + (k : Int)).tmod 5 = (((i + k) % 5 : Nat) : Int) := by
  rw [Int.tmod_eq_emod_of_nonneg (by omega)]; omega
theorem ge_dec5 (i k : Nat) : decide ((5 : Int) ≤ (i : Int) + (k : Int)) = decide (5 ≤ i + k) := by
  rw [decide_eq_decide]; omega
section
variable {h : Hp} {K : Value → Hp → Prop}
theorem T_Mul64c (x : Nat) (hx : x < 18446744073709551616) (k : K (.tuple #[.int .u64 ((x * 19 / 18446744073709551616 : Nat) : Int), .int .u64 ((x * 19 % 18446744073709551616 : Nat) : Int)]) h) :
    Cn P n_bits_Mul64 #[.int .u64 (x : Int), .int .u64 19] h K := T_Mul64 x 19 hx (by omega) k
theorem T_fmul (a b : List Nat) (la : a.length = 5) (lb : b.length = 5) (ha : ∀ i, a.getD i 0 < 4503599627370496) (hb : ∀ i, b.getD i 0 < 4503599627370496) (hW : ∀ i, (mulOut a b 5).getD i 0 < 10384593717069655257060992658440192) (hc : (carW (mulOut a b 5) 5).2 < 288230376151711744)
    (k : K (.agg (nv .u64 (carL (mulEnd (mulOut a b 5)))).toArray) h) : Cn P n_field_Elem_Mul #[.agg (nv .u64 a).toArray, .agg (nv .u64 b).toArray] h K := by
  refine Cn_wk (F_field_Elem_Mul ?_)
  unfold s_field_Elem_Mul
  refine aw_boxE la (.refl h) fun r1 H1 n1 m1 x1 y1 e1 f1 => ?_
  refine aw_boxE lb x1 fun r2 H2 n2 m2 x2 y2 e2 f2 => ?_
  refine aw_allocE x2 fun r3 H3 n3 m3 x3 y3 e3 f3 => ?_
  have e1' := y3 _ _ (y2 _ _ e1)
  have e2' := y3 _ _ e2
  refine aw_allocL (nv .u64 (fl2 [0, 0, 0, 0, 0])) zr_wides rfl fun r4 m4 => ?_
  rw [show (nv .u64 (fl2 [0, 0, 0, 0, 0])).length = 10 from rfl]
  have n4 := x3.none m4
  have x4 : Hp.ext h (H3.set r4 (.row t_5_field_wide (nv .u64 (fl2 [0, 0, 0, 0, 0])) 10 (some (0, 0)))) := x3.trans (ext_set _ m4)
  have ne14 : r1 ≠ r4 := by rintro rfl; rw [e1'] at m4; cases m4
  have ne24 : r2 ≠ r4 := by rintro rfl; rw [e2'] at m4; cases m4
  have ne34 : r3 ≠ r4 := by rintro rfl; rw [e3] at m4; cases m4
  have E1 : (H3.set r4 (.row t_5_field_wide (nv .u64 (fl2 [0, 0, 0, 0, 0])) 10 (some (0, 0)))) r1 = some (.row t_field_Elem (nv .u64 a) 5 (some (0, 0))) := by rw [Hp.set_ne _ _ ne14]; exact e1'
  have E2 : (H3.set r4 (.row t_5_field_wide (nv .u64 (fl2 [0, 0, 0, 0, 0])) 10 (some (0, 0)))) r2 = some (.row t_field_Elem (nv .u64 b) 5 (some (0, 0))) := by rw [Hp.set_ne _ _ ne24]; exact e2'
  have E3 : (H3.set r4 (.row t_5_field_wide (nv .u64 (fl2 [0, 0, 0, 0, 0])) 10 (some (0, 0)))) r3 = some (.row t_field_Elem (nv .u64 [0, 0, 0, 0, 0]) 5 (some (0, 0))) := by rw [Hp.set_ne _ _ ne34]; exact e3
  have E4 : (H3.set r4 (.row t_5_field_wide (nv .u64 (fl2 [0, 0, 0, 0, 0])) 10 (some (0, 0)))) r4 = some (.row t_5_field_wide (nv .u64 (fl2 [0, 0, 0, 0, 0])) 10 (some (0, 0))) := Hp.set_same ..
  rw [fe0, q_ldRow u_5_uint64 rfl (by rw [nv_len, la]; exact z_5_uint64) E1]
  have inc5 : ∀ {i : Nat}, i < 5 → IntKind.i64.wrap ((i : Int) + 1) = ((i + 1 : Nat) : Int) := fun {i} hi => by rw [wi64 (by omega) (by omega)]; omega
  refine Lp_mk (fun m vs H => ∃ i : Nat, i + m = 5 ∧ Hp.ext h H ∧ H r2 = some (.row t_field_Elem (nv .u64 b) 5 (some (0, 0))) ∧ H r3 = some (.row t_field_Elem (nv .u64 [0, 0, 0, 0, 0]) 5 (some (0, 0))) ∧ H r4 = some (.row t_5_field_wide (nv .u64 (fl2 (mulOut a b i))) 10 (some (0, 0))) ∧ (∀ j, (mulOut a b i).getD j 0 ≤ i * 5 * 649037107316853453566312041152512) ∧ vs = [.int .i64 (i : Int)]) 5
    ⟨0, rfl, x4, E2, E3, E4, fun j => by
      match j with
      | 0 => exact Nat.zero_le _
      | 1 => exact Nat.zero_le _
      | 2 => exact Nat.zero_le _
      | 3 => exact Nat.zero_le _
      | 4 => exact Nat.zero_le _
      | j + 5 => exact Nat.zero_le _, rfl⟩ ?_
  clear E1 E2 E3 E4 x4 m4 e1' e2' e3 x1 x2 x3 y1 y2 y3 e1 e2 f1 f2 f3 m1 m2 m3
  rintro m vs H ⟨i, hi, x, e2, e3, e4, hB, rfl⟩
  have lW := mulOut_len a b i
  simp -zeta (disch := omega) only [GL, RL, lt_dec5]
  by_cases hlt : i < 5
  · simp -zeta (disch := omega) only [hlt, decide_true, if_true]
    rw [idx5 la hlt, fe0, q_ldRow u_5_uint64 rfl (by rw [nv_len, lb]; exact z_5_uint64) e2]
    refine Lp_mk (fun m' vs' H' => ∃ k : Nat, k + m' = 5 ∧ Hp.ext h H' ∧ H' r2 = some (.row t_field_Elem (nv .u64 b) 5 (some (0, 0))) ∧ H' r3 = some (.row t_field_Elem (nv .u64 [0, 0, 0, 0, 0]) 5 (some (0, 0))) ∧ H' r4 = some (.row t_5_field_wide (nv .u64 (fl2 (mulIn a b i (mulOut a b i) k))) 10 (some (0, 0))) ∧ (∀ j, (mulIn a b i (mulOut a b i) k).getD j 0 ≤ (i * 5 + k) * 649037107316853453566312041152512) ∧ vs' = [.int .i64 (k : Int)]) 5
      ⟨0, rfl, x, e2, e3, e4, hB, rfl⟩ ?_
    clear x e2 e3 e4 hB
    rintro m' vs' H' ⟨kk, hk, x, e2, e3, e4, hB, rfl⟩
    simp -zeta (disch := omega) only [GL, RL, lt_dec5]
    by_cases hlk : kk < 5
    · simp -zeta (disch := omega) only [hlk, decide_true, if_true]
      rw [idx5 lb hlk]
      intro J
      have qJ : ∀ Y : Nat, Y = (if 5 ≤ i + kk then b.getD kk 0 * 19 else b.getD kk 0) → J (.int .u64 (Y : Int)) H' := by
        intro Y hY
        simp -zeta only [J]
        clear J
        have hj : (i + kk) % 5 < 5 := Nat.mod_lt _ (by decide)
        have lV : (mulIn a b i (mulOut a b i) kk).length = 5 := by rw [mulIn_len, lW]
        have hYb : Y < 144115188075855872 := by
          have := hb kk
          rw [hY]
          split <;> omega
        have hai := ha i
        have hBj := hB ((i + kk) % 5)
        have hpr : a.getD i 0 * Y ≤ 649037107316853453566312041152512 := by
          have := Nat.mul_le_mul (Nat.le_of_lt hai) (Nat.le_of_lt hYb)
          omega
        have wik : IntKind.i64.wrap ((i : Int) + (kk : Int)) = (i : Int) + (kk : Int) := wi64 (by omega) (by omega)
        have n5 : ((5 : Int) ≠ 0) := by decide
        simp -zeta (disch := first | omega | decide) only [GL, RL, wik, tmod5]
        rw [ix5w _ _ hj, q_ldPart u_field_wide rfl (by rw [nv_len]; exact sz_wide) e4 (fl2_get lV hj)]
        refine T_plus _ _ _ (by omega) (by omega) (by omega) ?_
        rw [ix5w _ _ hj]
        refine aw_storePart (by rw [nv_len]; exact sz_wide) e4 (by rw [nv_len, nv_len, fl2_len lV, wv_len]; omega) (nv_flat _ _) (fun i _ => by simp) ?_
        rw [fl2_put lV hj]
        simp -zeta (disch := first | omega | decide) only [GL, RL, inc5 hlk]
        refine ⟨_, .refl _, m' - 1, by omega, kk + 1, by omega, ext_upd x n4, by rw [Hp.set_ne _ _ ne24]; exact e2, by rw [Hp.set_ne _ _ ne34]; exact e3, by rw [Hp.set_same, mulIn, hY], ?_, rfl⟩
        intro j
        rw [mulIn, ← hY, List.getD_eq_getElem?_getD, List.getElem?_set]
        split
        · rename_i hjj
          split
          · show _ + _ ≤ _
            omega
          · exact Nat.zero_le _
        · have := hB j
          rw [List.getD_eq_getElem?_getD] at this
          exact Nat.le_trans this (Nat.mul_le_mul_right _ (by omega))
      clear_value J
      have wik : IntKind.i64.wrap ((i : Int) + (kk : Int)) = (i : Int) + (kk : Int) := wi64 (by omega) (by omega)
      simp -zeta (disch := omega) only [GL, RL, wik, ge_dec5]
      by_cases h5 : 5 ≤ i + kk
      · have := hb kk
        have m19 : IntKind.u64.wrap (((b.getD kk 0 : Nat) : Int) * 19) = ((b.getD kk 0 * 19 : Nat) : Int) := by
          have e := mul64 (b.getD kk 0) 19
          rw [Nat.mod_eq_of_lt (by omega)] at e
          exact e
        simp -zeta (disch := omega) only [h5, decide_true, if_true, GL, RL, m19]
        exact qJ _ (by rw [if_pos h5])
      · simp -zeta (disch := omega) only [h5, decide_false, Bool.false_eq_true, if_false]
        exact qJ _ (by rw [if_neg h5])
    · obtain rfl : kk = 5 := by omega
      simp -zeta (disch := omega) only [hlk, decide_false, Bool.false_eq_true, if_false, GL, RL, inc5 hlt]
      exact ⟨_, .refl _, m - 1, by omega, i + 1, by omega, x, e2, e3, e4, fun j => by rw [mulOut]; exact Nat.le_trans (hB j) (Nat.mul_le_mul_right _ (by omega)), rfl⟩
  · obtain rfl : i = 5 := by omega
    simp -zeta only [hlt, decide_false, Bool.false_eq_true, if_false]
    clear hB hi hlt e2 ha hb
    generalize mulOut a b 5 = W at *
    refine aw_allocE x fun r5 H5 n5 m5 x5 y5 e5 f5 => ?_
    have e3' := y5 _ _ e3
    have e4' := y5 _ _ e4
    have ne35 : r3 ≠ r5 := by rintro rfl; rw [e3] at m5; cases m5
    have ne45 : r4 ≠ r5 := by rintro rfl; rw [e4] at m5; cases m5
    rw [bld_wide0]
    refine aw_allocL (nv .u64 [0, 0]) zr_wide rfl fun r6 m6 => ?_
    rw [show (nv .u64 [0, 0]).length = 2 from rfl]
    have n6 := x5.none m6
    have ne36 : r3 ≠ r6 := by rintro rfl; rw [e3'] at m6; cases m6
    have ne46 : r4 ≠ r6 := by rintro rfl; rw [e4'] at m6; cases m6
    have ne56 : r5 ≠ r6 := by rintro rfl; rw [e5] at m6; cases m6
    refine aw_storeRow (xs := nv .u64 [0, 0]) (f := (0, 0)) (by rw [nv_len]; exact sz_wide) (Hp.set_same ..) (by rw [nv_len, nv_len]; rfl) (nv_flat _ _) (fun i _ => by simp) ?_
    have e4s : (H5.set r6 (.row t_field_wide (nv .u64 (wv 0)) 2 (some (0, 0)))) r4 = some (.row t_5_field_wide (nv .u64 (fl2 W)) 10 (some (0, 0))) := by rw [Hp.set_ne _ _ ne46]; exact e4'
    rw [Hp.set_set, q_ldRow u_5_field_wide rfl (by rw [nv_len, fl2_len lW]; exact sz_wides) e4s]
    refine Lp_mk (fun m vs H => ∃ i : Nat, i + m = 5 ∧ Hp.ext h H ∧ H r3 = some (.row t_field_Elem (nv .u64 [0, 0, 0, 0, 0]) 5 (some (0, 0))) ∧ H r5 = some (.row t_field_Elem (nv .u64 (carW W i).1) 5 (some (0, 0))) ∧ H r6 = some (.row t_field_wide (nv .u64 (wv (carW W i).2)) 2 (some (0, 0))) ∧ vs = [.int .i64 (i : Int)]) 5
      ⟨0, rfl, ext_upd (x5.trans (Hp.ext.refl _)) n6, by rw [Hp.set_ne _ _ ne36]; exact e3', by rw [Hp.set_ne _ _ ne56]; exact e5, Hp.set_same .., rfl⟩ ?_
    clear x e3 e4 x5 y5 e3' e4' e5 f5 m5 m6
    rintro m vs H ⟨i, hi, x, e3, e5, e6, rfl⟩
    have lC := carW_len W i
    have bC := carW_lt hW i
    have bW := hW i
    simp -zeta (disch := omega) only [GL, RL, lt_dec5]
    by_cases hlt : i < 5
    · simp -zeta (disch := omega) only [hlt, decide_true, if_true]
      rw [idxW lW hlt]
      refine aw_allocL (nv .u64 [0, 0]) zr_wide rfl fun r7 m7 => ?_
      rw [show (nv .u64 [0, 0]).length = 2 from rfl]
      have n7 := x.none m7
      have ne37 : r3 ≠ r7 := by rintro rfl; rw [e3] at m7; cases m7
      have ne57 : r5 ≠ r7 := by rintro rfl; rw [e5] at m7; cases m7
      have ne67 : r6 ≠ r7 := by rintro rfl; rw [e6] at m7; cases m7
      refine aw_storeRow (xs := nv .u64 [0, 0]) (f := (0, 0)) (by rw [nv_len]; exact sz_wide) (Hp.set_same ..) (by rw [nv_len, nv_len]; rfl) (nv_flat _ _) (fun i _ => by simp) ?_
      rw [Hp.set_set]
      have x7 := ext_upd (o := .row t_field_wide (nv .u64 (wv (W.getD i 0))) 2 (some (0, 0))) x n7
      have e3b : (H.set r7 (.row t_field_wide (nv .u64 (wv (W.getD i 0))) 2 (some (0, 0)))) r3 = some (.row t_field_Elem (nv .u64 [0, 0, 0, 0, 0]) 5 (some (0, 0))) := by rw [Hp.set_ne _ _ ne37]; exact e3
      have e5b : (H.set r7 (.row t_field_wide (nv .u64 (wv (W.getD i 0))) 2 (some (0, 0)))) r5 = some (.row t_field_Elem (nv .u64 (carW W i).1) 5 (some (0, 0))) := by rw [Hp.set_ne _ _ ne57]; exact e5
      have e6b : (H.set r7 (.row t_field_wide (nv .u64 (wv (W.getD i 0))) 2 (some (0, 0)))) r6 = some (.row t_field_wide (nv .u64 (wv (carW W i).2)) 2 (some (0, 0))) := by rw [Hp.set_ne _ _ ne67]; exact e6
      have e7 : (H.set r7 (.row t_field_wide (nv .u64 (wv (W.getD i 0))) 2 (some (0, 0)))) r7 = some (.row t_field_wide (nv .u64 (wv (W.getD i 0))) 2 (some (0, 0))) := Hp.set_same ..
      generalize H.set r7 (.row t_field_wide (nv .u64 (wv (W.getD i 0))) 2 (some (0, 0))) = G at *
      have c1 := cellN (i := 1) e7 (by rw [wv_len]; omega)
      have c2 := cellN (i := 1) e6b (by rw [wv_len]; omega)
      simp -zeta (disch := omega) only [GL, RL, fw0, fw1, c1, c2]
      rw [ex_add0, ext0, ext1]
      refine storeN z_uint64 e7 (by rw [wv_len]; omega) (by simp) ?_
      generalize hS : W.getD i 0 + (carW W i).2 = S at *
      have hSb : S < 20769187434139310514121985316880384 := by omega
      have w0 : ∀ v, (wv v).getD 0 0 = v / 18446744073709551616 := fun v => rfl
      have w1 : ∀ v, (wv v).getD 1 0 = v % 18446744073709551616 := fun v => rfl
      have lo : ((wv (W.getD i 0)).getD 1 0 + (wv (carW W i).2).getD 1 0) % 18446744073709551616 = S % 18446744073709551616 := by rw [w1, w1, ← hS]; omega
      have e7b : (G.set r7 (.row t_field_wide (nv .u64 ((wv (W.getD i 0)).set 1 (S % 18446744073709551616))) 2 (some (0, 0)))) r7 = _ := Hp.set_same ..
      rw [lo]
      have c3 := cellN (i := 0) e7b (by rw [List.length_set, wv_len]; omega)
      have c4 := cellN (i := 0) (h := G.set r7 (.row t_field_wide (nv .u64 ((wv (W.getD i 0)).set 1 (S % 18446744073709551616))) 2 (some (0, 0)))) (g := r6) (by rw [Hp.set_ne _ _ ne67]; exact e6b) (by rw [wv_len]; omega)
      have hu : ((wv (W.getD i 0)).getD 1 0 + (wv (carW W i).2).getD 1 0) / 18446744073709551616 ≤ 1 := by rw [w1, w1]; omega
      simp -zeta (disch := omega) only [GL, RL, fw0, fw1, c3, c4]
      rw [ex_add _ _ _ hu, ext0, ext1]
      refine storeN z_uint64 e7b (by rw [List.length_set, wv_len]; omega) (by simp) ?_
      rw [Hp.set_set]
      have hiS : (((wv (W.getD i 0)).set 1 (S % 18446744073709551616)).getD 0 0 + (wv (carW W i).2).getD 0 0 + ((wv (W.getD i 0)).getD 1 0 + (wv (carW W i).2).getD 1 0) / 18446744073709551616) % 18446744073709551616 = S / 18446744073709551616 := by
        have q0 : ((wv (W.getD i 0)).set 1 (S % 18446744073709551616)).getD 0 0 = W.getD i 0 / 18446744073709551616 := rfl
        rw [q0, w0, w1, w1, ← hS]
        omega
      rw [hiS]
      have hrow : ((wv (W.getD i 0)).set 1 (S % 18446744073709551616)).set 0 (S / 18446744073709551616) = wv S := rfl
      rw [hrow]
      have e7c : (G.set r7 (.row t_field_wide (nv .u64 (wv S)) 2 (some (0, 0)))) r7 = some (.row t_field_wide (nv .u64 (wv S)) 2 (some (0, 0))) := Hp.set_same ..
      have e5c : (G.set r7 (.row t_field_wide (nv .u64 (wv S)) 2 (some (0, 0)))) r5 = some (.row t_field_Elem (nv .u64 (carW W i).1) 5 (some (0, 0))) := by rw [Hp.set_ne _ _ ne57]; exact e5b
      have e6c : (G.set r7 (.row t_field_wide (nv .u64 (wv S)) 2 (some (0, 0)))) r6 = some (.row t_field_wide (nv .u64 (wv (carW W i).2)) 2 (some (0, 0))) := by rw [Hp.set_ne _ _ ne67]; exact e6b
      have e3c : (G.set r7 (.row t_field_wide (nv .u64 (wv S)) 2 (some (0, 0)))) r3 = some (.row t_field_Elem (nv .u64 [0, 0, 0, 0, 0]) 5 (some (0, 0))) := by rw [Hp.set_ne _ _ ne37]; exact e3b
      have x7c : Hp.ext h (G.set r7 (.row t_field_wide (nv .u64 (wv S)) 2 (some (0, 0)))) := ext_upd x7 n7
      generalize G.set r7 (.row t_field_wide (nv .u64 (wv S)) 2 (some (0, 0))) = G2 at *
      have c5 := cellN (i := 1) e7c (by rw [wv_len]; omega)
      rw [w1] at c5
      simp -zeta (disch := omega) only [GL, RL, fw0, fw1, fe0, c5, and51]
      refine storeN z_uint64 e5c (by omega) (by simp) ?_
      have e7d : (G2.set r5 (.row t_field_Elem (nv .u64 ((carW W i).1.set i (S % 18446744073709551616 % 2251799813685248))) 5 (some (0, 0)))) r7 = some (.row t_field_wide (nv .u64 (wv S)) 2 (some (0, 0))) := by rw [Hp.set_ne _ _ (Ne.symm ne57)]; exact e7c
      have c6 := cellN (i := 1) e7d (by rw [wv_len]; omega)
      have c7 := cellN (i := 0) e7d (by rw [wv_len]; omega)
      rw [w1] at c6
      rw [w0] at c7
      have sh : S / 18446744073709551616 * 8192 < 18446744073709551616 := by omega
      simp -zeta (disch := omega) only [GL, RL, fw0, fw1, fe0, c6, c7, shr51, shl13 _ sh, or13 _ _ (show S % 18446744073709551616 / 2251799813685248 < 8192 by omega) sh]
      rw [bld_wide]
      have hc2 : (#[Value.int .u64 ((S / 18446744073709551616 / 2251799813685248 : Nat) : Int), .int .u64 ((S % 18446744073709551616 / 2251799813685248 + S / 18446744073709551616 * 8192 : Nat) : Int)] : Array Value) = (nv .u64 (wv (S / 2251799813685248))).toArray := by
        have a1 : S / 18446744073709551616 / 2251799813685248 = S / 2251799813685248 / 18446744073709551616 := by omega
        have a2 : S % 18446744073709551616 / 2251799813685248 + S / 18446744073709551616 * 8192 = S / 2251799813685248 % 18446744073709551616 := by omega
        rw [a1, a2]
        rfl
      rw [hc2]
      refine aw_storeRow (xs := nv .u64 (wv (carW W i).2)) (f := (0, 0)) (by rw [nv_len]; exact sz_wide) (by rw [Hp.set_ne _ _ (Ne.symm ne56)]; exact e6c) (by rw [nv_len, nv_len]; rfl) (nv_flat _ _) (fun i _ => by simp) ?_
      simp -zeta (disch := omega) only [GL, RL, inc5 hlt]
      have mm : S % 18446744073709551616 % 2251799813685248 = S % 2251799813685248 := by omega
      refine ⟨_, .refl _, m - 1, by omega, i + 1, by omega, ext_upd (ext_upd x7c n5) n6, ?_, ?_, ?_, rfl⟩
      · rw [Hp.set_ne _ _ ne36, Hp.set_ne _ _ ne35]; exact e3c
      · rw [Hp.set_ne _ _ ne56, Hp.set_same, carW, hS, mm]
      · rw [Hp.set_same, carW, hS]
    · obtain rfl : i = 5 := by omega
      simp -zeta only [hlt, decide_false, Bool.false_eq_true, if_false]
      have c1 := cellN (i := 1) e6 (by rw [wv_len]; omega)
      have w1 : ∀ v, (wv v).getD 1 0 = v % 18446744073709551616 := fun v => rfl
      rw [w1, Nat.mod_eq_of_lt (by omega)] at c1
      simp -zeta (disch := omega) only [GL, RL, fw0, fw1, c1]
      refine T_Mul64c (carW W 5).2 (by omega) ?_
      have a1 : (carW W 5).2 * 19 / 18446744073709551616 = 0 := by omega
      have a2 : (carW W 5).2 * 19 % 18446744073709551616 = 19 * (carW W 5).2 := by omega
      have i0 : ((0 : Int)).toNat = 0 := rfl
      have hb0 : (carW W 5).1.getD 0 0 < 2251799813685248 := by
        obtain ⟨q0, q1, q2, q3, q4, hq⟩ := len5 lW
        rw [hq]
        simp only [carW, List.set_cons_zero, List.set_cons_succ, List.getD_cons_zero]
        exact Nat.mod_lt _ (by decide)
      have c2 := cellN (i := 0) e5 (by omega)
      rw [a1, a2, ext0, ext1]
      simp -zeta (disch := omega) only [GL, RL, fe0, i0, Nat.add_zero, c2]
      rw [ex_add0, ext0, ext1, Nat.mod_eq_of_lt (by omega)]
      have a3 : (19 * (carW W 5).2 + (carW W 5).1.getD 0 0) / 18446744073709551616 = 0 := by omega
      rw [a3]
      simp -zeta (disch := omega) only [GL, RL, fe0, i0, Nat.add_zero, and51]
      refine storeN z_uint64 e5 (by omega) (by simp) ?_
      have e5b : (H.set r5 (.row t_field_Elem (nv .u64 ((carW W 5).1.set 0 ((19 * (carW W 5).2 + (carW W 5).1.getD 0 0) % 2251799813685248))) 5 (some (0, 0)))) r5 = _ := Hp.set_same ..
      have i1 : ((1 : Int)).toNat = 1 := rfl
      have c3 := cellN (i := 1) e5b (by rw [List.length_set]; omega)
      have g1 : ((carW W 5).1.set 0 ((19 * (carW W 5).2 + (carW W 5).1.getD 0 0) % 2251799813685248)).getD 1 0 = (carW W 5).1.getD 1 0 := by
        rw [List.getD_eq_getElem?_getD, List.getElem?_set, if_neg (by omega), ← List.getD_eq_getElem?_getD]
      rw [g1] at c3
      have m0 : (19 * (carW W 5).2 + (carW W 5).1.getD 0 0) / 2251799813685248 < 9223372036854775808 := by omega
      have zz : IntKind.u64.wrap (((0 : Nat) : Int) + ((0 : Nat) : Int)) = ((0 : Nat) : Int) := rfl
      have or0 : ∀ n : Nat, n < 9223372036854775808 → ior .u64 (n : Int) ((0 * 8192 : Nat) : Int) = (n : Int) := fun n hn => by
        rw [or64 (by omega) (by omega) (by omega) (by omega), Int.toNat_natCast, Int.toNat_natCast, Nat.zero_mul, Nat.or_zero]
      have g1b : (carW W 5).1.getD 1 0 < 2251799813685248 := by
        obtain ⟨q0, q1, q2, q3, q4, hq⟩ := len5 lW
        rw [hq]
        simp only [carW, List.set_cons_zero, List.set_cons_succ, List.getD_cons_zero, List.getD_cons_succ]
        exact Nat.mod_lt _ (by decide)
      simp -zeta (disch := omega) only [GL, RL, fe0, i1, Nat.zero_add, c3, shr51, zz, shl13 0 (by decide), or0 _ m0, add64]
      rw [Nat.mod_eq_of_lt (by omega)]
      refine storeN z_uint64 e5b (by rw [List.length_set]; omega) (by simp) ?_
      rw [Hp.set_set]
      have lE : (mulEnd W).length = 5 := by rw [mulEnd, List.length_set, List.length_set, lC]
      rw [q_ldRow u_field_Elem rfl (by rw [nv_len]; exact (by rw [show ((((carW W 5).1.set 0 ((19 * (carW W 5).2 + (carW W 5).1.getD 0 0) % 2251799813685248)).set 1 (((carW W 5).1.getD 1 0) + (19 * (carW W 5).2 + (carW W 5).1.getD 0 0) / 2251799813685248))).length = 5 from lE]; exact sz_elem)) (Hp.set_same ..)]
      refine T_carried _ lE ?_
      refine ret_val (Z := [0, 0, 0, 0, 0]) (by rw [Hp.set_ne _ _ ne35]; exact e3) (by rw [carL_len]; exact lE) rfl ?_
      exact ⟨h, (ext_upd (ext_upd x n5) n3).le, k⟩
end
end Go.Proofs.Ytoikhbagchfeoaa
set_option linter.unusedSimpArgs false
set_option linter.unusedVariables false
set_option maxRecDepth 100000
set_option maxHeartbeats 4000000
namespace Go.Proofs.Ytoikhbagchfeoaa
open Go Go.SL Go.Pure Go.Curve
/-- Limbs that aren't great. -/
def Lim (a : List Nat) : Prop := a.length = 5 ∧ ∀ i, a.getD i 0 < 4503599627370496
def evL (a : List Nat) : F := ev5 (a.getD 0 0) (a.getD 1 0) (a.getD 2 0) (a.getD 3 0) (a.getD 4 0)
theorem lim5 {a b c d e : Nat} (ha : a < 4503599627370496) (hb : b < 4503599627370496) (hc : c < 4503599627370496) (hd : d < 4503599627370496) (he : e < 4503599627370496) : Lim [a, b, c, d, e] := by
  refine ⟨rfl, fun i => ?_⟩
  match i with
  | 0 => exact ha
  | 1 => exact hb
  | 2 => exact hc
  | 3 => exact hd
  | 4 => exact he
  | i + 5 => show 0 < _; omega
theorem Lim.form {l : List Nat} (h : Lim l) : ∃ a b c d e, l = [a, b, c, d, e] ∧ a < 4503599627370496 ∧ b < 4503599627370496 ∧ c < 4503599627370496 ∧ d < 4503599627370496 ∧ e < 4503599627370496 := by
  obtain ⟨a, b, c, d, e, rfl⟩ := len5 h.1
  exact ⟨a, b, c, d, e, rfl, h.2 0, h.2 1, h.2 2, h.2 3, h.2 4⟩
theorem carL_eq {a b c d e : Nat} (ha : a < 9223372036854775808) (hb : b < 9223372036854775808) (hc : c < 9223372036854775808) (hd : d < 9223372036854775808) (he : e < 9223372036854775808) :
    ∃ b' c' d' e', b' = b + a / 2251799813685248 ∧ c' = c + b' / 2251799813685248 ∧ d' = d + c' / 2251799813685248 ∧ e' = e + d' / 2251799813685248 ∧
      carL [a, b, c, d, e] = [a % 2251799813685248 + 19 * (e' / 2251799813685248), b' % 2251799813685248, c' % 2251799813685248, d' % 2251799813685248, e' % 2251799813685248] := by
  refine ⟨_, _, _, _, rfl, rfl, rfl, rfl, ?_⟩
  have n1 : (a + 0) % 18446744073709551616 = a := by omega
  have n2 : (b + a / 2251799813685248) % 18446744073709551616 = b + a / 2251799813685248 := by omega
  have n3 : (c + (b + a / 2251799813685248) / 2251799813685248) % 18446744073709551616 = c + (b + a / 2251799813685248) / 2251799813685248 := by omega
  have n4 : (d + (c + (b + a / 2251799813685248) / 2251799813685248) / 2251799813685248) % 18446744073709551616 = d + (c + (b + a / 2251799813685248) / 2251799813685248) / 2251799813685248 := by omega
  have n5 : (e + (d + (c + (b + a / 2251799813685248) / 2251799813685248) / 2251799813685248) / 2251799813685248) % 18446744073709551616 = e + (d + (c + (b + a / 2251799813685248) / 2251799813685248) / 2251799813685248) / 2251799813685248 := by omega
  have c1 : carN [a, b, c, d, e] 1 = ([a % 2251799813685248, b, c, d, e], a / 2251799813685248) := by
    simp only [carN, List.set_cons_zero, List.getD_cons_zero, n1]
  have c2 : carN [a, b, c, d, e] 2 = ([a % 2251799813685248, (b + a / 2251799813685248) % 2251799813685248, c, d, e], (b + a / 2251799813685248) / 2251799813685248) := by
    rw [carN, c1]
    simp only [List.set_cons_zero, List.set_cons_succ, List.getD_cons_zero, List.getD_cons_succ, n2]
  have c3 : carN [a, b, c, d, e] 3 = ([a % 2251799813685248, (b + a / 2251799813685248) % 2251799813685248, (c + (b + a / 2251799813685248) / 2251799813685248) % 2251799813685248, d, e], (c + (b + a / 2251799813685248) / 2251799813685248) / 2251799813685248) := by
    rw [carN, c2]
    simp only [List.set_cons_zero, List.set_cons_succ, List.getD_cons_zero, List.getD_cons_succ, n3]
  generalize (c + (b + a / 2251799813685248) / 2251799813685248) = C at *
  generalize (b + a / 2251799813685248) = B at *
  have c4 : carN [a, b, c, d, e] 4 = ([a % 2251799813685248, B % 2251799813685248, C % 2251799813685248, (d + C / 2251799813685248) % 2251799813685248, e], (d + C / 2251799813685248) / 2251799813685248) := by
    rw [carN, c3]
    simp only [List.set_cons_zero, List.set_cons_succ, List.getD_cons_zero, List.getD_cons_succ, n4]
  generalize (d + C / 2251799813685248) = D at *
  have c5 : carN [a, b, c, d, e] 5 = ([a % 2251799813685248, B % 2251799813685248, C % 2251799813685248, D % 2251799813685248, (e + D / 2251799813685248) % 2251799813685248], (e + D / 2251799813685248) / 2251799813685248) := by
    rw [carN, c4]
    simp only [List.set_cons_zero, List.set_cons_succ, List.getD_cons_zero, List.getD_cons_succ, n5]
  rw [carL, c5]
  simp only [List.set_cons_zero, List.getD_cons_zero]
  have : e + D / 2251799813685248 < 18446744073709551616 := by omega
  congr 1
  omega
theorem carL_ev {l : List Nat} (h : l.length = 5) (hb : ∀ i, l.getD i 0 < 36028797018963968) : Lim (carL l) ∧ evL (carL l) = evL l := by
  obtain ⟨a, b, c, d, e, rfl⟩ := len5 h
  have b0 : a < 36028797018963968 := hb 0
  have b1 : b < 36028797018963968 := hb 1
  have b2 : c < 36028797018963968 := hb 2
  have b3 : d < 36028797018963968 := hb 3
  have b4 : e < 36028797018963968 := hb 4
  obtain ⟨b', c', d', e', h1, h2, h3, h4, q⟩ := carL_eq (a := a) (b := b) (c := c) (d := d) (e := e) (by omega) (by omega) (by omega) (by omega) (by omega)
  rw [q]
  exact ⟨lim5 (by omega) (by omega) (by omega) (by omega) (by omega), ev_car h1 h2 h3 h4⟩
section
variable {h : Hp} {K : Value → Hp → Prop}
theorem T_Add {a b : List Nat} (la : Lim a) (lb : Lim b) (k : ∀ r, Lim r → evL r = evL a + evL b → K (.agg (nv .u64 r).toArray) h) : Cn P n_field_Elem_Add #[.agg (nv .u64 a).toArray, .agg (nv .u64 b).toArray] h K := by
  refine T_fadd a b la.1 lb.1 ?_
  obtain ⟨a0, a1, a2, a3, a4, rfl, ha0, ha1, ha2, ha3, ha4⟩ := la.form
  obtain ⟨b0, b1, b2, b3, b4, rfl, hb0, hb1, hb2, hb3, hb4⟩ := lb.form
  have e : addL [a0, a1, a2, a3, a4] [b0, b1, b2, b3, b4] = [a0 + b0, a1 + b1, a2 + b2, a3 + b3, a4 + b4] := by
    simp only [addL, addN, List.set_cons_zero, List.set_cons_succ, List.getD_cons_zero, List.getD_cons_succ]
    rw [Nat.mod_eq_of_lt (by omega), Nat.mod_eq_of_lt (by omega), Nat.mod_eq_of_lt (by omega), Nat.mod_eq_of_lt (by omega), Nat.mod_eq_of_lt (by omega)]
  rw [e]
  obtain ⟨h1, h2⟩ := carL_ev (l := [a0 + b0, a1 + b1, a2 + b2, a3 + b3, a4 + b4]) rfl fun i => by
    match i with
    | 0 => show a0 + b0 < _; omega
    | 1 => show a1 + b1 < _; omega
    | 2 => show a2 + b2 < _; omega
    | 3 => show a3 + b3 < _; omega
    | 4 => show a4 + b4 < _; omega
    | i + 5 => show 0 < _; omega
  exact k _ h1 (h2.trans (ev_add ..))
theorem T_Sub {a b : List Nat} (la : Lim a) (lb : Lim b) (k : ∀ r, Lim r → evL r = evL a - evL b → K (.agg (nv .u64 r).toArray) h) : Cn P n_field_Elem_Sub #[.agg (nv .u64 a).toArray, .agg (nv .u64 b).toArray] h K := by
  obtain ⟨l1, v1⟩ := carL_ev lb.1 fun i => Nat.lt_trans (lb.2 i) (by decide)
  obtain ⟨l2, v2⟩ := carL_ev l1.1 fun i => Nat.lt_trans (l1.2 i) (by decide)
  have v3 := v2.trans v1
  refine T_fsub a b la.1 lb.1 (fun i _ => by
    have := l2.2 i
    unfold tw
    split <;> omega) ?_
  generalize carL (carL b) = c at *
  obtain ⟨a0, a1, a2, a3, a4, rfl, ha0, ha1, ha2, ha3, ha4⟩ := la.form
  obtain ⟨b0, b1, b2, b3, b4, rfl, hb0, hb1, hb2, hb3, hb4⟩ := l2.form
  have t0 : tw 0 = 9007199254740916 := rfl
  have t1 : tw 1 = 9007199254740988 := rfl
  have t2 : tw 2 = 9007199254740988 := rfl
  have t3 : tw 3 = 9007199254740988 := rfl
  have t4 : tw 4 = 9007199254740988 := rfl
  have e : subN [a0, a1, a2, a3, a4] [b0, b1, b2, b3, b4] 5 = [a0 + (9007199254740916 - b0), a1 + (9007199254740988 - b1), a2 + (9007199254740988 - b2), a3 + (9007199254740988 - b3), a4 + (9007199254740988 - b4)] := by
    simp only [subN, List.set_cons_zero, List.set_cons_succ, List.getD_cons_zero, List.getD_cons_succ, t0, t1, t2, t3, t4]
    rw [Nat.mod_eq_of_lt (by omega), Nat.mod_eq_of_lt (by omega), Nat.mod_eq_of_lt (by omega), Nat.mod_eq_of_lt (by omega), Nat.mod_eq_of_lt (by omega)]
  rw [e]
  obtain ⟨h1, h2⟩ := carL_ev (l := [a0 + (9007199254740916 - b0), a1 + (9007199254740988 - b1), a2 + (9007199254740988 - b2), a3 + (9007199254740988 - b3), a4 + (9007199254740988 - b4)]) rfl fun i => by
    match i with
    | 0 => show a0 + (9007199254740916 - b0) < _; omega
    | 1 => show a1 + (9007199254740988 - b1) < _; omega
    | 2 => show a2 + (9007199254740988 - b2) < _; omega
    | 3 => show a3 + (9007199254740988 - b3) < _; omega
    | 4 => show a4 + (9007199254740988 - b4) < _; omega
    | i + 5 => show 0 < _; omega
  refine k _ h1 (h2.trans ?_)
  rw [← v3]
  exact ev_sub (by omega) (by omega) (by omega) (by omega) (by omega)
theorem prod_le {x y : Nat} (hx : x < 4503599627370496) (hy : y < 4503599627370496) : x * y ≤ 20282409603651670423947251286016 := by
  have := Nat.mul_le_mul (Nat.le_of_lt hx) (Nat.le_of_lt hy)
  omega
theorem prod19_le {x y : Nat} (hx : x < 4503599627370496) (hy : y < 4503599627370496) : x * (y * 19) ≤ 385365782469381738054997774434304 := by
  have := prod_le hx hy
  rw [← Nat.mul_assoc]
  omega
theorem carW5 (w0 w1 w2 w3 w4 : Nat) : ∃ s1 s2 s3 s4, s1 = w1 + w0 / 2251799813685248 ∧ s2 = w2 + s1 / 2251799813685248 ∧ s3 = w3 + s2 / 2251799813685248 ∧ s4 = w4 + s3 / 2251799813685248 ∧
    carW [w0, w1, w2, w3, w4] 5 = ([w0 % 2251799813685248, s1 % 2251799813685248, s2 % 2251799813685248, s3 % 2251799813685248, s4 % 2251799813685248], s4 / 2251799813685248) := by
  refine ⟨_, _, _, _, rfl, rfl, rfl, rfl, ?_⟩
  simp only [carW, List.set_cons_zero, List.set_cons_succ, List.getD_cons_zero, List.getD_cons_succ, Nat.add_zero]
theorem T_Mul {a b : List Nat} (la : Lim a) (lb : Lim b) (k : ∀ r, Lim r → evL r = evL a * evL b → K (.agg (nv .u64 r).toArray) h) : Cn P n_field_Elem_Mul #[.agg (nv .u64 a).toArray, .agg (nv .u64 b).toArray] h K := by
  have aL := la.2
  have bL := lb.2
  obtain ⟨a0, a1, a2, a3, a4, rfl, ha0, ha1, ha2, ha3, ha4⟩ := la.form
  obtain ⟨b0, b1, b2, b3, b4, rfl, hb0, hb1, hb2, hb3, hb4⟩ := lb.form
  have W := mulOut_eq a0 a1 a2 a3 a4 b0 b1 b2 b3 b4
  have p00 := prod_le ha0 hb0
  have p01 := prod_le ha0 hb1
  have p02 := prod_le ha0 hb2
  have p03 := prod_le ha0 hb3
  have p04 := prod_le ha0 hb4
  have p10 := prod_le ha1 hb0
  have p11 := prod_le ha1 hb1
  have p12 := prod_le ha1 hb2
  have p13 := prod_le ha1 hb3
  have p20 := prod_le ha2 hb0
  have p21 := prod_le ha2 hb1
  have p22 := prod_le ha2 hb2
  have p30 := prod_le ha3 hb0
  have p31 := prod_le ha3 hb1
  have p40 := prod_le ha4 hb0
  have q14 := prod19_le ha1 hb4
  have q23 := prod19_le ha2 hb3
  have q32 := prod19_le ha3 hb2
  have q41 := prod19_le ha4 hb1
  have q24 := prod19_le ha2 hb4
  have q33 := prod19_le ha3 hb3
  have q42 := prod19_le ha4 hb2
  have q34 := prod19_le ha3 hb4
  have q43 := prod19_le ha4 hb3
  have q44 := prod19_le ha4 hb4
  have B0 : 0 + a0*b0 + a1*(b4*19) + a2*(b3*19) + a3*(b2*19) + a4*(b1*19) < 2596148429267413814265248164610048 := by omega
  have B1 : 0 + a0*b1 + a1*b0 + a2*(b4*19) + a3*(b3*19) + a4*(b2*19) < 2596148429267413814265248164610048 := by omega
  have B2 : 0 + a0*b2 + a1*b1 + a2*b0 + a3*(b4*19) + a4*(b3*19) < 2596148429267413814265248164610048 := by omega
  have B3 : 0 + a0*b3 + a1*b2 + a2*b1 + a3*b0 + a4*(b4*19) < 649037107316853453566312041152512 := by omega
  have B4 : 0 + a0*b4 + a1*b3 + a2*b2 + a3*b1 + a4*b0 ≤ 101412048018258352119736256430080 := by omega
  have eV : ev5 (0 + a0*b0 + a1*(b4*19) + a2*(b3*19) + a3*(b2*19) + a4*(b1*19)) (0 + a0*b1 + a1*b0 + a2*(b4*19) + a3*(b3*19) + a4*(b2*19)) (0 + a0*b2 + a1*b1 + a2*b0 + a3*(b4*19) + a4*(b3*19)) (0 + a0*b3 + a1*b2 + a2*b1 + a3*b0 + a4*(b4*19)) (0 + a0*b4 + a1*b3 + a2*b2 + a3*b1 + a4*b0) = ev5 a0 a1 a2 a3 a4 * ev5 b0 b1 b2 b3 b4 := by
    rw [← ev_mul]
    have f : ∀ x y : Nat, x * (y * 19) = 19 * (x * y) := fun x y => by rw [← Nat.mul_assoc, Nat.mul_comm]
    simp only [f, Nat.zero_add]
  generalize 0 + a0*b0 + a1*(b4*19) + a2*(b3*19) + a3*(b2*19) + a4*(b1*19) = w0 at *
  generalize 0 + a0*b1 + a1*b0 + a2*(b4*19) + a3*(b3*19) + a4*(b2*19) = w1 at *
  generalize 0 + a0*b2 + a1*b1 + a2*b0 + a3*(b4*19) + a4*(b3*19) = w2 at *
  generalize 0 + a0*b3 + a1*b2 + a2*b1 + a3*b0 + a4*(b4*19) = w3 at *
  generalize 0 + a0*b4 + a1*b3 + a2*b2 + a3*b1 + a4*b0 = w4 at *
  clear p00 p01 p02 p03 p04 p10 p11 p12 p13 p20 p21 p22 p30 p31 p40 q14 q23 q32 q41 q24 q33 q42 q34 q43 q44 ha0 ha1 ha2 ha3 ha4 hb0 hb1 hb2 hb3 hb4
  obtain ⟨s1, s2, s3, s4, h1, h2, h3, h4, hC⟩ := carW5 w0 w1 w2 w3 w4
  have b1' : s1 < 2596148429267413814265248164610048 + 1152921504606846976 := by omega
  have b2' : s2 < 2596148429267413814265248164610048 + 1152921504606849000 := by omega
  have b3' : s3 < 649037107316853453566312041152512 + 1152921504606849000 := by omega
  have b4' : s4 < 101412048018258352119736256430080 + 288230376151713000 := by omega
  refine T_fmul _ _ la.1 lb.1 aL bL (by
    rw [W]
    intro i
    match i with
    | 0 => show w0 < _; omega
    | 1 => show w1 < _; omega
    | 2 => show w2 < _; omega
    | 3 => show w3 < _; omega
    | 4 => show w4 < _; omega
    | i + 5 => show 0 < _; omega) (by rw [W, hC]; show s4 / 2251799813685248 < _; omega) ?_
  rw [W, mulEnd, hC]
  simp only [List.set_cons_zero, List.set_cons_succ, List.getD_cons_zero, List.getD_cons_succ]
  have hs4 : s4 / 2251799813685248 < 45035996273706000 := by omega
  obtain ⟨r1, r2⟩ := carL_ev (l := [(19 * (s4 / 2251799813685248) + w0 % 2251799813685248) % 2251799813685248, s1 % 2251799813685248 + (19 * (s4 / 2251799813685248) + w0 % 2251799813685248) / 2251799813685248, s2 % 2251799813685248, s3 % 2251799813685248, s4 % 2251799813685248]) rfl fun i => by
    match i with
    | 0 => show _ % _ < _; omega
    | 1 => show _ + _ < _; omega
    | 2 => show _ % _ < _; omega
    | 3 => show _ % _ < _; omega
    | 4 => show _ % _ < _; omega
    | i + 5 => show 0 < _; omega
  refine k _ r1 (r2.trans ?_)
  show ev5 _ _ _ _ _ = ev5 a0 a1 a2 a3 a4 * ev5 b0 b1 b2 b3 b4
  rw [← eV]
  show ev5 ((19 * (s4 / 2251799813685248) + w0 % 2251799813685248) % 2251799813685248) (s1 % 2251799813685248 + (19 * (s4 / 2251799813685248) + w0 % 2251799813685248) / 2251799813685248) (s2 % 2251799813685248) (s3 % 2251799813685248) (s4 % 2251799813685248) = _
  rw [ev_up]
  exact ev_car0 h1 h2 h3 h4
end
end Go.Proofs.Ytoikhbagchfeoaa
set_option linter.unusedSimpArgs false
set_option linter.unusedVariables false
set_option maxRecDepth 100000
set_option maxHeartbeats 4000000
namespace Go.Proofs.Ytoikhbagchfeoaa
open Go Go.SL Go.Pure Go.Curve
/-- A value that is a residue's limbs. -/
def VE (v : Value) (x : F) : Prop := ∃ l, v = .agg (nv .u64 l).toArray ∧ Lim l ∧ evL l = x
/-- A residue's limbs in a place of their own. -/
def EA (h : Hp) (r : Nat) (x : F) : Prop := ∃ l, h r = some (.row t_field_Elem (nv .u64 l) 5 (some (0, 0))) ∧ Lim l ∧ evL l = x
theorem EA.ext {h h' : Hp} {r : Nat} {x : F} (a : EA h r x) (e : Hp.ext h h') : EA h' r x := by
  obtain ⟨l, h1, h2, h3⟩ := a
  exact ⟨l, e _ _ h1, h2, h3⟩
/-- It is read: the same value as long as the place is the same. -/
theorem EA.ld {h : Hp} {r : Nat} {x : F} (a : EA h r x) : ∃ v, VE v x ∧ ∀ h' : Hp, h' r = h r → (peek P h' (Instr.loadAt t_field_Elem (.pointer (some ⟨r, 0, none⟩))) = some v ∧ ∀ K : Value → Prop, q P h' (Instr.loadAt t_field_Elem (.pointer (some ⟨r, 0, none⟩))) K = K v) := by
  obtain ⟨l, h1, h2, h3⟩ := a
  refine ⟨_, ⟨l, rfl, h2, h3⟩, fun h' e => ?_⟩
  have k : ∀ K : Value → Prop, q P h' (Instr.loadAt t_field_Elem (.pointer (some ⟨r, 0, none⟩))) K = K (.agg (nv .u64 l).toArray) := fun K => q_ldRow u_field_Elem rfl (by rw [nv_len, h2.1]; exact sz_elem) (by rw [e]; exact h1)
  exact ⟨pk_q k, k⟩
section
variable {h : Hp} {K : Value → Hp → Prop}
theorem V_Add {v w : Value} {x y : F} (a : VE v x) (b : VE w y) (k : ∀ r, VE r (x + y) → K r h) : Cn P n_field_Elem_Add #[v, w] h K := by
  obtain ⟨l, rfl, a1, rfl⟩ := a
  obtain ⟨m, rfl, b1, rfl⟩ := b
  exact T_Add a1 b1 fun r h1 h2 => k _ ⟨r, rfl, h1, h2⟩
theorem V_Sub {v w : Value} {x y : F} (a : VE v x) (b : VE w y) (k : ∀ r, VE r (x - y) → K r h) : Cn P n_field_Elem_Sub #[v, w] h K := by
  obtain ⟨l, rfl, a1, rfl⟩ := a
  obtain ⟨m, rfl, b1, rfl⟩ := b
  exact T_Sub a1 b1 fun r h1 h2 => k _ ⟨r, rfl, h1, h2⟩
theorem V_Mul {v w : Value} {x y : F} (a : VE v x) (b : VE w y) (k : ∀ r, VE r (x * y) → K r h) : Cn P n_field_Elem_Mul #[v, w] h K := by
  obtain ⟨l, rfl, a1, rfl⟩ := a
  obtain ⟨m, rfl, b1, rfl⟩ := b
  exact T_Mul a1 b1 fun r h1 h2 => k _ ⟨r, rfl, h1, h2⟩
/-- What was boxed. -/
theorem aw_boxV {H : Hp} {v : Value} {x : F} {F' : Value → Hp → Prop} (a : VE v x) (e : Hp.ext h H) (k : ∀ r H', h r = none → H r = none → Hp.ext h H' → Hp.ext H H' → EA H' r x → (∀ b, b ≠ r → H' b = H b) → F' (.pointer (some ⟨r, 0, none⟩)) H') :
    aw P (Instr.box t_field_Elem v) F' H := by
  obtain ⟨l, rfl, a1, rfl⟩ := a
  exact aw_boxE a1.1 e fun r H' n m x1 x2 e1 f => k r H' n m x1 x2 ⟨l, e1, a1, rfl⟩ f
/-- A value is put into a place of its own. -/
theorem aw_putV {H : Hp} {r : Nat} {Z : List Nat} {v : Value} {x : F} {F' : Unit → Hp → Prop} (a : VE v x) (e : H r = some (.row t_field_Elem (nv .u64 Z) 5 (some (0, 0)))) (lZ : Z.length = 5) (k : ∀ H', EA H' r x → (∀ b, b ≠ r → H' b = H b) → F' () H') :
    aw P (Instr.storeAt t_field_Elem (.pointer (some ⟨r, 0, none⟩)) v) F' H := by
  obtain ⟨l, rfl, a1, rfl⟩ := a
  refine aw_storeRow (by rw [nv_len, a1.1]; exact sz_elem) e (by rw [nv_len, nv_len, a1.1, lZ]) (nv_flat _ _) (fun i _ => by simp) ?_
  exact k _ ⟨l, Hp.set_same .., a1, rfl⟩ fun b hb => Hp.set_ne _ _ hb
theorem ext_of {h H H' : Hp} {r : Nat} (x : Hp.ext h H) (n : h r = none) (f : ∀ b, b ≠ r → H' b = H b) : Hp.ext h H' := fun b o e => by
  have hb : b ≠ r := by rintro rfl; rw [n] at e; cases e
  rw [f b hb]; exact x b o e
/-- A value is handed back. -/
theorem ret_V {H : Hp} {r2 : Nat} {Z : List Nat} {v : Value} {x : F} {F' : Value → Hp → Prop} (a : VE v x) (e : H r2 = some (.row t_field_Elem (nv .u64 Z) 5 (some (0, 0)))) (lZ : Z.length = 5) (k : ∀ H', (∀ b, b ≠ r2 → H' b = H b) → F' v H') :
    aw P (Instr.storeAt t_field_Elem (.pointer (some ⟨r2, 0, none⟩)) v) (fun _ h => q P h ((asAddr (.pointer (some ⟨r2, 0, none⟩))).bind (loadVar t_field_Elem)) fun r0 => F' r0 h) H := by
  obtain ⟨l, rfl, a1, rfl⟩ := a
  exact ret_val e a1.1 lZ (k _ fun b hb => Hp.set_ne _ _ hb)
theorem q_res {H : Hp} {r : Nat} {x : F} (a : EA H r x) : ∃ v, VE v x ∧ ∀ K : Value → Prop, q P H ((asAddr (.pointer (some ⟨r, 0, none⟩))).bind (loadVar t_field_Elem)) K = K v := by
  obtain ⟨l, h1, h2, h3⟩ := a
  exact ⟨_, ⟨l, rfl, h2, h3⟩, fun K => q_resRow u_field_Elem rfl (by rw [nv_len, h2.1]; exact sz_elem) h1⟩
theorem V_Square {v : Value} {x : F} (a : VE v x) (k : ∀ r, VE r (x * x) → K r h) : Cn P n_field_Elem_Square #[v] h K := by
  refine Cn_wk (F_field_Elem_Square ?_)
  unfold s_field_Elem_Square
  refine aw_boxV a (.refl h) fun r1 H1 n1 m1 x1 y1 e1 f1 => ?_
  refine aw_allocE x1 fun r2 H2 n2 m2 x2 y2 e2 f2 => ?_
  obtain ⟨w, hw, lw⟩ := (e1.ext y2).ld
  rw [(lw H2 rfl).2, (lw H2 rfl).2]
  refine V_Mul hw hw fun r hr => ?_
  exact ret_V hr e2 rfl fun H' f => ⟨h, (ext_of x2 n2 f).le, k _ hr⟩
/-- Squared again and again. -/
def sqF (x : F) : Nat → F
  | 0 => x
  | n + 1 => sqF x n * sqF x n
theorem V_squares {v : Value} {x : F} (n : Nat) (hn : n < 1000) (a : VE v x) (k : ∀ r, VE r (sqF x n) → K r h) : Cn P n_field_Elem_squares #[v, .int .i64 (n : Int)] h K := by
  refine Cn_wk (F_field_Elem_squares ?_)
  unfold s_field_Elem_squares
  refine aw_boxV a (.refl h) fun r1 H1 n1 m1 x1 y1 e1 f1 => ?_
  refine aw_allocE x1 fun r2 H2 n2 m2 x2 y2 e2 f2 => ?_
  have ne : r1 ≠ r2 := by rintro rfl; obtain ⟨l, e, _⟩ := e1; rw [e] at m2; cases m2
  refine Lp_mk (fun m vs H => ∃ i : Nat, i + m = n ∧ Hp.ext h H ∧ EA H r1 (sqF x i) ∧ H r2 = some (.row t_field_Elem (nv .u64 [0, 0, 0, 0, 0]) 5 (some (0, 0))) ∧ vs = [.int .i64 (i : Int)]) n
    ⟨0, by omega, x2, e1.ext y2, e2, rfl⟩ ?_
  clear e1 e2 x2 y2 x1 y1 f1 f2 m1 m2
  rintro m vs H ⟨i, hi, x, e1, e2, rfl⟩
  have ed : decide ((i : Int) < (n : Int)) = decide (i < n) := lt_dec i n
  obtain ⟨w, hw, lw⟩ := e1.ld
  simp (disch := omega) only [GL, RL, ed]
  by_cases hlt : i < n
  · simp (disch := omega) only [hlt, decide_true, if_true]
    rw [(lw H rfl).2]
    refine V_Square hw fun r hr => ?_
    obtain ⟨l, e1, l1, _⟩ := id e1
    refine aw_putV hr e1 l1.1 fun H' e f => ?_
    have ei : IntKind.i64.wrap ((i : Int) + 1) = ((i + 1 : Nat) : Int) := by rw [wi64 (by omega) (by omega)]; omega
    simp (disch := omega) only [GL, RL, ei]
    exact ⟨H', .refl _, m - 1, by omega, i + 1, by omega, ext_of x n1 f, e, by rw [f _ (Ne.symm ne)]; exact e2, rfl⟩
  · obtain rfl : i = n := by omega
    simp (disch := omega) only [hlt, decide_false, Bool.false_eq_true, if_false]
    rw [(lw H rfl).2]
    exact ret_V hw e2 rfl fun H' f => ⟨h, (ext_of x n2 f).le, k _ hw⟩
theorem V_Times {v : Value} {x : F} (n : Nat) (hn : n < 4294967296) (a : VE v x) (k : ∀ r, VE r (x * ph n) → K r h) : Cn P n_field_Elem_Times #[v, .int .u32 (n : Int)] h K := by
  refine Cn_wk (F_field_Elem_Times ?_)
  unfold s_field_Elem_Times
  refine aw_boxV a (.refl h) fun r1 H1 n1 m1 x1 y1 e1 f1 => ?_
  refine aw_allocE x1 fun r2 H2 n2 m2 x2 y2 e2 f2 => ?_
  obtain ⟨w, hw, lw⟩ := (e1.ext y2).ld
  have cv : IntKind.u64.wrap (n : Int) = (n : Int) := wu64i (by omega) (by omega)
  have b1 : ∀ {K : Value → Prop}, q P H2 (Instr.build t_5_uint64 #[(0, .int .u64 (n : Int))]) K = K (.agg (nv .u64 [n, 0, 0, 0, 0]).toArray) := fun {K} => q_of (by kernel_rfl) K
  have b2 : ∀ {K : Value → Prop}, q P H2 (Instr.build t_field_Elem #[(0, .agg (nv .u64 [n, 0, 0, 0, 0]).toArray)]) K = K (.agg (nv .u64 [n, 0, 0, 0, 0]).toArray) := fun {K} => q_of (by kernel_rfl) K
  rw [(lw H2 rfl).2]
  simp (disch := omega) only [GL, RL, cv]
  rw [b1, b2]
  have hv : VE (.agg (nv .u64 [n, 0, 0, 0, 0]).toArray) (ph n) := ⟨_, rfl, lim5 (by omega) (by omega) (by omega) (by omega) (by omega), by
    show ev5 n 0 0 0 0 = ph n
    rw [ev_num]
    unfold num5
    rfl⟩
  refine V_Mul hw hv fun r hr => ?_
  exact ret_V hr e2 rfl fun H' f => ⟨h, (ext_of x2 n2 f).le, k _ hr⟩
/-! ### The inverse -/
/-- A part of the way: squared n times, and times another one. -/
theorem inv_reg {H : Hp} {ra rb n : Nat} {x y : F} (hn : n < 1000) {F' : Value → Hp → Prop} (eH : Hp.ext h H) (a : EA H ra x) (b : EA H rb y) (k : ∀ r H', H r = none → Hp.ext H H' → EA H' r (sqF x n * y) → F' (.pointer (some ⟨r, 0, none⟩)) H') :
    q P H (Instr.loadAt t_field_Elem (.pointer (some ⟨ra, 0, none⟩))) fun t16 => q P H (Instr.loadAt t_field_Elem (.pointer (some ⟨rb, 0, none⟩))) fun t18 =>
    (Cn P n_field_Elem_squares #[t16, (Value.int .i64 (n : Int))] H fun t17 h => peek P h (Instr.loadAt t_field_Elem (.pointer (some ⟨rb, 0, none⟩))) = some t18 ∧ (Cn P n_field_Elem_Mul #[t17, t18] h fun t19 h => aw P (Instr.alloc t_field_Elem true (.tuple #[])) (fun t4 h => aw P (Instr.storeAt t_field_Elem t4 t19) (fun _ h => F' t4 h) h) h) ∧ (aw P (Instr.alloc t_field_Elem true (.tuple #[])) (fun t4 h => peek P h (Instr.loadAt t_field_Elem (.pointer (some ⟨rb, 0, none⟩))) = some t18 ∧ Cn P n_field_Elem_Mul #[t17, t18] h fun t19 h => aw P (Instr.storeAt t_field_Elem t4 t19) (fun _ h => F' t4 h) h) h)) ∧
    (aw P (Instr.alloc t_field_Elem true (.tuple #[])) (fun t4 h => peek P h (Instr.loadAt t_field_Elem (.pointer (some ⟨rb, 0, none⟩))) = some t18 ∧ peek P h (Instr.loadAt t_field_Elem (.pointer (some ⟨ra, 0, none⟩))) = some t16 ∧ Cn P n_field_Elem_squares #[t16, (Value.int .i64 (n : Int))] h fun t17 h => peek P h (Instr.loadAt t_field_Elem (.pointer (some ⟨rb, 0, none⟩))) = some t18 ∧ Cn P n_field_Elem_Mul #[t17, t18] h fun t19 h => aw P (Instr.storeAt t_field_Elem t4 t19) (fun _ h => F' t4 h) h) H) := by
  obtain ⟨v, hv, lv⟩ := a.ld
  obtain ⟨w, hw, lw⟩ := b.ld
  rw [(lv H rfl).2, (lw H rfl).2]
  have na : ∀ {r : Nat}, H r = none → r ≠ ra ∧ r ≠ rb := fun {r} e => by
    obtain ⟨_, a1, _⟩ := a
    obtain ⟨_, b1, _⟩ := b
    exact ⟨(by rintro rfl; rw [e] at a1; cases a1), (by rintro rfl; rw [e] at b1; cases b1)⟩
  refine ⟨V_squares n hn hv fun s hs => ⟨(lw H rfl).1, V_Mul hs hw fun t ht => aw_allocE (.refl H) fun r H' _ m x1 _ e f => aw_putV ht e rfl fun H2 e2 f2 => k r H2 m (ext_of x1 m f2) e2,
    aw_allocE (.refl H) fun r H' _ m x1 _ e f => ⟨(lw H' (f _ (Ne.symm (na m).2))).1, V_Mul hs hw fun t ht => aw_putV ht e rfl fun H2 e2 f2 => k r H2 m (ext_of x1 m f2) e2⟩⟩,
    aw_allocE (.refl H) fun r H' _ m x1 _ e f => ⟨(lw H' (f _ (Ne.symm (na m).2))).1, (lv H' (f _ (Ne.symm (na m).1))).1, V_squares n hn hv fun s hs => ⟨(lw H' (f _ (Ne.symm (na m).2))).1, V_Mul hs hw fun t ht => aw_putV ht e rfl fun H2 e2 f2 => k r H2 m (ext_of x1 m f2) e2⟩⟩⟩
/-- The same, squared once. -/
theorem inv_reg1 {H : Hp} {ra rb : Nat} {x y : F} {F' : Value → Hp → Prop} (a : EA H ra x) (b : EA H rb y) (k : ∀ r H', H r = none → Hp.ext H H' → EA H' r (sqF x 1 * y) → F' (.pointer (some ⟨r, 0, none⟩)) H') :
    q P H (Instr.loadAt t_field_Elem (.pointer (some ⟨ra, 0, none⟩))) fun t16 => q P H (Instr.loadAt t_field_Elem (.pointer (some ⟨rb, 0, none⟩))) fun t18 =>
    (Cn P n_field_Elem_Square #[t16] H fun t17 h => peek P h (Instr.loadAt t_field_Elem (.pointer (some ⟨rb, 0, none⟩))) = some t18 ∧ (Cn P n_field_Elem_Mul #[t17, t18] h fun t19 h => aw P (Instr.alloc t_field_Elem true (.tuple #[])) (fun t4 h => aw P (Instr.storeAt t_field_Elem t4 t19) (fun _ h => F' t4 h) h) h) ∧ (aw P (Instr.alloc t_field_Elem true (.tuple #[])) (fun t4 h => peek P h (Instr.loadAt t_field_Elem (.pointer (some ⟨rb, 0, none⟩))) = some t18 ∧ Cn P n_field_Elem_Mul #[t17, t18] h fun t19 h => aw P (Instr.storeAt t_field_Elem t4 t19) (fun _ h => F' t4 h) h) h)) ∧
    (aw P (Instr.alloc t_field_Elem true (.tuple #[])) (fun t4 h => peek P h (Instr.loadAt t_field_Elem (.pointer (some ⟨rb, 0, none⟩))) = some t18 ∧ peek P h (Instr.loadAt t_field_Elem (.pointer (some ⟨ra, 0, none⟩))) = some t16 ∧ Cn P n_field_Elem_Square #[t16] h fun t17 h => peek P h (Instr.loadAt t_field_Elem (.pointer (some ⟨rb, 0, none⟩))) = some t18 ∧ Cn P n_field_Elem_Mul #[t17, t18] h fun t19 h => aw P (Instr.storeAt t_field_Elem t4 t19) (fun _ h => F' t4 h) h) H) := by
  obtain ⟨v, hv, lv⟩ := a.ld
  obtain ⟨w, hw, lw⟩ := b.ld
  rw [(lv H rfl).2, (lw H rfl).2]
  have na : ∀ {r : Nat}, H r = none → r ≠ ra ∧ r ≠ rb := fun {r} e => by
    obtain ⟨_, a1, _⟩ := a
    obtain ⟨_, b1, _⟩ := b
    exact ⟨(by rintro rfl; rw [e] at a1; cases a1), (by rintro rfl; rw [e] at b1; cases b1)⟩
  refine ⟨V_Square hv fun s hs => ⟨(lw H rfl).1, V_Mul hs hw fun t ht => aw_allocE (.refl H) fun r H' _ m x1 _ e f => aw_putV ht e rfl fun H2 e2 f2 => k r H2 m (ext_of x1 m f2) e2,
    aw_allocE (.refl H) fun r H' _ m x1 _ e f => ⟨(lw H' (f _ (Ne.symm (na m).2))).1, V_Mul hs hw fun t ht => aw_putV ht e rfl fun H2 e2 f2 => k r H2 m (ext_of x1 m f2) e2⟩⟩,
    aw_allocE (.refl H) fun r H' _ m x1 _ e f => ⟨(lw H' (f _ (Ne.symm (na m).2))).1, (lv H' (f _ (Ne.symm (na m).1))).1, V_Square hv fun s hs => ⟨(lw H' (f _ (Ne.symm (na m).2))).1, V_Mul hs hw fun t ht => aw_putV ht e rfl fun H2 e2 f2 => k r H2 m (ext_of x1 m f2) e2⟩⟩⟩
theorem sq_pow {Q : Nat → F} (hQ : ∀ a b, Q a * Q b = Q (a + b)) (a : Nat) : ∀ n, sqF (Q a) n = Q (a * 2 ^ n)
  | 0 => by rw [sqF, Nat.pow_zero, Nat.mul_one]
  | n + 1 => by
    rw [sqF, sq_pow hQ a n, hQ, Nat.pow_succ, ← Nat.mul_assoc, Nat.mul_two]
theorem sq_mul {Q : Nat → F} (hQ : ∀ a b, Q a * Q b = Q (a + b)) (a n b c : Nat) (h : a * 2 ^ n + b = c) : sqF (Q a) n * Q b = Q c := by rw [sq_pow hQ, hQ, h]
theorem V_Invert0 {Q : Nat → F} (hQ : ∀ a b, Q a * Q b = Q (a + b)) {v : Value} (a : VE v (Q 1)) (k : ∀ r, VE r (Q (pp - 2)) → K r h) : Cn P n_field_Elem_Invert #[v] h K := by
  refine Cn_wk (F_field_Elem_Invert ?_)
  unfold s_field_Elem_Invert
  refine aw_boxV a (.refl h) fun r1 H1 n1 m1 x1 y1 e1 f1 => ?_
  refine aw_allocE x1 fun r2 H2 n2 m2 x2 y2 e2 f2 => ?_
  replace e1 := e1.ext y2
  unfold s_field_Elem_Invert_1
  obtain ⟨w, hw, lw⟩ := e1.ld
  rw [(lw H2 rfl).2]
  refine V_Square hw fun t ht => ?_
  rw [hQ] at ht
  refine aw_allocE (.refl H2) fun r3 H3' _ m3 x3 _ e3' f3 => aw_putV ht e3' rfl fun H3 e3 f3' => ?_
  have y3 : Hp.ext H2 H3 := ext_of x3 m3 f3'
  clear x3 e3' f3 f3' lw hw ht f1 f2 y2 y1 m1 m2 m3
  replace e1 := e1.ext y3
  replace e2 := y3 _ _ e2
  replace x2 := x2.trans y3
  unfold s_field_Elem_Invert_2
  refine inv_reg (n := 2) (by omega) (.refl H3) e3 e1 fun r4 H4 _ y4 e4 => ?_
  rw [sq_mul hQ 2 2 1 9 (by decide)] at e4
  replace e3 := e3.ext y4
  replace e2 := y4 _ _ e2
  replace x2 := x2.trans y4
  clear y4 y3 e1
  unfold s_field_Elem_Invert_3
  obtain ⟨w, hw, lw⟩ := e4.ld
  obtain ⟨u, hu, lu⟩ := e3.ld
  rw [(lw H4 rfl).2, (lu H4 rfl).2]
  refine V_Mul hw hu fun t ht => ?_
  rw [hQ] at ht
  refine aw_allocE (.refl H4) fun r5 H5' _ m5 x5 _ e5' f5 => aw_putV ht e5' rfl fun H5 e5 f5' => ?_
  have y5 : Hp.ext H4 H5 := ext_of x5 m5 f5'
  clear x5 e5' f5 f5' lw hw hu lu ht m5 e3
  replace e4 := e4.ext y5
  replace e2 := y5 _ _ e2
  replace x2 := x2.trans y5
  clear y5
  unfold s_field_Elem_Invert_4
  refine inv_reg1 e5 e4 fun r6 H6 _ y6 e6 => ?_
  rw [sq_mul hQ (9 + 2) 1 9 31 (by decide)] at e6
  replace e5 := e5.ext y6
  replace e2 := y6 _ _ e2
  replace x2 := x2.trans y6
  clear y6 e4
  unfold s_field_Elem_Invert_5
  refine inv_reg (n := 5) (by omega) (.refl H6) e6 e6 fun r7 H7 _ y7 e7 => ?_
  rw [sq_mul hQ 31 5 31 1023 (by decide)] at e7
  replace e5 := e5.ext y7
  replace e2 := y7 _ _ e2
  replace x2 := x2.trans y7
  clear y7 e6
  unfold s_field_Elem_Invert_6
  refine inv_reg (n := 10) (by omega) (.refl H7) e7 e7 fun r8 H8 _ y8 e8 => ?_
  rw [sq_mul hQ 1023 10 1023 1048575 (by decide)] at e8
  replace e5 := e5.ext y8
  replace e7 := e7.ext y8
  replace e2 := y8 _ _ e2
  replace x2 := x2.trans y8
  clear y8
  unfold s_field_Elem_Invert_7
  refine inv_reg (n := 20) (by omega) (.refl H8) e8 e8 fun r9 H9 _ y9 e9 => ?_
  rw [sq_mul hQ 1048575 20 1048575 1099511627775 (by decide)] at e9
  replace e5 := e5.ext y9
  replace e7 := e7.ext y9
  replace e2 := y9 _ _ e2
  replace x2 := x2.trans y9
  clear y9 e8
  unfold s_field_Elem_Invert_8
  refine inv_reg (n := 10) (by omega) (.refl H9) e9 e7 fun r10 H10 _ y10 e10 => ?_
  rw [sq_mul hQ 1099511627775 10 1023 1125899906842623 (by decide)] at e10
  replace e5 := e5.ext y10
  replace e2 := y10 _ _ e2
  replace x2 := x2.trans y10
  clear y10 e9 e7
  unfold s_field_Elem_Invert_9
  refine inv_reg (n := 50) (by omega) (.refl H10) e10 e10 fun r11 H11 _ y11 e11 => ?_
  rw [sq_mul hQ 1125899906842623 50 1125899906842623 1267650600228229401496703205375 (by decide)] at e11
  replace e5 := e5.ext y11
  replace e10 := e10.ext y11
  replace e2 := y11 _ _ e2
  replace x2 := x2.trans y11
  clear y11
  unfold s_field_Elem_Invert_10
  refine inv_reg (n := 100) (by omega) (.refl H11) e11 e11 fun r12 H12 _ y12 e12 => ?_
  rw [sq_mul hQ 1267650600228229401496703205375 100 1267650600228229401496703205375 1606938044258990275541962092341162602522202993782792835301375 (by decide)] at e12
  replace e5 := e5.ext y12
  replace e10 := e10.ext y12
  replace e2 := y12 _ _ e2
  replace x2 := x2.trans y12
  clear y12 e11
  unfold s_field_Elem_Invert_11
  refine inv_reg (n := 50) (by omega) (.refl H12) e12 e10 fun r13 H13 _ y13 e13 => ?_
  rw [sq_mul hQ 1606938044258990275541962092341162602522202993782792835301375 50 1125899906842623 1809251394333065553493296640760748560207343510400633813116524750123642650623 (by decide)] at e13
  replace e5 := e5.ext y13
  replace e2 := y13 _ _ e2
  replace x2 := x2.trans y13
  clear y13 e12 e10
  unfold s_field_Elem_Invert_12
  obtain ⟨w, hw, lw⟩ := e13.ld
  obtain ⟨u, hu, lu⟩ := e5.ld
  rw [(lw H13 rfl).2, (lu H13 rfl).2]
  refine V_squares 5 (by omega) hw fun t ht => ⟨(lu H13 rfl).1, V_Mul ht hu fun t ht => ?_⟩
  rw [sq_mul hQ 1809251394333065553493296640760748560207343510400633813116524750123642650623 5 (9 + 2) (pp - 2) (by decide)] at ht
  refine aw_putV ht e2 rfl fun H14 e14 f14 => ?_
  unfold s_field_Elem_Invert_13
  obtain ⟨r, hr, lr⟩ := q_res e14
  rw [lr]
  exact ⟨h, (ext_of x2 n2 f14).le, k _ hr⟩
theorem V_Invert {v : Value} {x : F} (a : VE v x) (k : ∀ r, VE r (invP x) → K r h) : Cn P n_field_Elem_Invert #[v] h K := by
  refine V_Invert0 (Q := fun n => ph (x.val ^ n)) (fun a b => by show ph _ * ph _ = ph _; rw [← ph_mul, ← Nat.pow_add]) (by
    show VE v (ph (x.val ^ 1))
    rw [Nat.pow_one, ph_self]; exact a) fun r hr => k r ?_
  have e : invP x = ph (x.val ^ (pp - 2)) := Fin.ext (inv_val x)
  rw [e]
  exact hr
end
end Go.Proofs.Ytoikhbagchfeoaa
set_option linter.unusedSimpArgs false
set_option linter.unusedVariables false
set_option maxRecDepth 100000
set_option maxHeartbeats 4000000
namespace Go.Proofs.Ytoikhbagchfeoaa
open Go Go.SL Go.Pure Go.Curve
/-- The first limbs of one, the others of another one. -/
def swN (a b : List Nat) (i : Nat) : List Nat := b.take i ++ a.drop i
theorem swN_len {a b : List Nat} (la : a.length = 5) (lb : b.length = 5) {i : Nat} (hi : i ≤ 5) : (swN a b i).length = 5 := by
  rw [swN, List.length_append, List.length_take, List.length_drop, la, lb]; omega
theorem swN_get {a b : List Nat} (la : a.length = 5) (lb : b.length = 5) {i : Nat} (hi : i < 5) : (swN a b i).getD i 0 = a.getD i 0 := by
  obtain ⟨a0, a1, a2, a3, a4, rfl⟩ := len5 la
  obtain ⟨b0, b1, b2, b3, b4, rfl⟩ := len5 lb
  match i with
  | 0 => rfl
  | 1 => rfl
  | 2 => rfl
  | 3 => rfl
  | 4 => rfl
theorem swN_set {a b : List Nat} (la : a.length = 5) (lb : b.length = 5) {i : Nat} (hi : i < 5) : (swN a b i).set i (b.getD i 0) = swN a b (i + 1) := by
  obtain ⟨a0, a1, a2, a3, a4, rfl⟩ := len5 la
  obtain ⟨b0, b1, b2, b3, b4, rfl⟩ := len5 lb
  match i with
  | 0 => rfl
  | 1 => rfl
  | 2 => rfl
  | 3 => rfl
  | 4 => rfl
theorem swN_0 (a b : List Nat) : swN a b 0 = a := by simp [swN]
theorem swN_5 {a b : List Nat} (la : a.length = 5) (lb : b.length = 5) : swN a b 5 = b := by
  rw [swN, List.take_of_length_le (by omega), List.drop_of_length_le (by omega), List.append_nil]
theorem xorN {a b : Nat} (ha : a < 18446744073709551616) (hb : b < 18446744073709551616) : ixor .u64 (a : Int) (b : Int) = ((a ^^^ b : Nat) : Int) := by
  rw [xor64 (by omega) (by omega) (by omega) (by omega), Int.toNat_natCast, Int.toNat_natCast]
theorem xor_lt64 {a b : Nat} (ha : a < 18446744073709551616) (hb : b < 18446744073709551616) : a ^^^ b < 18446744073709551616 := Nat.xor_lt_two_pow (n := 64) ha hb
theorem and_all {x : Nat} (hx : x < 18446744073709551616) : iand .u64 (18446744073709551615 : Int) (x : Int) = (x : Int) := by
  rw [and64 (by omega) (by omega) (by omega) (by omega), Int.toNat_natCast]
  have := Nat.and_two_pow_sub_one_eq_mod x 64
  simp only [Nat.reducePow, Nat.add_one_sub_one, Nat.reduceSub] at this
  show ((18446744073709551615 &&& x : Nat) : Int) = _
  rw [Nat.and_comm, this, Nat.mod_eq_of_lt hx]
theorem and_none {x : Nat} (hx : x < 18446744073709551616) : iand .u64 (0 : Int) (x : Int) = ((0 : Nat) : Int) := by
  rw [and64 (by omega) (by omega) (by omega) (by omega), Int.toNat_natCast]
  show ((0 &&& x : Nat) : Int) = _
  rw [Nat.zero_and]
section
variable {h : Hp} {K : Value → Hp → Prop}
theorem V_Swap {v w : Value} {x y : F} (bit : Bool) (a : VE v x) (b : VE w y) (k : ∀ r s, VE r (if bit then y else x) → VE s (if bit then x else y) → K (.tuple #[r, s]) h) : Cn P n_field_Swap #[.int .u64 (if bit then 1 else 0), v, w] h K := by
  refine Cn_wk (F_field_Swap ?_)
  unfold s_field_Swap
  obtain ⟨l, rfl, a1, rfl⟩ := a
  obtain ⟨m, rfl, b1, rfl⟩ := b
  refine aw_boxE a1.1 (.refl h) fun r1 H1 n1 m1 x1 y1 e1 f1 => ?_
  refine aw_boxE b1.1 x1 fun r2 H2 n2 m2 x2 y2 e2 f2 => ?_
  refine aw_allocE x2 fun r3 H3 n3 m3 x3 y3 e3 f3 => ?_
  refine aw_allocE x3 fun r4 H4 n4 m4 x4 y4 e4 f4 => ?_
  have ne12 : r1 ≠ r2 := by rintro rfl; rw [e1] at m2; cases m2
  have e1b := y2 _ _ e1
  have ne13 : r1 ≠ r3 := by rintro rfl; rw [e1b] at m3; cases m3
  have ne23 : r2 ≠ r3 := by rintro rfl; rw [e2] at m3; cases m3
  have e1c := y3 _ _ e1b
  have e2c := y3 _ _ e2
  have ne14 : r1 ≠ r4 := by rintro rfl; rw [e1c] at m4; cases m4
  have ne24 : r2 ≠ r4 := by rintro rfl; rw [e2c] at m4; cases m4
  have ne34 : r3 ≠ r4 := by rintro rfl; rw [e3] at m4; cases m4
  have e1d := y4 _ _ e1c
  have e2d := y4 _ _ e2c
  have e3d := y4 _ _ e3
  clear e1 e2 e3 e1b e1c e2c m1 m2 m3 m4 f1 f2 f3 f4 y1 y2 y3 y4 x1 x2 x3
  have l64 : ∀ i, l.getD i 0 < 18446744073709551616 := fun i => Nat.lt_trans (a1.2 i) (by decide)
  have m64 : ∀ i, m.getD i 0 < 18446744073709551616 := fun i => Nat.lt_trans (b1.2 i) (by decide)
  have al1 : ∀ {H : Hp} {K : Value → Prop}, q P H (binOp .and t_uint64 (.int .u64 (if bit then 1 else 0)) (.int .u64 1)) K = K (.int .u64 (if bit then 1 else 0)) := fun {H K} => by
    cases bit <;> exact q_of (by kernel_rfl) _
  have al2 : ∀ {H : Hp} {K : Value → Prop}, q P H (Op.unary .neg (.int .u64 (if bit then 1 else 0))) K = K (.int .u64 (if bit then 18446744073709551615 else 0)) := fun {H K} => by
    cases bit <;> exact q_of (by kernel_rfl) _
  rw [al1, al2]
  refine Lp_mk (fun mm vs H => ∃ i : Nat, i + mm = 5 ∧ Hp.ext h H ∧ H r1 = some (.row t_field_Elem (nv .u64 (swN l (if bit then m else l) i)) 5 (some (0, 0))) ∧ H r2 = some (.row t_field_Elem (nv .u64 (swN m (if bit then l else m) i)) 5 (some (0, 0))) ∧ H r3 = some (.row t_field_Elem (nv .u64 [0, 0, 0, 0, 0]) 5 (some (0, 0))) ∧ H r4 = some (.row t_field_Elem (nv .u64 [0, 0, 0, 0, 0]) 5 (some (0, 0))) ∧ vs = [.int .i64 (i : Int)]) 5
    ⟨0, rfl, x4, by rw [swN_0]; exact e1d, by rw [swN_0]; exact e2d, e3d, e4, rfl⟩ ?_
  clear e1d e2d e3d e4 x4
  rintro mm vs H ⟨i, hi, x, e1, e2, e3, e4, rfl⟩
  have lA : (if bit then m else l).length = 5 := by split <;> first | exact b1.1 | exact a1.1
  have lB : (if bit then l else m).length = 5 := by split <;> first | exact b1.1 | exact a1.1
  have L1 := swN_len a1.1 lA (i := i) (by omega)
  have L2 := swN_len b1.1 lB (i := i) (by omega)
  simp (disch := omega) only [GL, RL, lt_dec5]
  by_cases hlt : i < 5
  · have c1 := cellN (i := i) e1 (by omega)
    have c2 := cellN (i := i) e2 (by omega)
    rw [swN_get a1.1 lA hlt] at c1
    rw [swN_get b1.1 lB hlt] at c2
    have hx := xor_lt64 (l64 i) (m64 i)
    have ei : IntKind.i64.wrap ((i : Int) + 1) = ((i + 1 : Nat) : Int) := by rw [wi64 (by omega) (by omega)]; omega
    simp (disch := omega) only [hlt, decide_true, if_true, GL, RL, fe0, c1, c2, xorN (l64 i) (m64 i)]
    have ha : iand .u64 (if bit then 18446744073709551615 else 0) ((l.getD i 0 ^^^ m.getD i 0 : Nat) : Int) = ((if bit then l.getD i 0 ^^^ m.getD i 0 else 0 : Nat) : Int) := by
      cases bit
      · exact and_none hx
      · exact and_all hx
    have hz : (if bit then l.getD i 0 ^^^ m.getD i 0 else 0) < 18446744073709551616 := by
      split
      · exact hx
      · decide
    rw [ha, xorN (l64 i) hz]
    have q1 : l.getD i 0 ^^^ (if bit then l.getD i 0 ^^^ m.getD i 0 else 0) = (if bit then m else l).getD i 0 := by
      cases bit
      · show l.getD i 0 ^^^ 0 = _; rw [Nat.xor_zero]; rfl
      · show l.getD i 0 ^^^ (l.getD i 0 ^^^ m.getD i 0) = m.getD i 0; rw [← Nat.xor_assoc, Nat.xor_self, Nat.zero_xor]
    have q2 : m.getD i 0 ^^^ (if bit then l.getD i 0 ^^^ m.getD i 0 else 0) = (if bit then l else m).getD i 0 := by
      cases bit
      · show m.getD i 0 ^^^ 0 = _; rw [Nat.xor_zero]; rfl
      · show m.getD i 0 ^^^ (l.getD i 0 ^^^ m.getD i 0) = l.getD i 0; rw [Nat.xor_comm (l.getD i 0), ← Nat.xor_assoc, Nat.xor_self, Nat.zero_xor]
    rw [q1]
    refine storeN z_uint64 e1 (by omega) (by simp) ?_
    have c2' : (H.set r1 (.row t_field_Elem (nv .u64 ((swN l (if bit then m else l) i).set i ((if bit then m else l).getD i 0))) 5 (some (0, 0)))).cell ⟨r2, i, none⟩ = some (.int .u64 ((m.getD i 0 : Nat) : Int)) := by
      have e2' : (H.set r1 (.row t_field_Elem (nv .u64 ((swN l (if bit then m else l) i).set i ((if bit then m else l).getD i 0))) 5 (some (0, 0)))) r2 = some (.row t_field_Elem (nv .u64 (swN m (if bit then l else m) i)) 5 (some (0, 0))) := by rw [Hp.set_ne _ _ (Ne.symm ne12)]; exact e2
      have := cellN (i := i) e2' (by omega)
      rwa [swN_get b1.1 lB hlt] at this
    simp (disch := omega) only [GL, RL, fe0, c2', xorN (m64 i) hz, ei]
    rw [q2]
    refine storeN z_uint64 (by rw [Hp.set_ne _ _ (Ne.symm ne12)]; exact e2) (by omega) (by simp) ?_
    refine ⟨_, .refl _, mm - 1, by omega, i + 1, by omega, ext_upd (ext_upd x n1) n2, ?_, ?_, ?_, ?_, rfl⟩
    · rw [Hp.set_ne _ _ ne12, Hp.set_same, swN_set a1.1 lA hlt]
    · rw [Hp.set_same, swN_set b1.1 lB hlt]
    · rw [Hp.set_ne _ _ (Ne.symm ne23), Hp.set_ne _ _ (Ne.symm ne13)]; exact e3
    · rw [Hp.set_ne _ _ (Ne.symm ne24), Hp.set_ne _ _ (Ne.symm ne14)]; exact e4
  · obtain rfl : i = 5 := by omega
    simp (disch := omega) only [hlt, decide_false, Bool.false_eq_true, if_false]
    rw [swN_5 a1.1 lA] at e1
    rw [swN_5 b1.1 lB] at e2
    have E1 : EA H r1 (if bit then evL m else evL l) := ⟨_, e1, by split <;> assumption, by split <;> rfl⟩
    have E2 : EA H r2 (if bit then evL l else evL m) := ⟨_, e2, by split <;> assumption, by split <;> rfl⟩
    obtain ⟨u, hu, lu⟩ := E1.ld
    obtain ⟨t, ht, lt⟩ := E2.ld
    rw [(lu H rfl).2, (lt H rfl).2]
    refine aw_putV hu e3 rfl fun H5 e5 f5 => ⟨(lt H5 (f5 _ ne23)).1, ?_⟩
    refine aw_putV ht (by rw [f5 _ (Ne.symm ne34)]; exact e4) rfl fun H6 e6 f6 => ?_
    obtain ⟨w1, hw1, lw1⟩ := q_res (H := H6) (r := r3) (x := if bit then evL m else evL l) (by
      obtain ⟨z, z1, z2⟩ := e5
      exact ⟨z, by rw [f6 _ ne34]; exact z1, z2⟩)
    obtain ⟨w2, hw2, lw2⟩ := q_res e6
    rw [lw1, lw2]
    exact ⟨h, (ext_of (ext_of x n3 f5) n4 f6).le, k _ _ hw1 hw2⟩
end
end Go.Proofs.Ytoikhbagchfeoaa
set_option linter.unusedSimpArgs false
set_option linter.unusedVariables false
set_option maxRecDepth 100000
set_option maxHeartbeats 4000000
namespace Go.Proofs.Ytoikhbagchfeoaa
open Go Go.SL Go.Pure Go.Curve
/-- Bytes in a room of forty, the highest bit of the 32nd one cut off. -/
def all40 (l : List Nat) : List Nat := l ++ List.replicate (40 - l.length) 0
def msk40 (l : List Nat) : List Nat := (all40 l).set 31 ((all40 l).getD 31 0 % 128)
theorem all40_len {l : List Nat} (h : l.length ≤ 32) : (all40 l).length = 40 := by rw [all40, List.length_append, List.length_replicate]; omega
theorem msk40_len {l : List Nat} (h : l.length ≤ 32) : (msk40 l).length = 40 := by rw [msk40, List.length_set, all40_len h]
theorem all40_bytes {l : List Nat} (h : Bytes l) : Bytes (all40 l) := Bytes.append h fun x hx => by rw [List.eq_of_mem_replicate hx]; decide
theorem msk40_bytes {l : List Nat} (h : Bytes l) : Bytes (msk40 l) := fun x hx => by
  rcases List.mem_or_eq_of_mem_set hx with q | q
  · exact all40_bytes h x q
  · rw [q]; exact Nat.lt_trans (Nat.mod_lt _ (by decide)) (by decide)
theorem leval_zeros : ∀ n, leval (List.replicate n 0) = 0
  | 0 => rfl
  | n + 1 => by rw [List.replicate_succ, leval, leval_zeros n]
theorem leval_msk {l : List Nat} (h : l.length ≤ 32) (hb : Bytes l) : leval (msk40 l) = leval l % 57896044618658097711785492504343953926634992332820282019728792003956564819968 := by
  have lA := all40_len h
  have bA := all40_bytes hb
  have e0 : leval (all40 l) = leval l := by rw [all40, leval_append, leval_zeros, Nat.mul_zero, Nat.add_zero]
  have e1 : all40 l = (all40 l).take 31 ++ (all40 l).getD 31 0 :: (all40 l).drop 32 := by
    rw [List.getD_eq_getElem?_getD, List.getElem?_eq_getElem (by omega)]
    show all40 l = List.take 31 (all40 l) ++ (all40 l)[31] :: List.drop 32 (all40 l)
    rw [List.getElem_cons_drop, List.take_append_drop]
  have e2 : msk40 l = (all40 l).take 31 ++ ((all40 l).getD 31 0 % 128) :: (all40 l).drop 32 := by
    have := List.set_eq_take_append_cons_drop (l := all40 l) (i := 31) (a := (all40 l).getD 31 0 % 128)
    rw [if_pos (by omega)] at this
    exact this
  have d0 : leval ((all40 l).drop 32) = 0 := by
    rw [all40, List.drop_append, List.drop_of_length_le h, List.nil_append, List.drop_replicate, leval_zeros]
  have t0 : leval ((all40 l).take 31) < 452312848583266388373324160190187140051835877600158453279131187530910662656 := by
    have := leval_take_lt (all40 l) bA 31
    simpa using this
  have l31 : ((all40 l).take 31).length = 31 := by rw [List.length_take, lA]; rfl
  have f1 : leval (all40 l) = leval ((all40 l).take 31) + 452312848583266388373324160190187140051835877600158453279131187530910662656 * (all40 l).getD 31 0 := by
    have q : leval (all40 l) = leval ((all40 l).take 31 ++ (all40 l).getD 31 0 :: (all40 l).drop 32) := congrArg leval e1
    rw [leval_append, leval, d0, l31] at q
    simpa using q
  have f2 : leval (msk40 l) = leval ((all40 l).take 31) + 452312848583266388373324160190187140051835877600158453279131187530910662656 * ((all40 l).getD 31 0 % 128) := by
    rw [e2, leval_append, leval, d0, l31]
    simp
  rw [e0] at f1
  rw [f2, f1]
  generalize leval ((all40 l).take 31) = T at *
  generalize (all40 l).getD 31 0 = X at *
  clear f1 f2 e0 e1 e2 d0
  omega
theorem zr_40 : zr P t_40_uint8 = some (.agg (nv .u8 (List.replicate 40 0)).toArray) := by kernel_rfl
theorem sl_40 {h : Hp} {K : Value → Prop} (r : Nat) : q P h (Instr.sliceAt t_40_uint8 (.pointer (some ⟨r, 0, none⟩)) none (some (.int .i64 32)) none) K = K (.slice (some ⟨r, 0, none⟩) 32 40) := q_of (by kernel_rfl) K
theorem and127 {a : Nat} (ha : a < 256) : iand .u8 (a : Int) 127 = ((a % 128 : Nat) : Int) := by
  rw [and8 (by omega) (by omega) (by omega) (by omega), Int.toNat_natCast]
  have := Nat.and_two_pow_sub_one_eq_mod a 7
  simp only [Nat.reducePow, Nat.add_one_sub_one, Nat.reduceSub] at this
  show ((a &&& 127 : Nat) : Int) = _
  rw [this]
theorem rn_arr {H : Hp} {r e cap : Nat} {A : List Nat} {fz : Option (Nat × Nat)} (hg : H r = some (.row e (nv .u8 A) cap fz)) {q : Nat} (hq : q ≤ A.length) : Rn H .u8 (.slice (some ⟨r, q, none⟩) (A.length - q) (A.length - q)) (A.drop q) := by
  refine ⟨by rw [nv_len, List.length_drop]; omega, some ⟨r, q, none⟩, A.length - q, by rw [List.length_drop], by rw [List.length_drop]; omega, .inr ⟨r, q, rfl, fun i x e => ?_⟩⟩
  rw [cell_row hg]
  rw [nv, List.getElem?_map, List.getElem?_drop] at e
  rw [nv, List.getElem?_map]
  exact e
theorem shlN (a n : Nat) (hn : n ≤ 64) : IntKind.u64.wrap ((a : Int) * 2 ^ min ((n : Nat) : Int).toNat IntKind.u64.bits) = ((a * 2 ^ n % 18446744073709551616 : Nat) : Int) := by
  have : min ((n : Nat) : Int).toNat IntKind.u64.bits = n := by simp only [IntKind.bits, Int.toNat_natCast]; omega
  rw [this, mulp, wu64]
theorem shlM (a n : Nat) (hn : n ≤ 64) : IntKind.u64.wrap ((a : Int) * 2 ^ min n IntKind.u64.bits) = ((a * 2 ^ n % 18446744073709551616 : Nat) : Int) := shlN a n hn
theorem shrM (a n : Nat) (hn : n ≤ 64) : ((a : Int).fdiv (2 ^ min n IntKind.u64.bits)) = ((a / 2 ^ n : Nat) : Int) := shr64 a n hn
theorem or64N {a b : Nat} (ha : a < 18446744073709551616) (hb : b < 18446744073709551616) : ior .u64 (a : Int) (b : Int) = ((a ||| b : Nat) : Int) := by
  rw [or64 (by omega) (by omega) (by omega) (by omega), Int.toNat_natCast, Int.toNat_natCast]
theorem or_lt64 {a b : Nat} (ha : a < 18446744073709551616) (hb : b < 18446744073709551616) : a ||| b < 18446744073709551616 := Nat.or_lt_two_pow (n := 64) ha hb
/-- A number's limbs. -/
def limbs (N : Nat) : List Nat := [N % 2251799813685248, N / 2251799813685248 % 2251799813685248, N / 5070602400912917605986812821504 % 2251799813685248, N / 11417981541647679048466287755595961091061972992 % 2251799813685248, N / 25711008708143844408671393477458601640355247900524685364822016 % 2251799813685248]
theorem limbs_lim (N : Nat) : Lim (limbs N) := lim5 (by omega) (by omega) (by omega) (by omega) (by omega)
theorem limbs_ev {N : Nat} (h : N < 57896044618658097711785492504343953926634992332820282019728792003956564819968) : evL (limbs N) = ph N := by
  have d2 : N / 5070602400912917605986812821504 = N / 2251799813685248 / 2251799813685248 := by rw [Nat.div_div_eq_div_mul]
  have d3 : N / 11417981541647679048466287755595961091061972992 = N / 2251799813685248 / 2251799813685248 / 2251799813685248 := by rw [Nat.div_div_eq_div_mul, Nat.div_div_eq_div_mul]
  have d4 : N / 25711008708143844408671393477458601640355247900524685364822016 = N / 2251799813685248 / 2251799813685248 / 2251799813685248 / 2251799813685248 := by rw [Nat.div_div_eq_div_mul, Nat.div_div_eq_div_mul, Nat.div_div_eq_div_mul]
  show ev5 (N % 2251799813685248) (N / 2251799813685248 % 2251799813685248) (N / 5070602400912917605986812821504 % 2251799813685248) (N / 11417981541647679048466287755595961091061972992 % 2251799813685248) (N / 25711008708143844408671393477458601640355247900524685364822016 % 2251799813685248) = _
  rw [ev_num]
  congr 1
  unfold num5
  rw [d2, d3, d4]
  clear d2 d3 d4
  omega
/-- A limb out of eight bytes and one more. -/
theorem limb_of {A : List Nat} (bA : Bytes A) (lA : A.length = 40) {i : Nat} (hi : i < 5) (high : Nat) :
    (leval ((A.drop (51 * i / 8)).take 8) / 2 ^ (51 * i % 8)) % 2251799813685248 = (limbs (leval A)).getD i 0 ∧ (high * 2 ^ (64 - 51 * i % 8) % 18446744073709551616) % 2251799813685248 = 0 := by
  have e : leval ((A.drop (51 * i / 8)).take 8) = leval A / 256 ^ (51 * i / 8) % 18446744073709551616 := by
    rw [leval_take_mod (bA.drop _), leval_drop_div bA (by omega)]
  rw [e]
  generalize leval A = N
  match i with
  | 0 => exact ⟨by show N / 1 % 18446744073709551616 / 1 % 2251799813685248 = N % 2251799813685248; omega, by show high * 18446744073709551616 % 18446744073709551616 % 2251799813685248 = 0; omega⟩
  | 1 => exact ⟨by show N / 281474976710656 % 18446744073709551616 / 8 % 2251799813685248 = N / 2251799813685248 % 2251799813685248; omega, by show high * 2305843009213693952 % 18446744073709551616 % 2251799813685248 = 0; omega⟩
  | 2 => exact ⟨by show N / 79228162514264337593543950336 % 18446744073709551616 / 64 % 2251799813685248 = N / 5070602400912917605986812821504 % 2251799813685248; omega, by show high * 288230376151711744 % 18446744073709551616 % 2251799813685248 = 0; omega⟩
  | 3 => exact ⟨by show N / 5708990770823839524233143877797980545530986496 % 18446744073709551616 / 2 % 2251799813685248 = N / 11417981541647679048466287755595961091061972992 % 2251799813685248; omega, by show high * 9223372036854775808 % 18446744073709551616 % 2251799813685248 = 0; omega⟩
  | 4 => exact ⟨by show N / 1606938044258990275541962092341162602522202993782792835301376 % 18446744073709551616 / 16 % 2251799813685248 = N / 25711008708143844408671393477458601640355247900524685364822016 % 2251799813685248; omega, by show high * 1152921504606846976 % 18446744073709551616 % 2251799813685248 = 0; omega⟩
theorem at_i {i : Nat} (hi : i < 5) : IntKind.i64.wrap (51 * (i : Int)) = ((51 * i : Nat) : Int) ∧ IntKind.i64.wrap (((51 * i : Nat) : Int).tdiv 8) = ((51 * i / 8 : Nat) : Int) ∧ ((51 * i : Nat) : Int).tmod 8 = ((51 * i % 8 : Nat) : Int) ∧ IntKind.i64.wrap (64 - ((51 * i % 8 : Nat) : Int)) = ((64 - 51 * i % 8 : Nat) : Int) ∧ IntKind.i64.wrap (((51 * i / 8 : Nat) : Int) + 8) = ((51 * i / 8 + 8 : Nat) : Int) := by
  match i with
  | 0 => decide
  | 1 => decide
  | 2 => decide
  | 3 => decide
  | 4 => decide
section
variable {h : Hp} {K : Value → Hp → Prop}
theorem V_From {v : Value} {l : List Nat} (rv : Rn h .u8 v l) (hb : Bytes l) (hl : l.length ≤ 32) (k : ∀ r, VE r (ph (leval l % 57896044618658097711785492504343953926634992332820282019728792003956564819968)) → K r h) : Cn P n_field_From #[v] h K := by
  refine Cn_wk (F_field_From ?_)
  unfold s_field_From
  refine aw_allocE (.refl h) fun r2 H2 n2 m2 x2 y2 e2 f2 => ?_
  refine aw_allocL (nv .u8 (List.replicate 40 0)) zr_40 rfl fun r3 m3 => ?_
  have n3 := x2.none m3
  have ne23 : r2 ≠ r3 := by rintro rfl; rw [e2] at m3; cases m3
  have lz : (nv .u8 (List.replicate 40 0)).length = 40 := rfl
  rw [lz]
  have x3 := x2.trans (ext_set (.row t_40_uint8 (nv .u8 (List.replicate 40 0)) 40 (some (0, 0))) m3)
  have e2b : (H2.set r3 (.row t_40_uint8 (nv .u8 (List.replicate 40 0)) 40 (some (0, 0)))) r2 = some (.row t_field_Elem (nv .u64 [0, 0, 0, 0, 0]) 5 (some (0, 0))) := by rw [Hp.set_ne _ _ ne23]; exact e2
  have e3 : (H2.set r3 (.row t_40_uint8 (nv .u8 (List.replicate 40 0)) 40 (some (0, 0)))) r3 = some (.row t_40_uint8 (nv .u8 (List.replicate 40 0)) 40 (some (0, 0))) := Hp.set_same ..
  show q P (H2.set r3 (.row t_40_uint8 (nv .u8 (List.replicate 40 0)) 40 (some (0, 0)))) _ _
  generalize H2.set r3 (.row t_40_uint8 (nv .u8 (List.replicate 40 0)) 40 (some (0, 0))) = H3 at *
  rw [sl_40]
  refine aw_copyMinG u_Sl_uint8 z_uint8 e3 (rv.mono x3.cle) (nv_flat _ _) (by rw [nv_len, List.length_replicate]; omega) (fun i _ => by simp) ?_
  have ep : putL (nv .u8 (List.replicate 40 0)) 0 ((nv .u8 l).take 32) = nv .u8 (all40 l) := by
    rw [nv_take, List.take_of_length_le hl, putL_nv _ _ _ (by rw [List.length_replicate]; omega), List.take_zero, List.nil_append, List.drop_replicate, all40, Nat.zero_add]
  rw [ep]
  have lA := all40_len hl
  have bA := all40_bytes hb
  have e3b : (H3.set r3 (.row t_40_uint8 (nv .u8 (all40 l)) 40 (some (0, 0)))) r3 = some (.row t_40_uint8 (nv .u8 (all40 l)) 40 (some (0, 0))) := Hp.set_same ..
  have c31 := cellN (i := 31) e3b (by omega)
  have i31 : ((31 : Int)).toNat = 31 := rfl
  simp (disch := omega) only [GL, RL, i31, Nat.zero_add, c31, and127 (bA.getD 31)]
  refine storeN z_uint8 e3b (by omega) (by simp) ?_
  have em : (all40 l).set 31 ((all40 l).getD 31 0 % 128) = msk40 l := rfl
  rw [em, Hp.set_set]
  have x3b := ext_upd (o := .row t_40_uint8 (nv .u8 (msk40 l)) 40 (some (0, 0))) x3 n3
  have e2c : (H3.set r3 (.row t_40_uint8 (nv .u8 (msk40 l)) 40 (some (0, 0)))) r2 = some (.row t_field_Elem (nv .u64 [0, 0, 0, 0, 0]) 5 (some (0, 0))) := by rw [Hp.set_ne _ _ ne23]; exact e2b
  have e3c : (H3.set r3 (.row t_40_uint8 (nv .u8 (msk40 l)) 40 (some (0, 0)))) r3 = some (.row t_40_uint8 (nv .u8 (msk40 l)) 40 (some (0, 0))) := Hp.set_same ..
  generalize H3.set r3 (.row t_40_uint8 (nv .u8 (msk40 l)) 40 (some (0, 0))) = H4 at *
  have lM := msk40_len hl
  have bM := msk40_bytes hb
  have vM := leval_msk hl hb
  rw [← vM] at k
  have hN : leval (msk40 l) < 57896044618658097711785492504343953926634992332820282019728792003956564819968 := by rw [vM]; exact Nat.mod_lt _ (by decide)
  clear vM em c31 e3b bA lA ep e3 x3 e2b m3 lz e2 x2 y2 m2 f2
  generalize msk40 l = A at *
  refine aw_allocE x3b fun r4 H5 n4 m4 x4 y4 e4 f4 => ?_
  have ne24 : r2 ≠ r4 := by rintro rfl; rw [e2c] at m4; cases m4
  have ne34 : r3 ≠ r4 := by rintro rfl; rw [e3c] at m4; cases m4
  refine Lp_mk (fun m vs H => ∃ i : Nat, i + m = 5 ∧ Hp.ext h H ∧ H r2 = some (.row t_field_Elem (nv .u64 [0, 0, 0, 0, 0]) 5 (some (0, 0))) ∧ H r3 = some (.row t_40_uint8 (nv .u8 A) 40 (some (0, 0))) ∧ H r4 = some (.row t_field_Elem (nv .u64 (swN [0, 0, 0, 0, 0] (limbs (leval A)) i)) 5 (some (0, 0))) ∧ vs = [.int .i64 (i : Int)]) 5
    ⟨0, rfl, x4, y4 _ _ e2c, y4 _ _ e3c, by rw [swN_0]; exact e4, rfl⟩ ?_
  clear e2c e3c e4 x4 y4 x3b m4 f4
  rintro m vs H ⟨i, hi, x, e2, e3, e4, rfl⟩
  have lL := (limbs_lim (leval A)).1
  have L1 := swN_len (a := [0, 0, 0, 0, 0]) rfl lL (i := i) (by omega)
  simp (disch := omega) only [GL, RL, lt_dec5]
  by_cases hlt : i < 5
  · obtain ⟨a1, a2, a3, a4, a5⟩ := at_i hlt
    have n8 : ((8 : Int) ≠ 0) := by decide
    have hq : 51 * i / 8 ≤ 25 := by omega
    have c9 := cellN (i := 51 * i / 8 + 8) e3 (by omega)
    have g9 := bM.getD (51 * i / 8 + 8)
    have cvh : IntKind.u64.wrap ((A.getD (51 * i / 8 + 8) 0 : Nat) : Int) = ((A.getD (51 * i / 8 + 8) 0 : Nat) : Int) := wu64i (by omega) (by omega)
    simp (disch := first | omega | decide) only [hlt, decide_true, if_true, GL, RL, a1, a2, a5]
    rw [q_slArrLo u_40_uint8 z_uint8 _ _ _ (by omega), if_neg (by omega), add_off, Nat.mul_one, Nat.zero_add]
    simp (disch := first | omega | decide) only [GL, RL, a1, a2, a5, Nat.zero_add, c9, cvh]
    have RA := rn_arr e3 (q := 51 * i / 8) (by omega)
    rw [lM] at RA
    refine T_word_Get64 RA (bM.drop _) ⟨?_, ?_, ?_⟩
    · exact pk_q fun K => by simp (disch := omega) only [RL, GL, cvh]
    · exact pk_q fun K => by simp (disch := omega) only [RL, GL, c9]
    · obtain ⟨b1, b2⟩ := limb_of bM lM hlt (A.getD (51 * i / 8 + 8) 0)
      have hlow : leval ((A.drop (51 * i / 8)).take 8) < 18446744073709551616 := by
        have := leval_take_lt (A.drop (51 * i / 8)) (bM.drop _) 8
        simpa using this
      generalize leval ((A.drop (51 * i / 8)).take 8) = low at *
      have hsr : low / 2 ^ (51 * i % 8) < 18446744073709551616 := Nat.lt_of_le_of_lt (Nat.div_le_self _ _) hlow
      have hsl : A.getD (51 * i / 8 + 8) 0 * 2 ^ (64 - 51 * i % 8) % 18446744073709551616 < 18446744073709551616 := Nat.mod_lt _ (by decide)
      have hor := or_lt64 hsr hsl
      have hX : (low / 2 ^ (51 * i % 8) ||| A.getD (51 * i / 8 + 8) 0 * 2 ^ (64 - 51 * i % 8) % 18446744073709551616) % 2251799813685248 = (limbs (leval A)).getD i 0 := by
        rw [← b1, show 2251799813685248 = 2 ^ 51 from rfl, Nat.or_mod_two_pow]
        have b2 : (A.getD (51 * i / 8 + 8) 0 * 2 ^ (64 - 51 * i % 8) % 18446744073709551616) % 2 ^ 51 = 0 := b2
        rw [b2, Nat.or_zero]
      have ei : IntKind.i64.wrap ((i : Int) + 1) = ((i + 1 : Nat) : Int) := by rw [wi64 (by omega) (by omega)]; omega
      simp (disch := first | omega | decide) only [GL, RL, a2, a3, a4, shrM, shlM, or64N hsr hsl, and51 hor, fe0, Nat.zero_add, hX]
      refine storeN z_uint64 e4 (by omega) (by simp) ?_
      rw [swN_set rfl lL hlt]
      have fin : ∃ h0, Hp.le h0 (H.set r4 (.row t_field_Elem (nv .u64 (swN [0, 0, 0, 0, 0] (limbs (leval A)) (i + 1))) 5 (some (0, 0)))) ∧ ∃ m_1, m_1 < m ∧ ∃ i_1 : Nat, i_1 + m_1 = 5 ∧ Hp.ext h h0 ∧ h0 r2 = some (.row t_field_Elem (nv .u64 [0, 0, 0, 0, 0]) 5 (some (0, 0))) ∧ h0 r3 = some (.row t_40_uint8 (nv .u8 A) 40 (some (0, 0))) ∧ h0 r4 = some (.row t_field_Elem (nv .u64 (swN [0, 0, 0, 0, 0] (limbs (leval A)) i_1)) 5 (some (0, 0))) ∧ [Value.int .i64 ((i + 1 : Nat) : Int)] = [.int .i64 (i_1 : Int)] :=
        ⟨_, .refl _, m - 1, by omega, i + 1, by omega, ext_upd x n4, by rw [Hp.set_ne _ _ ne24]; exact e2, by rw [Hp.set_ne _ _ ne34]; exact e3, Hp.set_same .., rfl⟩
      simp (disch := first | omega | decide) only [GL, RL, a3, ei]
      by_cases h0 : 51 * i % 8 = 0
      · have z0 : (((51 * i % 8 : Nat) : Int) == 0) = true := by rw [h0]; rfl
        have hl51 : low % 2251799813685248 = (limbs (leval A)).getD i 0 := by
          rw [← b1, h0, Nat.pow_zero, Nat.div_one]
        simp (disch := first | omega | decide) only [z0, if_true, GL, RL, and51 hlow, hl51, fe0, Nat.zero_add]
        refine storeN z_uint64 (Hp.set_same ..) (by rw [swN_len rfl lL (by omega)]; omega) (by simp) ?_
        have e2 : (swN [0, 0, 0, 0, 0] (limbs (leval A)) (i + 1)).set i ((limbs (leval A)).getD i 0) = swN [0, 0, 0, 0, 0] (limbs (leval A)) (i + 1) := by
          rw [← swN_set rfl lL hlt, List.set_set]
        rw [e2, Hp.set_set]
        exact fin
      · have z0 : (((51 * i % 8 : Nat) : Int) == 0) = false := by rw [beq_eq_false_iff_ne]; omega
        simp (disch := first | omega | decide) only [z0, Bool.false_eq_true, if_false]
        exact fin
  · obtain rfl : i = 5 := by omega
    rw [swN_5 rfl lL] at e4
    simp (disch := omega) only [hlt, decide_false, Bool.false_eq_true, if_false]
    have E4 : EA H r4 (ph (leval A)) := ⟨_, e4, limbs_lim _, limbs_ev hN⟩
    obtain ⟨w, hw, lw⟩ := E4.ld
    rw [(lw H rfl).2]
    exact ret_V hw e2 rfl fun H' f => ⟨h, (ext_of x n2 f).le, k _ hw⟩
end
end Go.Proofs.Ytoikhbagchfeoaa
set_option linter.unusedSimpArgs false
set_option linter.unusedVariables false
set_option maxRecDepth 100000
set_option maxHeartbeats 400000
namespace Go.Proofs.Ytoikhbagchfeoaa
open Go Go.SL Go.Pure Go.Curve
theorem carN5 {a b c d e : Nat} (ha : a < 9223372036854775808) (hb : b < 9223372036854775808) (hc : c < 9223372036854775808) (hd : d < 9223372036854775808) (he : e < 9223372036854775808) :
    ∃ b' c' d' e', b' = b + a / 2251799813685248 ∧ c' = c + b' / 2251799813685248 ∧ d' = d + c' / 2251799813685248 ∧ e' = e + d' / 2251799813685248 ∧
      (carN [a, b, c, d, e] 5).1 = [a % 2251799813685248, b' % 2251799813685248, c' % 2251799813685248, d' % 2251799813685248, e' % 2251799813685248] := by
  refine ⟨_, _, _, _, rfl, rfl, rfl, rfl, ?_⟩
  have n1 : (a + 0) % 18446744073709551616 = a := by omega
  have n2 : (b + a / 2251799813685248) % 18446744073709551616 = b + a / 2251799813685248 := by omega
  have n3 : (c + (b + a / 2251799813685248) / 2251799813685248) % 18446744073709551616 = c + (b + a / 2251799813685248) / 2251799813685248 := by omega
  have n4 : (d + (c + (b + a / 2251799813685248) / 2251799813685248) / 2251799813685248) % 18446744073709551616 = d + (c + (b + a / 2251799813685248) / 2251799813685248) / 2251799813685248 := by omega
  have n5 : (e + (d + (c + (b + a / 2251799813685248) / 2251799813685248) / 2251799813685248) / 2251799813685248) % 18446744073709551616 = e + (d + (c + (b + a / 2251799813685248) / 2251799813685248) / 2251799813685248) / 2251799813685248 := by omega
  have c1 : carN [a, b, c, d, e] 1 = ([a % 2251799813685248, b, c, d, e], a / 2251799813685248) := by
    simp only [carN, List.set_cons_zero, List.getD_cons_zero, n1]
  have c2 : carN [a, b, c, d, e] 2 = ([a % 2251799813685248, (b + a / 2251799813685248) % 2251799813685248, c, d, e], (b + a / 2251799813685248) / 2251799813685248) := by
    rw [carN, c1]
    simp only [List.set_cons_zero, List.set_cons_succ, List.getD_cons_zero, List.getD_cons_succ, n2]
  have c3 : carN [a, b, c, d, e] 3 = ([a % 2251799813685248, (b + a / 2251799813685248) % 2251799813685248, (c + (b + a / 2251799813685248) / 2251799813685248) % 2251799813685248, d, e], (c + (b + a / 2251799813685248) / 2251799813685248) / 2251799813685248) := by
    rw [carN, c2]
    simp only [List.set_cons_zero, List.set_cons_succ, List.getD_cons_zero, List.getD_cons_succ, n3]
  generalize (c + (b + a / 2251799813685248) / 2251799813685248) = C at *
  generalize (b + a / 2251799813685248) = B at *
  have c4 : carN [a, b, c, d, e] 4 = ([a % 2251799813685248, B % 2251799813685248, C % 2251799813685248, (d + C / 2251799813685248) % 2251799813685248, e], (d + C / 2251799813685248) / 2251799813685248) := by
    rw [carN, c3]
    simp only [List.set_cons_zero, List.set_cons_succ, List.getD_cons_zero, List.getD_cons_succ, n4]
  generalize (d + C / 2251799813685248) = D at *
  rw [carN, c4]
  simp only [List.set_cons_zero, List.set_cons_succ, List.getD_cons_zero, List.getD_cons_succ, n5]
/-- Carried thrice: all limbs are below 2^51. -/
theorem car3_lt {l : List Nat} (h : Lim l) : ∀ i, (carL (carL (carL l))).getD i 0 < 2251799813685248 := by
  obtain ⟨a, b, c, d, e, rfl, ha, hb, hc, hd, he⟩ := h.form
  obtain ⟨b1, c1, d1, e1, p1, p2, p3, p4, q1⟩ := carL_eq (a := a) (b := b) (c := c) (d := d) (e := e) (by omega) (by omega) (by omega) (by omega) (by omega)
  rw [q1]
  have A1 : a % 2251799813685248 + 19 * (e1 / 2251799813685248) < 2251799813685248 + 57 := by omega
  have B1 : b1 % 2251799813685248 < 2251799813685248 := Nat.mod_lt _ (by decide)
  have C1 : c1 % 2251799813685248 < 2251799813685248 := Nat.mod_lt _ (by decide)
  have D1 : d1 % 2251799813685248 < 2251799813685248 := Nat.mod_lt _ (by decide)
  have E1 : e1 % 2251799813685248 < 2251799813685248 := Nat.mod_lt _ (by decide)
  generalize a % 2251799813685248 + 19 * (e1 / 2251799813685248) = a2 at *
  generalize b1 % 2251799813685248 = b2 at *
  generalize c1 % 2251799813685248 = c2 at *
  generalize d1 % 2251799813685248 = d2 at *
  generalize e1 % 2251799813685248 = e2 at *
  clear q1 p1 p2 p3 p4 ha hb hc hd he h
  obtain ⟨b3, c3, d3, e3, p1, p2, p3, p4, q1⟩ := carL_eq (a := a2) (b := b2) (c := c2) (d := d2) (e := e2) (by omega) (by omega) (by omega) (by omega) (by omega)
  rw [q1]
  have A2 : a2 % 2251799813685248 + 19 * (e3 / 2251799813685248) < 2251799813685248 := by omega
  have B2 : b3 % 2251799813685248 < 2251799813685248 := Nat.mod_lt _ (by decide)
  have C2 : c3 % 2251799813685248 < 2251799813685248 := Nat.mod_lt _ (by decide)
  have D2 : d3 % 2251799813685248 < 2251799813685248 := Nat.mod_lt _ (by decide)
  have E2 : e3 % 2251799813685248 < 2251799813685248 := Nat.mod_lt _ (by decide)
  generalize a2 % 2251799813685248 + 19 * (e3 / 2251799813685248) = a4 at *
  generalize b3 % 2251799813685248 = b4 at *
  generalize c3 % 2251799813685248 = c4 at *
  generalize d3 % 2251799813685248 = d4 at *
  generalize e3 % 2251799813685248 = e4 at *
  clear q1 p1 p2 p3 p4 A1 B1 C1 D1 E1
  obtain ⟨b5, c5, d5, e5, p1, p2, p3, p4, q1⟩ := carL_eq (a := a4) (b := b4) (c := c4) (d := d4) (e := e4) (by omega) (by omega) (by omega) (by omega) (by omega)
  rw [q1]
  intro i
  match i with
  | 0 => show a4 % 2251799813685248 + 19 * (e5 / 2251799813685248) < _; omega
  | 1 => show b5 % 2251799813685248 < _; omega
  | 2 => show c5 % 2251799813685248 < _; omega
  | 3 => show d5 % 2251799813685248 < _; omega
  | 4 => show e5 % 2251799813685248 < _; omega
  | i + 5 => show 0 < _; omega
/-- Is a number of such limbs at least the prime? -/
def qL (a : List Nat) : Nat → Nat
  | 0 => (a.getD 0 0 + 19) / 2251799813685248
  | j + 1 => (a.getD (j + 1) 0 + qL a j) / 2251799813685248
theorem qL_succ (a : List Nat) (j : Nat) : qL a (j + 1) = (a.getD (j + 1) 0 + qL a j) / 2251799813685248 := rfl
theorem qL_le {a : List Nat} (h : ∀ i, a.getD i 0 < 2251799813685248) : ∀ j, qL a j ≤ 1
  | 0 => by have := h 0; rw [qL]; omega
  | j + 1 => by have := h (j + 1); have := qL_le h j; rw [qL]; omega
theorem limbs_num {a b c d e : Nat} (ha : a < 2251799813685248) (hb : b < 2251799813685248) (hc : c < 2251799813685248) (hd : d < 2251799813685248) (he : e < 2251799813685248) : limbs (num5 a b c d e) = [a, b, c, d, e] := by
  have d2 : ∀ N : Nat, N / 5070602400912917605986812821504 = N / 2251799813685248 / 2251799813685248 := fun N => by rw [Nat.div_div_eq_div_mul]
  have d3 : ∀ N : Nat, N / 11417981541647679048466287755595961091061972992 = N / 2251799813685248 / 2251799813685248 / 2251799813685248 := fun N => by rw [Nat.div_div_eq_div_mul, Nat.div_div_eq_div_mul]
  have d4 : ∀ N : Nat, N / 25711008708143844408671393477458601640355247900524685364822016 = N / 2251799813685248 / 2251799813685248 / 2251799813685248 / 2251799813685248 := fun N => by rw [Nat.div_div_eq_div_mul, Nat.div_div_eq_div_mul, Nat.div_div_eq_div_mul]
  unfold limbs
  rw [d2, d3, d4]
  clear d2 d3 d4
  unfold num5
  have e1 : (a + 2251799813685248 * (b + 2251799813685248 * (c + 2251799813685248 * (d + 2251799813685248 * e)))) / 2251799813685248 = b + 2251799813685248 * (c + 2251799813685248 * (d + 2251799813685248 * e)) := by omega
  have e2 : (b + 2251799813685248 * (c + 2251799813685248 * (d + 2251799813685248 * e))) / 2251799813685248 = c + 2251799813685248 * (d + 2251799813685248 * e) := by omega
  have e3 : (c + 2251799813685248 * (d + 2251799813685248 * e)) / 2251799813685248 = d + 2251799813685248 * e := by omega
  have e4 : (d + 2251799813685248 * e) / 2251799813685248 = e := by omega
  rw [e1, e2, e3, e4]
  congr 1
  · omega
  · congr 1
    · omega
    · congr 1
      · omega
      · congr 1
        · omega
        · congr 1
          omega
theorem red_eq {a : List Nat} (la : a.length = 5) (h : ∀ i, a.getD i 0 < 2251799813685248) : (carN (a.set 0 (a.getD 0 0 + 19 * qL a 4)) 5).1 = limbs (evL a).val := by
  have hq := qL_le h 4
  obtain ⟨a0, a1, a2, a3, a4, rfl⟩ := len5 la
  have h0 : a0 < 2251799813685248 := h 0
  have h1 : a1 < 2251799813685248 := h 1
  have h2 : a2 < 2251799813685248 := h 2
  have h3 : a3 < 2251799813685248 := h 3
  have h4 : a4 < 2251799813685248 := h 4
  have s0 : qL [a0, a1, a2, a3, a4] 0 = (a0 + 19) / 2251799813685248 := by simp only [qL, List.getD_cons_zero]
  have s1 : qL [a0, a1, a2, a3, a4] 1 = (a1 + qL [a0, a1, a2, a3, a4] 0) / 2251799813685248 := (qL_succ _ 0).trans (by simp only [List.getD_cons_zero, List.getD_cons_succ])
  have s2 : qL [a0, a1, a2, a3, a4] 2 = (a2 + qL [a0, a1, a2, a3, a4] 1) / 2251799813685248 := (qL_succ _ 1).trans (by simp only [List.getD_cons_zero, List.getD_cons_succ])
  have s3 : qL [a0, a1, a2, a3, a4] 3 = (a3 + qL [a0, a1, a2, a3, a4] 2) / 2251799813685248 := (qL_succ _ 2).trans (by simp only [List.getD_cons_zero, List.getD_cons_succ])
  have s4 : qL [a0, a1, a2, a3, a4] 4 = (a4 + qL [a0, a1, a2, a3, a4] 3) / 2251799813685248 := (qL_succ _ 3).trans (by simp only [List.getD_cons_zero, List.getD_cons_succ])
  simp only [List.set_cons_zero, List.getD_cons_zero, evL, List.getD_cons_succ]
  generalize qL [a0, a1, a2, a3, a4] 4 = q4 at *
  generalize qL [a0, a1, a2, a3, a4] 3 = q3 at *
  generalize qL [a0, a1, a2, a3, a4] 2 = q2 at *
  generalize qL [a0, a1, a2, a3, a4] 1 = q1 at *
  generalize qL [a0, a1, a2, a3, a4] 0 = q0 at *
  obtain ⟨b1, c1, d1, e1, p1, p2, p3, p4, r⟩ := carN5 (a := a0 + 19 * q4) (b := a1) (c := a2) (d := a3) (e := a4) (by omega) (by omega) (by omega) (by omega) (by omega)
  rw [r, ev_num, ph_val]
  have R := reduce5 h0 h1 h2 h3 h4 s0 s1 s2 s3 s4 p1 p2 p3 p4
  rw [← R, limbs_num (Nat.mod_lt _ (by decide)) (Nat.mod_lt _ (by decide)) (Nat.mod_lt _ (by decide)) (Nat.mod_lt _ (by decide)) (Nat.mod_lt _ (by decide))]
section
variable {h : Hp} {K : Value → Hp → Prop}
theorem V_reduced {v : Value} {x : F} (a : VE v x) (k : K (.agg (nv .u64 (limbs x.val)).toArray) h) : Cn P n_field_Elem_reduced #[v] h K := by
  refine Cn_wk (F_field_Elem_reduced ?_)
  unfold s_field_Elem_reduced
  refine aw_boxV a (.refl h) fun r1 H1 n1 m1 x1 y1 e1 f1 => ?_
  refine aw_allocE x1 fun r2 H2 n2 m2 x2 y2 e2 f2 => ?_
  have ne : r1 ≠ r2 := by rintro rfl; obtain ⟨l, e, _⟩ := e1; rw [e] at m2; cases m2
  obtain ⟨l, e1, l1, v1⟩ := e1.ext y2
  clear y2 y1 f1 f2 m1 m2 x1
  rw [q_ldRow u_field_Elem rfl (by rw [nv_len, l1.1]; exact sz_elem) e1]
  obtain ⟨g1, w1⟩ := carL_ev l1.1 fun i => Nat.lt_trans (l1.2 i) (by decide)
  obtain ⟨g2, w2⟩ := carL_ev g1.1 fun i => Nat.lt_trans (g1.2 i) (by decide)
  obtain ⟨g3, w3⟩ := carL_ev g2.1 fun i => Nat.lt_trans (g2.2 i) (by decide)
  refine T_carried l l1.1 ?_
  refine T_carried (carL l) g1.1 ?_
  refine T_carried (carL (carL l)) g2.1 ?_
  have lt := car3_lt l1
  have ev := w3.trans (w2.trans (w1.trans v1))
  clear w1 w2 w3 v1
  have lg := g3.1
  clear g1 g2 g3
  generalize carL (carL (carL l)) = A at *
  refine aw_storeRow (by rw [nv_len, lg]; exact sz_elem) e1 (by rw [nv_len, nv_len, l1.1, lg]) (nv_flat _ _) (fun i _ => by simp) ?_
  have x3 := ext_upd (o := .row t_field_Elem (nv .u64 A) 5 (some (0, 0))) x2 n1
  have e1b : (H2.set r1 (.row t_field_Elem (nv .u64 A) 5 (some (0, 0)))) r1 = some (.row t_field_Elem (nv .u64 A) 5 (some (0, 0))) := Hp.set_same ..
  have e2b : (H2.set r1 (.row t_field_Elem (nv .u64 A) 5 (some (0, 0)))) r2 = some (.row t_field_Elem (nv .u64 [0, 0, 0, 0, 0]) 5 (some (0, 0))) := by rw [Hp.set_ne _ _ (Ne.symm ne)]; exact e2
  generalize H2.set r1 (.row t_field_Elem (nv .u64 A) 5 (some (0, 0))) = H3 at *
  have lt0 := lt 0
  have c0 := cellN (i := 0) e1b (by omega)
  have q00 : qL A 0 = (A.getD 0 0 + 19) / 2251799813685248 := by rw [qL]
  have i0 : ((0 : Int)).toNat = 0 := rfl
  have a19 : IntKind.u64.wrap (((A.getD 0 0 : Nat) : Int) + 19) = ((A.getD 0 0 + 19 : Nat) : Int) := by
    have := add64 (A.getD 0 0) 19
    rw [Nat.mod_eq_of_lt (by omega)] at this
    exact this
  simp (disch := omega) only [GL, RL, fe0, i0, Nat.add_zero, c0, a19, shr51]
  refine Lp_mk (fun m vs H => ∃ i : Nat, 1 ≤ i ∧ i + m = 5 ∧ H = H3 ∧ vs = [.int .u64 ((qL A (i - 1) : Nat) : Int), .int .i64 (i : Int)]) 4
    ⟨1, Nat.le_refl _, rfl, rfl, by rw [show (1 - 1) = 0 from rfl, q00]; rfl⟩ ?_
  rintro m vs H ⟨i, hi1, hi, rfl, rfl⟩
  simp (disch := omega) only [GL, RL, lt_dec5]
  by_cases hlt : i < 5
  · have ci := cellN (i := i) e1b (by omega)
    have li := lt i
    have ql := qL_le lt (i - 1)
    have ei : IntKind.i64.wrap ((i : Int) + 1) = ((i + 1 : Nat) : Int) := by rw [wi64 (by omega) (by omega)]; omega
    simp (disch := omega) only [hlt, decide_true, if_true, GL, RL, fe0, ci, add64, shr51, ei]
    refine ⟨_, .refl _, m - 1, by omega, i + 1, by omega, by omega, rfl, ?_⟩
    have : qL A (i + 1 - 1) = (A.getD i 0 + qL A (i - 1)) % 18446744073709551616 / 2251799813685248 := by
      obtain ⟨j, rfl⟩ : ∃ j, i = j + 1 := ⟨i - 1, by omega⟩
      rw [show j + 1 + 1 - 1 = j + 1 from rfl, show j + 1 - 1 = j from rfl, qL_succ, Nat.mod_eq_of_lt (by rw [show j + 1 - 1 = j from rfl] at ql; omega)]
    rw [this]
  · obtain rfl : i = 5 := by omega
    have ql := qL_le lt 4
    have m19 : IntKind.u64.wrap (19 * ((qL A 4 : Nat) : Int)) = ((19 * qL A 4 : Nat) : Int) := by
      have := mul64 19 (qL A 4)
      rw [Nat.mod_eq_of_lt (by omega)] at this
      exact this
    have i4 : 5 - 1 = 4 := rfl
    simp (disch := omega) only [hlt, decide_false, Bool.false_eq_true, if_false, GL, RL, fe0, i0, i4, Nat.add_zero, c0, m19, add64]
    rw [Nat.mod_eq_of_lt (by omega)]
    refine storeN z_uint64 e1b (by omega) (by simp) ?_
    have lS : (A.set 0 (A.getD 0 0 + 19 * qL A 4)).length = 5 := by rw [List.length_set, lg]
    have R := red_eq lg lt
    rw [ev] at R
    generalize A.set 0 (A.getD 0 0 + 19 * qL A 4) = S at *
    refine Lp_mk (fun m vs H' => ∃ i : Nat, i + m = 5 ∧ Hp.ext h H' ∧ H' r1 = some (.row t_field_Elem (nv .u64 (carN S i).1) 5 (some (0, 0))) ∧ H' r2 = some (.row t_field_Elem (nv .u64 [0, 0, 0, 0, 0]) 5 (some (0, 0))) ∧ vs = [.int .u64 (((carN S i).2 : Nat) : Int), .int .i64 (i : Int)]) 5
      ⟨0, rfl, ext_upd x3 n1, Hp.set_same .., by rw [Hp.set_ne _ _ (Ne.symm ne)]; exact e2b, rfl⟩ ?_
    clear e1b e2b x3 c0
    rintro m vs H' ⟨i, hi, x, e1, e2, rfl⟩
    have lC : (carN S i).1.length = 5 := by rw [carN_len, lS]
    simp (disch := omega) only [GL, RL, lt_dec5]
    by_cases hlt : i < 5
    · have c1 := cellN (i := i) e1 (by omega)
      simp (disch := omega) only [GL, RL, fe0, hlt, decide_true, if_true, c1, add64]
      refine storeN z_uint64 e1 (by omega) (by simp) ?_
      generalize hX : ((carN S i).1.getD i 0 + (carN S i).2) % 18446744073709551616 = X
      have hXl : X < 18446744073709551616 := by rw [← hX]; exact Nat.mod_lt _ (by decide)
      have e1b : (H'.set r1 (.row t_field_Elem (nv .u64 ((carN S i).1.set i X)) 5 (some (0, 0)))) r1 = _ := Hp.set_same ..
      have c2 := cellN (i := i) e1b (by rw [List.length_set]; omega)
      rw [getD_set (by omega)] at c2
      have ei : IntKind.i64.wrap ((i : Int) + 1) = ((i + 1 : Nat) : Int) := by rw [wi64 (by omega) (by omega)]; omega
      simp (disch := omega) only [GL, RL, fe0, c2, shr51, and51 hXl, ei]
      refine storeN z_uint64 e1b (by rw [List.length_set]; omega) (by simp) ?_
      rw [Hp.set_set, List.set_set]
      refine ⟨_, .refl _, m - 1, by omega, i + 1, by omega, ext_upd x n1, ?_, ?_, ?_⟩
      · rw [Hp.set_same, carN, hX]
      · rw [Hp.set_ne _ _ (Ne.symm ne)]; exact e2
      · rw [carN, hX]
    · obtain rfl : i = 5 := by omega
      simp (disch := omega) only [hlt, decide_false, Bool.false_eq_true, if_false]
      refine ret_elem e1 e2 lC rfl ?_
      rw [R]
      exact ⟨h, (ext_upd x n2).le, k⟩
end
end Go.Proofs.Ytoikhbagchfeoaa
set_option linter.unusedSimpArgs false
set_option linter.unusedVariables false
set_option maxRecDepth 100000
set_option maxHeartbeats 1000000
namespace Go.Proofs.Ytoikhbagchfeoaa
open Go Go.SL Go.Pure Go.Curve
/-- Words out of limbs. -/
def wN (L : List Nat) : Nat → List Nat
  | 0 => [0, 0, 0, 0]
  | i + 1 => if 13 < 51 * i % 64 ∧ 51 * i / 64 + 1 < 4 then ((wN L i).set (51 * i / 64) ((wN L i).getD (51 * i / 64) 0 ||| L.getD i 0 * 2 ^ (51 * i % 64) % 18446744073709551616)).set (51 * i / 64 + 1)
      (((wN L i).set (51 * i / 64) ((wN L i).getD (51 * i / 64) 0 ||| L.getD i 0 * 2 ^ (51 * i % 64) % 18446744073709551616)).getD (51 * i / 64 + 1) 0 ||| L.getD i 0 / 2 ^ (64 - 51 * i % 64))
    else (wN L i).set (51 * i / 64) ((wN L i).getD (51 * i / 64) 0 ||| L.getD i 0 * 2 ^ (51 * i % 64) % 18446744073709551616)
theorem wN_len (L : List Nat) : ∀ i, (wN L i).length = 4
  | 0 => rfl
  | i + 1 => by
    rw [wN]
    split
    · rw [List.length_set, List.length_set, wN_len L i]
    · rw [List.length_set, wN_len L i]
theorem wN_lt {L : List Nat} (h : ∀ i, L.getD i 0 < 2251799813685248) : ∀ i j, (wN L i).getD j 0 < 18446744073709551616
  | 0, j => by
    match j with
    | 0 => show 0 < _; decide
    | 1 => show 0 < _; decide
    | 2 => show 0 < _; decide
    | 3 => show 0 < _; decide
    | j + 4 => show 0 < _; decide
  | i + 1, j => by
    have st : ∀ (W : List Nat) (p x : Nat), (∀ j, W.getD j 0 < 18446744073709551616) → x < 18446744073709551616 → ∀ j, (W.set p x).getD j 0 < 18446744073709551616 := fun W p x hW hx j => by
      rw [List.getD_eq_getElem?_getD, List.getElem?_set]
      split
      · split
        · exact hx
        · show 0 < _; decide
      · have := hW j; rwa [List.getD_eq_getElem?_getD] at this
    have h1 := wN_lt h i
    have h2 := st _ (51 * i / 64) _ h1 (or_lt64 (h1 (51 * i / 64)) (Nat.mod_lt (L.getD i 0 * 2 ^ (51 * i % 64)) (by decide)))
    rw [wN]
    split
    · refine st _ _ _ h2 (or_lt64 (h2 _) ?_) j
      have := h i
      exact Nat.lt_of_le_of_lt (Nat.div_le_self _ _) (by omega)
    · exact h2 j
theorem or_sh {a b n : Nat} (h : a < 2 ^ n) : a ||| b * 2 ^ n = a + b * 2 ^ n := or_add a b n h
theorem dw2 (N : Nat) : N / 340282366920938463463374607431768211456 = N / 18446744073709551616 / 18446744073709551616 := by
  have e : 340282366920938463463374607431768211456 = 18446744073709551616 * 18446744073709551616 := by decide
  rw [e, Nat.div_div_eq_div_mul]
theorem dw3 (N : Nat) : N / 6277101735386680763835789423207666416102355444464034512896 = N / 18446744073709551616 / 18446744073709551616 / 18446744073709551616 := by
  have e : 6277101735386680763835789423207666416102355444464034512896 = 18446744073709551616 * 18446744073709551616 * 18446744073709551616 := by decide
  rw [e, Nat.div_div_eq_div_mul, Nat.div_div_eq_div_mul]
theorem wN_5 {a b c d e : Nat} (ha : a < 2251799813685248) (hb : b < 2251799813685248) (hc : c < 2251799813685248) (hd : d < 2251799813685248) (he : e < 2251799813685248) :
    wN [a, b, c, d, e] 5 = [num5 a b c d e % 18446744073709551616, num5 a b c d e / 18446744073709551616 % 18446744073709551616, num5 a b c d e / 340282366920938463463374607431768211456 % 18446744073709551616, num5 a b c d e / 6277101735386680763835789423207666416102355444464034512896 % 18446744073709551616] := by
  have e0 : wN [a, b, c, d, e] 5 = [(0 ||| a * 1 % 18446744073709551616) ||| b * 2251799813685248 % 18446744073709551616, (0 ||| b / 8192) ||| c * 274877906944 % 18446744073709551616, (0 ||| c / 67108864) ||| d * 33554432 % 18446744073709551616, (0 ||| d / 549755813888) ||| e * 4096 % 18446744073709551616] := by
    simp [wN]
  rw [e0, Nat.zero_or, Nat.zero_or, Nat.zero_or, Nat.zero_or, Nat.mul_one]
  have m1 : b * 2251799813685248 % 18446744073709551616 = (b % 8192) * 2 ^ 51 := by rw [show (2 : Nat) ^ 51 = 2251799813685248 from by decide, show (18446744073709551616 : Nat) = 8192 * 2251799813685248 from by decide, Nat.mul_mod_mul_right]
  have m2 : c * 274877906944 % 18446744073709551616 = (c % 67108864) * 2 ^ 38 := by rw [show (2 : Nat) ^ 38 = 274877906944 from by decide, show (18446744073709551616 : Nat) = 67108864 * 274877906944 from by decide, Nat.mul_mod_mul_right]
  have m3 : d * 33554432 % 18446744073709551616 = (d % 549755813888) * 2 ^ 25 := by rw [show (2 : Nat) ^ 25 = 33554432 from by decide, show (18446744073709551616 : Nat) = 549755813888 * 33554432 from by decide, Nat.mul_mod_mul_right]
  have m4 : e * 4096 % 18446744073709551616 = e * 2 ^ 12 := by rw [show (2 : Nat) ^ 12 = 4096 from by decide]; omega
  have m0 : a % 18446744073709551616 = a := by omega
  rw [m0, m1, m2, m3, m4, or_sh (Nat.lt_of_lt_of_eq (m := 2251799813685248) (by omega) (by decide)), or_sh (Nat.lt_of_lt_of_eq (m := 274877906944) (by omega) (by decide)), or_sh (Nat.lt_of_lt_of_eq (m := 33554432) (by omega) (by decide)), or_sh (Nat.lt_of_lt_of_eq (m := 4096) (by omega) (by decide))]
  have p51 : (2 : Nat) ^ 51 = 2251799813685248 := rfl
  have p38 : (2 : Nat) ^ 38 = 274877906944 := rfl
  have p25 : (2 : Nat) ^ 25 = 33554432 := rfl
  have p12 : (2 : Nat) ^ 12 = 4096 := rfl
  rw [p51, p38, p25, p12]
  clear m0 m1 m2 m3 m4 e0 p51 p38 p25 p12
  have e1 : num5 a b c d e = (a + b % 8192 * 2251799813685248) + 18446744073709551616 * ((b / 8192 + c % 67108864 * 274877906944) + 18446744073709551616 * ((c / 67108864 + d % 549755813888 * 33554432) + 18446744073709551616 * (d / 549755813888 + e * 4096))) := by
    unfold num5
    omega
  have d2 := dw2
  have d3 := dw3
  rw [d2, d3, e1]
  have b0 : a + b % 8192 * 2251799813685248 < 18446744073709551616 := by omega
  have b1 : b / 8192 + c % 67108864 * 274877906944 < 18446744073709551616 := by omega
  have b2 : c / 67108864 + d % 549755813888 * 33554432 < 18446744073709551616 := by omega
  have b3 : d / 549755813888 + e * 4096 < 18446744073709551616 := by omega
  generalize a + b % 8192 * 2251799813685248 = w0 at *
  generalize b / 8192 + c % 67108864 * 274877906944 = w1 at *
  generalize c / 67108864 + d % 549755813888 * 33554432 = w2 at *
  generalize d / 549755813888 + e * 4096 = w3 at *
  clear e1 d2 d3
  have q1 : (w0 + 18446744073709551616 * (w1 + 18446744073709551616 * (w2 + 18446744073709551616 * w3))) / 18446744073709551616 = w1 + 18446744073709551616 * (w2 + 18446744073709551616 * w3) := by omega
  have q2 : (w1 + 18446744073709551616 * (w2 + 18446744073709551616 * w3)) / 18446744073709551616 = w2 + 18446744073709551616 * w3 := by omega
  have q3 : (w2 + 18446744073709551616 * w3) / 18446744073709551616 = w3 := by omega
  rw [q1, q2, q3]
  congr 1
  · omega
  · congr 1
    · omega
    · congr 1
      · omega
      · congr 1
        omega
/-- The bytes of words. -/
def wB (W : List Nat) : Nat → List Nat
  | 0 => []
  | i + 1 => wB W i ++ le 8 (W.getD i 0)
theorem wB_len (W : List Nat) : ∀ i, (wB W i).length = 8 * i
  | 0 => rfl
  | i + 1 => by rw [wB, List.length_append, wB_len W i, le_len]; omega
theorem wB_4 (N : Nat) : wB [N % 18446744073709551616, N / 18446744073709551616 % 18446744073709551616, N / 340282366920938463463374607431768211456 % 18446744073709551616, N / 6277101735386680763835789423207666416102355444464034512896 % 18446744073709551616] 4 = le 32 N := by
  have m : ∀ v, le 8 (v % 18446744073709551616) = le 8 v := fun v => le_mod 8 v
  have d2 := dw2 N
  have d3 := dw3 N
  have p8 : (256 : Nat) ^ 8 = 18446744073709551616 := rfl
  simp only [wB, List.getD_cons_zero, List.getD_cons_succ, m, List.nil_append]
  rw [show 32 = 8 + (8 + (8 + 8)) from rfl, le_app 8, le_app 8, le_app 8, p8, d2, d3]
  simp only [List.append_assoc]
theorem limbs_form {N : Nat} (h : N < 57896044618658097711785492504343953926634992332820282019728792003956564819968) : ∃ a b c d e, limbs N = [a, b, c, d, e] ∧ a < 2251799813685248 ∧ b < 2251799813685248 ∧ c < 2251799813685248 ∧ d < 2251799813685248 ∧ e < 2251799813685248 ∧ num5 a b c d e = N := by
  refine ⟨_, _, _, _, _, rfl, Nat.mod_lt _ (by decide), Nat.mod_lt _ (by decide), Nat.mod_lt _ (by decide), Nat.mod_lt _ (by decide), Nat.mod_lt _ (by decide), ?_⟩
  have d2 : N / 5070602400912917605986812821504 = N / 2251799813685248 / 2251799813685248 := by rw [Nat.div_div_eq_div_mul]
  have d3 : N / 11417981541647679048466287755595961091061972992 = N / 2251799813685248 / 2251799813685248 / 2251799813685248 := by rw [Nat.div_div_eq_div_mul, Nat.div_div_eq_div_mul]
  have d4 : N / 25711008708143844408671393477458601640355247900524685364822016 = N / 2251799813685248 / 2251799813685248 / 2251799813685248 / 2251799813685248 := by rw [Nat.div_div_eq_div_mul, Nat.div_div_eq_div_mul, Nat.div_div_eq_div_mul]
  unfold num5
  rw [d2, d3, d4]
  clear d2 d3 d4
  omega
theorem words_eq (x : F) : wB (wN (limbs x.val) 5) 4 = nb x := by
  have hx : x.val < 57896044618658097711785492504343953926634992332820282019728792003956564819968 := by
    have h : x.val < 57896044618658097711785492504343953926634992332820282019728792003956564819949 := x.isLt
    omega
  obtain ⟨a, b, c, d, e, h, ha, hb, hc, hd, he, hN⟩ := limbs_form hx
  rw [h, wN_5 ha hb hc hd he, hN, wB_4]
  rfl
theorem limbs_lt (N : Nat) : ∀ i, (limbs N).getD i 0 < 2251799813685248 := by
  intro i
  match i with
  | 0 => exact Nat.mod_lt _ (by decide)
  | 1 => exact Nat.mod_lt _ (by decide)
  | 2 => exact Nat.mod_lt _ (by decide)
  | 3 => exact Nat.mod_lt _ (by decide)
  | 4 => exact Nat.mod_lt _ (by decide)
  | i + 5 => show 0 < _; decide
theorem at_w {i : Nat} (hi : i < 5) : IntKind.i64.wrap (51 * (i : Int)) = ((51 * i : Nat) : Int) ∧ IntKind.i64.wrap (((51 * i : Nat) : Int).tdiv 64) = ((51 * i / 64 : Nat) : Int) ∧ ((51 * i : Nat) : Int).tmod 64 = ((51 * i % 64 : Nat) : Int) ∧ IntKind.i64.wrap (64 - ((51 * i % 64 : Nat) : Int)) = ((64 - 51 * i % 64 : Nat) : Int) ∧ IntKind.i64.wrap (((51 * i / 64 : Nat) : Int) + 1) = ((51 * i / 64 + 1 : Nat) : Int) := by
  match i with
  | 0 => decide
  | 1 => decide
  | 2 => decide
  | 3 => decide
  | 4 => decide
theorem zr_4w : zr P t_4_uint64 = some (.agg (nv .u64 [0, 0, 0, 0]).toArray) := by kernel_rfl
theorem idx4 {h : Hp} {K : Value → Prop} {W : List Nat} (lW : W.length = 4) {i : Nat} (hi : i < 4) : q P h (Instr.index t_4_uint64 (.agg (nv .u64 W).toArray) (.int .i64 (i : Int))) K = K (.int .u64 ((W.getD i 0 : Nat) : Int)) := by
  obtain ⟨a, b, c, d, rfl⟩ : ∃ a b c d, W = [a, b, c, d] := by
    match W, lW with
    | [a, b, c, d], _ => exact ⟨a, b, c, d, rfl⟩
  match i with
  | 0 => exact q_of (by kernel_rfl) K
  | 1 => exact q_of (by kernel_rfl) K
  | 2 => exact q_of (by kernel_rfl) K
  | 3 => exact q_of (by kernel_rfl) K
section
variable {h : Hp} {K : Value → Hp → Prop}
theorem V_Bytes {v : Value} {x : F} (a : VE v x) (k : ∀ r h', Nn h t_uint8 .u8 r h' (nb x) → K r h') : Cn P n_field_Elem_Bytes #[v] h K := by
  refine Cn_wk (F_field_Elem_Bytes ?_)
  unfold s_field_Elem_Bytes
  refine aw_boxV a (.refl h) fun r1 H1 n1 m1 x1 y1 e1 f1 => ?_
  obtain ⟨w, hw, lw⟩ := e1.ld
  rw [(lw H1 rfl).2]
  refine V_reduced hw ?_
  obtain ⟨l, e1, l1, v1⟩ := e1
  have lL := (limbs_lim x.val).1
  have lt := limbs_lt x.val
  have we := words_eq x
  refine aw_storeRow (by rw [nv_len, lL]; exact sz_elem) e1 (by rw [nv_len, nv_len, l1.1, lL]) (nv_flat _ _) (fun i _ => by simp) ?_
  generalize limbs x.val = L at *
  have x2 := ext_upd (o := .row t_field_Elem (nv .u64 L) 5 (some (0, 0))) x1 n1
  have e1b : (H1.set r1 (.row t_field_Elem (nv .u64 L) 5 (some (0, 0)))) r1 = some (.row t_field_Elem (nv .u64 L) 5 (some (0, 0))) := Hp.set_same ..
  generalize H1.set r1 (.row t_field_Elem (nv .u64 L) 5 (some (0, 0))) = H2 at *
  refine aw_allocL (nv .u64 [0, 0, 0, 0]) zr_4w rfl fun r2 m2 => ?_
  have l4 : (nv .u64 [0, 0, 0, 0]).length = 4 := rfl
  rw [l4]
  have n2 := x2.none m2
  have ne : r1 ≠ r2 := by rintro rfl; rw [e1b] at m2; cases m2
  have e1c : (H2.set r2 (.row t_4_uint64 (nv .u64 [0, 0, 0, 0]) 4 (some (0, 0)))) r1 = some (.row t_field_Elem (nv .u64 L) 5 (some (0, 0))) := by rw [Hp.set_ne _ _ ne]; exact e1b
  rw [fe0, q_ldRow u_5_uint64 rfl (by rw [nv_len, lL]; exact z_5_uint64) e1c]
  refine Lp_mk (fun m vs H => ∃ i : Nat, i + m = 5 ∧ Hp.ext h H ∧ H r2 = some (.row t_4_uint64 (nv .u64 (wN L i)) 4 (some (0, 0))) ∧ vs = [.int .i64 (i : Int)]) 5
    ⟨0, rfl, x2.trans (ext_set _ m2), Hp.set_same .., rfl⟩ ?_
  clear e1c e1b x2 m2 e1 f1 y1 x1 m1 lw hw l1 v1 a
  rintro m vs H ⟨i, hi, x2, e2, rfl⟩
  have lW := wN_len L i
  have tW := wN_lt lt i
  simp -zeta (disch := omega) only [GL, RL, lt_dec5]
  by_cases hlt : i < 5
  · obtain ⟨a1, a2, a3, a4, a5⟩ := at_w hlt
    simp -zeta (disch := omega) only [hlt, decide_true, if_true]
    rw [idx5 lL hlt]
    have hq : 51 * i / 64 < 4 := by omega
    have li := lt i
    have c1 := cellN (i := 51 * i / 64) e2 (by omega)
    have hsl : L.getD i 0 * 2 ^ (51 * i % 64) % 18446744073709551616 < 18446744073709551616 := Nat.mod_lt _ (by decide)
    have ei : IntKind.i64.wrap ((i : Int) + 1) = ((i + 1 : Nat) : Int) := by rw [wi64 (by omega) (by omega)]; omega
    have n64 : ((64 : Int) ≠ 0) := by decide
    simp -zeta (disch := first | omega | decide) only [GL, RL, a1, a2, a3, c1, shlM, or64N (tW (51 * i / 64)) hsl, Nat.zero_add]
    refine storeN z_uint64 e2 (by omega) (by simp) ?_
    intro J
    generalize hW1 : (wN L i).set (51 * i / 64) ((wN L i).getD (51 * i / 64) 0 ||| L.getD i 0 * 2 ^ (51 * i % 64) % 18446744073709551616) = W1
    have lW1 : W1.length = 4 := by rw [← hW1, List.length_set, lW]
    have e3 : (H.set r2 (.row t_4_uint64 (nv .u64 W1) 4 (some (0, 0)))) r2 = some (.row t_4_uint64 (nv .u64 W1) 4 (some (0, 0))) := Hp.set_same ..
    have x3 := ext_upd (o := .row t_4_uint64 (nv .u64 W1) 4 (some (0, 0))) x2 n2
    have step : wN L (i + 1) = if 13 < 51 * i % 64 ∧ 51 * i / 64 + 1 < 4 then W1.set (51 * i / 64 + 1) (W1.getD (51 * i / 64 + 1) 0 ||| L.getD i 0 / 2 ^ (64 - 51 * i % 64)) else W1 := by rw [wN, hW1]
    have tW1 : ∀ j, W1.getD j 0 < 18446744073709551616 := fun j => by
      rw [← hW1, List.getD_eq_getElem?_getD, List.getElem?_set]
      split
      · split
        · exact or_lt64 (tW _) hsl
        · show 0 < _; decide
      · have := tW j; rwa [List.getD_eq_getElem?_getD] at this
    generalize H.set r2 (.row t_4_uint64 (nv .u64 W1) 4 (some (0, 0))) = H3 at *
    have qJ : ∀ b : Bool, b = decide (13 < 51 * i % 64 ∧ 51 * i / 64 + 1 < 4) → J (.bool b) H3 := by
      rintro b rfl
      simp -zeta only [J]
      clear J
      by_cases hc : 13 < 51 * i % 64 ∧ 51 * i / 64 + 1 < 4
      · rw [if_pos hc] at step
        have c2 := cellN (i := 51 * i / 64 + 1) e3 (by omega)
        have hsr : L.getD i 0 / 2 ^ (64 - 51 * i % 64) < 18446744073709551616 := Nat.lt_of_le_of_lt (Nat.div_le_self _ _) (by omega)
        simp -zeta (disch := first | omega | decide) only [hc, and_self, decide_true, if_true, GL, RL, a2, a3, a4, a5, c2, shrM, or64N (tW1 (51 * i / 64 + 1)) hsr, Nat.zero_add]
        refine storeN z_uint64 e3 (by omega) (by simp) ?_
        rw [← step]
        exact ⟨_, .refl _, m - 1, by omega, i + 1, by omega, ext_upd x3 n2, Hp.set_same .., by rw [ei]⟩
      · rw [if_neg hc] at step
        rw [← step] at e3
        simp -zeta (disch := first | omega | decide) only [hc, decide_false, Bool.false_eq_true, if_false, GL, RL]
        exact ⟨_, .refl _, m - 1, by omega, i + 1, by omega, x3, e3, by rw [ei]⟩
    clear_value J
    have g13 : decide ((13 : Int) < ((51 * i % 64 : Nat) : Int)) = decide (13 < 51 * i % 64) := by rw [decide_eq_decide]; omega
    have g4 : decide (((51 * i / 64 + 1 : Nat) : Int) < 4) = decide (51 * i / 64 + 1 < 4) := by rw [decide_eq_decide]; omega
    simp -zeta (disch := first | omega | decide) only [GL, RL, a2, a3, a5, g13, g4]
    by_cases h13 : 13 < 51 * i % 64
    · rw [if_pos (by simp [h13])]
      exact qJ _ (by simp [h13])
    · rw [if_neg (by simp [h13])]
      exact qJ _ (by simp [h13])
  · obtain rfl : i = 5 := by omega
    simp -zeta (disch := omega) only [hlt, decide_false, Bool.false_eq_true, if_false]
    rw [q_ldRow u_4_uint64 rfl (by rw [nv_len, lW]; exact z_4_uint64) e2]
    generalize wN L 5 = W at *
    refine Lp_mk (fun m vs H' => ∃ (i : Nat) (v : Value), i + m = 4 ∧ Nn H t_uint8 .u8 v H' (wB W i) ∧ vs = [v, .int .i64 (i : Int)]) 4
      ⟨0, _, rfl, Nn.nil _ _ _, rfl⟩ ?_
    rintro m vs H' ⟨i, v, hi, nw, rfl⟩
    simp -zeta (disch := omega) only [GL, RL, lt_dec4]
    by_cases hlt : i < 4
    · simp -zeta (disch := omega) only [hlt, decide_true, if_true]
      rw [idx4 lW hlt]
      refine T_word_Put64 _ (tW i) fun r h2 n2' => ?_
      have lw8 := wB_len W i
      refine aw_appendN u_Sl_uint8 u_Sl_uint8 nfo_uint8 rfl (by omega) nw n2' (nv_flat _ _) (by rw [lw8, le_len]; omega) fun v' h3 n3 => ?_
      have ei : IntKind.i64.wrap ((i : Int) + 1) = ((i + 1 : Nat) : Int) := by rw [wi64 (by omega) (by omega)]; omega
      simp -zeta (disch := omega) only [GL, RL, ei]
      refine ⟨_, .refl _, m - 1, by omega, i + 1, v', by omega, ?_, rfl⟩
      show New H t_uint8 1 v' h3 (nv .u8 (wB W (i + 1))) (wB W (i + 1)).length
      rw [wB, nv_app, List.length_append]
      exact n3
    · obtain rfl : i = 4 := by omega
      simp -zeta (disch := omega) only [hlt, decide_false, Bool.false_eq_true, if_false]
      rw [we] at nw
      obtain ⟨h0, l0, nw0⟩ := nw.down x2.le
      exact ⟨h0, l0, k _ _ nw0⟩
end
end Go.Proofs.Ytoikhbagchfeoaa
