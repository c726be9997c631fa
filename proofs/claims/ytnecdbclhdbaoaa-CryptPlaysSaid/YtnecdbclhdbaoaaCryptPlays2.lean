/- cryptPlays_holds cryptPlays proved lifted over: part 2 of its proof; each part's own remarks stand with its declarations. Conditions: each lemma names its own. -/
import Derived.Test.YtnecdbclhdbaoaaCryptPlays1
set_option linter.unusedSimpArgs false
set_option linter.unusedVariables false
set_option linter.unusedSimpArgs false
set_option linter.unusedVariables false
set_option maxRecDepth 100000
namespace Go.Proofs.Ytnecdbclhdbaoaa
open Go Go.SL Go.Pure
theorem T_rot {h : Hp} {K : Value → Hp → Prop} (x n : Nat) (hx : x < 4294967296) (hn : 0 < n) (hn2 : n < 32) (k : K (.int .u32 ((rotl x n : Nat) : Int)) h) : Cn P n_bits_RotateLeft32 #[.int .u32 x, .int .i64 n] h K := by
  refine F_bits_RotateLeft32 ?_
  unfold s_bits_RotateLeft32
  have e0 : iand .u64 (n : Int) 31 = (n : Int) := by
    rw [and64 (by omega) (by omega) (by omega) (by omega)]
    have : n &&& 31 = n := by
      have := Nat.and_two_pow_sub_one_eq_mod n 5
      simp only [Nat.reducePow, Nat.add_one_sub_one, Nat.reduceSub] at this
      rw [this]; omega
    rw [Int.toNat_natCast]
    show ((n &&& 31 : Nat) : Int) = n
    rw [this]
  simp (disch := omega) only [GL, RL, wu64i, e0]
  have e1 : min n IntKind.u32.bits = n := by simp only [IntKind.bits]; omega
  have e2 : min ((32 : Int) - n).toNat IntKind.u32.bits = 32 - n := by simp only [IntKind.bits]; omega
  have h1 : x / 2 ^ (32 - n) ≤ x := Nat.div_le_self _ _
  rw [e1, e2, mulp, fdivp, wu32]
  unfold rotl at k
  generalize x / 2 ^ (32 - n) = y at h1 k ⊢
  rw [or32 (by omega) (by omega) (by omega) (by omega)]
  exact k
theorem T_half {h : Hp} {K : Value → Hp → Prop} {g e cap : Nat} {f : Nat × Nat} (S : List Nat) (a b d n : Nat) (hS : S.length = 16) (hw : W32 S) (ha : a < 16) (hb : b < 16) (hd : d < 16) (hn : 0 < n) (hn2 : n < 32)
    (hg : h g = some (.row e (nv .u32 S) cap (some f))) (hf : ∀ i, i < 16 → ¬ (f.1 ≤ i ∧ i < f.2)) (k : K (.tuple #[]) (h.set g (.row e (nv .u32 (halfL S a b d n)) cap (some f)))) :
    Cn P n_chacha_state_half #[.pointer (some ⟨g, 0, none⟩), .int .i64 a, .int .i64 b, .int .i64 d, .int .i64 n] h K := by
  refine F_chacha_state_half ?_
  unfold s_chacha_state_half
  have c1 : h.cell ⟨g, a, none⟩ = some (.int .u32 ((S.getD a 0 : Nat) : Int)) := by rw [cell_row hg, nv_getD _ _ _ (by omega)]
  have c2 : h.cell ⟨g, b, none⟩ = some (.int .u32 ((S.getD b 0 : Nat) : Int)) := by rw [cell_row hg, nv_getD _ _ _ (by omega)]
  simp (disch := omega) only [GL, RL, c1, c2]
  rw [← Int.natCast_add, wu32]
  have hl : (nv .u32 S).length = 16 := by rw [nv_len]; exact hS
  refine aw_store z_uint32 rfl (put_row hg (by omega) (hf _ (by omega)) _) ?_
  rw [nv_set]
  obtain ⟨S1, hS1⟩ : ∃ S1, S.set a ((S.getD a 0 + S.getD b 0) % 4294967296) = S1 := ⟨_, rfl⟩
  have hl1 : S1.length = 16 := by rw [← hS1, List.length_set]; exact hS
  have hw1 : W32 S1 := by rw [← hS1]; exact hw.set _ (Nat.mod_lt _ (by decide))
  rw [hS1]
  obtain ⟨h1, hh1⟩ : ∃ h1, h.set g (.row e (nv .u32 S1) cap (some f)) = h1 := ⟨_, rfl⟩
  have hg1 : h1 g = some (.row e (nv .u32 S1) cap (some f)) := by rw [← hh1]; exact Hp.set_same ..
  rw [hh1]
  have c3 : h1.cell ⟨g, d, none⟩ = some (.int .u32 ((S1.getD d 0 : Nat) : Int)) := by rw [cell_row hg1, nv_getD _ _ _ (by omega)]
  have c4 : h1.cell ⟨g, a, none⟩ = some (.int .u32 ((S1.getD a 0 : Nat) : Int)) := by rw [cell_row hg1, nv_getD _ _ _ (by omega)]
  simp (disch := omega) only [GL, RL, c3, c4]
  have b3 := hw1.getD d
  have b4 := hw1.getD a
  rw [xor32 (by omega) (by omega) (by omega) (by omega), Int.toNat_natCast, Int.toNat_natCast]
  have b5 : S1.getD d 0 ^^^ S1.getD a 0 < 4294967296 := Nat.xor_lt_two_pow (n := 32) b3 b4
  refine T_rot _ n b5 hn hn2 ?_
  have hl2 : (nv .u32 S1).length = 16 := by rw [nv_len]; exact hl1
  refine aw_store z_uint32 rfl (put_row hg1 (by omega) (hf _ (by omega)) _) ?_
  rw [nv_set, ← hh1, Hp.set_set]
  have : halfL S a b d n = S1.set d (rotl (S1.getD d 0 ^^^ S1.getD a 0) n) := by unfold halfL; rw [hS1]
  rw [← this]
  exact k
theorem T_quarter {h : Hp} {K : Value → Hp → Prop} {g e cap : Nat} {f : Nat × Nat} (S : List Nat) (a b c d : Nat) (hS : S.length = 16) (hw : W32 S) (ha : a < 16) (hb : b < 16) (hc : c < 16) (hd : d < 16)
    (hg : h g = some (.row e (nv .u32 S) cap (some f))) (hf : ∀ i, i < 16 → ¬ (f.1 ≤ i ∧ i < f.2)) (k : K (.tuple #[]) (h.set g (.row e (nv .u32 (quarterL S a b c d)) cap (some f)))) :
    Cn P n_chacha_state_quarter #[.pointer (some ⟨g, 0, none⟩), .agg #[.int .i64 a, .int .i64 b, .int .i64 c, .int .i64 d]] h K := by
  refine Cn_wk (F_chacha_state_quarter ?_)
  unfold s_chacha_state_quarter
  refine aw_box fun r hr => ?_
  have hne : r ≠ g := by rintro rfl; rw [hr] at hg; cases hg
  obtain ⟨O, hO⟩ : ∃ O, AObj.row t_4_int (Value.agg #[.int .i64 (a : Int), .int .i64 (b : Int), .int .i64 (c : Int), .int .i64 (d : Int)]).cells.toList (Value.agg #[.int .i64 (a : Int), .int .i64 (b : Int), .int .i64 (c : Int), .int .i64 (d : Int)]).cells.size (some (0, 0)) = O := ⟨_, rfl⟩
  have cells : ∀ (S' : List Nat), (((h.set r O).set g (.row e (nv .u32 S') cap (some f))).cell ⟨r, 0, none⟩ = some (.int .i64 (a : Int))) ∧ (((h.set r O).set g (.row e (nv .u32 S') cap (some f))).cell ⟨r, 1, none⟩ = some (.int .i64 (b : Int))) ∧
      (((h.set r O).set g (.row e (nv .u32 S') cap (some f))).cell ⟨r, 2, none⟩ = some (.int .i64 (c : Int))) ∧ (((h.set r O).set g (.row e (nv .u32 S') cap (some f))).cell ⟨r, 3, none⟩ = some (.int .i64 (d : Int))) := by
    intro S'
    have : ((h.set r O).set g (.row e (nv .u32 S') cap (some f))) r = some O := by rw [Hp.set_ne _ _ hne, Hp.set_same]
    rw [← hO] at this ⊢
    exact ⟨by rw [cell_row this]; rfl, by rw [cell_row this]; rfl, by rw [cell_row this]; rfl, by rw [cell_row this]; rfl⟩
  have start : h.set r O = (h.set r O).set g (.row e (nv .u32 S) cap (some f)) := by
    funext j
    by_cases ej : j = g
    · subst ej; rw [Hp.set_same, Hp.set_ne _ _ (Ne.symm hne), hg]
    · rw [Hp.set_ne _ _ ej]
  have one : ∀ (S' : List Nat) (x y z n : Nat) (K' : Value → Hp → Prop), S'.length = 16 → W32 S' → x < 16 → y < 16 → z < 16 → 0 < n → n < 32 → K' (.tuple #[]) ((h.set r O).set g (.row e (nv .u32 (halfL S' x y z n)) cap (some f))) →
      Cn P n_chacha_state_half #[.pointer (some ⟨g, 0, none⟩), .int .i64 x, .int .i64 y, .int .i64 z, .int .i64 n] ((h.set r O).set g (.row e (nv .u32 S') cap (some f))) K' := by
    intro S' x y z n K' h1 h2 h3 h4 h5 h6 h7 q
    refine T_half S' x y z n h1 h2 h3 h4 h5 h6 h7 (Hp.set_same ..) hf ?_
    rw [Hp.set_set]
    exact q
  show q P (h.set r (AObj.row t_4_int (Value.agg #[.int .i64 (a : Int), .int .i64 (b : Int), .int .i64 (c : Int), .int .i64 (d : Int)]).cells.toList (Value.agg #[.int .i64 (a : Int), .int .i64 (b : Int), .int .i64 (c : Int), .int .i64 (d : Int)]).cells.size (some (0, 0)))) _ _
  rw [hO, start]
  obtain ⟨q0, q1, q2, q3⟩ := cells S
  simp (disch := omega) only [GL, RL, Int.reduceToNat, q0, q1, q2, q3]
  refine one S a b d 16 _ hS hw ha hb hd (by omega) (by omega) ?_
  obtain ⟨q0, q1, q2, q3⟩ := cells (halfL S a b d 16)
  simp (disch := omega) only [GL, RL, Int.reduceToNat, q0, q1, q2, q3]
  have l1 := halfL_len S a b d 16
  have w1 := halfL_w hw a b d 16
  refine one _ c d b 12 _ (by omega) w1 hc hd hb (by omega) (by omega) ?_
  obtain ⟨q0, q1, q2, q3⟩ := cells (halfL (halfL S a b d 16) c d b 12)
  simp (disch := omega) only [GL, RL, Int.reduceToNat, q0, q1, q2, q3]
  have l2 := halfL_len (halfL S a b d 16) c d b 12
  have w2 := halfL_w w1 c d b 12
  refine one _ a b d 8 _ (by omega) w2 ha hb hd (by omega) (by omega) ?_
  obtain ⟨q0, q1, q2, q3⟩ := cells (halfL (halfL (halfL S a b d 16) c d b 12) a b d 8)
  simp (disch := omega) only [GL, RL, Int.reduceToNat, q0, q1, q2, q3]
  have l3 := halfL_len (halfL (halfL S a b d 16) c d b 12) a b d 8
  have w3 := halfL_w w2 a b d 8
  refine one _ c d b 7 _ (by omega) w3 hc hd hb (by omega) (by omega) ?_
  exact ⟨_, le_set (le_fresh hr), k⟩
theorem set_end (A : List Nat) (m x : Nat) : (A ++ List.replicate (m + 1) 0).set A.length x = A ++ [x] ++ List.replicate m 0 := by
  rw [List.set_append_right _ _ (Nat.le_refl _), Nat.sub_self, List.replicate_succ, List.set_cons_zero, List.append_assoc]
  rfl
theorem zr_state : zr P t_chacha_state = some (.agg #[.int .u32 0, .int .u32 0, .int .u32 0, .int .u32 0, .int .u32 0, .int .u32 0, .int .u32 0, .int .u32 0, .int .u32 0, .int .u32 0, .int .u32 0, .int .u32 0, .int .u32 0, .int .u32 0, .int .u32 0, .int .u32 0]) := by kernel_rfl
theorem T_begin {h : Hp} {K : Value → Hp → Prop} {vk vn : Value} {key nonce : List Nat} (counter : Nat) (hc : counter < 4294967296) (hk : Rn h .u8 vk key) (hn : Rn h .u8 vn nonce) (bk : Bytes key) (bn : Bytes nonce) (lk : key.length = 32) (ln : nonce.length = 12)
    (k : K (.agg (nv .u32 (beginL key nonce counter)).toArray) h) : Cn P n_chacha_begin #[vk, vn, .int .u32 counter] h K := by
  refine Cn_wk (F_chacha_begin ?_)
  unfold s_chacha_begin
  refine aw_allocL (List.replicate 16 (Value.int .u32 0)) zr_state rfl fun r6 hr6 => ?_
  have eb : peek P (h.set r6 (.row t_chacha_state (List.replicate 16 (Value.int .u32 0)) 16 (some (0, 0)))) (Instr.build t_chacha_state #[(0, (Value.int .u32 1634760805)), (1, (Value.int .u32 857760878)), (2, (Value.int .u32 2036477234)), (3, (Value.int .u32 1797285236))]) =
      some (.agg #[.int .u32 1634760805, .int .u32 857760878, .int .u32 2036477234, .int .u32 1797285236, .int .u32 0, .int .u32 0, .int .u32 0, .int .u32 0, .int .u32 0, .int .u32 0, .int .u32 0, .int .u32 0, .int .u32 0, .int .u32 0, .int .u32 0, .int .u32 0]) := by kernel_rfl
  show q P (h.set r6 (.row t_chacha_state (List.replicate 16 (Value.int .u32 0)) 16 (some (0, 0)))) _ _
  rw [q_of eb]
  obtain ⟨O, hO⟩ : ∃ O, AObj.row t_chacha_state (List.replicate 16 (Value.int .u32 0)) (List.replicate 16 (Value.int .u32 0)).length (some (0, 0)) = O := ⟨_, rfl⟩
  rw [hO]
  refine aw_allocL (List.replicate 16 (Value.int .u32 0)) zr_state rfl fun r7 hr7 => ?_
  have hne : r7 ≠ r6 := by rintro rfl; rw [Hp.set_same] at hr7; cases hr7
  have hr7' : h r7 = none := by rwa [Hp.set_ne _ _ hne] at hr7
  refine aw_storeRow (ys := nv .u32 (consts ++ List.replicate 12 0)) (xs := List.replicate 16 (Value.int .u32 0)) (f := (0, 0)) (by exact z_chacha_state) (Hp.set_same ..) rfl (nv_flat _ _) (fun i _ => by simp) ?_
  rw [Hp.set_set]
  have key1 : ∀ o : AObj, Hp.cle h ((h.set r6 O).set r7 o) := fun o => (cle_set r6 O hr6).trans (cle_set r7 o hr7)
  refine Lp_mk (fun m vs h' => ∃ i : Nat, i + m = 8 ∧ h' = (h.set r6 O).set r7 (.row t_chacha_state (nv .u32 (consts ++ words key i ++ List.replicate (12 - i) 0)) 16 (some (0, 0))) ∧ vs = [.int .i64 (i : Int)]) 8 ⟨0, rfl, by simp [words], rfl⟩ ?_
  rintro m vs h' ⟨i, hi, rfl, rfl⟩
  simp (disch := omega) only [GL, RL, wi64]
  have hlen : (consts ++ words key i).length = 4 + i := by rw [List.length_append, words_len]; rfl
  split
  · rename_i hlt
    simp only [decide_eq_true_eq] at hlt
    have e1 : (4 * (i : Int)) = ((4 * i : Nat) : Int) := by push_cast; rfl
    have e2 : ((4 : Int) + (i : Int)).toNat = 4 + i := by omega
    rw [e1]
    refine q_slRn u_Sl_uint8 z_uint8 (hk.mono (key1 _)) .i64 (4 * i) (by omega) fun w' hw' => ?_
    refine T_word_Get32 hw' (bk.drop _) ?_
    simp (disch := omega) only [GL, RL, wi64, e2]
    refine aw_store z_uint32 rfl (put_row (Hp.set_same ..) (by rw [nv_len, List.length_append, hlen, List.length_replicate]; omega) (by simp) _) ?_
    refine ⟨_, .refl _, m - 1, by omega, i + 1, by omega, ?_, rfl⟩
    rw [Hp.set_set, nv_set, ← hlen, show 12 - i = (12 - (i + 1)) + 1 by omega, set_end, words_succ key i, ← List.append_assoc]
  · rename_i hge
    simp only [decide_eq_true_eq] at hge
    obtain rfl : i = 8 := by omega
    simp (disch := omega) only [GL, RL, Int.reduceToNat]
    refine aw_store z_uint32 rfl (put_row (Hp.set_same ..) (by rw [nv_len, List.length_append, hlen, List.length_replicate]; omega) (by simp) _) ?_
    rw [Hp.set_set, nv_set, show (12 : Nat) = (consts ++ words key 8).length by rw [hlen]]
    rw [show (consts ++ words key 8).length - 8 = 3 + 1 by rw [hlen], set_end]
    refine Lp_mk (fun m vs h' => ∃ i : Nat, i + m = 3 ∧ h' = (h.set r6 O).set r7 (.row t_chacha_state (nv .u32 (consts ++ words key 8 ++ [counter] ++ words nonce i ++ List.replicate (3 - i) 0)) 16 (some (0, 0))) ∧ vs = [.int .i64 (i : Int)]) 3 ⟨0, rfl, by simp [words], rfl⟩ ?_
    rintro m vs h' ⟨i, hi', rfl, rfl⟩
    simp (disch := omega) only [GL, RL, wi64]
    have hlen2 : (consts ++ words key 8 ++ [counter] ++ words nonce i).length = 13 + i := by rw [List.length_append, List.length_append, hlen, words_len]; rfl
    split
    · rename_i hlt
      simp only [decide_eq_true_eq] at hlt
      have e1 : (4 * (i : Int)) = ((4 * i : Nat) : Int) := by push_cast; rfl
      have e2 : ((13 : Int) + (i : Int)).toNat = 13 + i := by omega
      rw [e1]
      refine q_slRn u_Sl_uint8 z_uint8 (hn.mono (key1 _)) .i64 (4 * i) (by omega) fun w' hw' => ?_
      refine T_word_Get32 hw' (bn.drop _) ?_
      simp (disch := omega) only [GL, RL, wi64, e2]
      refine aw_store z_uint32 rfl (put_row (Hp.set_same ..) (by rw [nv_len, List.length_append, hlen2, List.length_replicate]; omega) (by simp) _) ?_
      refine ⟨_, .refl _, m - 1, by omega, i + 1, by omega, ?_, rfl⟩
      rw [Hp.set_set, nv_set, ← hlen2, show 3 - i = (3 - (i + 1)) + 1 by omega, set_end, words_succ nonce i, ← List.append_assoc]
    · rename_i hge
      simp only [decide_eq_true_eq] at hge
      obtain rfl : i = 3 := by omega
      have hfin : consts ++ words key 8 ++ [counter] ++ words nonce 3 ++ List.replicate (3 - 3) 0 = beginL key nonce counter := by simp [beginL]
      rw [hfin]
      have hl16 : (nv .u32 (beginL key nonce counter)).length = 16 := by rw [nv_len, beginL_len]
      rw [q_ldRow u_chacha_state rfl (by rw [hl16]; exact z_chacha_state) (Hp.set_same ..)]
      refine aw_storeRow (xs := List.replicate 16 (Value.int .u32 0)) (f := (0, 0)) (cap := 16) (e := t_chacha_state) (by rw [hl16]; exact z_chacha_state) (by rw [Hp.set_ne _ _ (Ne.symm hne), Hp.set_same, ← hO]; rfl) (by rw [hl16]; rfl) (nv_flat _ _) (fun i _ => by simp) ?_
      rw [q_resRow u_chacha_state rfl (by rw [hl16]; exact z_chacha_state) (Hp.set_same ..)]
      refine ⟨h, fun b o e => ?_, k⟩
      have n6 : b ≠ r6 := by rintro rfl; rw [hr6] at e; cases e
      have n7 : b ≠ r7 := by rintro rfl; rw [hr7'] at e; cases e
      exact ⟨o, by rw [Hp.set_ne _ _ n6, Hp.set_ne _ _ n7, Hp.set_ne _ _ n6]; exact e, .refl _⟩
/-! ### A block -/
def qv (q : Nat × Nat × Nat × Nat) : List Value := [.int .i64 (q.1 : Int), .int .i64 (q.2.1 : Int), .int .i64 (q.2.2.1 : Int), .int .i64 (q.2.2.2 : Int)]
def tbl : List Value := quads.flatMap qv
theorem bld4 {h : Hp} {K : Value → Prop} (a b c d : Int) : q P h (Instr.build t_4_int #[(0, .int .i64 a), (1, .int .i64 b), (2, .int .i64 c), (3, .int .i64 d)]) K = K (.agg #[.int .i64 a, .int .i64 b, .int .i64 c, .int .i64 d]) := q_of (by kernel_rfl) K
theorem zr_table : zr P t_8_4_int = some (.agg (List.replicate 32 (Value.int .i64 0)).toArray) := by kernel_rfl
theorem T_quarters {h : Hp} {K : Value → Hp → Prop} (k : K (.agg tbl.toArray) h) : Cn P n_chacha_quarters #[] h K := by
  refine Cn_wk (F_chacha_quarters ?_)
  unfold s_chacha_quarters
  refine aw_allocL (List.replicate 32 (Value.int .i64 0)) zr_table rfl fun r hr => ?_
  simp only [bld4]
  obtain ⟨H, hH⟩ : ∃ H, h.set r (AObj.row t_8_4_int (List.replicate 32 (Value.int .i64 0)) (List.replicate 32 (Value.int .i64 0)).length (some (0, 0))) = H := ⟨_, rfl⟩
  rw [hH, q_of (v := .agg tbl.toArray) (by kernel_rfl)]
  refine aw_storeRow (xs := List.replicate 32 (Value.int .i64 0)) (f := (0, 0)) (cap := 32) (e := t_8_4_int) (by exact z_8_4_int) (by rw [← hH]; exact Hp.set_same ..) rfl (by decide) (fun i _ => by simp) ?_
  rw [q_resRow (ys := tbl) u_8_4_int rfl (by exact z_8_4_int) (Hp.set_same ..)]
  refine ⟨h, ?_, k⟩
  rw [← hH, Hp.set_set]
  exact le_fresh hr
theorem tbl_at {h : Hp} {K : Value → Prop} (i : Nat) (hi : i < 8) : q P h (Instr.index t_8_4_int (.agg tbl.toArray) (.int .i64 i)) K = K (.agg (qv (quads.getD i (0, 0, 0, 0))).toArray) := by
  have : i = 0 ∨ i = 1 ∨ i = 2 ∨ i = 3 ∨ i = 4 ∨ i = 5 ∨ i = 6 ∨ i = 7 := by omega
  rcases this with rfl | rfl | rfl | rfl | rfl | rfl | rfl | rfl <;> exact q_of (by kernel_rfl) K
theorem zr_4 : zr P t_4_int = some (.agg (List.replicate 4 (Value.int .i64 0)).toArray) := by kernel_rfl
theorem qv_bound (q : Nat × Nat × Nat × Nat) (hq : q ∈ quads) : q.1 < 16 ∧ q.2.1 < 16 ∧ q.2.2.1 < 16 ∧ q.2.2.2 < 16 := by
  revert q; decide
theorem out_step (s x : List Nat) (i : Nat) : outL s x (i + 1) = outL s x i ++ le 4 ((s.getD i 0 + x.getD i 0) % 4294967296) := rfl
theorem T_block {h : Hp} {K : Value → Hp → Prop} {vk vn : Value} {key nonce : List Nat} (counter : Nat) (hc : counter < 4294967296) (hk : Rn h .u8 vk key) (hn : Rn h .u8 vn nonce) (bk : Bytes key) (bn : Bytes nonce) (lk : key.length = 32) (ln : nonce.length = 12)
    (k : ∀ v h', Nn h t_uint8 .u8 v h' (blockL key nonce counter) → K v h') : Cn P n_chacha_block #[vk, vn, .int .u32 counter] h K := by
  refine Cn_wk (F_chacha_block ?_)
  unfold s_chacha_block
  refine T_begin counter hc hk hn bk bn lk ln ?_
  obtain ⟨B, hB⟩ : ∃ B, beginL key nonce counter = B := ⟨_, rfl⟩
  have lB : B.length = 16 := by rw [← hB, beginL_len]
  have wB : W32 B := by rw [← hB]; exact beginL_w bk bn hc
  rw [hB]
  have l16 : ∀ S : List Nat, S.length = 16 → (nv .u32 S).length = 16 := fun S hS => by rw [nv_len, hS]
  refine aw_allocL (List.replicate 16 (Value.int .u32 0)) zr_state rfl fun r7 hr7 => ?_
  refine aw_storeRow (xs := List.replicate 16 (Value.int .u32 0)) (f := (0, 0)) (e := t_chacha_state) (by rw [l16 B lB]; exact z_chacha_state) (Hp.set_same ..) (by rw [l16 B lB]; rfl) (nv_flat _ _) (fun i _ => by simp) ?_
  rw [Hp.set_set, q_ldRow u_chacha_state rfl (by rw [l16 B lB]; exact z_chacha_state) (Hp.set_same ..)]
  obtain ⟨h1, hh1⟩ : ∃ h1, h.set r7 (AObj.row t_chacha_state (nv .u32 B) (List.replicate 16 (Value.int .u32 0)).length (some (0, 0))) = h1 := ⟨_, rfl⟩
  rw [hh1]
  have h1r7 : h1 r7 = some (AObj.row t_chacha_state (nv .u32 B) 16 (some (0, 0))) := by rw [← hh1]; exact Hp.set_same ..
  have le1 : Hp.le h h1 := by rw [← hh1]; exact le_fresh hr7
  refine aw_allocL (List.replicate 16 (Value.int .u32 0)) zr_state rfl fun r8 hr8 => ?_
  have n78 : r7 ≠ r8 := by rintro rfl; rw [h1r7] at hr8; cases hr8
  refine aw_storeRow (xs := List.replicate 16 (Value.int .u32 0)) (f := (0, 0)) (e := t_chacha_state) (by rw [l16 B lB]; exact z_chacha_state) (Hp.set_same ..) (by rw [l16 B lB]; rfl) (nv_flat _ _) (fun i _ => by simp) ?_
  rw [Hp.set_set]
  refine T_quarters ?_
  refine aw_allocL (List.replicate 32 (Value.int .i64 0)) zr_table rfl fun r9 hr9 => ?_
  have n89 : r8 ≠ r9 := by rintro rfl; rw [Hp.set_same] at hr9; cases hr9
  have n79 : r7 ≠ r9 := by rintro rfl; rw [Hp.set_ne _ _ n78, h1r7] at hr9; cases hr9
  refine aw_storeRow (ys := tbl) (xs := List.replicate 32 (Value.int .i64 0)) (f := (0, 0)) (cap := 32) (e := t_8_4_int) (by exact z_8_4_int) (Hp.set_same ..) rfl (by decide) (fun i _ => by simp) ?_
  rw [Hp.set_set]
  -- the memory, by the state
  obtain ⟨M, hM⟩ : ∃ M : List Nat → Hp, ∀ S, (h1.set r8 (AObj.row t_chacha_state (nv .u32 S) (List.replicate 16 (Value.int .u32 0)).length (some (0, 0)))).set r9 (AObj.row t_8_4_int tbl 32 (some (0, 0))) = M S := ⟨fun S => _, fun S => rfl⟩
  rw [hM]
  have M8 : ∀ S, M S r8 = some (AObj.row t_chacha_state (nv .u32 S) 16 (some (0, 0))) := fun S => by rw [← hM, Hp.set_ne _ _ n89, Hp.set_same]; rfl
  have M7 : ∀ S, M S r7 = some (AObj.row t_chacha_state (nv .u32 B) 16 (some (0, 0))) := fun S => by rw [← hM, Hp.set_ne _ _ n79, Hp.set_ne _ _ n78, h1r7]
  have M9 : ∀ S, M S r9 = some (AObj.row t_8_4_int tbl 32 (some (0, 0))) := fun S => by rw [← hM, Hp.set_same]
  have Mset : ∀ S S', (M S).set r8 (AObj.row t_chacha_state (nv .u32 S') 16 (some (0, 0))) = M S' := fun S S' => by
    rw [← hM, ← hM, Hp.set_comm _ _ _ (Ne.symm n89), Hp.set_set]; rfl
  have r9h1 : h1 r9 = none := by rwa [Hp.set_ne _ _ (Ne.symm n89)] at hr9
  have leM : ∀ S, Hp.le h (M S) := fun S => by
    rw [← hM]
    refine le1.trans ((le_fresh hr8).trans (le_fresh ?_))
    rw [Hp.set_ne _ _ (Ne.symm n89)]; exact r9h1
  refine Lp_mk (fun m vs h' => ∃ i : Nat, i + m = 10 ∧ h' = M (rounds i B) ∧ vs = [.int .i64 (i : Int)]) 10 ⟨0, rfl, rfl, rfl⟩ ?_
  rintro m vs h' ⟨i, hi, rfl, rfl⟩
  have lR : (rounds i B).length = 16 := by rw [rounds_len, lB]
  have wR : W32 (rounds i B) := rounds_w i wB
  generalize hR : rounds i B = R at lR wR ⊢
  simp (disch := omega) only [GL, RL, wi64]
  split
  · rename_i hlt
    simp only [decide_eq_true_eq] at hlt
    rw [q_ldRow u_8_4_int rfl (by exact z_8_4_int) (M9 R)]
    refine Lp_mk (fun m' vs h' => ∃ j : Nat, j + m' = 8 ∧ h' = M ((quads.take j).foldl stepL R) ∧ vs = [.int .i64 (j : Int)]) 8 ⟨0, rfl, rfl, rfl⟩ ?_
    rintro m' vs h' ⟨j, hj, rfl, rfl⟩
    have lS : ((quads.take j).foldl stepL R).length = 16 := by rw [foldStep_len, lR]
    have wS : W32 ((quads.take j).foldl stepL R) := foldStep_w _ wR
    generalize hS : (quads.take j).foldl stepL R = S at lS wS ⊢
    simp (disch := omega) only [GL, RL, wi64]
    split
    · rename_i hlt2
      simp only [decide_eq_true_eq] at hlt2
      have hj8 : j < 8 := by omega
      rw [tbl_at j hj8]
      have hjl : j < quads.length := hj8
      obtain ⟨q, hq⟩ : ∃ q, quads.getD j (0, 0, 0, 0) = q := ⟨_, rfl⟩
      have hq' : quads[j] = q := by rw [← hq]; simp [List.getD_eq_getElem?_getD, hjl]
      have hmem : q ∈ quads := by rw [← hq']; exact List.getElem_mem hjl
      obtain ⟨q1, q2, q3, q4⟩ := qv_bound q hmem
      rw [hq]
      refine aw_allocL (List.replicate 4 (Value.int .i64 0)) zr_4 rfl fun r11 hr11 => ?_
      refine aw_storeRow (ys := qv q) (xs := List.replicate 4 (Value.int .i64 0)) (f := (0, 0)) (e := t_4_int) (by exact z_4_int) (Hp.set_same ..) rfl (by intro y hy; simp [qv] at hy; rcases hy with rfl | rfl | rfl | rfl <;> rfl) (fun i _ => by simp) ?_
      rw [Hp.set_set, q_ldRow (ys := qv q) u_4_int rfl (by exact z_4_int) (Hp.set_same ..)]
      refine Cn.weaken (le_fresh hr11) (T_quarter S q.1 q.2.1 q.2.2.1 q.2.2.2 lS wS q1 q2 q3 q4 (M8 S) (fun i _ => by simp) ?_)
      refine ⟨_, .refl _, m' - 1, by omega, j + 1, by omega, ?_, rfl⟩
      rw [Mset, List.take_succ_eq_append_getElem hjl, List.foldl_append, hS, hq']
      rfl
    · rename_i hge
      simp only [decide_eq_true_eq] at hge
      obtain rfl : j = 8 := by omega
      refine ⟨_, .refl _, m - 1, by omega, i + 1, by omega, ?_, rfl⟩
      rw [← hS, rounds, hR, droundL]
      rfl
  · rename_i hge
    simp only [decide_eq_true_eq] at hge
    obtain rfl : i = 10 := by omega
    refine aw_make (n := 0) (c := 64) u_Sl_uint8 nfo_uint8 rfl (by omega) (by omega) (by omega) fun r h2 hw => ?_
    refine Lp_mk (fun m' vs h' => ∃ (j : Nat) (v : Value), j + m' = 16 ∧ New (M R) t_uint8 1 v h' (nv .u8 (outL R B j)) (4 * j) ∧ vs = [v, .int .i64 (j : Int)]) 16 ⟨0, r, rfl, hw, rfl⟩ ?_
    clear hw
    rintro m' vs h3 ⟨j, v, hj, hw, rfl⟩
    simp (disch := omega) only [GL, RL, wi64]
    split
    · rename_i hlt2
      simp only [decide_eq_true_eq] at hlt2
      have c1 : h3.cell ⟨r8, j, none⟩ = some (.int .u32 ((R.getD j 0 : Nat) : Int)) := hw.cle _ _ (by rw [cell_row (M8 R), nv_getD _ _ _ (by omega)])
      have c2 : h3.cell ⟨r7, j, none⟩ = some (.int .u32 ((B.getD j 0 : Nat) : Int)) := hw.cle _ _ (by rw [cell_row (M7 R), nv_getD _ _ _ (by omega)])
      simp (disch := omega) only [GL, RL, wi64, c1, c2]
      rw [← Int.natCast_add, wu32]
      refine T_word_Put32 _ (Nat.mod_lt _ (by decide)) fun r' h4 hp => ?_
      have hp' : New h3 t_uint8 1 r' h4 (nv .u8 (le 4 ((R.getD j 0 + B.getD j 0) % 4294967296))) 4 := by
        unfold Nn at hp; rw [le_len] at hp; exact hp
      refine aw_appendN u_Sl_uint8 u_Sl_uint8 nfo_uint8 rfl (by omega) hw hp' (nv_flat _ _) (by omega) fun v' h5 hw5 => ?_
      refine ⟨_, .refl _, m' - 1, by omega, j + 1, v', by omega, ?_, rfl⟩
      rw [out_step, nv_app]
      exact hw5
    · rename_i hge2
      simp only [decide_eq_true_eq] at hge2
      obtain rfl : j = 16 := by omega
      have hfin : outL R B 16 = blockL key nonce counter := by unfold blockL; rw [hB, hR]
      rw [hfin] at hw
      obtain ⟨h0, l0, hw0⟩ := New.down (leM R) hw
      refine ⟨h0, l0, k _ _ ?_⟩
      unfold Nn
      rw [blockL_len]
      exact hw0
theorem T_may {h : Hp} {K : Value → Hp → Prop} {vk vn : Value} {key nonce : List Nat} (hk : Rn h .u8 vk key) (hn : Rn h .u8 vn nonce) (k : K (.bool (decide (key.length = 32 ∧ nonce.length = 12))) h) : Cn P n_chacha_may #[vk, vn] h K := by
  refine F_chacha_may ?_
  obtain ⟨a, c, rfl, hc⟩ := hk.shape
  obtain ⟨a', c', rfl, hc'⟩ := hn.shape
  unfold s_chacha_may
  simp (disch := omega) only [GL, RL]
  have e1 : ((key.length : Int) == 32) = decide (key.length = 32) := by rw [Bool.eq_iff_iff]; simp; omega
  have e2 : ((nonce.length : Int) == 12) = decide (nonce.length = 12) := by rw [Bool.eq_iff_iff]; simp; omega
  rw [e1, e2]
  by_cases h1 : key.length = 32
  · simpa [h1] using k
  · simpa [h1] using k
theorem T_Block {h : Hp} {K : Value → Hp → Prop} {vk vn : Value} {key nonce : List Nat} (counter : Nat) (hc : counter < 4294967296) (hk : Rn h .u8 vk key) (hn : Rn h .u8 vn nonce) (bk : Bytes key) (bn : Bytes nonce)
    (k : ∀ v h', (if key.length = 32 ∧ nonce.length = 12 then Nn h t_uint8 .u8 v h' (blockL key nonce counter) else v = .slice none 0 0 ∧ h' = h) → K (.tuple #[v, .int .i64 (if key.length = 32 ∧ nonce.length = 12 then 0 else 1)]) h') : Cn P n_chacha_Block #[vk, vn, .int .u32 counter] h K := by
  refine F_chacha_Block ?_
  unfold s_chacha_Block
  refine T_may hk hn ?_
  simp (disch := omega) only [GL, RL]
  by_cases hm : key.length = 32 ∧ nonce.length = 12
  · simp only [hm, decide_true, Bool.not_true, Bool.false_eq_true, if_false, and_self, if_true] at k ⊢
    exact T_block counter hc hk hn bk bn hm.1 hm.2 fun v h' hw => k v h' hw
  · simp only [hm, decide_false, Bool.not_false, if_true, if_false] at k ⊢
    exact k _ _ ⟨rfl, rfl⟩
theorem ixor8_nat (a b : Nat) (ha : a < 256) (hb : b < 256) : ixor .u8 (a : Int) (b : Int) = ((a ^^^ b : Nat) : Int) := by
  rw [xor8 (by omega) (by omega) (by omega) (by omega), Int.toNat_natCast, Int.toNat_natCast]
theorem T_Xor {h : Hp} {K : Value → Hp → Prop} {vk vn vb : Value} {key nonce b : List Nat} (counter : Nat) (hc : counter < 4294967296) (hk : Rn h .u8 vk key) (hn : Rn h .u8 vn nonce) (hb : Rn h .u8 vb b) (bk : Bytes key) (bn : Bytes nonce) (bb : Bytes b) (hl : b.length ≤ 70368744177664)
    (k : ∀ v h', (if key.length = 32 ∧ nonce.length = 12 then Nn h t_uint8 .u8 v h' (xorL key nonce counter b) else v = .slice none 0 0 ∧ h' = h) → K (.tuple #[v, .int .i64 (if key.length = 32 ∧ nonce.length = 12 then 0 else 1)]) h') : Cn P n_chacha_Xor #[vk, vn, .int .u32 counter, vb] h K := by
  refine F_chacha_Xor ?_
  unfold s_chacha_Xor
  refine T_may hk hn ?_
  obtain ⟨ab, cb, rfl, hcb⟩ := hb.shape
  simp (disch := omega) only [GL, RL]
  by_cases hm : key.length = 32 ∧ nonce.length = 12
  case neg =>
    simp only [hm, decide_false, Bool.not_false, if_true, if_false] at k ⊢
    exact k _ _ ⟨rfl, rfl⟩
  simp only [hm, decide_true, Bool.not_true, Bool.false_eq_true, if_false, and_self, if_true] at k ⊢
  refine aw_make (n := 0) (c := b.length) u_Sl_uint8 nfo_uint8 rfl (by omega) (by omega) (by omega) fun r h1 hw => ?_
  obtain ⟨X, hX⟩ : ∃ X, xorL key nonce counter b = X := ⟨_, rfl⟩
  have lX : X.length = b.length := by rw [← hX, xorL_len]
  rw [hX] at k
  refine Lp_mk (fun m vs h' => ∃ (i : Nat) (v : Value), i + m = (b.length + 63) / 64 ∧ New h t_uint8 1 v h' (nv .u8 (X.take (64 * i))) (X.take (64 * i)).length ∧ vs = [.int .u32 (((counter + i) % 4294967296 : Nat) : Int), v, .int .i64 ((64 * i : Nat) : Int)]) ((b.length + 63) / 64)
    ⟨0, r, by omega, by simpa [nv] using hw, by rw [Nat.add_zero, Nat.mod_eq_of_lt hc]; rfl⟩ ?_
  clear hw
  rintro m vs h2 ⟨i, v, hi, hw, rfl⟩
  simp (disch := omega) only [GL, RL, wi64]
  by_cases hlt : 64 * i < b.length
  · rw [if_pos (by simpa using (by omega : ((64 * i : Nat) : Int) < (b.length : Int)))]
    refine T_block _ (Nat.mod_lt _ (by decide)) (hk.mono hw.cle) (hn.mono hw.cle) bk bn hm.1 hm.2 fun vb' h3 hblk => ?_
    obtain ⟨BL, hBL⟩ : ∃ BL, blockL key nonce ((counter + i) % 4294967296) = BL := ⟨_, rfl⟩
    have lBL : BL.length = 64 := by rw [← hBL, blockL_len]
    have bBL : Bytes BL := by rw [← hBL]; exact blockL_bytes _ _ _
    rw [hBL] at hblk
    obtain ⟨rb, crb, frb, hrb, hcrb, rfl, hh3, _⟩ := New.form hblk (by omega)
    have hblk3 : ∀ j, j < 64 → h3.cell ⟨rb, j, none⟩ = some (.int .u8 ((BL.getD j 0 : Nat) : Int)) := fun j hj => by
      rw [hh3, cell_row (Hp.set_same ..), nv_getD _ _ _ (by omega)]
    have hw3 := hw.add hrb (AObj.row t_uint8 (nv .u8 BL) (crb * 1) (some frb))
    rw [← hh3] at hw3
    have hrbh : h rb = none := hw.noneAt hrb
    obtain ⟨hb0, hhb0⟩ : ∃ hb0, h.set rb (AObj.row t_uint8 (nv .u8 BL) (crb * 1) (some frb)) = hb0 := ⟨_, rfl⟩
    rw [hhb0] at hw3
    have hb0c : ∀ j, j < 64 → hb0.cell ⟨rb, j, none⟩ = some (.int .u8 ((BL.getD j 0 : Nat) : Int)) := fun j hj => by
      rw [← hhb0, cell_row (Hp.set_same ..), nv_getD _ _ _ (by omega)]
    have hb0b : Hp.cle h hb0 := by rw [← hhb0]; exact cle_set rb _ hrbh
    have hb0l : Hp.le h hb0 := by rw [← hhb0]; exact le_fresh hrbh
    clear hblk3 hh3 hw
    have ec : IntKind.u32.wrap (((counter + i) % 4294967296 : Nat) + 1 : Int) = (((counter + (i + 1)) % 4294967296 : Nat) : Int) := by
      rw [inc, wu32]; congr 1; omega
    refine Lp_mk (fun m' vs h' => ∃ (j : Nat) (v : Value), j + m' = 64 ∧ 64 * i + j ≤ b.length ∧ New hb0 t_uint8 1 v h' (nv .u8 (X.take (64 * i + j))) (X.take (64 * i + j)).length ∧ vs = [v, .int .i64 (j : Int)]) 64 ⟨0, v, rfl, by omega, hw3, rfl⟩ ?_
    clear hw3
    rintro m' vs h4 ⟨j, v', hj, hjb, hw, rfl⟩
    have fin : (64 * i + j = b.length ∨ j = 64) → ∃ h0, Hp.le h0 h4 ∧ ∃ m_1, m_1 < m ∧ ∃ (i' : Nat) (v : Value), i' + m_1 = (b.length + 63) / 64 ∧ New h t_uint8 1 v h0 (nv .u8 (X.take (64 * i'))) (X.take (64 * i')).length ∧
        [Value.int .u32 (((counter + (i + 1)) % 4294967296 : Nat) : Int), v', .int .i64 (((64 * i : Nat) : Int) + 64)] = [.int .u32 (((counter + i') % 4294967296 : Nat) : Int), v, .int .i64 ((64 * i' : Nat) : Int)] := by
      intro hd
      have e1 : X.take (64 * i + j) = X.take (64 * (i + 1)) := by
        rcases hd with hd | hd
        · rw [List.take_of_length_le (by omega), List.take_of_length_le (by omega)]
        · rw [hd, Nat.mul_add]
      rw [e1] at hw
      obtain ⟨h0, l0, hw0⟩ := New.down hb0l hw
      exact ⟨h0, l0, m - 1, by omega, i + 1, v', by omega, hw0, by rw [Nat.mul_add]; rfl⟩
    simp (disch := omega) only [GL, RL, wi64, ec]
    by_cases hj64 : j < 64
    · rw [if_pos (by simpa using (by omega : (j : Int) < 64))]
      by_cases hjb2 : 64 * i + j < b.length
      · rw [if_pos (by simp; omega)]
        obtain ⟨bb', ob, rfl, hyb⟩ := hb.pos (by omega)
        have e2 : (((64 * i : Nat) : Int) + (j : Int)).toNat = 64 * i + j := by omega
        have c1 : h4.cell ⟨bb', ob + (64 * i + j), none⟩ = some (.int .u8 ((b.getD (64 * i + j) 0 : Nat) : Int)) := hw.cle _ _ (hb0b _ _ (hyb _ hjb2))
        have c2 : h4.cell ⟨rb, j, none⟩ = some (.int .u8 ((BL.getD j 0 : Nat) : Int)) := hw.cle _ _ (hb0c j hj64)
        simp (disch := omega) only [GL, RL, wi64, e2, c1, c2]
        rw [ixor8_nat _ _ (bb.getD _) (bBL.getD _)]
        refine aw_lit (ps := [(0, _)]) u_Sl_uint8 z_uint8 zr_uint8 rfl (by omega) (by intro p hp; rw [List.mem_singleton.1 hp]; exact ⟨rfl, by omega⟩) fun x h5 hx _ => ?_
        refine aw_appendN u_Sl_uint8 u_Sl_uint8 nfo_uint8 rfl (by omega) hw hx (by intro y hy; simp [fillL] at hy; subst hy; rfl) (by rw [List.length_take]; omega) fun v2 h6 hw6 => ?_
        refine ⟨_, .refl _, m' - 1, by omega, j + 1, v2, by omega, by omega, ?_, rfl⟩
        have e3 : X.take (64 * i + (j + 1)) = X.take (64 * i + j) ++ [b.getD (64 * i + j) 0 ^^^ BL.getD j 0] := by
          rw [← hX, ← Nat.add_assoc, xorL_take _ _ _ _ _ hjb2, ← hBL, show (64 * i + j) / 64 = i by omega, show (64 * i + j) % 64 = j by omega]
        rw [e3, nv_app, List.length_append]
        exact hw6
      · rw [if_neg (by simp; omega)]
        exact fin (.inl (by omega))
    · rw [if_neg (by simp; omega)]
      exact fin (.inr (by omega))
  · rw [if_neg (by simp; omega)]
    rw [List.take_of_length_le (by omega)] at hw
    exact k _ _ hw
end Go.Proofs.Ytnecdbclhdbaoaa
namespace Go.Pure
abbrev W : Nat := 18446744073709551616
def W64 (l : List Nat) : Prop := ∀ x ∈ l, x < 18446744073709551616
theorem W64.getD {l : List Nat} (h : W64 l) (i : Nat) : l.getD i 0 < 18446744073709551616 := by
  rw [List.getD_eq_getElem?_getD]
  cases hg : l[i]? with
  | none => simp
  | some x => exact h x (List.mem_of_getElem? hg)
theorem W64.set {l : List Nat} (h : W64 l) (i : Nat) {x : Nat} (hx : x < 18446744073709551616) : W64 (l.set i x) := fun y hy => by
  rcases List.mem_or_eq_of_mem_set hy with q | rfl
  · exact h y q
  · exact hx
def zero5 : List Nat := [0, 0, 0, 0, 0]
theorem zero5_w : W64 zero5 := by intro x hx; simp [zero5] at hx; omega
def addN (S M : List Nat) : Nat → List Nat
  | 0 => S
  | i + 1 => (addN S M i).set i (((addN S M i).getD i 0 + M.getD i 0) % 18446744073709551616)
def addL (S M : List Nat) : List Nat := addN S M 5
theorem addN_len (S M : List Nat) (i : Nat) : (addN S M i).length = S.length := by
  induction i with
  | zero => rfl
  | succ i ih => simp [addN, ih]
theorem addN_w {S : List Nat} (h : W64 S) (M : List Nat) (i : Nat) : W64 (addN S M i) := by
  induction i with
  | zero => exact h
  | succ i ih => exact ih.set _ (Nat.mod_lt _ (by decide))
def carryN (S : List Nat) : Nat → Nat × List Nat
  | 0 => (0, S)
  | i + 1 => (((carryN S i).2.getD i 0 + (carryN S i).1) % 18446744073709551616 / 67108864, (carryN S i).2.set i (((carryN S i).2.getD i 0 + (carryN S i).1) % 18446744073709551616 % 67108864))
theorem carryN_len (S : List Nat) (i : Nat) : (carryN S i).2.length = S.length := by
  induction i with
  | zero => rfl
  | succ i ih => simp [carryN, ih]
theorem carryN_w {S : List Nat} (h : W64 S) (i : Nat) : (carryN S i).1 < 18446744073709551616 ∧ W64 (carryN S i).2 := by
  induction i with
  | zero => exact ⟨by show 0 < _; decide, h⟩
  | succ i ih =>
    have := Nat.mod_lt ((carryN S i).2.getD i 0 + (carryN S i).1) (show 18446744073709551616 > 0 by decide)
    exact ⟨by simp only [carryN]; omega, ih.2.set _ (by omega)⟩
def carryE (c : Nat) (T : List Nat) : List Nat :=
  let A := T.set 0 ((T.getD 0 0 + 5 * c % 18446744073709551616) % 18446744073709551616)
  let B := A.set 1 ((A.getD 1 0 + A.getD 0 0 / 67108864) % 18446744073709551616)
  B.set 0 (B.getD 0 0 % 67108864)
def carryL (S : List Nat) : List Nat := carryE (carryN S 5).1 (carryN S 5).2
theorem carryE_len (c : Nat) (T : List Nat) : (carryE c T).length = T.length := by simp [carryE]
theorem carryL_len (S : List Nat) : (carryL S).length = S.length := by rw [carryL, carryE_len, carryN_len]
theorem carryE_w (c : Nat) {T : List Nat} (h : W64 T) : W64 (carryE c T) := by
  have h1 := h.set 0 (Nat.mod_lt (T.getD 0 0 + 5 * c % 18446744073709551616) (show 18446744073709551616 > 0 by decide))
  refine (h1.set 1 (Nat.mod_lt _ (by decide))).set 0 ?_
  exact Nat.lt_of_lt_of_le (Nat.mod_lt _ (show 67108864 > 0 by decide)) (by decide)
theorem carryL_w {S : List Nat} (h : W64 S) : W64 (carryL S) := carryE_w _ (carryN_w h 5).2
def tval (i k : Nat) (S R : List Nat) : Nat :=
  if 5 ≤ i + k then S.getD i 0 * R.getD k 0 % 18446744073709551616 * 5 % 18446744073709551616 else S.getD i 0 * R.getD k 0 % 18446744073709551616
def tin (S R : List Nat) (i : Nat) (O : List Nat) : Nat → List Nat
  | 0 => O
  | k + 1 => (tin S R i O k).set ((i + k) % 5) (((tin S R i O k).getD ((i + k) % 5) 0 + tval i k S R) % 18446744073709551616)
def tout (S R : List Nat) : Nat → List Nat
  | 0 => zero5
  | i + 1 => tin S R i (tout S R i) 5
def timesL (S R : List Nat) : List Nat := carryL (tout S R 5)
theorem tin_len (S R : List Nat) (i : Nat) (O : List Nat) (k : Nat) : (tin S R i O k).length = O.length := by
  induction k with
  | zero => rfl
  | succ k ih => simp [tin, ih]
theorem tout_len (S R : List Nat) (i : Nat) : (tout S R i).length = 5 := by
  induction i with
  | zero => rfl
  | succ i ih => rw [tout, tin_len, ih]
theorem tin_w (S R : List Nat) (i : Nat) {O : List Nat} (h : W64 O) (k : Nat) : W64 (tin S R i O k) := by
  induction k with
  | zero => exact h
  | succ k ih => exact ih.set _ (Nat.mod_lt _ (by decide))
theorem tout_w (S R : List Nat) (i : Nat) : W64 (tout S R i) := by
  induction i with
  | zero => exact zero5_w
  | succ i ih => exact tin_w S R i ih 5
theorem timesL_len (S R : List Nat) : (timesL S R).length = 5 := by rw [timesL, carryL_len, tout_len]
theorem timesL_w (S R : List Nat) : W64 (timesL S R) := carryL_w (tout_w S R 5)
def redN (T : List Nat) : Nat → List Nat
  | 0 => T.set 0 ((T.getD 0 0 + 5) % 18446744073709551616)
  | i + 1 =>
    let A := (redN T i).set (i + 1) (((redN T i).getD (i + 1) 0 + (redN T i).getD i 0 / 67108864) % 18446744073709551616)
    A.set i (A.getD i 0 % 67108864)
theorem redN_len (T : List Nat) (i : Nat) : (redN T i).length = T.length := by
  induction i with
  | zero => simp [redN]
  | succ i ih => simp [redN, ih]
theorem redN_w {T : List Nat} (h : W64 T) (i : Nat) : W64 (redN T i) := by
  induction i with
  | zero => exact h.set _ (Nat.mod_lt _ (by decide))
  | succ i ih =>
    refine (ih.set _ (Nat.mod_lt _ (by decide))).set _ ?_
    exact Nat.lt_of_lt_of_le (Nat.mod_lt _ (show 67108864 > 0 by decide)) (by decide)
def redE (T M : List Nat) : List Nat := if M.getD 4 0 / 67108864 ≠ 0 then M.set 4 (M.getD 4 0 % 67108864) else T
def reduceL (S : List Nat) : List Nat := redE (carryL (carryL S)) (redN (carryL (carryL S)) 4)
theorem redE_len (T M : List Nat) (h : M.length = T.length) : (redE T M).length = T.length := by unfold redE; split <;> simp [h]
theorem reduceL_len (S : List Nat) : (reduceL S).length = S.length := by
  unfold reduceL
  rw [redE_len _ _ (redN_len _ _), carryL_len, carryL_len]
theorem reduceL_w {S : List Nat} (h : W64 S) : W64 (reduceL S) := by
  have h2 := carryL_w (carryL_w h)
  unfold reduceL redE
  split
  · refine (redN_w h2 4).set _ ?_
    exact Nat.lt_of_lt_of_le (Nat.mod_lt _ (show 67108864 > 0 by decide)) (by decide)
  · exact h2
def lowL (S : List Nat) : Nat := (S.getD 0 0 ||| S.getD 1 0 * 2 ^ 26 % 18446744073709551616) ||| S.getD 2 0 * 2 ^ 52 % 18446744073709551616
def highL (S : List Nat) : Nat := (S.getD 2 0 / 2 ^ 12 ||| S.getD 3 0 * 2 ^ 14 % 18446744073709551616) ||| S.getD 4 0 * 2 ^ 40 % 18446744073709551616
def bytesL (S s : List Nat) : List Nat :=
  let a := leval (s.take 8)
  let lo := (lowL S + a) % 18446744073709551616
  let hi := (highL S + leval ((s.drop 8).take 8)) % 18446744073709551616
  le 8 lo ++ le 8 (if lo < a then (hi + 1) % 18446744073709551616 else hi)
theorem bytesL_len (S s : List Nat) : (bytesL S s).length = 16 := by simp [bytesL, le_len]
theorem bytesL_bytes (S s : List Nat) : Bytes (bytesL S s) := (le_bytes _ _).append (le_bytes _ _)
def loadI (b : List Nat) (i : Nat) : Nat := leval ((b.drop (min (26 * i / 8) b.length)).take 8) / 2 ^ (26 * i % 8) % 67108864
def loadN (b : List Nat) : Nat → List Nat
  | 0 => zero5
  | i + 1 => (loadN b i).set i (loadI b i)
def loadL (b : List Nat) : List Nat := loadN b 5
theorem loadI_lt (b : List Nat) (i : Nat) : loadI b i < 67108864 := Nat.mod_lt _ (by decide)
theorem loadN_len (b : List Nat) (i : Nat) : (loadN b i).length = 5 := by
  induction i with
  | zero => rfl
  | succ i ih => simp [loadN, ih]
theorem loadL_len (b : List Nat) : (loadL b).length = 5 := loadN_len b 5
theorem loadN_w (b : List Nat) (i : Nat) : W64 (loadN b i) := by
  induction i with
  | zero => exact zero5_w
  | succ i ih => exact ih.set _ (Nat.lt_of_lt_of_le (loadI_lt b i) (by decide))
theorem loadL_w (b : List Nat) : W64 (loadL b) := loadN_w b 5
def clampN (v : Nat) (l : List Nat) (is : List Nat) : List Nat := is.foldl (fun l i => l.set i (l.getD i 0 &&& v)) l
def clampL (k : List Nat) : List Nat := clampN 252 (clampN 15 k [3, 7, 11, 15]) [4, 8, 12]
theorem clampN_len (v : Nat) (is : List Nat) : ∀ l : List Nat, (clampN v l is).length = l.length := by
  induction is with
  | nil => exact fun l => rfl
  | cons i is ih => intro l; show (clampN v (l.set i _) is).length = _; rw [ih]; simp
theorem Bytes.set {l : List Nat} (h : Bytes l) (i : Nat) {x : Nat} (hx : x < 256) : Bytes (l.set i x) := fun y hy => by
  rcases List.mem_or_eq_of_mem_set hy with q | rfl
  · exact h y q
  · exact hx
theorem clampN_bytes (v : Nat) (is : List Nat) : ∀ {l : List Nat}, Bytes l → Bytes (clampN v l is) := by
  induction is with
  | nil => exact fun h => h
  | cons i is ih => intro l h; exact ih (h.set i (Nat.lt_of_le_of_lt Nat.and_le_left (h.getD i)))
/-- The ith of a row's pieces of n. -/
def chunkN (n : Nat) (m : List Nat) (i : Nat) : List Nat := (m.take (min (n * i + n) m.length)).drop (n * i)
abbrev chunk (m : List Nat) (i : Nat) : List Nat := chunkN 16 m i
theorem chunkN_bytes {m : List Nat} (h : Bytes m) (n i : Nat) : Bytes (chunkN n m i) := (h.take _).drop _
theorem chunkN_len (n : Nat) (m : List Nat) (i : Nat) : (chunkN n m i).length ≤ n := by unfold chunkN; rw [List.length_drop, List.length_take]; omega
def tagN (r m : List Nat) : Nat → List Nat
  | 0 => zero5
  | i + 1 => timesL (addL (tagN r m i) (loadL (chunk m i ++ [1]))) r
theorem tagN_len (r m : List Nat) (i : Nat) : (tagN r m i).length = 5 := by
  cases i with
  | zero => rfl
  | succ i => rw [tagN, timesL_len]
theorem tagN_w (r m : List Nat) (i : Nat) : W64 (tagN r m i) := by
  cases i with
  | zero => exact zero5_w
  | succ i => exact timesL_w _ _
def tagL (key m : List Nat) : List Nat := bytesL (reduceL (tagN (loadL (clampL (key.take 16))) m ((m.length + 15) / 16))) (key.drop 16)
theorem tagL_len (key m : List Nat) : (tagL key m).length = 16 := bytesL_len _ _
theorem tagL_bytes (key m : List Nat) : Bytes (tagL key m) := bytesL_bytes _ _
end Go.Pure
set_option linter.unusedSimpArgs false
set_option linter.unusedVariables false
set_option maxRecDepth 100000
namespace Go.Proofs.Ytnecdbclhdbaoaa
open Go Go.SL Go.Pure
theorem set_idem {h : Hp} {g : Nat} {o : AObj} (e : h g = some o) : h.set g o = h := by
  funext j
  by_cases ej : j = g
  · subst ej; rw [Hp.set_same, e]
  · rw [Hp.set_ne _ _ ej]
theorem cellN {h : Hp} {g e cap i : Nat} {k : IntKind} {S : List Nat} {fz : Option (Nat × Nat)} (hg : h g = some (.row e (nv k S) cap fz)) (hi : i < S.length) : h.cell ⟨g, i, none⟩ = some (.int k ((S.getD i 0 : Nat) : Int)) := by
  rw [cell_row hg, nv_getD _ _ _ hi]
theorem storeN {h : Hp} {t g e cap i x : Nat} {k : IntKind} {S : List Nat} {f : Nat × Nat} {K : Unit → Hp → Prop} (hs : sz P t = some 1) (hg : h g = some (.row e (nv k S) cap (some f))) (hi : i < S.length) (hf : ¬ (f.1 ≤ i ∧ i < f.2))
    (q : K () (h.set g (.row e (nv k (S.set i x)) cap (some f)))) : aw P (Instr.storeAt t (.pointer (some ⟨g, i, none⟩)) (.int k (x : Int))) K h := by
  refine aw_store hs rfl (put_row hg (by rw [nv_len]; exact hi) hf _) ?_
  rw [nv_set]
  exact q
theorem and26 {a : Nat} (ha : a < 18446744073709551616) : iand .u64 (a : Int) 67108863 = ((a % 67108864 : Nat) : Int) := by
  rw [and64 (by omega) (by omega) (by omega) (by omega), Int.toNat_natCast]
  have := Nat.and_two_pow_sub_one_eq_mod a 26
  simp only [Nat.reducePow, Nat.add_one_sub_one, Nat.reduceSub] at this
  show ((a &&& 67108863 : Nat) : Int) = _
  rw [this]
theorem shr64 (a n : Nat) (hn : n ≤ 64) : ((a : Int).fdiv (2 ^ min ((n : Nat) : Int).toNat IntKind.u64.bits)) = ((a / 2 ^ n : Nat) : Int) := by
  have : min ((n : Nat) : Int).toNat IntKind.u64.bits = n := by simp only [IntKind.bits, Int.toNat_natCast]; omega
  rw [this, fdivp]
theorem shr26 (a : Nat) : ((a : Int).fdiv (2 ^ min ((26 : Int)).toNat IntKind.u64.bits)) = ((a / 67108864 : Nat) : Int) := shr64 a 26 (by omega)
theorem shr26' (a : Nat) : ((a : Int).fdiv (2 ^ min 26 IntKind.u64.bits)) = ((a / 67108864 : Nat) : Int) := shr64 a 26 (by omega)
theorem add64 (a b : Nat) : IntKind.u64.wrap ((a : Int) + (b : Int)) = (((a + b) % 18446744073709551616 : Nat) : Int) := by rw [← Int.natCast_add, wu64]
theorem mul64 (a b : Nat) : IntKind.u64.wrap ((a : Int) * (b : Int)) = (((a * b) % 18446744073709551616 : Nat) : Int) := by rw [← Int.natCast_mul, wu64]
theorem lt_dec (i n : Nat) : decide ((i : Int) < (n : Int)) = decide (i < n) := by
  rw [decide_eq_decide]; omega
theorem lt_dec5 (i : Nat) : decide ((i : Int) < 5) = decide (i < 5) := lt_dec i 5
theorem lt_dec4 (i : Nat) : decide ((i : Int) < 4) = decide (i < 4) := lt_dec i 4
theorem lt_dec3 (i : Nat) : decide ((i : Int) < 3) = decide (i < 3) := lt_dec i 3
theorem zr_number : zr P t_poly_number = some (.agg (nv .u64 zero5).toArray) := by kernel_rfl
section
variable {h : Hp} {K : Value → Hp → Prop}
theorem T_add {g e cap : Nat} {f : Nat × Nat} (S M : List Nat) (hS : S.length = 5) (hM : M.length = 5) (hg : h g = some (.row e (nv .u64 S) cap (some f))) (hf : ∀ i, i < 5 → ¬ (f.1 ≤ i ∧ i < f.2))
    (k : K (.tuple #[]) (h.set g (.row e (nv .u64 (addL S M)) cap (some f)))) : Cn P n_poly_number_add #[.pointer (some ⟨g, 0, none⟩), .agg (nv .u64 M).toArray] h K := by
  refine Cn_wk (F_poly_number_add ?_)
  unfold s_poly_number_add
  refine aw_box fun r hr => ?_
  have hne : g ≠ r := by rintro rfl; rw [hr] at hg; cases hg
  have hO : ∀ T, ((h.set g (.row e (nv .u64 T) cap (some f))).set r (.row t_poly_number (nv .u64 M) 5 (some (0, 0)))) g = some (.row e (nv .u64 T) cap (some f)) := fun T => by rw [Hp.set_ne _ _ hne, Hp.set_same]
  have hR : ∀ T, ((h.set g (.row e (nv .u64 T) cap (some f))).set r (.row t_poly_number (nv .u64 M) 5 (some (0, 0)))) r = some (.row t_poly_number (nv .u64 M) 5 (some (0, 0))) := fun T => Hp.set_same ..
  have hC : (Value.agg (nv .u64 M).toArray).cells.toList = nv .u64 M := rfl
  have hC2 : (Value.agg (nv .u64 M).toArray).cells.size = 5 := by show (nv .u64 M).toArray.size = 5; simp [nv_len, hM]
  rw [hC, hC2]
  refine Lp_mk (fun m vs h' => ∃ i : Nat, i + m = 5 ∧ h' = (h.set g (.row e (nv .u64 (addN S M i)) cap (some f))).set r (.row t_poly_number (nv .u64 M) 5 (some (0, 0))) ∧ vs = [.int .i64 (i : Int)]) 5 ⟨0, rfl, by rw [addN, set_idem hg], rfl⟩ ?_
  rintro m vs h' ⟨i, hi, rfl, rfl⟩
  have lT := addN_len S M i
  simp (disch := omega) only [GL, RL, wi64, lt_dec5]
  by_cases hlt : i < 5
  · have c1 := cellN (i := i) (hO (addN S M i)) (by omega)
    have c2 := cellN (i := i) (hR (addN S M i)) (by omega)
    simp (disch := omega) only [GL, RL, wi64, hlt, decide_true, if_true, c1, c2, add64]
    refine storeN z_uint64 (hO _) (by omega) (hf i hlt) ?_
    refine ⟨_, .refl _, m - 1, by omega, i + 1, by omega, ?_, rfl⟩
    rw [Hp.set_comm _ _ _ (Ne.symm hne), Hp.set_set]
    rfl
  · obtain rfl : i = 5 := by omega
    simp only [hlt, decide_false, Bool.false_eq_true, if_false]
    exact ⟨_, le_fresh (by rw [Hp.set_ne _ _ (Ne.symm hne)]; exact hr), k⟩
theorem T_carry {g e cap : Nat} {f : Nat × Nat} (S : List Nat) (hS : S.length = 5) (wS : W64 S) (hg : h g = some (.row e (nv .u64 S) cap (some f))) (hf : ∀ i, i < 5 → ¬ (f.1 ≤ i ∧ i < f.2))
    (k : K (.tuple #[]) (h.set g (.row e (nv .u64 (carryL S)) cap (some f)))) : Cn P n_poly_number_carry #[.pointer (some ⟨g, 0, none⟩)] h K := by
  refine F_poly_number_carry ?_
  unfold s_poly_number_carry
  obtain ⟨M, hM⟩ : ∃ M : List Nat → Hp, ∀ T, h.set g (.row e (nv .u64 T) cap (some f)) = M T := ⟨_, fun T => rfl⟩
  have Mg : ∀ T, M T g = some (.row e (nv .u64 T) cap (some f)) := fun T => by rw [← hM, Hp.set_same]
  have Ms : ∀ T T', (M T).set g (.row e (nv .u64 T') cap (some f)) = M T' := fun T T' => by rw [← hM, ← hM, Hp.set_set]
  have h0 : h = M S := by rw [← hM, set_idem hg]
  rw [hM] at k
  refine Lp_mk (fun m vs h' => ∃ i : Nat, i + m = 5 ∧ h' = M (carryN S i).2 ∧ vs = [.int .u64 ((carryN S i).1 : Nat), .int .i64 (i : Int)]) 5 ⟨0, rfl, h0, rfl⟩ ?_
  rintro m vs h' ⟨i, hi, rfl, rfl⟩
  have lT := carryN_len S i
  obtain ⟨wc, wT⟩ := carryN_w wS i
  obtain ⟨c, hc⟩ : ∃ c, (carryN S i).1 = c := ⟨_, rfl⟩
  obtain ⟨T, hT⟩ : ∃ T, (carryN S i).2 = T := ⟨_, rfl⟩
  rw [hc] at wc
  rw [hT] at wT lT
  rw [hc, hT]
  simp (disch := omega) only [GL, RL, wi64, lt_dec5]
  by_cases hlt : i < 5
  · have c1 := cellN (i := i) (Mg T) (by omega)
    simp (disch := omega) only [GL, RL, wi64, hlt, decide_true, if_true, c1, add64]
    refine storeN z_uint64 (Mg _) (by omega) (hf i hlt) ?_
    rw [Ms]
    have c2 := cellN (i := i) (Mg (T.set i ((T.getD i 0 + c) % 18446744073709551616))) (by rw [List.length_set]; omega)
    have e2 : (T.set i ((T.getD i 0 + c) % 18446744073709551616)).getD i 0 = (T.getD i 0 + c) % 18446744073709551616 := by
      rw [List.getD_eq_getElem?_getD, List.getElem?_set_self (by omega)]; rfl
    rw [e2] at c2
    have lv : (T.getD i 0 + c) % 18446744073709551616 < 18446744073709551616 := Nat.mod_lt _ (by decide)
    simp (disch := omega) only [GL, RL, wi64, c2, shr26, and26 lv]
    refine storeN z_uint64 (Mg _) (by rw [List.length_set]; omega) (hf i hlt) ?_
    rw [Ms, List.set_set]
    refine ⟨_, .refl _, m - 1, by omega, i + 1, by omega, ?_, ?_⟩
    · simp only [carryN, hc, hT]
    · simp only [carryN, hc, hT]; rfl
  · obtain rfl : i = 5 := by omega
    have c1 := cellN (i := 0) (Mg T) (by omega)
    simp (disch := omega) only [GL, RL, wi64, hlt, decide_false, Bool.false_eq_true, if_false, Int.reduceToNat, c1]
    have e5 : IntKind.u64.wrap (5 * (c : Int)) = ((5 * c % 18446744073709551616 : Nat) : Int) := mul64 5 c
    simp (disch := omega) only [e5, add64]
    refine storeN (S := T) z_uint64 (Mg _) (by omega) (hf 0 (by omega)) ?_
    rw [Ms]
    have hcl : carryL S = carryE c T := by rw [carryL, hc, hT]
    unfold carryE at hcl
    dsimp only at hcl
    have w1 := wT.set 0 (Nat.mod_lt (T.getD 0 0 + 5 * c % 18446744073709551616) (show 18446744073709551616 > 0 by decide))
    generalize hA : T.set 0 ((T.getD 0 0 + 5 * c % 18446744073709551616) % 18446744073709551616) = A at hcl w1 ⊢
    have lA : A.length = 5 := by rw [← hA, List.length_set, ← hT, carryN_len]; exact hS
    have c2 := cellN (i := 0) (Mg A) (by omega)
    have c3 := cellN (i := 1) (Mg A) (by omega)
    simp (disch := omega) only [GL, RL, wi64, Int.reduceToNat, c2, c3, shr26', add64]
    refine storeN (S := A) z_uint64 (Mg A) (by omega) (hf 1 (by omega)) ?_
    rw [Ms]
    have w2 := w1.set 1 (Nat.mod_lt (A.getD 1 0 + A.getD 0 0 / 67108864) (show 18446744073709551616 > 0 by decide))
    generalize hB : A.set 1 ((A.getD 1 0 + A.getD 0 0 / 67108864) % 18446744073709551616) = B at hcl w2 ⊢
    have lB : B.length = 5 := by rw [← hB, List.length_set]; exact lA
    have c4 := cellN (i := 0) (Mg B) (by omega)
    simp (disch := omega) only [GL, RL, wi64, Int.reduceToNat, c4, and26 (w2.getD 0)]
    refine storeN z_uint64 (Mg _) (by omega) (hf 0 (by omega)) ?_
    rw [Ms, ← hcl]
    exact k
theorem T_times {g e cap : Nat} {f : Nat × Nat} (S R : List Nat) (hS : S.length = 5) (hR : R.length = 5) (wS : W64 S) (hg : h g = some (.row e (nv .u64 S) cap (some f))) (hf : ∀ i, i < 5 → ¬ (f.1 ≤ i ∧ i < f.2))
    (k : K (.tuple #[]) (h.set g (.row e (nv .u64 (timesL S R)) cap (some f)))) : Cn P n_poly_number_times #[.pointer (some ⟨g, 0, none⟩), .agg (nv .u64 R).toArray] h K := by
  refine Cn_wk (F_poly_number_times ?_)
  unfold s_poly_number_times
  refine aw_box fun r hr => ?_
  have hgr : g ≠ r := by rintro rfl; rw [hr] at hg; cases hg
  have hC : (Value.agg (nv .u64 R).toArray).cells.toList = nv .u64 R := rfl
  have hC2 : (Value.agg (nv .u64 R).toArray).cells.size = 5 := by show (nv .u64 R).toArray.size = 5; simp [nv_len, hR]
  rw [hC, hC2]
  refine aw_allocL (nv .u64 zero5) zr_number (by rfl) fun o ho => ?_
  have hro : r ≠ o := by rintro rfl; rw [Hp.set_same] at ho; cases ho
  have hgo : g ≠ o := by rintro rfl; rw [Hp.set_ne _ _ hgr, hg] at ho; cases ho
  have hor : h o = none := by rwa [Hp.set_ne _ _ (Ne.symm hro)] at ho
  obtain ⟨M, hM⟩ : ∃ M : List Nat → Hp, ∀ T, (h.set r (.row t_poly_number (nv .u64 R) 5 (some (0, 0)))).set o (.row t_poly_number (nv .u64 T) 5 (some (0, 0))) = M T := ⟨_, fun T => rfl⟩
  have Mo : ∀ T, M T o = some (.row t_poly_number (nv .u64 T) 5 (some (0, 0))) := fun T => by rw [← hM, Hp.set_same]
  have Mr : ∀ T, M T r = some (.row t_poly_number (nv .u64 R) 5 (some (0, 0))) := fun T => by rw [← hM, Hp.set_ne _ _ hro, Hp.set_same]
  have Mg : ∀ T, M T g = some (.row e (nv .u64 S) cap (some f)) := fun T => by rw [← hM, Hp.set_ne _ _ hgo, Hp.set_ne _ _ hgr, hg]
  have Ms : ∀ T T', (M T).set o (.row t_poly_number (nv .u64 T') 5 (some (0, 0))) = M T' := fun T T' => by rw [← hM, ← hM, Hp.set_set]
  have leM : ∀ T, Hp.le h (M T) := fun T => by rw [← hM]; exact (le_fresh hr).trans (le_fresh ho)
  rw [show (nv IntKind.u64 zero5).length = 5 from rfl, hM]
  refine Lp_mk (fun m vs h' => ∃ i : Nat, i + m = 5 ∧ h' = M (tout S R i) ∧ vs = [.int .i64 (i : Int)]) 5 ⟨0, rfl, rfl, rfl⟩ ?_
  rintro m vs h' ⟨i, hi, rfl, rfl⟩
  have lT := tout_len S R i
  simp (disch := omega) only [GL, RL, wi64, lt_dec5]
  by_cases hlt : i < 5
  · simp (disch := omega) only [hlt, decide_true, if_true]
    refine Lp_mk (fun m' vs h' => ∃ j : Nat, j + m' = 5 ∧ h' = M (tin S R i (tout S R i) j) ∧ vs = [.int .i64 (j : Int)]) 5 ⟨0, rfl, rfl, rfl⟩ ?_
    rintro m' vs h' ⟨j, hj, rfl, rfl⟩
    have lI : (tin S R i (tout S R i) j).length = 5 := by rw [tin_len]; exact lT
    simp (disch := omega) only [GL, RL, wi64, lt_dec5]
    by_cases hlt2 : j < 5
    · have c1 := cellN (i := i) (Mg (tin S R i (tout S R i) j)) (by omega)
      have c2 := cellN (i := j) (Mr (tin S R i (tout S R i) j)) (by omega)
      simp (disch := omega) only [GL, RL, wi64, hlt2, decide_true, if_true, c1, c2, mul64]
      have e1 : ((i : Int) + (j : Int)).tmod 5 = (((i + j) % 5 : Nat) : Int) := by rw [← Int.natCast_add]; exact (Int.ofNat_tmod (i + j) 5).symm
      have e2 : decide (5 ≤ (i : Int) + (j : Int)) = decide (5 ≤ i + j) := by rw [decide_eq_decide]; omega
      have e3 : ∀ x : Nat, IntKind.u64.wrap ((x : Int) * 5) = ((x * 5 % 18446744073709551616 : Nat) : Int) := fun x => mul64 x 5
      have hm5 : (i + j) % 5 < 5 := Nat.mod_lt _ (by decide)
      have c3 := cellN (i := (i + j) % 5) (Mo (tin S R i (tout S R i) j)) (by omega)
      have fin : ∀ v : Nat, v = tval i j S R → aw P (Instr.storeAt t_uint64 (Value.pointer (some ⟨o, (i + j) % 5, none⟩)) (.int .u64 ((((tin S R i (tout S R i) j).getD ((i + j) % 5) 0 + v) % 18446744073709551616 : Nat) : Int))) (fun _ h =>
            ∃ h0, Hp.le h0 h ∧ ∃ m, m < m' ∧ ∃ j_1 : Nat, j_1 + m = 5 ∧ h0 = M (tin S R i (tout S R i) j_1) ∧ [Value.int .i64 ((j : Int) + 1)] = [.int .i64 (j_1 : Int)]) (M (tin S R i (tout S R i) j)) := by
        rintro v rfl
        refine storeN z_uint64 (Mo _) (by omega) (by simp) ?_
        rw [Ms]
        exact ⟨_, .refl _, m' - 1, by omega, j + 1, by omega, rfl, rfl⟩
      simp only [e2, e3]
      by_cases h5 : 5 ≤ i + j
      · simp (disch := omega) only [GL, RL, wi64, h5, decide_true, if_true, e1, c3, add64]
        refine fin _ ?_
        unfold tval; rw [if_pos h5]
      · simp (disch := omega) only [GL, RL, wi64, h5, decide_false, Bool.false_eq_true, if_false, e1, c3, add64]
        refine fin _ ?_
        unfold tval; rw [if_neg h5]
    · obtain rfl : j = 5 := by omega
      simp (disch := omega) only [GL, RL, wi64, hlt2, decide_false, Bool.false_eq_true, if_false]
      exact ⟨_, .refl _, m - 1, by omega, i + 1, by omega, rfl, rfl⟩
  · obtain rfl : i = 5 := by omega
    simp (disch := omega) only [GL, RL, wi64, hlt, decide_false, Bool.false_eq_true, if_false]
    have l5 := tout_len S R 5
    have w5 := tout_w S R 5
    have ht : timesL S R = carryL (tout S R 5) := rfl
    rw [ht] at k
    generalize tout S R 5 = U at l5 w5 k lT ⊢
    have hz : sz P t_poly_number = some (nv .u64 U).length := by rw [nv_len, l5]; exact z_poly_number
    rw [q_ldRow u_poly_number rfl hz (Mo _)]
    refine aw_storeRow hz (Mg _) (by rw [nv_len, nv_len, l5, hS]) (nv_flat _ _) (fun i hi => hf i (by rwa [nv_len, hS] at hi)) ?_
    refine T_carry U l5 w5 (Hp.set_same ..) hf ?_
    rw [Hp.set_set]
    exact ⟨_, le_set (leM _), k⟩
theorem T_reduce {g e cap : Nat} {f : Nat × Nat} (S : List Nat) (hS : S.length = 5) (wS : W64 S) (hg : h g = some (.row e (nv .u64 S) cap (some f))) (hf : ∀ i, i < 5 → ¬ (f.1 ≤ i ∧ i < f.2))
    (k : K (.tuple #[]) (h.set g (.row e (nv .u64 (reduceL S)) cap (some f)))) : Cn P n_poly_number_reduce #[.pointer (some ⟨g, 0, none⟩)] h K := by
  refine Cn_wk (F_poly_number_reduce ?_)
  unfold s_poly_number_reduce
  refine T_carry S hS wS hg hf ?_
  refine T_carry (carryL S) (by rw [carryL_len, hS]) (carryL_w wS) (Hp.set_same ..) hf ?_
  rw [Hp.set_set]
  have lT : (carryL (carryL S)).length = 5 := by rw [carryL_len, carryL_len, hS]
  have wT := carryL_w (carryL_w wS)
  have hr : reduceL S = redE (carryL (carryL S)) (redN (carryL (carryL S)) 4) := rfl
  rw [hr] at k
  generalize carryL (carryL S) = T at lT wT k ⊢
  have hzz : ∀ U : List Nat, U.length = 5 → sz P t_poly_number = some (nv .u64 U).length := fun U hU => by rw [nv_len, hU]; exact z_poly_number
  simp (disch := omega) only [GL, RL]
  rw [q_ldRow u_poly_number rfl (hzz T lT) (Hp.set_same ..)]
  refine aw_allocL (nv .u64 zero5) zr_number (by rfl) fun o ho => ?_
  have hgo : g ≠ o := by rintro rfl; rw [Hp.set_same] at ho; cases ho
  refine aw_storeRow (hzz T lT) (Hp.set_same ..) (by rw [nv_len, nv_len, lT]; rfl) (nv_flat _ _) (fun i hi => by simp) ?_
  rw [Hp.set_set, show (nv IntKind.u64 zero5).length = 5 from rfl]
  obtain ⟨M, hM⟩ : ∃ M : List Nat → Hp, ∀ U, (h.set g (.row e (nv .u64 T) cap (some f))).set o (.row t_poly_number (nv .u64 U) 5 (some (0, 0))) = M U := ⟨_, fun T => rfl⟩
  have Mo : ∀ U, M U o = some (.row t_poly_number (nv .u64 U) 5 (some (0, 0))) := fun T => by rw [← hM, Hp.set_same]
  have Mg : ∀ U, M U g = some (.row e (nv .u64 T) cap (some f)) := fun U => by rw [← hM, Hp.set_ne _ _ hgo, Hp.set_same]
  have Ms : ∀ U U', (M U).set o (.row t_poly_number (nv .u64 U') 5 (some (0, 0))) = M U' := fun T T' => by rw [← hM, ← hM, Hp.set_set]
  rw [hM]
  have c0 := cellN (i := 0) (Mo T) (by omega)
  simp (disch := omega) only [GL, RL, Int.reduceToNat, c0]
  have e5 : IntKind.u64.wrap ((T.getD 0 0 : Int) + 5) = (((T.getD 0 0 + 5) % 18446744073709551616 : Nat) : Int) := add64 _ 5
  rw [e5]
  refine storeN z_uint64 (Mo _) (by omega) (by simp) ?_
  rw [Ms]
  refine Lp_mk (fun m vs h' => ∃ i : Nat, i + m = 4 ∧ h' = M (redN T i) ∧ vs = [.int .i64 (i : Int)]) 4 ⟨0, rfl, rfl, rfl⟩ ?_
  rintro m vs h' ⟨i, hi, rfl, rfl⟩
  have lU : (redN T i).length = 5 := by rw [redN_len, lT]
  have wU := redN_w wT i
  obtain ⟨U, hU⟩ : ∃ U, redN T i = U := ⟨_, rfl⟩
  rw [hU] at lU wU ⊢
  simp (disch := omega) only [GL, RL, wi64, lt_dec4]
  by_cases hlt : i < 4
  · have e1 : ((i : Int) + 1).toNat = i + 1 := by omega
    have c1 := cellN (i := i) (Mo U) (by omega)
    have c2 := cellN (i := i + 1) (Mo U) (by omega)
    simp (disch := omega) only [GL, RL, wi64, hlt, decide_true, if_true, e1, c1, c2, shr26, shr26', add64, Int.reduceToNat]
    refine storeN z_uint64 (Mo _) (by omega) (by simp) ?_
    rw [Ms]
    obtain ⟨A, hA⟩ : ∃ A, U.set (i + 1) ((U.getD (i + 1) 0 + U.getD i 0 / 67108864) % 18446744073709551616) = A := ⟨_, rfl⟩
    have lA : A.length = 5 := by rw [← hA, List.length_set]; omega
    have wA : W64 A := by rw [← hA]; exact wU.set _ (Nat.mod_lt _ (by decide))
    rw [hA]
    have c3 := cellN (i := i) (Mo A) (by omega)
    simp (disch := omega) only [GL, RL, wi64, c3, and26 (wA.getD i)]
    refine storeN z_uint64 (Mo _) (by omega) (by simp) ?_
    rw [Ms]
    refine ⟨_, .refl _, m - 1, by omega, i + 1, by omega, ?_, rfl⟩
    simp only [redN, hU, hA]
  · obtain rfl : i = 4 := by omega
    have c1 := cellN (i := 4) (Mo U) (by omega)
    rw [hU] at k
    simp (disch := omega) only [GL, RL, wi64, hlt, decide_false, Bool.false_eq_true, if_false, Int.reduceToNat, c1, shr26, shr26']
    have e0 : (((U.getD 4 0 / 67108864 : Nat) : Int) != 0) = decide (U.getD 4 0 / 67108864 ≠ 0) := by
      rw [Bool.eq_iff_iff, bne_iff_ne, decide_eq_true_eq]; omega
    rw [e0]
    by_cases h0 : U.getD 4 0 / 67108864 ≠ 0
    · rw [if_pos (by simpa using h0)]
      simp (disch := omega) only [and26 (wU.getD 4)]
      refine storeN z_uint64 (Mo _) (by omega) (by simp) ?_
      rw [Ms]
      have hE : redE T U = U.set 4 (U.getD 4 0 % 67108864) := by unfold redE; rw [if_pos h0]
      rw [← hE]
      have lE : (redE T U).length = 5 := by rw [redE_len _ _ (by omega)]; exact lT
      rw [q_ldRow u_poly_number rfl (hzz _ lE) (Mo _)]
      refine aw_storeRow (hzz _ lE) (Mg _) (by rw [nv_len, nv_len, lT, lE]) (nv_flat _ _) (fun i hi => hf i (by rwa [nv_len, lT] at hi)) ?_
      refine ⟨_, ?_, k⟩
      have : Hp.le (h.set g (.row e (nv .u64 T) cap (some f))) (M (redE T U)) := by rw [← hM]; exact le_fresh ho
      have := le_set (b := g) (o := .row e (nv .u64 (redE T U)) cap (some f)) this
      rwa [Hp.set_set] at this
    · rw [if_neg (by simpa using h0)]
      have hE : redE T U = T := by unfold redE; rw [if_neg h0]
      rw [hE] at k
      exact ⟨_, by rw [← hM]; exact le_fresh ho, k⟩
end
end Go.Proofs.Ytnecdbclhdbaoaa
set_option linter.unusedSimpArgs false
set_option linter.unusedVariables false
set_option maxRecDepth 100000
namespace Go.Proofs.Ytnecdbclhdbaoaa
open Go Go.SL Go.Pure
theorem q_min {h : Hp} {K : Value → Prop} {t T : TypeId} {k : IntKind} (a b : Int) : q P h (Builtin.min_ #[t, t] T #[.int k a, .int k b]) K = K (.int k (if b < a then b else a)) := q_of (by simp [Builtin.min_, Builtin.min2, pk_pure]) K
theorem orN {a b : Nat} (ha : a < 18446744073709551616) (hb : b < 18446744073709551616) : ior .u64 (a : Int) (b : Int) = ((a ||| b : Nat) : Int) := by
  rw [or64 (by omega) (by omega) (by omega) (by omega), Int.toNat_natCast, Int.toNat_natCast]
theorem orN_lt {a b : Nat} (ha : a < 18446744073709551616) (hb : b < 18446744073709551616) : a ||| b < 18446744073709551616 := Nat.or_lt_two_pow (n := 64) ha hb
theorem shl64 (a n : Nat) (hn : n ≤ 64) : IntKind.u64.wrap ((a : Int) * 2 ^ min n IntKind.u64.bits) = ((a * 2 ^ n % 18446744073709551616 : Nat) : Int) := by
  have : min n IntKind.u64.bits = n := by simp only [IntKind.bits]; omega
  rw [this, mulp, wu64]
theorem shr64' (a n : Nat) (hn : n ≤ 64) : ((a : Int).fdiv (2 ^ min n IntKind.u64.bits)) = ((a / 2 ^ n : Nat) : Int) := by
  have : min n IntKind.u64.bits = n := by simp only [IntKind.bits]; omega
  rw [this, fdivp]
section
variable {h : Hp} {K : Value → Hp → Prop}
theorem T_load {v : Value} {b : List Nat} (hb : Rn h .u8 v b) (bb : Bytes b) (hl : b.length ≤ 9223372036854775807) (k : ∀ h', Hp.le h h' → K (.agg (nv .u64 (loadL b)).toArray) h) : Cn P n_poly_load #[v] h K := by
  refine Cn_wk (F_poly_load ?_)
  unfold s_poly_load
  have hzz : ∀ U : List Nat, U.length = 5 → sz P t_poly_number = some (nv .u64 U).length := fun U hU => by rw [nv_len, hU]; exact z_poly_number
  refine aw_allocL (nv .u64 zero5) zr_number (by rfl) fun r hr => ?_
  refine aw_allocL (nv .u64 zero5) zr_number (by rfl) fun o ho => ?_
  have hro : r ≠ o := by rintro rfl; rw [Hp.set_same] at ho; cases ho
  rw [show (nv IntKind.u64 zero5).length = 5 from rfl]
  obtain ⟨M, hM⟩ : ∃ M : List Nat → Hp, ∀ U, (h.set r (.row t_poly_number (nv .u64 zero5) 5 (some (0, 0)))).set o (.row t_poly_number (nv .u64 U) 5 (some (0, 0))) = M U := ⟨_, fun T => rfl⟩
  have Mo : ∀ U, M U o = some (.row t_poly_number (nv .u64 U) 5 (some (0, 0))) := fun T => by rw [← hM, Hp.set_same]
  have Mr : ∀ U, M U r = some (.row t_poly_number (nv .u64 zero5) 5 (some (0, 0))) := fun U => by rw [← hM, Hp.set_ne _ _ hro, Hp.set_same]
  have Ms : ∀ U U', (M U).set o (.row t_poly_number (nv .u64 U') 5 (some (0, 0))) = M U' := fun T T' => by rw [← hM, ← hM, Hp.set_set]
  have leM : ∀ U, Hp.le h (M U) := fun U => by rw [← hM]; exact (le_fresh hr).trans (le_fresh ho)
  have cM : ∀ U, Hp.cle h (M U) := fun U => by rw [← hM]; exact (cle_set r _ hr).trans (cle_set o _ ho)
  rw [hM]
  refine Lp_mk (fun m vs h' => ∃ i : Nat, i + m = 5 ∧ h' = M (loadN b i) ∧ vs = [.int .i64 (i : Int)]) 5 ⟨0, rfl, rfl, rfl⟩ ?_
  rintro m vs h' ⟨i, hi, rfl, rfl⟩
  have lU := loadN_len b i
  simp (disch := omega) only [GL, RL, wi64, lt_dec5]
  by_cases hlt : i < 5
  · obtain ⟨a, c, hv, hc⟩ := hb.shape
    have e1 : (26 : Int) * (i : Int) = ((26 * i : Nat) : Int) := by omega
    have e2 : ((26 * i : Nat) : Int).tdiv 8 = ((26 * i / 8 : Nat) : Int) := (Int.ofNat_tdiv (26 * i) 8).symm
    have e3 : ((26 * i : Nat) : Int).tmod 8 = ((26 * i % 8 : Nat) : Int) := (Int.ofNat_tmod (26 * i) 8).symm
    have e4 : (if ((b.length : Nat) : Int) < ((26 * i / 8 : Nat) : Int) then ((b.length : Nat) : Int) else ((26 * i / 8 : Nat) : Int)) = ((min (26 * i / 8) b.length : Nat) : Int) := by split <;> omega
    subst hv
    simp (disch := omega) only [GL, RL, wi64, hlt, decide_true, if_true, e1, e2, e3, q_min, e4]
    refine q_slRn u_Sl_uint8 z_uint8 (hb.mono (cM _)) .i64 _ (by omega) fun w hw => ?_
    refine T_word_Get64 hw (bb.drop _) ?_
    simp (disch := omega) only [GL, RL, wi64, e1, e2, e3]
    rw [shr64' _ _ (by omega)]
    have lx : leval ((b.drop (min (26 * i / 8) b.length)).take 8) / 2 ^ (26 * i % 8) < 18446744073709551616 :=
      Nat.lt_of_le_of_lt (Nat.div_le_self _ _) (Nat.lt_of_lt_of_le (leval_take_lt _ (bb.drop _) 8) (by decide))
    rw [and26 lx]
    refine storeN z_uint64 (Mo _) (by omega) (by simp) ?_
    rw [Ms]
    exact ⟨_, .refl _, m - 1, by omega, i + 1, by omega, rfl, rfl⟩
  · obtain rfl : i = 5 := by omega
    simp (disch := omega) only [GL, RL, wi64, hlt, decide_false, Bool.false_eq_true, if_false]
    have hL : loadN b 5 = loadL b := rfl
    rw [hL] at lU ⊢
    rw [q_ldRow u_poly_number rfl (hzz _ lU) (Mo _)]
    refine aw_storeRow (hzz _ lU) (Mr _) (by rw [nv_len, nv_len, lU]; rfl) (nv_flat _ _) (fun i hi => by simp) ?_
    rw [q_resRow (ys := nv .u64 (loadL b)) u_poly_number rfl (hzz _ lU) (Hp.set_same ..)]
    refine ⟨h, ?_, k h (.refl _)⟩
    have : (M (loadL b)).set r (.row t_poly_number (nv .u64 (loadL b)) 5 (some (0, 0))) = (h.set r (.row t_poly_number (nv .u64 (loadL b)) 5 (some (0, 0)))).set o (.row t_poly_number (nv .u64 (loadL b)) 5 (some (0, 0))) := by
      rw [← hM, Hp.set_comm _ _ _ (Ne.symm hro), Hp.set_set]
    rw [this]
    refine (le_fresh hr).trans (le_fresh ?_)
    rw [Hp.set_ne _ _ (Ne.symm hro)]
    rwa [Hp.set_ne _ _ (Ne.symm hro)] at ho
theorem T_bytes {g e cap : Nat} {fz : Option (Nat × Nat)} {v : Value} (S s : List Nat) (hS : S.length = 5) (wS : W64 S) (hg : h g = some (.row e (nv .u64 S) cap fz)) (hv : Rn h .u8 v s) (bs : Bytes s) (hl : 8 ≤ s.length)
    (k : ∀ r h', Nn h t_uint8 .u8 r h' (bytesL S s) → K r h') : Cn P n_poly_number_bytes #[.pointer (some ⟨g, 0, none⟩), v] h K := by
  refine F_poly_number_bytes ?_
  unfold s_poly_number_bytes
  have c0 := cellN (i := 0) hg (by omega)
  have c1 := cellN (i := 1) hg (by omega)
  have c2 := cellN (i := 2) hg (by omega)
  have c3 := cellN (i := 3) hg (by omega)
  have c4 := cellN (i := 4) hg (by omega)
  have w0 := wS.getD 0
  have w1 := wS.getD 1
  have w2 := wS.getD 2
  have w3 := wS.getD 3
  have w4 := wS.getD 4
  obtain ⟨LO, hLO⟩ : ∃ x, lowL S = x := ⟨_, rfl⟩
  obtain ⟨HI, hHI⟩ : ∃ x, highL S = x := ⟨_, rfl⟩
  obtain ⟨B, hB⟩ : ∃ B, bytesL S s = B := ⟨_, rfl⟩
  rw [hB] at k
  unfold bytesL at hB
  dsimp only at hB
  rw [hLO, hHI] at hB
  unfold lowL at hLO
  unfold highL at hHI
  generalize S.getD 0 0 = s0 at *
  generalize S.getD 1 0 = s1 at *
  generalize S.getD 2 0 = s2 at *
  generalize S.getD 3 0 = s3 at *
  generalize S.getD 4 0 = s4 at *
  simp (disch := omega) only [GL, RL, Int.reduceToNat, c0, c1, c2, c3, c4, shl64, shr64']
  have m1 := Nat.mod_lt (s1 * 2 ^ 26) (show 18446744073709551616 > 0 by decide)
  have m2 := Nat.mod_lt (s2 * 2 ^ 52) (show 18446744073709551616 > 0 by decide)
  have m3 := Nat.mod_lt (s3 * 2 ^ 14) (show 18446744073709551616 > 0 by decide)
  have m4 := Nat.mod_lt (s4 * 2 ^ 40) (show 18446744073709551616 > 0 by decide)
  have d2 : s2 / 2 ^ 12 < 18446744073709551616 := Nat.lt_of_le_of_lt (Nat.div_le_self _ _) w2
  have o1 := orN_lt w0 m1
  have o2 := orN_lt d2 m3
  have o3 := orN_lt o1 m2
  have o4 := orN_lt o2 m4
  rw [orN w0 m1, orN o1 m2, orN d2 m3, orN o2 m4, hLO, hHI]
  rw [hLO] at o3
  rw [hHI] at o4
  obtain ⟨a, c, rfl, hc⟩ := hv.shape
  have hsl : peek P h (Instr.sliceAt t_Sl_uint8 (.slice a s.length c) (some (Value.int .i64 8)) none none) = some (.slice (SL.cut a c 8 1) (s.length - 8) (c - 8)) := by
    have := q_slLo (P := P) (h := h) (K := fun x => x = .slice (SL.cut a c 8 1) (s.length - 8) (c - 8)) u_Sl_uint8 z_uint8 a s.length c .i64 8 hl hc
    obtain ⟨x, hx, e⟩ := withVal_elim (K := fun x => x = .slice (SL.cut a c 8 1) (s.length - 8) (c - 8)) (this.mpr rfl)
    rw [e] at hx
    exact hx
  have hr8 : Rn h .u8 (.slice (SL.cut a c 8 1) (s.length - 8) (c - 8)) (s.drop 8) := by
    have := hv.cut 8 s.length hl (Nat.le_refl _)
    rwa [List.take_length] at this
  rw [q_of hsl]
  refine T_word_Get64 hv bs ?_
  refine ⟨hsl, ?_⟩
  refine T_word_Get64 hr8 (bs.drop _) ?_
  obtain ⟨A, hA⟩ : ∃ A, leval (s.take 8) = A := ⟨_, rfl⟩
  obtain ⟨D, hD⟩ : ∃ D, leval ((s.drop 8).take 8) = D := ⟨_, rfl⟩
  rw [hA, hD] at hB ⊢
  simp (disch := omega) only [GL, RL, add64]
  have eD : decide ((((LO + A) % 18446744073709551616 : Nat) : Int) < (A : Int)) = decide ((LO + A) % 18446744073709551616 < A) := lt_dec _ _
  rw [eD]
  have l1 := Nat.mod_lt (LO + A) (show 18446744073709551616 > 0 by decide)
  have l2 := Nat.mod_lt (HI + D) (show 18446744073709551616 > 0 by decide)
  generalize (LO + A) % 18446744073709551616 = X at *
  generalize (HI + D) % 18446744073709551616 = Y at *
  have fin : ∀ Z : Nat, Z < 18446744073709551616 → B = le 8 X ++ le 8 Z → Cn P n_word_Put64 #[Value.int .u64 (X : Int)] h fun t59 h => Cn P n_word_Put64 #[Value.int .u64 (Z : Int)] h fun t61 h => aw P (Builtin.append_ #[t_Sl_uint8, t_Sl_uint8] t_Sl_uint8 #[t59, t61]) (fun t62 h => K t62 h) h := by
    intro Z hZ hBB
    refine T_word_Put64 X l1 fun r1 h1 n1 => T_word_Put64 Z hZ fun r2 h2 n2 => ?_
    have n1' : New h t_uint8 1 r1 h1 (nv .u8 (le 8 X)) 8 := by unfold Nn at n1; rwa [le_len] at n1
    have n2' : New h1 t_uint8 1 r2 h2 (nv .u8 (le 8 Z)) 8 := by unfold Nn at n2; rwa [le_len] at n2
    refine aw_appendN u_Sl_uint8 u_Sl_uint8 nfo_uint8 rfl (by omega) n1' n2' (nv_flat _ _) (by omega) fun v' h5 hw5 => ?_
    refine k _ _ ?_
    unfold Nn
    rw [hBB, nv_app, List.length_append, le_len, le_len]
    exact hw5
  by_cases hlt : X < A
  · rw [if_pos hlt] at hB
    have eY : IntKind.u64.wrap ((Y : Int) + 1) = (((Y + 1) % 18446744073709551616 : Nat) : Int) := add64 Y 1
    simp (disch := omega) only [hlt, decide_true, if_true, eY]
    exact fin _ (Nat.mod_lt _ (by decide)) hB.symm
  · rw [if_neg hlt] at hB
    simp (disch := omega) only [hlt, decide_false, Bool.false_eq_true, if_false]
    exact fin _ l2 hB.symm
end
end Go.Proofs.Ytnecdbclhdbaoaa
set_option linter.unusedSimpArgs false
set_option linter.unusedVariables false
set_option maxRecDepth 100000
namespace Go.Proofs.Ytnecdbclhdbaoaa
open Go Go.SL Go.Pure
section
variable {h : Hp} {K : Value → Hp → Prop}
theorem T_Clone {v : Value} {l : List Nat} (hv : Rn h .u8 v l) (hl : l.length ≤ 70368744177664) (k : ∀ r h', Nn h t_uint8 .u8 r h' l → K r h') : Cn P n_slices_Clone_byte_byte #[v] h K := by
  refine F_slices_Clone_byte_byte ?_
  obtain ⟨a, c, rfl, hc⟩ := hv.shape
  unfold s_slices_Clone_byte_byte
  simp (disch := omega) only [GL, RL]
  cases a with
  | none =>
    have h0 : l = [] := by
      obtain ⟨_, a', c', e, _, h0 | ⟨b, o, e2, _⟩⟩ := hv
      · exact List.eq_nil_of_length_eq_zero h0
      · rw [e2] at e; cases e
    subst h0
    exact k _ _ (Nn.nil ..)
  | some a =>
    refine aw_lit (ps := []) (n := 0) u_Sl_uint8 z_uint8 zr_uint8 rfl (by omega) (by intro p hp; cases hp) fun r h1 hw _ => ?_
    refine aw_append u_Sl_uint8 u_Sl_uint8 nfo_uint8 rfl (by omega) hw (hv.mono hw.cle) (nv_flat _ _) (by omega) (.refl _) fun v' h2 hw2 => ?_
    refine k _ _ ?_
    unfold Nn
    simpa [fillL] using hw2
theorem T_Chunk {v : Value} {n : Nat} (hn : 0 < n) (hf : flat v = true)
    (k : ∀ r2 r3, h r2 = none → h r3 = none → r2 ≠ r3 → K (.func (.func n_slices_Chunk_byte_byte_1) #[] #[.pointer (some ⟨r2, 0, none⟩), .pointer (some ⟨r3, 0, none⟩)]) ((h.set r2 (.row t_Sl_uint8 [v] 1 (some (0, 0)))).set r3 (.row t_int [.int .i64 n] 1 (some (0, 0))))) :
    Cn P n_slices_Chunk_byte_byte #[v, .int .i64 n] h K := by
  refine F_slices_Chunk_byte_byte ?_
  unfold s_slices_Chunk_byte_byte
  refine aw_box fun r2 hr2 => ?_
  refine aw_box fun r3 hr3 => ?_
  have hne : r2 ≠ r3 := by rintro rfl; rw [Hp.set_same] at hr3; cases hr3
  rw [cells_flat hf]
  have c : ((h.set r2 (.row t_Sl_uint8 [v] 1 (some (0, 0)))).set r3 (.row t_int [.int .i64 n] 1 (some (0, 0)))).cell ⟨r3, 0, none⟩ = some (.int .i64 n) := by rw [cell_row (Hp.set_same ..)]; rfl
  simp (disch := omega) only [GL, RL]
  show withVal (((h.set r2 (.row t_Sl_uint8 [v] 1 (some (0, 0)))).set r3 (.row t_int [.int .i64 n] 1 (some (0, 0)))).cell ⟨r3, 0, none⟩) _
  rw [c]
  simp only [withVal_some]
  have e : decide ((n : Int) < 1) = false := by simp; omega
  simp (disch := omega) only [GL, RL, e, Bool.false_eq_true, if_false]
  rw [Hp.set_ne _ _ (Ne.symm hne)] at hr3
  exact k r2 r3 hr2 hr3 hne
/-- An iterator over a row's pieces. I: what holds ahead of the ith round; X: behind a round that ends it. -/
theorem T_Chunk_1 {y v : Value} {p2 p3 : Addr} {m : List Nat} {n : Nat} (hn : 0 < n) (hl : m.length ≤ 4611686018427387904) (hn2 : n ≤ 4611686018427387904) (I : Nat → Hp → Prop) (X : Hp → Prop)
    (hI : ∀ i h', I i h' → h'.cell p2 = some v ∧ h'.cell p3 = some (.int .i64 n) ∧ Rn h' .u8 v m) (h0 : I 0 h)
    (step : ∀ i h' w, n * i < m.length → I i h' → (∀ H, Rn H .u8 v m → Rn H .u8 w (chunkN n m i)) → callP P y [w] h' fun r h'' => (r = .bool true ∧ I (i + 1) h'') ∨ (r = .bool false ∧ X h''))
    (k : ∀ h', I ((m.length + n - 1) / n) h' ∨ X h' → K (.tuple #[]) h') : Cn P n_slices_Chunk_byte_byte_1 #[y, .pointer (some p2), .pointer (some p3)] h K := by
  refine F_slices_Chunk_byte_byte_1 ?_
  unfold s_slices_Chunk_byte_byte_1
  have lti : ∀ i : Nat, i < (m.length + n - 1) / n ↔ n * i < m.length := fun i => by
    rw [Nat.lt_iff_add_one_le, Nat.le_div_iff_mul_le hn, Nat.add_mul, Nat.one_mul, Nat.mul_comm i n]
    omega
  refine Lp_mk (fun u vs h' => ∃ i : Nat, i + u = (m.length + n - 1) / n ∧ I i h' ∧ vs = [.int .i64 ((n * i : Nat) : Int)]) ((m.length + n - 1) / n) ⟨0, by omega, h0, rfl⟩ ?_
  rintro u vs h' ⟨i, hi, hII, rfl⟩
  obtain ⟨c2, c3, hr⟩ := hI i h' hII
  obtain ⟨a, c, rfl, hc⟩ := hr.shape
  simp (disch := omega) only [GL, RL, wi64, c2, lt_dec]
  by_cases hlt : n * i < m.length
  · simp (disch := omega) only [GL, RL, hlt, decide_true, if_true, c3]
    refine q_slRn u_Sl_uint8 z_uint8 hr .i64 _ (by omega) fun w1 hw1 => ?_
    obtain ⟨a1, c1, rfl, hc1⟩ := hw1.shape
    have e4 : (if (((m.drop (n * i)).length : Nat) : Int) < (n : Int) then (((m.drop (n * i)).length : Nat) : Int) else (n : Int)) = ((min n (m.length - n * i) : Nat) : Int) := by
      rw [List.length_drop]; split <;> omega
    have e5 : ((n * i : Nat) : Int) + ((min n (m.length - n * i) : Nat) : Int) = ((min (n * i + n) m.length : Nat) : Int) := by omega
    simp (disch := omega) only [GL, RL, wi64, c2, c3, q_min, e4, e5]
    refine q_slRnLHM u_Sl_uint8 z_uint8 hr .i64 .i64 .i64 _ _ (by omega) (by omega) fun w hw => ?_
    refine callP_mono ?_ (step i h' w hlt hII hw)
    rintro r h'' (⟨rfl, h2⟩ | ⟨rfl, h2⟩)
    · obtain ⟨d2, d3, _⟩ := hI _ _ h2
      have e6 : ((n * i : Nat) : Int) + (n : Int) = ((n * (i + 1) : Nat) : Int) := by rw [Nat.mul_add, Nat.mul_one]; omega
      simp (disch := omega) only [GL, RL, wi64, Bool.not_true, Bool.false_eq_true, if_false, d3, e6]
      have := (lti i).2 hlt
      refine ⟨_, .refl _, u - 1, by omega, i + 1, by omega, h2, ?_⟩
      rw [← e6]
    · simp (disch := omega) only [GL, RL, Bool.not_false, if_true]
      exact k _ (.inr h2)
  · simp (disch := omega) only [GL, RL, hlt, decide_false, Bool.false_eq_true, if_false]
    have hn' := mt (lti i).1 hlt
    obtain rfl : i = (m.length + n - 1) / n := by omega
    exact k _ (.inl hII)
end
end Go.Proofs.Ytnecdbclhdbaoaa
set_option linter.unusedSimpArgs false
set_option linter.unusedVariables false
set_option maxRecDepth 100000
namespace Go.Proofs.Ytnecdbclhdbaoaa
open Go Go.SL Go.Pure
def t15 : List Nat := [3, 7, 11, 15]
def t252 : List Nat := [4, 8, 12]
theorem t15_at {h : Hp} {K : Value → Prop} (i : Nat) (hi : i < 4) : q P h (Instr.index t_4_int (.agg #[.int .i64 3, .int .i64 7, .int .i64 11, .int .i64 15]) (.int .i64 i)) K = K (.int .i64 ((t15.getD i 0 : Nat) : Int)) := by
  have : i = 0 ∨ i = 1 ∨ i = 2 ∨ i = 3 := by omega
  rcases this with rfl | rfl | rfl | rfl <;> exact q_of (by kernel_rfl) K
theorem t252_at {h : Hp} {K : Value → Prop} (i : Nat) (hi : i < 3) : q P h (Instr.index t_3_int (.agg #[.int .i64 4, .int .i64 8, .int .i64 12]) (.int .i64 i)) K = K (.int .i64 ((t252.getD i 0 : Nat) : Int)) := by
  have : i = 0 ∨ i = 1 ∨ i = 2 := by omega
  rcases this with rfl | rfl | rfl <;> exact q_of (by kernel_rfl) K
theorem t15_b {h : Hp} {K : Value → Prop} : q P h (Instr.build t_4_int #[(0, (Value.int .i64 3)), (1, (Value.int .i64 7)), (2, (Value.int .i64 11)), (3, (Value.int .i64 15))]) K = K (.agg #[.int .i64 3, .int .i64 7, .int .i64 11, .int .i64 15]) := q_of (by kernel_rfl) K
theorem t252_b {h : Hp} {K : Value → Prop} : q P h (Instr.build t_3_int #[(0, (Value.int .i64 4)), (1, (Value.int .i64 8)), (2, (Value.int .i64 12))]) K = K (.agg #[.int .i64 4, .int .i64 8, .int .i64 12]) := q_of (by kernel_rfl) K
theorem and8N {a b : Nat} (ha : a < 256) (hb : b < 256) : iand .u8 (a : Int) (b : Int) = ((a &&& b : Nat) : Int) := by
  rw [and8 (by omega) (by omega) (by omega) (by omega), Int.toNat_natCast, Int.toNat_natCast]
theorem clampN_step (v : Nat) (l is : List Nat) (i : Nat) (hi : i < is.length) : clampN v l (is.take (i + 1)) = (clampN v l (is.take i)).set (is.getD i 0) ((clampN v l (is.take i)).getD (is.getD i 0) 0 &&& v) := by
  rw [List.take_succ_eq_append_getElem hi]
  unfold clampN
  rw [List.foldl_append]
  have : is.getD i 0 = is[i] := by simp [List.getD_eq_getElem?_getD, hi]
  rw [this]
  rfl
section
variable {h : Hp} {K : Value → Hp → Prop}
theorem T_poly_Tag {vk vm : Value} {key m : List Nat} (hk : Rn h .u8 vk key) (hm : Rn h .u8 vm m) (bk : Bytes key) (bm : Bytes m) (lk : key.length = 32) (hl : m.length ≤ 70368744177664)
    (k : ∀ v h', Nn h t_uint8 .u8 v h' (tagL key m) → K (.tuple #[v, .int .i64 0]) h') : Cn P n_poly_Tag #[vk, vm] h K := by
  refine Cn_wk (F_poly_Tag ?_)
  obtain ⟨ak, ck, rfl, hck⟩ := hk.shape
  unfold s_poly_Tag
  have e32 : (((key.length : Nat) : Int) != 32) = false := by rw [lk]; rfl
  simp (disch := omega) only [GL, RL, e32, Bool.false_eq_true, if_false]
  refine q_slRnHi u_Sl_uint8 z_uint8 hk .i64 16 (by omega) fun w16 hw16 => ?_
  refine T_Clone hw16 (by rw [List.length_take]; omega) fun r1 h1 n1 => ?_
  have l16 : (key.take 16).length = 16 := by rw [List.length_take]; omega
  have b16 : Bytes (key.take 16) := bk.take 16
  have hcl : clampL (key.take 16) = clampN 252 (clampN 15 (key.take 16) t15) t252 := rfl
  obtain ⟨F0, hF0⟩ : ∃ F0, key.take 16 = F0 := ⟨_, rfl⟩
  have htag : tagL key m = bytesL (reduceL (tagN (loadL (clampL F0)) m ((m.length + 15) / 16))) (key.drop 16) := by rw [← hF0]; rfl
  rw [hF0] at l16 b16 hcl n1
  rw [t15_b]
  have n1' : New h t_uint8 1 r1 h1 (nv .u8 F0) 16 := by unfold Nn at n1; rwa [l16] at n1
  obtain ⟨b, c, f0, hb, hc16, rfl, _, _⟩ := n1'.form (by omega)
  refine Lp_mk (fun u vs h' => ∃ i : Nat, i + u = 4 ∧ New h t_uint8 1 (.slice (some ⟨b, 0, none⟩) 16 c) h' (nv .u8 (clampN 15 F0 (t15.take i))) 16 ∧ vs = [.int .i64 (i : Int)]) 4 ⟨0, rfl, n1', rfl⟩ ?_
  clear n1 n1'
  rintro u vs h2 ⟨i, hi, hw, rfl⟩
  simp (disch := omega) only [GL, RL, wi64, lt_dec4]
  by_cases hlt : i < 4
  · have lC : (clampN 15 F0 (t15.take i)).length = 16 := by rw [clampN_len, l16]
    have bC := clampN_bytes 15 (t15.take i) b16
    have hx : t15.getD i 0 < 16 := by
      have : i = 0 ∨ i = 1 ∨ i = 2 ∨ i = 3 := by omega
      rcases this with rfl | rfl | rfl | rfl <;> decide
    have hstep := clampN_step 15 F0 t15 i (by show i < 4; exact hlt)
    obtain ⟨x, hxx⟩ : ∃ x, t15.getD i 0 = x := ⟨_, rfl⟩
    obtain ⟨C, hC⟩ : ∃ C, clampN 15 F0 (t15.take i) = C := ⟨_, rfl⟩
    rw [hC] at lC bC hw hstep
    rw [hxx] at hx hstep
    obtain ⟨b', c', f', hb', _, hv', hh', _⟩ := hw.form (by omega)
    simp only [Value.slice.injEq, Option.some.injEq, Addr.mk.injEq] at hv'
    obtain ⟨⟨rfl, _⟩, _, rfl⟩ := hv'
    have c1 := cellN (h := h2) (g := b) (i := x) (S := C) (by rw [hh']; exact Hp.set_same ..) (by omega)
    simp (disch := omega) only [GL, RL, wi64, hlt, decide_true, if_true, t15_at i hlt, hxx, c1]
    have e15 : iand .u8 ((C.getD x 0 : Nat) : Int) 15 = ((C.getD x 0 &&& 15 : Nat) : Int) := and8N (bC.getD x) (by decide)
    rw [e15]
    refine aw_storeN z_uint8 hw hx rfl fun h3 hw3 => ?_
    rw [nv_set, ← hstep] at hw3
    exact ⟨_, .refl _, u - 1, by omega, i + 1, by omega, hw3, rfl⟩
  obtain rfl : i = 4 := by omega
  simp only [hlt, decide_false, Bool.false_eq_true, if_false]
  rw [t252_b]
  have hC1 : clampN 15 F0 (t15.take 4) = clampN 15 F0 t15 := rfl
  rw [hC1] at hw
  have l16' : (clampN 15 F0 t15).length = 16 := by rw [clampN_len, l16]
  have b16' : Bytes (clampN 15 F0 t15) := clampN_bytes 15 _ b16
  generalize clampN 15 F0 t15 = F1 at hw l16' b16' hcl
  refine Lp_mk (fun u vs h' => ∃ i : Nat, i + u = 3 ∧ New h t_uint8 1 (.slice (some ⟨b, 0, none⟩) 16 c) h' (nv .u8 (clampN 252 F1 (t252.take i))) 16 ∧ vs = [.int .i64 (i : Int)]) 3 ⟨0, rfl, hw, rfl⟩ ?_
  clear hw hlt
  rintro u vs h2 ⟨i, hi, hw, rfl⟩
  simp (disch := omega) only [GL, RL, wi64, lt_dec3]
  by_cases hlt : i < 3
  · have lC : (clampN 252 F1 (t252.take i)).length = 16 := by rw [clampN_len, l16']
    have bC := clampN_bytes 252 (t252.take i) b16'
    have hx : t252.getD i 0 < 16 := by
      have : i = 0 ∨ i = 1 ∨ i = 2 := by omega
      rcases this with rfl | rfl | rfl <;> decide
    have hstep := clampN_step 252 F1 t252 i (by show i < 3; exact hlt)
    obtain ⟨x, hxx⟩ : ∃ x, t252.getD i 0 = x := ⟨_, rfl⟩
    obtain ⟨C, hC⟩ : ∃ C, clampN 252 F1 (t252.take i) = C := ⟨_, rfl⟩
    rw [hC] at lC bC hw hstep
    rw [hxx] at hx hstep
    obtain ⟨b', c', f', hb', _, hv', hh', _⟩ := hw.form (by omega)
    simp only [Value.slice.injEq, Option.some.injEq, Addr.mk.injEq] at hv'
    obtain ⟨⟨rfl, _⟩, _, rfl⟩ := hv'
    have c1 := cellN (h := h2) (g := b) (i := x) (S := C) (by rw [hh']; exact Hp.set_same ..) (by omega)
    simp (disch := omega) only [GL, RL, wi64, hlt, decide_true, if_true, t252_at i hlt, hxx, c1]
    have e15 : iand .u8 ((C.getD x 0 : Nat) : Int) 252 = ((C.getD x 0 &&& 252 : Nat) : Int) := and8N (bC.getD x) (by decide)
    rw [e15]
    refine aw_storeN z_uint8 hw hx rfl fun h3 hw3 => ?_
    rw [nv_set, ← hstep] at hw3
    exact ⟨_, .refl _, u - 1, by omega, i + 1, by omega, hw3, rfl⟩
  obtain rfl : i = 3 := by omega
  simp only [hlt, decide_false, Bool.false_eq_true, if_false]
  have hC2 : clampN 252 F1 (t252.take 3) = clampN 252 F1 t252 := rfl
  rw [hC2, ← hcl] at hw
  have lCl : (clampL F0).length = 16 := by rw [hcl, clampN_len, l16']
  have bCl : Bytes (clampL F0) := by rw [hcl]; exact clampN_bytes 252 _ b16'
  have hwr : Rn h2 .u8 (.slice (some ⟨b, 0, none⟩) 16 c) (clampL F0) := by
    have := hw.rds
    unfold Rn
    rwa [lCl]
  refine T_load hwr bCl (by omega) fun _ _ => ?_
  have lR := loadL_len (clampL F0)
  have wR := loadL_w (clampL F0)
  generalize loadL (clampL F0) = R at lR wR htag ⊢
  have hzz : ∀ U : List Nat, U.length = 5 → sz P t_poly_number = some (nv .u64 U).length := fun U hU => by rw [nv_len, hU]; exact z_poly_number
  refine aw_allocL (nv .u64 zero5) zr_number (by rfl) fun r11 hr11 => ?_
  refine aw_storeRow (hzz R lR) (Hp.set_same ..) (by rw [nv_len, nv_len, lR]; rfl) (nv_flat _ _) (fun i hi => by simp) ?_
  rw [Hp.set_set]
  refine aw_allocL (nv .u64 zero5) zr_number (by rfl) fun r12 hr12 => ?_
  have n12 : r11 ≠ r12 := by rintro rfl; rw [Hp.set_same] at hr12; cases hr12
  have hr12' : h2 r12 = none := by rwa [Hp.set_ne _ _ (Ne.symm n12)] at hr12
  refine T_Chunk (n := 16) (by omega) (by obtain ⟨a, c, e, _⟩ := hm.shape; rw [e]; rfl) fun r2 r3 hr2 hr3 n23 => ?_
  have n2_12 : r2 ≠ r12 := by rintro rfl; rw [Hp.set_same] at hr2; cases hr2
  have n3_12 : r3 ≠ r12 := by rintro rfl; rw [Hp.set_same] at hr3; cases hr3
  have n2_11 : r2 ≠ r11 := by rintro rfl; rw [Hp.set_ne _ _ n2_12, Hp.set_same] at hr2; cases hr2
  have n3_11 : r3 ≠ r11 := by rintro rfl; rw [Hp.set_ne _ _ n3_12, Hp.set_same] at hr3; cases hr3
  have hr2' : h2 r2 = none := by rwa [Hp.set_ne _ _ n2_12, Hp.set_ne _ _ n2_11] at hr2
  have hr3' : h2 r3 = none := by rwa [Hp.set_ne _ _ n3_12, Hp.set_ne _ _ n3_11] at hr3
  rw [show (nv IntKind.u64 zero5).length = 5 from rfl]
  -- what stands beside the sum
  obtain ⟨A, hA⟩ : ∃ A : Hp, ((h2.set r11 (.row t_poly_number (nv .u64 R) 5 (some (0, 0)))).set r2 (.row t_Sl_uint8 [vm] 1 (some (0, 0)))).set r3 (.row t_int [.int .i64 (16 : Nat)] 1 (some (0, 0))) = A := ⟨_, rfl⟩
  have A12 : A r12 = none := by rw [← hA, Hp.set_ne _ _ (Ne.symm n3_12), Hp.set_ne _ _ (Ne.symm n2_12), Hp.set_ne _ _ (Ne.symm n12)]; exact hr12'
  have A11 : A r11 = some (.row t_poly_number (nv .u64 R) 5 (some (0, 0))) := by rw [← hA, Hp.set_ne _ _ (Ne.symm n3_11), Hp.set_ne _ _ (Ne.symm n2_11), Hp.set_same]
  have A2 : A r2 = some (.row t_Sl_uint8 [vm] 1 (some (0, 0))) := by rw [← hA, Hp.set_ne _ _ n23, Hp.set_same]
  have A3 : A r3 = some (.row t_int [.int .i64 (16 : Nat)] 1 (some (0, 0))) := by rw [← hA, Hp.set_same]
  have leA : Hp.le h2 A := by
    rw [← hA]
    refine (le_fresh (r := r11) (by simpa using hr11)).trans ((le_fresh ?_).trans (le_fresh ?_))
    · rw [Hp.set_ne _ _ n2_11]; exact hr2'
    · rw [Hp.set_ne _ _ (Ne.symm n23), Hp.set_ne _ _ n3_11]; exact hr3'
  have cleA : Hp.cle h2 A := by
    rw [← hA]
    refine (cle_set r11 _ (by simpa using hr11)).trans ((cle_set r2 _ ?_).trans (cle_set r3 _ ?_))
    · rw [Hp.set_ne _ _ n2_11]; exact hr2'
    · rw [Hp.set_ne _ _ (Ne.symm n23), Hp.set_ne _ _ n3_11]; exact hr3'
  have start : (((h2.set r11 (.row t_poly_number (nv .u64 R) 5 (some (0, 0)))).set r12 (.row t_poly_number (nv .u64 zero5) 5 (some (0, 0)))).set r2 (.row t_Sl_uint8 [vm] 1 (some (0, 0)))).set r3 (.row t_int [.int .i64 (16 : Nat)] 1 (some (0, 0))) =
      A.set r12 (.row t_poly_number (nv .u64 zero5) 5 (some (0, 0))) := by
    rw [← hA, Hp.set_comm _ _ _ (Ne.symm n2_12), Hp.set_comm _ _ _ (Ne.symm n3_12)]
  intro L o hL hY
  rw [start] at hL ⊢
  have nL12 : L ≠ r12 := by rintro rfl; rw [Hp.set_same] at hL; cases hL
  have AL : A L = none := by rwa [Hp.set_ne _ _ nL12] at hL
  obtain ⟨G, hG⟩ : ∃ G : Nat → Hp, ∀ i, (A.set r12 (.row t_poly_number (nv .u64 (tagN R m i)) 5 (some (0, 0)))).set L (o .ready none) = G i := ⟨_, fun i => rfl⟩
  show iterP P _ _ ((A.set r12 (.row t_poly_number (nv .u64 (tagN R m 0)) 5 (some (0, 0)))).set L (o .ready none)) _
  rw [hG]
  have cAG : ∀ i, Hp.cle A (G i) := fun i => by
    rw [← hG]; exact (cle_set r12 _ A12).trans (cle_set L _ (by rw [Hp.set_ne _ _ nL12]; exact AL))
  have hmA : Rn A .u8 vm m := (hm.mono hw.cle).mono cleA
  have delG : ∀ i, (G i).del L = A.set r12 (.row t_poly_number (nv .u64 (tagN R m i)) 5 (some (0, 0))) := fun i => by
    rw [← hG]
    funext j
    unfold Hp.del
    split
    · rename_i e; subst e; rw [Hp.set_ne _ _ nL12]; exact AL.symm
    · rename_i e; rw [Hp.set_ne _ _ e]
  unfold iterP
  dsimp only
  refine T_Chunk_1 (v := vm) (m := m) (n := 16) (by omega) (by omega) (by omega) (fun i h' => h' = G i) (fun _ => False) ?_ rfl ?_ ?_
  · rintro i h' rfl
    refine ⟨cAG i _ _ ?_, cAG i _ _ ?_, hmA.mono (cAG i)⟩
    · rw [cell_row A2]; rfl
    · rw [cell_row A3]; rfl
  · rintro i h' w hi rfl hwc
    refine hY w (G i) _ (by rw [← hG]; exact Hp.set_same ..) ?_
    rw [delG]
    have la := tagN_len R m i
    have wa := tagN_w R m i
    have hGs : ∀ h0 : Hp, h0 = A.set r12 (.row t_poly_number (nv .u64 (tagN R m (i + 1))) 5 (some (0, 0))) → h0.set L (o .ready none) = G (i + 1) := by rintro h0 rfl; exact hG (i + 1)
    have hnext : tagN R m (i + 1) = timesL (addL (tagN R m i) (loadL (chunk m i ++ [1]))) R := rfl
    rw [hnext] at hGs
    have hwc' : Rn ((A.set r12 (.row t_poly_number (nv .u64 (tagN R m i)) 5 (some (0, 0)))).set L (o .busy none)) .u8 w (chunk m i) := hwc _ (hmA.mono ((cle_set r12 _ A12).trans (cle_set L _ (by rw [Hp.set_ne _ _ nL12]; exact AL))))
    have lc : (chunk m i).length ≤ 16 := chunkN_len 16 m i
    have bc : Bytes (chunk m i) := chunkN_bytes bm 16 i
    generalize chunk m i = C at hwc' lc bc hGs ⊢
    generalize tagN R m i = a at la wa hwc' hGs ⊢
    obtain ⟨Bm, hBm⟩ : ∃ Bm, (A.set r12 (.row t_poly_number (nv .u64 a) 5 (some (0, 0)))).set L (o .busy none) = Bm := ⟨_, rfl⟩
    have nL11 : L ≠ r11 := by rintro rfl; rw [AL] at A11; cases A11
    have B12 : Bm r12 = some (.row t_poly_number (nv .u64 a) 5 (some (0, 0))) := by rw [← hBm, Hp.set_ne _ _ (Ne.symm nL12), Hp.set_same]
    have B11 : Bm r11 = some (.row t_poly_number (nv .u64 R) 5 (some (0, 0))) := by rw [← hBm, Hp.set_ne _ _ (Ne.symm nL11), Hp.set_ne _ _ n12]; exact A11
    show (fun h => _) ((A.set r12 (.row t_poly_number (nv .u64 a) 5 (some (0, 0)))).set L (o .busy none))
    rw [hBm] at hwc' ⊢
    refine T_Clone hwc' (by omega) fun r h3 n3 => ?_
    refine aw_lit (ps := [(0, _)]) u_Sl_uint8 z_uint8 zr_uint8 rfl (by omega) (by intro p hp; rw [List.mem_singleton.1 hp]; exact ⟨rfl, by omega⟩) fun x h4 hx _ => ?_
    refine aw_appendN u_Sl_uint8 u_Sl_uint8 nfo_uint8 rfl (by omega) n3 hx (by intro y hy; simp [fillL] at hy; subst hy; rfl) (by omega) fun v2 h5 hw5 => ?_
    have hw5' : Nn Bm t_uint8 .u8 v2 h5 (C ++ [1]) := by
      unfold Nn
      rw [nv_app, List.length_append]
      exact hw5
    obtain ⟨b5, c5, f5, hb5, _, _, hh5, _⟩ := New.form hw5' (by simp)
    have n5_12 : r12 ≠ b5 := by rintro rfl; rw [B12] at hb5; cases hb5
    have n5_11 : r11 ≠ b5 := by rintro rfl; rw [B11] at hb5; cases hb5
    have h5_12 : h5 r12 = some (.row t_poly_number (nv .u64 a) 5 (some (0, 0))) := by rw [hh5, Hp.set_ne _ _ n5_12, B12]
    have h5_11 : h5 r11 = some (.row t_poly_number (nv .u64 R) 5 (some (0, 0))) := by rw [hh5, Hp.set_ne _ _ n5_11, B11]
    refine T_load hw5'.rn (bc.append (by intro y hy; simp at hy; omega)) (by simp; omega) fun _ _ => ?_
    refine T_add a _ la (loadL_len _) h5_12 (fun i _ => by simp) ?_
    have lAdd : (addL a (loadL (C ++ [1]))).length = 5 := by rw [addL, addN_len, la]
    have wAdd : W64 (addL a (loadL (C ++ [1]))) := addN_w wa _ _
    rw [q_ldRow u_poly_number rfl (hzz R lR) (b := r11) (by rw [Hp.set_ne _ _ n12, h5_11])]
    refine Cn_wk (T_times _ R lAdd lR wAdd (Hp.set_same ..) (fun i _ => by simp) ?_)
    rw [Hp.set_set]
    refine ⟨Bm.set r12 (.row t_poly_number (nv .u64 (timesL (addL a (loadL (C ++ [1]))) R)) 5 (some (0, 0))), le_set (New.le hw5'), ?_, .inl ⟨rfl, ?_⟩⟩
    · rw [Hp.set_ne _ _ nL12, ← hBm, Hp.set_same]
    · have e : (Bm.set r12 (.row t_poly_number (nv .u64 (timesL (addL a (loadL (C ++ [1]))) R)) 5 (some (0, 0)))).set L (o .ready none) = (A.set r12 (.row t_poly_number (nv .u64 (timesL (addL a (loadL (C ++ [1]))) R)) 5 (some (0, 0)))).set L (o .ready none) := by
        rw [← hBm, Hp.set_comm _ _ _ nL12, Hp.set_set, Hp.set_set]
      rw [e]
      exact hGs _ rfl
  · rintro h' (rfl | hf)
    case inr => exact hf.elim
    rw [show (m.length + 16 - 1) / 16 = (m.length + 15) / 16 by omega]
    refine ⟨.ready, by simp, by rw [← hG]; exact Hp.set_same .., ?_⟩
    rw [delG]
    have la := tagN_len R m ((m.length + 15) / 16)
    have wa := tagN_w R m ((m.length + 15) / 16)
    generalize tagN R m ((m.length + 15) / 16) = a at la wa htag ⊢
    refine T_reduce a la wa (Hp.set_same ..) (fun i _ => by simp) ?_
    rw [Hp.set_set]
    have hkA : Rn (A.set r12 (.row t_poly_number (nv .u64 (reduceL a)) 5 (some (0, 0)))) .u8 (.slice ak key.length ck) key := ((hk.mono hw.cle).mono cleA).mono (cle_set r12 _ A12)
    refine q_slRn u_Sl_uint8 z_uint8 hkA .i64 16 (by omega) fun wk hwk => ?_
    refine T_bytes (reduceL a) (key.drop 16) (by rw [reduceL_len, la]) (reduceL_w wa) (Hp.set_same ..) hwk (bk.drop 16) (by rw [List.length_drop]; omega) fun v hf nf => ?_
    rw [← htag] at nf
    have leF : Hp.le h (A.set r12 (.row t_poly_number (nv .u64 (reduceL a)) 5 (some (0, 0)))) := (hw.le.trans leA).trans (le_fresh A12)
    obtain ⟨h0, l0, nf0⟩ := nf.down leF
    exact ⟨h0, l0, k v h0 nf0⟩
end
end Go.Proofs.Ytnecdbclhdbaoaa
namespace Go.Pure
def need16 (n : Nat) : Nat := (16 - n % 16) % 16
def pad16 (o : List Nat) : List Nat := o ++ List.replicate (need16 o.length) 0
def padL (ps : List (List Nat)) : List Nat := ps.foldl (fun o p => pad16 (o ++ p)) []
theorem padL_take (ps : List (List Nat)) (i : Nat) (hi : i < ps.length) : padL (ps.take (i + 1)) = pad16 (padL (ps.take i) ++ ps.getD i []) := by
  rw [List.take_succ_eq_append_getElem hi]
  unfold padL
  rw [List.foldl_append]
  simp [List.getD_eq_getElem?_getD, hi]
theorem pad16_len (o : List Nat) : (pad16 o).length ≤ o.length + 15 := by
  unfold pad16 need16; rw [List.length_append, List.length_replicate]; omega
theorem pad16_bytes {o : List Nat} (h : Bytes o) : Bytes (pad16 o) := h.append fun x hx => by
  rw [List.mem_replicate] at hx; omega
def tagB (key nonce beside hidden : List Nat) : List Nat :=
  tagL ((blockL key nonce 0).take 32) (padL [beside, hidden] ++ (le 8 beside.length ++ le 8 hidden.length))
theorem tagB_len (key nonce beside hidden : List Nat) : (tagB key nonce beside hidden).length = 16 := tagL_len _ _
theorem tagB_bytes (key nonce beside hidden : List Nat) : Bytes (tagB key nonce beside hidden) := tagL_bytes _ _
def sealL (key nonce beside text : List Nat) : List Nat := xorL key nonce 1 text ++ tagB key nonce beside (xorL key nonce 1 text)
def may (key nonce : List Nat) : Prop := key.length = 32 ∧ nonce.length = 12
instance (key nonce : List Nat) : Decidable (may key nonce) := by unfold may; infer_instance
/-- What a box is opened to: the text, or a code. -/
def openL (key nonce beside box : List Nat) : Nat × List Nat :=
  if box.length < 16 then (8, [])
  else if tagB key nonce beside (box.take (box.length - 16)) = box.drop (box.length - 16) then (0, xorL key nonce 1 (box.take (box.length - 16)))
  else (7, [])
theorem sealL_len (key nonce b t : List Nat) : (sealL key nonce b t).length = t.length + 16 := by simp [sealL, xorL_len, tagB_len]
theorem sealL_bytes (key nonce b : List Nat) {t : List Nat} (h : Bytes t) : Bytes (sealL key nonce b t) := (xorL_bytes h).append (tagB_bytes _ _ _ _)
theorem xorL_xorL (key nonce : List Nat) (c : Nat) (t : List Nat) : xorL key nonce c (xorL key nonce c t) = t := by
  apply List.ext_getElem
  · rw [xorL_len, xorL_len]
  · intro i h1 h2
    rw [xorL_get _ _ _ _ _ (by rw [xorL_len]; exact h2)]
    have : (xorL key nonce c t).getD i 0 = t.getD i 0 ^^^ (blockL key nonce ((c + i / 64) % 4294967296)).getD (i % 64) 0 := by
      rw [← xorL_get _ _ _ _ _ h2]
      simp [List.getD_eq_getElem?_getD, show i < (xorL key nonce c t).length by rw [xorL_len]; exact h2]
    rw [this, Nat.xor_assoc, Nat.xor_self, Nat.xor_zero]
    simp [List.getD_eq_getElem?_getD, h2]
theorem open_seal (key nonce b t : List Nat) : openL key nonce b (sealL key nonce b t) = (0, t) := by
  have hl := sealL_len key nonce b t
  have e1 : (sealL key nonce b t).take ((sealL key nonce b t).length - 16) = xorL key nonce 1 t := by
    rw [hl, Nat.add_sub_cancel, sealL, List.take_append_of_le_length (by rw [xorL_len]; exact Nat.le_refl _), List.take_of_length_le (by rw [xorL_len]; exact Nat.le_refl _)]
  have e2 : (sealL key nonce b t).drop ((sealL key nonce b t).length - 16) = tagB key nonce b (xorL key nonce 1 t) := by
    have : t.length = (xorL key nonce 1 t).length := by rw [xorL_len]
    rw [hl, Nat.add_sub_cancel, sealL, this, List.drop_left]
  unfold openL
  rw [if_neg (by omega), e1, e2, if_pos rfl, xorL_xorL]
end Go.Pure
set_option linter.unusedSimpArgs false
set_option linter.unusedVariables false
set_option maxRecDepth 100000
namespace Go.Proofs.Ytnecdbclhdbaoaa
open Go Go.SL Go.Pure
section
variable {h : Hp} {K : Value → Hp → Prop}
theorem T_Grow0 (n : Nat) (hn : n ≤ 70368744177664) (k : ∀ v h', New h t_uint8 1 v h' [] 0 → K v h') : Cn P n_slices_Grow_byte_byte #[.slice none 0 0, .int .i64 n] h K := by
  refine F_slices_Grow_byte_byte ?_
  unfold s_slices_Grow_byte_byte
  have e0 : decide ((n : Int) < 0) = false := decide_eq_false (by omega)
  have ecap : ∀ (K : Value → Prop), q P h (Builtin.cap_ #[t_Sl_uint8] t_int #[.slice none 0 0]) K = K (.int .i64 0) := fun K => q_of (by
    show peek P h (Sem.bind (underlying t_Sl_uint8) _) = _
    rw [peek_bind, pk_und u_Sl_uint8]
    rfl) K
  simp (disch := omega) only [GL, RL, wi64, e0, Bool.false_eq_true, if_false, ecap]
  by_cases h0 : n = 0
  · subst h0
    exact k _ _ ⟨rfl, .inl ⟨rfl, rfl, rfl⟩⟩
  · have e1 : decide ((0 : Int) < (n : Int) - (((0 : Nat) : Int) - ((0 : Nat) : Int))) = true := decide_eq_true (by omega)
    have e2 : decide ((0 : Int) < (n : Int) - (0 - ((0 : Nat) : Int))) = true := decide_eq_true (by omega)
    have e3 : (n : Int) - (0 - ((0 : Nat) : Int)) = (n : Int) := by omega
    have e4 : decide ((0 : Int) < (n : Int)) = true := decide_eq_true (by omega)
    simp (disch := omega) only [e1, e2, e3, e4, if_true]
    have es : ∀ (K : Value → Prop), q P h (Instr.sliceAt t_Sl_uint8 (.slice none 0 0) none (some (.int .i64 0)) none) K = K (.slice none 0 0) := fun K => q_slHi u_Sl_uint8 z_uint8 none 0 0 .i64 0 (Nat.le_refl _)
    try rw [es]
    refine aw_growNil (n := n) u_Sl_uint8 u_int nfo_uint8 rfl (by omega) (by omega) (by omega) fun r c hr hc => ?_
    have es2 := q_slHi (P := P) (h := h.set r (.row t_uint8 [] c (some (0, 0)))) (K := fun t25 => K t25 (h.set r (.row t_uint8 [] c (some (0, 0))))) u_Sl_uint8 z_uint8 (some ⟨r, 0, none⟩) n c .i64 0 (by omega)
    refine es2.mpr ?_
    refine k _ _ ⟨rfl, .inr ⟨r, c, (0, 0), hr, Nat.zero_le _, ?_, by rw [Nat.mul_one], fun i _ => by simp⟩⟩
    unfold SL.cut
    split
    · rfl
    · rw [Option.map_some, add_off]
theorem flat_take (ps : List (List Nat)) (i : Nat) (hi : i < ps.length) : (ps.take (i + 1)).flatten = (ps.take i).flatten ++ ps.getD i [] := by
  rw [List.take_succ_eq_append_getElem hi, List.flatten_append]
  simp [List.getD_eq_getElem?_getD, hi]
theorem flat_le (ps : List (List Nat)) (i : Nat) : (ps.take i).flatten.length ≤ ps.flatten.length := by
  conv => rhs; rw [← List.take_append_drop i ps, List.flatten_append, List.length_append]
  omega
/-- The parts of a row of rows. -/
def Parts (h : Hp) (v : Value) (ps : List (List Nat)) : Prop :=
  ∃ b o c, v = .slice (some ⟨b, o, none⟩) ps.length c ∧ ps.length ≤ c ∧ ∀ i, i < ps.length → ∃ w, h.cell ⟨b, o + i, none⟩ = some w ∧ Rn h .u8 w (ps.getD i [])
theorem Parts.mono {h h' : Hp} {v : Value} {ps : List (List Nat)} (p : Parts h v ps) (c : Hp.cle h h') : Parts h' v ps := by
  obtain ⟨b, o, cc, e, hc, q⟩ := p
  exact ⟨b, o, cc, e, hc, fun i hi => let ⟨w, h1, h2⟩ := q i hi; ⟨w, c _ _ h1, h2.mono c⟩⟩
theorem T_Concat {v : Value} {ps : List (List Nat)} (hv : Parts h v ps) (hl : ps.flatten.length ≤ 70368744177664) (hn : ps.length ≤ 70368744177664) (k : ∀ r h', Nn h t_uint8 .u8 r h' ps.flatten → K r h') : Cn P n_slices_Concat_byte_byte #[v] h K := by
  refine F_slices_Concat_byte_byte ?_
  unfold s_slices_Concat_byte_byte
  obtain ⟨b, o, c, rfl, hc, hp⟩ := hv
  simp (disch := omega) only [GL, RL]
  refine Lp_mk (fun u vs h' => ∃ i : Nat, i + u = ps.length ∧ h' = h ∧ vs = [.int .i64 (((ps.take i).flatten.length : Nat) : Int), .int .i64 (i : Int)]) ps.length ⟨0, by omega, rfl, rfl⟩ ?_
  rintro u vs h' ⟨i, hi, rfl, rfl⟩
  simp (disch := omega) only [GL, RL, wi64, lt_dec]
  by_cases hlt : i < ps.length
  · obtain ⟨w, hw, hr⟩ := hp i hlt
    obtain ⟨a', c', rfl, hc'⟩ := hr.shape
    have e1 : ((((ps.take i).flatten.length : Nat) : Int) + ((ps.getD i []).length : Nat)) = (((ps.take (i + 1)).flatten.length : Nat) : Int) := by rw [flat_take ps i hlt, List.length_append]; omega
    have l1 := flat_le ps (i + 1)
    have e2 : decide ((((ps.take (i + 1)).flatten.length : Nat) : Int) < 0) = false := decide_eq_false (by omega)
    simp (disch := omega) only [GL, RL, wi64, hlt, decide_true, if_true, hw, e1, e2, Bool.false_eq_true, if_false]
    exact ⟨_, .refl _, u - 1, by omega, i + 1, by omega, rfl, rfl⟩
  obtain rfl : i = ps.length := by omega
  simp only [hlt, decide_false, Bool.false_eq_true, if_false, List.take_length]
  refine T_Grow0 _ hl fun v1 h1 hw1 => ?_
  refine Lp_mk (fun u vs h2 => ∃ (i : Nat) (v : Value), i + u = ps.length ∧ New h' t_uint8 1 v h2 (nv .u8 (ps.take i).flatten) (ps.take i).flatten.length ∧ vs = [v, .int .i64 (i : Int)]) ps.length ⟨0, v1, by omega, hw1, rfl⟩ ?_
  clear hw1 hlt
  rintro u vs h2 ⟨i, v2, hi, hw, rfl⟩
  simp (disch := omega) only [GL, RL, wi64, lt_dec]
  by_cases hlt : i < ps.length
  · obtain ⟨w, hwc, hr⟩ := hp i hlt
    have hwc2 := hw.cle _ _ hwc
    simp (disch := omega) only [GL, RL, wi64, hlt, decide_true, if_true, hwc2]
    have l1 := flat_le ps (i + 1)
    rw [flat_take ps i hlt, List.length_append] at l1
    refine aw_append u_Sl_uint8 u_Sl_uint8 nfo_uint8 rfl (by omega) hw (hr.mono hw.cle) (nv_flat _ _) (by omega) (.refl _) fun v3 h3 hw3 => ?_
    refine ⟨_, .refl _, u - 1, by omega, i + 1, v3, by omega, ?_, rfl⟩
    rw [flat_take ps i hlt, nv_app, List.length_append]
    exact hw3
  · obtain rfl : i = ps.length := by omega
    simp only [hlt, decide_false, Bool.false_eq_true, if_false]
    rw [List.take_length] at hw
    exact k _ _ hw
theorem T_padded {v : Value} {ps : List (List Nat)} (hv : Parts h v ps) (hl : ∀ i, (padL (ps.take i)).length ≤ 70368744177664) (hl2 : ∀ i, (ps.getD i []).length ≤ 35184372088832) (hn : ps.length ≤ 70368744177664) (k : ∀ r h', Nn h t_uint8 .u8 r h' (padL ps) → K r h') :
    Cn P n_aead_padded #[v] h K := by
  refine F_aead_padded ?_
  unfold s_aead_padded
  obtain ⟨b, o, c, rfl, hc, hp⟩ := hv
  simp (disch := omega) only [GL, RL]
  refine Lp_mk (fun u vs h2 => ∃ (i : Nat) (v : Value), i + u = ps.length ∧ New h t_uint8 1 v h2 (nv .u8 (padL (ps.take i))) (padL (ps.take i)).length ∧ vs = [v, .int .i64 (i : Int)]) ps.length ⟨0, .slice none 0 0, by omega, ⟨rfl, .inl ⟨rfl, rfl, rfl⟩⟩, rfl⟩ ?_
  rintro u vs h2 ⟨i, v2, hi, hw, rfl⟩
  simp (disch := omega) only [GL, RL, wi64, lt_dec]
  by_cases hlt : i < ps.length
  · obtain ⟨w, hwc, hr⟩ := hp i hlt
    have hwc2 := hw.cle _ _ hwc
    simp (disch := omega) only [GL, RL, wi64, hlt, decide_true, if_true, hwc2]
    have l1 := hl i
    have l2 := hl2 i
    refine aw_append u_Sl_uint8 u_Sl_uint8 nfo_uint8 rfl (by omega) hw (hr.mono hw.cle) (nv_flat _ _) (by omega) (.refl _) fun v3 h3 hw3 => ?_
    have hpad := padL_take ps i hlt
    rw [← nv_app] at hw3
    rw [← List.length_append] at hw3
    have l3 : (padL (ps.take i) ++ ps.getD i []).length ≤ 140737488355328 - 35184372088832 := by rw [List.length_append]; omega
    generalize padL (ps.take i) ++ ps.getD i [] = O at hw3 hpad l3
    clear hw
    refine Lp_mk (fun u' vs h' => ∃ (j : Nat) (v : Value), j + u' = need16 O.length ∧ New h t_uint8 1 v h' (nv .u8 (O ++ List.replicate j 0)) (O.length + j) ∧ vs = [v]) (need16 O.length) ⟨0, v3, by omega, by simpa using hw3, rfl⟩ ?_
    clear hw3
    rintro u' vs h' ⟨j, v4, hj, hw, rfl⟩
    have hn16 : need16 O.length < 16 := Nat.mod_lt _ (by decide)
    obtain ⟨a4, c4, rfl⟩ : ∃ a c, v4 = .slice a (O.length + j) c := by
      obtain ⟨_, a, c, e, _⟩ := hw.rds
      exact ⟨a, c, e⟩
    have e1 : (((O.length + j : Nat) : Int).tmod 16 != 0) = decide ((O.length + j) % 16 ≠ 0) := by
      have : ((O.length + j : Nat) : Int).tmod 16 = (((O.length + j) % 16 : Nat) : Int) := (Int.ofNat_tmod _ 16).symm
      rw [this, Bool.eq_iff_iff, bne_iff_ne, decide_eq_true_eq]; omega
    simp (disch := omega) only [GL, RL, wi64, e1]
    by_cases hz : (O.length + j) % 16 ≠ 0
    · simp (disch := omega) only [hz, decide_true, if_true, not_false_eq_true, ne_eq]
      refine aw_lit (ps := [(0, _)]) u_Sl_uint8 z_uint8 zr_uint8 rfl (by omega) (by intro p hp; rw [List.mem_singleton.1 hp]; exact ⟨rfl, by omega⟩) fun x h4 hx _ => ?_
      refine aw_appendN u_Sl_uint8 u_Sl_uint8 nfo_uint8 rfl (by omega) hw hx (by intro y hy; simp [fillL] at hy; subst hy; rfl) (by omega) fun v5 h5 hw5 => ?_
      have hlt2 : j < need16 O.length := by unfold need16 at hj ⊢; omega
      refine ⟨_, .refl _, u' - 1, by omega, j + 1, v5, by omega, ?_, rfl⟩
      rw [List.replicate_succ', ← List.append_assoc, nv_app]
      exact hw5
    · have hje : j = need16 O.length := by
        simp only [ne_eq, Decidable.not_not] at hz
        unfold need16 at hj ⊢; omega
      simp (disch := omega) only [hz, decide_false, Bool.false_eq_true, if_false, not_true_eq_false, ne_eq]
      refine ⟨_, .refl _, u - 1, by omega, i + 1, _, by omega, ?_, rfl⟩
      rw [hpad]
      unfold pad16
      rw [← hje, List.length_append, List.length_replicate]
      exact hw
  · obtain rfl : i = ps.length := by omega
    simp only [hlt, decide_false, Bool.false_eq_true, if_false]
    rw [List.take_length] at hw
    exact k _ _ hw
end
end Go.Proofs.Ytnecdbclhdbaoaa
set_option linter.unusedSimpArgs false
set_option linter.unusedVariables false
set_option maxRecDepth 100000
namespace Go.Proofs.Ytnecdbclhdbaoaa
open Go Go.SL Go.Pure
theorem or0 (r s : Nat) : r ||| s = 0 ↔ r = 0 ∧ s = 0 := by
  constructor
  · intro e
    have h1 : r ≤ r ||| s := Nat.left_le_or
    have h2 : s ≤ r ||| s := Nat.right_le_or
    omega
  · rintro ⟨rfl, rfl⟩; rfl
theorem xor0 (x y : Nat) : x ^^^ y = 0 ↔ x = y := by
  constructor
  · intro e
    have : (x ^^^ y) ^^^ y = x := by rw [Nat.xor_assoc, Nat.xor_self, Nat.xor_zero]
    rw [e, Nat.zero_xor] at this
    exact this.symm
  · rintro rfl; exact Nat.xor_self _
theorem pk_slHi {h : Hp} (a : Option Addr) (n c hi : Nat) (h1 : hi ≤ c) : peek P h (Instr.sliceAt t_Sl_uint8 (.slice a n c) none (some (.int .i64 hi)) none) = some (.slice (SL.cut a c 0 1) hi c) := by
  obtain ⟨x, hx, e⟩ := withVal_elim (K := fun x => x = .slice (SL.cut a c 0 1) hi c) ((q_slHi (P := P) (h := h) (K := fun x => x = .slice (SL.cut a c 0 1) hi c) u_Sl_uint8 z_uint8 a n c .i64 hi h1).mpr rfl)
  rw [e] at hx
  exact hx
theorem rn_hi {h : Hp} {a : Option Addr} {c hi : Nat} {l : List Nat} (r : Rn h .u8 (.slice a l.length c) l) (h1 : hi ≤ l.length) : Rn h .u8 (.slice (SL.cut a c 0 1) hi c) (l.take hi) := by
  have := r.cut 0 hi (Nat.zero_le _) h1
  simpa using this
theorem rn_nil (h : Hp) (k : IntKind) : Rn h k (.slice none 0 0) [] := ⟨rfl, none, 0, rfl, Nat.le_refl _, .inl rfl⟩
theorem padL2_len (a b : List Nat) (i : Nat) : (padL ([a, b].take i)).length ≤ a.length + b.length + 30 := by
  have h1 := pad16_len ([] ++ a)
  have h2 := pad16_len (pad16 ([] ++ a) ++ b)
  rw [List.length_append] at h2
  rcases i with _ | _ | i
  · simp [padL]
  · show (pad16 ([] ++ a)).length ≤ _
    simp at h1; simp; omega
  · have : [a, b].take (i + 2) = [a, b] := by simp
    rw [this]
    show (pad16 (pad16 ([] ++ a) ++ b)).length ≤ _
    simp at h1 h2 ⊢; omega
theorem padL2_bytes {a b : List Nat} (ha : Bytes a) (hb : Bytes b) : Bytes (padL [a, b]) := by
  show Bytes (pad16 (pad16 ([] ++ a) ++ b))
  exact pad16_bytes ((pad16_bytes (by simpa using ha)).append hb)
theorem ext0 {h : Hp} {K : Value → Prop} (a b : Value) : q P h (Instr.extract (.tuple #[a, b]) 0) K = K a := q_ext #[a, b] 0 a rfl
theorem ext1 {h : Hp} {K : Value → Prop} (a b : Value) : q P h (Instr.extract (.tuple #[a, b]) 1) K = K b := q_ext #[a, b] 1 b rfl
section
variable {h : Hp} {K : Value → Hp → Prop}
theorem T_word_Equal {v w : Value} {l m : List Nat} (hv : Rn h .u8 v l) (hw : Rn h .u8 w m) (bl : Bytes l) (bm : Bytes m) (hl : l.length ≤ 4611686018427387904) (k : K (.bool (decide (l = m))) h) : Cn P n_word_Equal #[v, w] h K := by
  refine F_word_Equal ?_
  obtain ⟨a, c, rfl, hc⟩ := hv.shape
  obtain ⟨a', c', rfl, hc'⟩ := hw.shape
  unfold s_word_Equal
  simp (disch := omega) only [GL, RL]
  by_cases hlen : l.length = m.length
  · rw [if_neg (by simp [hlen])]
    refine Lp_mk (fun n vs h' => ∃ (i r : Nat), i + n = l.length ∧ h' = h ∧ r < 256 ∧ (r = 0 ↔ ∀ j, j < i → l.getD j 0 = m.getD j 0) ∧ vs = [.int .u8 (r : Int), .int .i64 (i : Int)]) l.length ⟨0, 0, by omega, rfl, by omega, ⟨fun _ j hj => by omega, fun _ => rfl⟩, rfl⟩ ?_
    rintro n vs h2 ⟨i, r, hi, rfl, hr, hs, rfl⟩
    simp (disch := omega) only [GL, RL, lt_dec]
    by_cases hlt : i < l.length
    · obtain ⟨b, o, rfl, hy⟩ := hv.pos (by omega)
      obtain ⟨b', o', rfl, hy'⟩ := hw.pos (by omega)
      simp (disch := omega) only [GL, RL, hlt, decide_true, if_true, hy i hlt, hy' i (by omega), wi64]
      have b1 := bl.getD i
      have b2 := bm.getD i
      have b3 : l.getD i 0 ^^^ m.getD i 0 < 256 := Nat.xor_lt_two_pow (n := 8) b1 b2
      have b4 : r ||| (l.getD i 0 ^^^ m.getD i 0) < 256 := Nat.or_lt_two_pow (n := 8) hr b3
      rw [ixor8_nat _ _ b1 b2, or8 (by omega) (by omega) (by omega) (by omega), Int.toNat_natCast, Int.toNat_natCast]
      refine ⟨_, .refl _, n - 1, by omega, i + 1, _, by omega, rfl, b4, ?_, rfl⟩
      rw [or0, xor0, hs]
      constructor
      · rintro ⟨q, e⟩ j hj
        by_cases hji : j = i
        · rw [hji]; exact e
        · exact q j (by omega)
      · exact fun q => ⟨fun j hj => q j (by omega), q i (by omega)⟩
    · simp (disch := omega) only [GL, RL, hlt, decide_false, Bool.false_eq_true, if_false]
      have e1 : ((r : Int) == 0) = decide (l = m) := by
        rw [Bool.eq_iff_iff, beq_iff_eq, decide_eq_true_eq]
        have : (r : Int) = 0 ↔ r = 0 := by omega
        rw [this, hs]
        constructor
        · intro q
          apply List.ext_getElem hlen
          intro j h1 h2
          have := q j (by omega)
          simpa [h1, h2] using this
        · rintro rfl j _; rfl
      rw [e1]
      exact k
  · rw [if_pos (by simp; omega)]
    have : l ≠ m := by rintro rfl; exact hlen rfl
    simpa [this] using k
theorem T_tag {vk vn vb vh : Value} {key nonce b t : List Nat} (hk : Rn h .u8 vk key) (hn : Rn h .u8 vn nonce) (hb : Rn h .u8 vb b) (ht : Rn h .u8 vh t) (bk : Bytes key) (bn : Bytes nonce) (bb : Bytes b) (bt : Bytes t)
    (lb : b.length ≤ 1099511627776) (lt : t.length ≤ 1099511627776) (hm : key.length = 32 ∧ nonce.length = 12)
    (k : ∀ v h', Nn h t_uint8 .u8 v h' (tagB key nonce b t) → K (.tuple #[v, .int .i64 0]) h') : Cn P n_aead_tag #[vk, vn, vb, vh] h K := by
  refine Cn_wk (F_aead_tag ?_)
  obtain ⟨ab, cb, rfl, hcb⟩ := hb.shape
  obtain ⟨at', ct, rfl, hct⟩ := ht.shape
  unfold s_aead_tag
  refine T_Block 0 (by omega) hk hn bk bn fun vB h1 hB => ?_
  rw [if_pos hm] at hB ⊢
  have lB := blockL_len key nonce 0
  have bB := blockL_bytes key nonce 0
  have htag : tagB key nonce b t = tagL ((blockL key nonce 0).take 32) (padL [b, t] ++ (le 8 b.length ++ le 8 t.length)) := rfl
  generalize blockL key nonce 0 = B at hB lB bB htag
  rw [ext0, ext1]
  simp (disch := omega) only [GL, RL, bne_self_eq_false, Bool.false_eq_true, if_false, wu64i]
  refine T_word_Put64 b.length (by omega) fun v25 h2 n2 => ?_
  refine T_word_Put64 t.length (by omega) fun v29 h3 n3 => ?_
  have n2' : New h1 t_uint8 1 v25 h2 (nv .u8 (le 8 b.length)) 8 := by unfold Nn at n2; rwa [le_len] at n2
  have n3' : New h2 t_uint8 1 v29 h3 (nv .u8 (le 8 t.length)) 8 := by unfold Nn at n3; rwa [le_len] at n3
  refine aw_appendN u_Sl_uint8 u_Sl_uint8 nfo_uint8 rfl (by omega) n2' n3' (nv_flat _ _) (by omega) fun v30 h4 n4 => ?_
  have n4' : Nn h1 t_uint8 .u8 v30 h4 (le 8 b.length ++ le 8 t.length) := by
    unfold Nn; rw [nv_app, List.length_append, le_len, le_len]; exact n4
  obtain ⟨aB, cB, rfl, hcB⟩ := hB.rn.shape
  have hsl : ∀ H : Hp, peek P H (Instr.sliceAt t_Sl_uint8 (.slice aB B.length cB) none (some (Value.int .i64 32)) none) = some (.slice (SL.cut aB cB 0 1) 32 cB) := fun H => pk_slHi aB B.length cB 32 (by omega)
  have hr32 : Rn h1 .u8 (.slice (SL.cut aB cB 0 1) 32 cB) (B.take 32) := rn_hi hB.rn (by omega)
  rw [q_of (hsl _)]
  refine aw_lit (ps := [(0, _), (1, _)]) u_Sl_Sl_uint8 z_Sl_uint8 zr_Sl_uint8 rfl (by omega) (by intro p hp; simp at hp; rcases hp with rfl | rfl <;> exact ⟨rfl, by show _ < 2; omega⟩) fun v35 h5 n5 hx => ?_
  obtain ⟨r5, hr5, rfl, hh5⟩ := hx
  have c45 : Hp.cle h4 h5 := n5.cle
  have c15 : Hp.cle h1 h5 := n4'.cle.trans c45
  have c05 : Hp.cle h h5 := hB.cle.trans c15
  have hparts : Parts h5 (.slice (some ⟨r5, 0, none⟩) 2 2) [b, t] := by
    refine ⟨r5, 0, 2, rfl, Nat.le_refl _, fun i hi => ?_⟩
    have h5r : h5 r5 = some (.row t_Sl_uint8 [.slice ab b.length cb, .slice at' t.length ct] 2 (some (0, 0))) := by rw [hh5, Hp.set_same]; rfl
    have : i = 0 ∨ i = 1 := by simp at hi; omega
    rcases this with rfl | rfl
    · exact ⟨_, by rw [cell_row h5r]; rfl, hb.mono c05⟩
    · exact ⟨_, by rw [cell_row h5r]; rfl, ht.mono c05⟩
  refine ⟨hsl _, ?_⟩
  refine T_padded hparts (fun i => by have := padL2_len b t i; omega) (fun i => by rcases i with _ | _ | i <;> simp <;> omega) (by simp) fun v36 h6 n6 => ?_
  refine ⟨hsl _, ?_⟩
  have lp := padL2_len b t 2
  simp only [List.take_succ_cons, List.take_zero] at lp
  have lle : (le 8 b.length ++ le 8 t.length).length = 16 := by rw [List.length_append, le_len, le_len]
  refine aw_append u_Sl_uint8 u_Sl_uint8 nfo_uint8 rfl (by omega) n6 ((n4'.rn.mono c45).mono n6.cle) (nv_flat _ _) (by rw [lle]; omega) (.refl _) fun v38 h7 n7 => ?_
  have n7' : Nn h5 t_uint8 .u8 v38 h7 (padL [b, t] ++ (le 8 b.length ++ le 8 t.length)) := by
    unfold Nn; rw [nv_app, List.length_append]; exact n7
  refine ⟨hsl _, ?_⟩
  have bmsg : Bytes (padL [b, t] ++ (le 8 b.length ++ le 8 t.length)) := (padL2_bytes bb bt).append ((le_bytes _ _).append (le_bytes _ _))
  refine T_poly_Tag ((hr32.mono c15).mono n7'.cle) n7'.rn (bB.take 32) bmsg (by rw [List.length_take]; omega) (by rw [List.length_append, lle]; omega) fun v h8 n8 => ?_
  rw [← htag] at n8
  rw [ext0, ext1]
  have leF : Hp.le h h7 := (((New.le hB).trans (New.le n4')).trans n5.le).trans (New.le n7')
  obtain ⟨h0, l0, nf⟩ := n8.down leF
  exact ⟨h0, l0, k v h0 nf⟩
theorem T_Seal {vk vn vb vt : Value} {key nonce b t : List Nat} (hk : Rn h .u8 vk key) (hn : Rn h .u8 vn nonce) (hb : Rn h .u8 vb b) (ht : Rn h .u8 vt t) (bk : Bytes key) (bn : Bytes nonce) (bb : Bytes b) (bt : Bytes t)
    (lb : b.length ≤ 1099511627776) (lt : t.length ≤ 1099511627776)
    (k : ∀ v h', (if key.length = 32 ∧ nonce.length = 12 then Nn h t_uint8 .u8 v h' (sealL key nonce b t) else v = .slice none 0 0 ∧ h' = h) → K (.tuple #[v, .int .i64 (if key.length = 32 ∧ nonce.length = 12 then 0 else 1)]) h') :
    Cn P n_aead_Seal #[vk, vn, vb, vt] h K := by
  refine Cn_wk (F_aead_Seal ?_)
  unfold s_aead_Seal
  refine T_Xor 1 (by omega) hk hn ht bk bn bt (by omega) fun vX h1 hX => ?_
  rw [ext0, ext1]
  by_cases hm : key.length = 32 ∧ nonce.length = 12
  case neg =>
    rw [if_neg hm] at hX ⊢
    obtain ⟨rfl, rfl⟩ := hX
    have e1 : ((1 : Int) != 0) = true := rfl
    simp (disch := omega) only [GL, RL, e1, if_true]
    have := k (.slice none 0 0) h1
    rw [if_neg hm, if_neg hm] at this
    exact ⟨h1, .refl _, this ⟨rfl, rfl⟩⟩
  rw [if_pos hm] at hX ⊢
  have lX := xorL_len key nonce 1 t
  have bX : Bytes (xorL key nonce 1 t) := xorL_bytes bt
  have hseal : sealL key nonce b t = xorL key nonce 1 t ++ tagB key nonce b (xorL key nonce 1 t) := rfl
  generalize xorL key nonce 1 t = X at hX lX bX hseal
  simp (disch := omega) only [GL, RL, bne_self_eq_false, Bool.false_eq_true, if_false]
  refine T_tag (hk.mono hX.cle) (hn.mono hX.cle) (hb.mono hX.cle) hX.rn bk bn bb bX lb (by omega) hm fun vT h2 hT => ?_
  rw [ext0, ext1]
  simp (disch := omega) only [GL, RL, bne_self_eq_false, Bool.false_eq_true, if_false]
  have fX : flat vX = true := by obtain ⟨a, c, e, _⟩ := hX.rn.shape; rw [e]; rfl
  have fT : flat vT = true := by obtain ⟨a, c, e, _⟩ := hT.rn.shape; rw [e]; rfl
  refine aw_lit (ps := [(0, _), (1, _)]) u_Sl_Sl_uint8 z_Sl_uint8 zr_Sl_uint8 rfl (by omega) (by intro p hp; simp at hp; exact hp.elim (fun e => by subst e; exact ⟨fX, by show _ < 2; omega⟩) (fun e => by subst e; exact ⟨fT, by show _ < 2; omega⟩)) fun v36 h3 n3 hx => ?_
  obtain ⟨r3, hr3, rfl, hh3⟩ := hx
  have c23 : Hp.cle h2 h3 := n3.cle
  have hparts : Parts h3 (.slice (some ⟨r3, 0, none⟩) 2 2) [X, tagB key nonce b X] := by
    refine ⟨r3, 0, 2, rfl, Nat.le_refl _, fun i hi => ?_⟩
    have h3r : h3 r3 = some (.row t_Sl_uint8 [vX, vT] 2 (some (0, 0))) := by rw [hh3, Hp.set_same]; rfl
    have : i = 0 ∨ i = 1 := by simp at hi; omega
    rcases this with rfl | rfl
    · exact ⟨_, by rw [cell_row h3r]; rfl, (hX.rn.mono hT.cle).mono c23⟩
    · exact ⟨_, by rw [cell_row h3r]; rfl, hT.rn.mono c23⟩
  have hfl : [X, tagB key nonce b X].flatten = sealL key nonce b t := by rw [hseal]; simp
  have ltag := tagB_len key nonce b X
  refine T_Concat hparts (by simp [ltag]; omega) (by simp) fun v h4 n4 => ?_
  rw [hfl] at n4
  have leF : Hp.le h h3 := ((New.le hX).trans (New.le hT)).trans n3.le
  obtain ⟨h0, l0, nf⟩ := n4.down leF
  have := k v h0
  rw [if_pos hm, if_pos hm] at this
  exact ⟨h0, l0, this nf⟩
end
end Go.Proofs.Ytnecdbclhdbaoaa
set_option linter.unusedSimpArgs false
set_option linter.unusedVariables false
set_option maxRecDepth 100000
namespace Go.Proofs.Ytnecdbclhdbaoaa
open Go Go.SL Go.Pure
section
variable {h : Hp} {K : Value → Hp → Prop}
/-- What a call of Open tells: the code, and with it the text, or nil. -/
def openC (key nonce b x : List Nat) : Nat := if key.length = 32 ∧ nonce.length = 12 then (openL key nonce b x).1 else 1
theorem T_Open {vk vn vb vx : Value} {key nonce b x : List Nat} (hk : Rn h .u8 vk key) (hn : Rn h .u8 vn nonce) (hb : Rn h .u8 vb b) (hx : Rn h .u8 vx x) (bk : Bytes key) (bn : Bytes nonce) (bb : Bytes b) (bx : Bytes x)
    (lb : b.length ≤ 1099511627776) (lx : x.length ≤ 1099511627776)
    (k : ∀ v h', (if openC key nonce b x = 0 then Nn h t_uint8 .u8 v h' (openL key nonce b x).2 else v = .slice none 0 0 ∧ h' = h) → K (.tuple #[v, .int .i64 ((openC key nonce b x : Nat) : Int)]) h') :
    Cn P n_aead_Open #[vk, vn, vb, vx] h K := by
  refine Cn_wk (F_aead_Open ?_)
  unfold s_aead_Open
  refine T_Xor 1 (by omega) hk hn (rn_nil h .u8) bk bn (by intro y hy; cases hy) (by simp) fun vX h1 hX => ?_
  rw [ext0, ext1]
  unfold openC at k
  by_cases hm : key.length = 32 ∧ nonce.length = 12
  case neg =>
    simp only [if_neg hm] at hX k ⊢
    obtain ⟨rfl, rfl⟩ := hX
    have e1 : ((1 : Int) != 0) = true := rfl
    simp (disch := omega) only [GL, RL, e1, if_true]
    exact ⟨h1, .refl _, k (.slice none 0 0) h1 (by simp)⟩
  simp only [if_pos hm] at hX k ⊢
  have le1 : Hp.le h h1 := New.le hX
  have c1 := hX.cle
  obtain ⟨ax, cx, rfl, hcx⟩ := hx.shape
  have e26 : decide (((x.length : Nat) : Int) - 16 < 0) = decide (x.length < 16) := by rw [decide_eq_decide]; omega
  simp (disch := omega) only [GL, RL, wi64, bne_self_eq_false, Bool.false_eq_true, if_false, e26]
  by_cases h16 : x.length < 16
  · simp only [h16, decide_true, if_true]
    have ho : openL key nonce b x = (8, []) := by unfold openL; rw [if_pos h16]
    rw [ho] at k
    exact ⟨h, le1, k (.slice none 0 0) h (by simp)⟩
  simp only [h16, decide_false, Bool.false_eq_true, if_false]
  have e16 : ((x.length : Nat) : Int) - 16 = ((x.length - 16 : Nat) : Int) := by omega
  rw [e16]
  refine q_slRnHi u_Sl_uint8 z_uint8 (hx.mono c1) .i64 (x.length - 16) (by omega) fun w hw => ?_
  refine T_tag (hk.mono c1) (hn.mono c1) (hb.mono c1) hw bk bn bb (bx.take _) lb (by rw [List.length_take]; omega) hm fun vT h2 hT => ?_
  rw [ext0, ext1]
  have c2 := c1.trans hT.cle
  refine q_slRn u_Sl_uint8 z_uint8 (hx.mono c2) .i64 (x.length - 16) (by omega) fun w2 hw2 => ?_
  have ltag := tagB_len key nonce b (x.take (x.length - 16))
  refine T_word_Equal hT.rn hw2 (tagB_bytes _ _ _ _) (bx.drop _) (by omega) ?_
  have le2 : Hp.le h h2 := le1.trans (New.le hT)
  by_cases heq : tagB key nonce b (x.take (x.length - 16)) = x.drop (x.length - 16)
  · have ho : openL key nonce b x = (0, xorL key nonce 1 (x.take (x.length - 16))) := by unfold openL; rw [if_neg h16, if_pos heq]
    rw [ho] at k
    simp (disch := omega) only [GL, RL, heq, decide_true, Bool.not_true, Bool.false_eq_true, if_false]
    refine q_slRnHi u_Sl_uint8 z_uint8 (hx.mono c2) .i64 (x.length - 16) (by omega) fun w3 hw3 => ?_
    refine T_Xor 1 (by omega) (hk.mono c2) (hn.mono c2) hw3 bk bn (bx.take _) (by rw [List.length_take]; omega) fun v3 h3 n3 => ?_
    simp only [if_pos hm] at n3 ⊢
    rw [ext0, ext1]
    obtain ⟨h0, l0, nf⟩ := n3.down le2
    exact ⟨h0, l0, k v3 h0 (by simpa using nf)⟩
  · have ho : openL key nonce b x = (7, []) := by unfold openL; rw [if_neg h16, if_neg heq]
    rw [ho] at k
    simp (disch := omega) only [GL, RL, heq, decide_false, Bool.not_false, if_true]
    exact ⟨h, le2, k (.slice none 0 0) h (by simp)⟩
end
end Go.Proofs.Ytnecdbclhdbaoaa
set_option linter.unusedSimpArgs false
set_option linter.unusedVariables false
set_option maxRecDepth 100000
namespace Go.Proofs.Ytnecdbclhdbaoaa
open Go Go.SL Go.Pure
def strL (l : List Nat) : ByteArray := l.foldl (fun s x => s.push (UInt8.ofNat x)) ByteArray.empty
theorem q_str {h : Hp} {K : Value → Prop} {v : Value} {l : List Nat} (hv : Rn h .u8 v l) : q P h (convert t_Sl_uint8 t_string v) K = K (.string (strL l)) := q_of (by
  obtain ⟨hl, a, c, rfl, hc, hr⟩ := hv
  show peek P h (Sem.bind (underlying t_Sl_uint8) _) = _
  rw [peek_bind, pk_und u_Sl_uint8, Option.bind_some]
  show peek P h (Sem.bind (underlying t_string) _) = _
  rw [peek_bind, pk_und u_string, Option.bind_some]
  show peek P h (Sem.bind (underlying t_uint8) _) = _
  rw [peek_bind, pk_und u_uint8, Option.bind_some]
  show peek P h (Conv.bytesToString _) = _
  rcases hr with h0 | ⟨b, o, rfl, hy⟩
  · rw [List.eq_nil_of_length_eq_zero h0]
    cases a <;> rfl
  · unfold Conv.bytesToString
    show peek P h (Sem.bind (loadCellsFrom ⟨b, o, none⟩ 0 l.length #[]) _) = _
    have := pk_loadCells (P := P) (h := h) (b := b) (o := o) (nv .u8 l) 0 #[] (fun j x e => by simpa using hy j x e)
    rw [nv_len] at this
    rw [peek_bind, this, Option.bind_some]
    have key : ∀ (l : List Nat) (s : ByteArray), peek P h (forIn (nv .u8 l) s fun c r => (match c with
        | .int .u8 n => Sem.pure (ForInStep.yield (r.push (UInt8.ofNat n.toNat)))
        | _ => stuck "bytesToString: byte expected" : Sem (ForInStep ByteArray))) = some (l.foldl (fun s x => s.push (UInt8.ofNat x)) s) := by
      intro l
      induction l with
      | nil => intro s; rfl
      | cons x l ih =>
        intro s
        rw [nv_cons, List.forIn_cons]
        exact ih _
    have e0 : (#[] ++ (nv .u8 l).toArray) = (nv .u8 l).toArray := by simp
    rw [e0]
    show peek P h (Sem.bind (forIn (nv .u8 l).toArray ByteArray.empty _) _) = _
    rw [List.forIn_toArray, peek_bind]
    refine (congrArg (fun x => Option.bind x _) (key l ByteArray.empty)).trans ?_
    rfl) K
theorem q_eqlS {h : Hp} {K : Value → Prop} (x y : Operand) (a b : ByteArray) : q P h (eqop .eql t_string x y (.string a) (.string b)) K = K (.bool (a.toList == b.toList)) := q_of (by
  unfold eqop
  rw [peek_bind]
  have : peek P h (eqGuard .eql t_string x y (.string a) (.string b)) = some () := rfl
  rw [this, Option.bind_some]
  simp only [binOp, Op.stringOp]; rfl) K
/-- Bytes as bytes: nothing moves, but what stands behind the block may not be written. -/
theorem aw_mark {h : Hp} {b n : Nat} {xs : List Value} {K : Value → Hp → Prop} (hb : h b = none) (hx : xs.length = n) (k : ∀ h'', New h t_uint8 1 (.slice (some ⟨b, 0, none⟩) n n) h'' xs n → K (.slice (some ⟨b, 0, none⟩) n n) h'') :
    aw P (convert t_Sl_uint8 t_Sl_uint8 (.slice (some ⟨b, 0, none⟩) n n)) K (h.set b (.row t_uint8 xs n (some (0, 0)))) := by
  refine aw_of ?_
  show awp P (Sem.bind (underlying t_Sl_uint8) _) K _
  rw [awp_bind, peek_awp P _ _ _ (pk_und u_Sl_uint8)]
  show awp P (Sem.bind (underlying t_Sl_uint8) _) K _
  rw [awp_bind, peek_awp P _ _ _ (pk_und u_Sl_uint8)]
  show awp P (Sem.bind (underlying t_uint8) _) K _
  rw [awp_bind, peek_awp P _ _ _ (pk_und u_uint8)]
  show awp P (Sem.bind (markStringish ⟨b, 0, none⟩) _) K _
  rw [awp_bind]
  show awp P (Sem.bind (shape b) _) _ _
  rw [awp_bind]
  have hs : (h.set b (.row t_uint8 xs n (some (0, 0)))).shape b = some (some (t_uint8, n)) := by simp [Hp.shape]
  have : peek P (h.set b (.row t_uint8 xs n (some (0, 0)))) (shape b) = some (some (t_uint8, n)) := by
    unfold shape
    simp only [peek, hs]
  rw [peek_awp P _ _ _ this]
  show awp P (freeze ⟨b, n, none⟩ 1) _ _
  have hfz : (h.set b (.row t_uint8 xs n (some (0, 0)))).freeze ⟨b, n, none⟩ 1 = some (h.set b (.row t_uint8 xs n (some (n, n + 1)))) := by simp [Hp.freeze, Hp.set_set, frz]
  simp only [awp, freeze, hfz]
  refine k _ ⟨by rw [Nat.mul_one]; exact hx, .inr ⟨b, n, (n, n + 1), hb, Nat.le_refl _, rfl, by rw [Nat.mul_one], fun i hi => by omega⟩⟩
theorem ne_dec (a n : Nat) : (((a : Nat) : Int) != ((n : Nat) : Int)) = decide (a ≠ n) := by
  rw [Bool.eq_iff_iff, bne_iff_ne, decide_eq_true_eq]; omega
end Go.Proofs.Ytnecdbclhdbaoaa
set_option linter.unusedSimpArgs false
set_option linter.unusedVariables false
namespace Go.SL
open Go
/-- All that is known stays known. -/
def Hp.ext (h h' : Hp) : Prop := ∀ b o, h b = some o → h' b = some o
theorem Hp.ext.refl (h : Hp) : Hp.ext h h := fun _ _ e => e
theorem Hp.ext.trans {a b c : Hp} (x : Hp.ext a b) (y : Hp.ext b c) : Hp.ext a c := fun i o e => y i o (x i o e)
theorem ext_set {h : Hp} {r : Nat} (o : AObj) (hr : h r = none) : Hp.ext h (h.set r o) := fun i x e => by
  have : i ≠ r := by rintro rfl; rw [hr] at e; cases e
  rw [Hp.set_ne _ _ this]; exact e
theorem Hp.ext.le {h h' : Hp} (x : Hp.ext h h') : Hp.le h h' := fun b o e => ⟨o, x b o e, .refl o⟩
theorem Hp.ext.cle {h h' : Hp} (x : Hp.ext h h') : Hp.cle h h' := fun a v e => by
  unfold Hp.cell at e ⊢
  split at e
  · cases e
  · rename_i hs
    rw [if_neg hs]
    cases hb : h a.block with
    | none => rw [hb] at e; cases e
    | some o => rw [x _ _ hb]; rw [hb] at e; exact e
theorem Hp.ext.none {h h' : Hp} (x : Hp.ext h h') {b : Nat} (e : h' b = none) : h b = none := by
  cases hb : h b with
  | none => rfl
  | some o => rw [x b o hb] at e; cases e
theorem New.ext {h : Hp} {e s : Nat} {v : Value} {h' : Hp} {xs : List Value} {n : Nat} (w : New h e s v h' xs n) : Hp.ext h h' := by
  rcases w.2 with ⟨_, _, rfl⟩ | ⟨b, c, f, hb, _, _, rfl, _⟩
  · exact .refl _
  · exact ext_set _ hb
theorem Nn.ext {h : Hp} {e : Nat} {k : IntKind} {v : Value} {h' : Hp} {l : List Nat} (w : Nn h e k v h' l) : Hp.ext h h' := New.ext w
theorem del_set (h : Hp) {b : Nat} {o : AObj} (e : h b = some o) : (h.del b).set b o = h := by
  funext i
  unfold Hp.set Hp.del
  by_cases hi : i = b
  · subst hi; simp [e]
  · simp [hi]
theorem del_at (h : Hp) (b : Nat) : (h.del b) b = none := by simp [Hp.del]
/-- A row of the call's own that stands somewhere, as a new one. -/
theorem New.at {h : Hp} {b : Nat} {e s n c : Nat} {xs : List Value} {f : Nat × Nat} (hb : h b = some (.row e xs (c * s) (some f))) (hl : xs.length = n * s) (hc : n ≤ c) (hf : ∀ i, i < c * s → ¬ (f.1 ≤ i ∧ i < f.2)) :
    New (h.del b) e s (.slice (some ⟨b, 0, none⟩) n c) h xs n := ⟨hl, .inr ⟨b, c, f, del_at h b, hc, rfl, (del_set h hb).symm, hf⟩⟩
section
variable {P : Program} {h : Hp}
/-! ### Methods -/
theorem awp_method {t : TypeId} {v : Value} {name : String} {args : Array Value} {K : Next → Hp → Prop} {g : FuncId} {r : Value}
    (hm : peek P h (method (P.types.size + Made.depth) t v name) = some (g, r)) (c : Callable P g) (k : K (.enter g (#[r] ++ args)) h) : awp P (callMethod (.iface t v) name args) K h := by
  show awp P (Sem.program fun p => Sem.bind (method (p.types.size + Made.depth) t v name) fun x => callFunc x.1 (#[x.2] ++ args)) K h
  show awp P (Sem.bind (method (P.types.size + Made.depth) t v name) fun x => callFunc x.1 (#[x.2] ++ args)) K h
  rw [awp_bind, peek_awp P _ _ _ hm, awp_call c]
  exact k
/-- A call of a method of an interface. -/
theorem aw_method {t : TypeId} {v : Value} {name : String} {args : Array Value} {K : Value → Hp → Prop} {g : FuncId} {r : Value}
    (hm : peek P h (method (P.types.size + Made.depth) t v name) = some (g, r)) (c : Cn P g (#[r] ++ args) h K) : aw P (callMethod (.iface t v) name args) (nextP P K) h :=
  awp_method hm c.1 ⟨h, .refl _, c⟩
theorem q_mkI {t : TypeId} {d : TypeDesc} {K : Value → Prop} (ht : P.underlying t = some d) (hd : (match d with | .interface _ => true | _ => false) = false) (x : Value) : q P h (Instr.makeInterface t x) K = K (.iface t x) := q_of (by
  show peek P h (Sem.bind (underlying t) _) = _
  rw [peek_bind, pk_und ht, Option.bind_some]
  cases d <;> first | rfl | cases hd) K
/-! ### Maps whose keys are strings -/
/-- The entries, by their keys. -/
def mget (es : List MapEntry) (k : ByteArray) : Option (Nat × Value) :=
  match es with
  | [] => none
  | e :: es => match e.key with
    | .string s => if (k == s) = true then some (0, e.val) else (mget es k).map fun p => (p.1 + 1, p.2)
    | _ => none
def strKeys (es : List MapEntry) : Prop := ∀ e ∈ es, ∃ s, e.key = .string s
theorem findNow_str {es : List MapEntry} (hs : strKeys es) (k : ByteArray) : ∀ i, Instr.findNow .string (.string k) es i = some ((mget es k).map fun p => (p.1 + i, p.2)) := by
  induction es with
  | nil => intro i; rfl
  | cons e es ih =>
    intro i
    obtain ⟨s, he⟩ := hs e (List.mem_cons_self ..)
    have ih := ih (fun x hx => hs x (List.mem_cons_of_mem _ hx)) (i + 1)
    simp only [Instr.findNow, Instr.sameNow, he, mget]
    cases hk : (k == s)
    · simp only [Bool.false_eq_true, if_false, ih, Option.map_map]
      congr 2
      funext p
      simp only [Function.comp]
      congr 1
      omega
    · simp
theorem pk_findKey {t : TypeId} (ht : P.underlying t = some .string) {es : List MapEntry} (hs : strKeys es) (k : ByteArray) : peek P h (Instr.findKey t (.string k) es) = some (mget es k) := by
  show peek P h (Sem.bind (underlying t) _) = _
  rw [peek_bind, pk_und ht, Option.bind_some, findNow_str hs k 0]
  show some ((mget es k).map fun p => (p.1 + 0, p.2)) = _
  congr 1
  cases mget es k <;> rfl
theorem pk_checkKey {t : TypeId} (ht : P.underlying t = some .string) (b : Bool) (k : ByteArray) : peek P h (Instr.checkKey b 10000 t (.string k)) = some () := by
  show peek P h (Sem.bind (underlying t) _) = _
  rw [peek_bind, pk_und ht, Option.bind_some]
  rfl
theorem q_lookup {t kt e : TypeId} {r c : Nat} {es : Array MapEntry} {z : Value} {K : Value → Prop} (ht : P.underlying t = some (.map kt e)) (hk : P.underlying kt = some .string) (hz : zr P e = some z) (hr : h r = some (.obj (.map es c))) (hs : strKeys es.toList) (k : ByteArray) :
    q P h (Instr.lookup t (.map (some r)) (.string k) true) K = K (.tuple #[((mget es.toList k).map (·.2)).getD z, .bool (mget es.toList k).isSome]) := q_of (by
  show peek P h (Sem.bind (underlying t) _) = _
  rw [peek_bind, pk_und ht, Option.bind_some]
  show peek P h (Sem.bind (getObj r) _) = _
  have : peek P h (getObj r) = some (.map es c) := by
    unfold getObj
    simp only [peek, hr]
  rw [peek_bind, this, Option.bind_some]
  show peek P h (Sem.bind (Instr.checkKey es.isEmpty 10000 kt (.string k)) _) = _
  rw [peek_bind, pk_checkKey hk, Option.bind_some]
  show peek P h (Sem.bind (Instr.findKey kt (.string k) es.toList) _) = _
  rw [peek_bind, pk_findKey hk hs, Option.bind_some]
  cases mget es.toList k with
  | none =>
    show peek P h (Sem.bind (zeroValue e) _) = _
    rw [peek_bind, pk_zero hz]
    rfl
  | some p => rfl) K
theorem q_lenM {t kt e T : TypeId} {r c : Nat} {es : Array MapEntry} {K : Value → Prop} (ht : P.underlying t = some (.map kt e)) (hr : h r = some (.obj (.map es c))) : q P h (Builtin.len_ #[t] T #[.map (some r)]) K = K (.int .i64 es.size) := q_of (by
  show peek P h (Sem.bind (underlying t) _) = _
  rw [peek_bind, pk_und ht, Option.bind_some]
  show peek P h (Sem.bind (getObj r) _) = _
  have : peek P h (getObj r) = some (.map es c) := by
    unfold getObj
    simp only [peek, hr]
  rw [peek_bind, this]
  rfl) K
/-- A key that isn't there yet is put. -/
theorem aw_mapNew {t kt e : TypeId} {r c : Nat} {es : Array MapEntry} {K : Unit → Hp → Prop} (ht : P.underlying t = some (.map kt e)) (hk : P.underlying kt = some .string) (hr : h r = some (.obj (.map es c))) (hs : strKeys es.toList) (k : ByteArray) (v : Value)
    (hn : mget es.toList k = none) (kk : K () (h.set r (.obj (.map (es.push ⟨.string k, v, c⟩) (c + 1))))) : aw P (Instr.mapUpdate t (.map (some r)) (.string k) v) K h := by
  refine aw_of ?_
  show awp P (Sem.bind (underlying t) _) K h
  rw [awp_bind, peek_awp P _ _ _ (pk_und ht)]
  show awp P (Sem.bind (getObj r) _) K h
  have hg : peek P h (getObj r) = some (.map es c) := by
    unfold getObj
    simp only [peek, hr]
  rw [awp_bind, peek_awp P _ _ _ hg]
  show awp P (Sem.bind (Instr.checkKey false 10000 kt (.string k)) _) K h
  rw [awp_bind, peek_awp P _ _ _ (pk_checkKey hk false k)]
  show awp P (Sem.bind (Instr.findKey kt (.string k) es.toList) _) K h
  rw [awp_bind, peek_awp P _ _ _ (pk_findKey hk hs k), hn]
  show awp P (setObj r (.map (es.push ⟨.string k, v, c⟩) (c + 1))) K h
  show (match h r with | some (.obj _) => isCells _ = false ∧ awp P (.pure ()) K _ | _ => False)
  rw [hr]
  exact ⟨rfl, kk⟩
theorem aw_makeMap {t : TypeId} {K : Value → Hp → Prop} (k : ∀ r, h r = none → K (.map (some r)) (h.set r (.obj (.map #[] 0)))) : aw P (Instr.makeMap t none) K h := by
  refine aw_of ?_
  show awp P (Sem.bind (newObj (.map #[] 0)) fun r => Sem.pure (.map (some r))) K h
  rw [awp_bind]
  exact fun r hr => k r hr
theorem mget_push {es : Array MapEntry} (hs : strKeys es.toList) (k k' : ByteArray) (v : Value) (c : Nat) :
    mget (es.push ⟨.string k, v, c⟩).toList k' = (mget es.toList k').or (if (k' == k) = true then some (es.size, v) else none) := by
  have : ∀ l : List MapEntry, strKeys l → mget (l ++ [⟨.string k, v, c⟩]) k' = (mget l k').or (if (k' == k) = true then some (l.length, v) else none) := by
    intro l
    induction l with
    | nil => intro _; simp only [List.nil_append, mget]; split <;> rfl
    | cons e l ih =>
      intro hl
      obtain ⟨s, he⟩ := hl e (List.mem_cons_self ..)
      have ih := ih fun x hx => hl x (List.mem_cons_of_mem _ hx)
      simp only [List.cons_append, mget, he]
      split
      · rfl
      · rw [ih]
        cases mget l k' with
        | none => simp only [Option.none_or, Option.map_none]; split <;> rfl
        | some p => rfl
  simpa using this es.toList hs
theorem strKeys_push {es : Array MapEntry} (hs : strKeys es.toList) (k : ByteArray) (v : Value) (c : Nat) : strKeys (es.push ⟨.string k, v, c⟩).toList := by
  intro e he
  rw [Array.toList_push, List.mem_append, List.mem_singleton] at he
  rcases he with he | rfl
  · exact hs e he
  · exact ⟨k, rfl⟩
/-! ### Copies -/
def putL : List Value → Nat → List Value → List Value
  | xs, _, [] => xs
  | xs, j, y :: ys => putL (xs.set j y) (j + 1) ys
theorem putL_eq : ∀ (ys xs : List Value) (j : Nat), j + ys.length ≤ xs.length → putL xs j ys = xs.take j ++ ys ++ xs.drop (j + ys.length)
  | [], xs, j, _ => by simp [putL]
  | y :: ys, xs, j, h => by
    simp only [List.length_cons] at h
    rw [putL, putL_eq ys _ _ (by rw [List.length_set]; omega), List.take_succ_eq_append_getElem (by rw [List.length_set]; omega), List.getElem_set_self, List.take_set_of_le (Nat.le_refl _), List.drop_set_of_lt (by omega)]
    simp only [List.append_assoc, List.singleton_append, List.cons_append, List.nil_append, List.length_cons]
    rw [show j + 1 + ys.length = j + (ys.length + 1) by omega]
theorem awp_putCells {b e cap : Nat} {f : Nat × Nat} : ∀ (ys xs : List Value) (h : Hp) (K : Unit → Hp → Prop) (o i : Nat), h b = some (.row e xs cap (some f)) → (∀ y ∈ ys, flat y = true) → o + i + ys.length ≤ xs.length →
    (∀ i, i < xs.length → ¬ (f.1 ≤ i ∧ i < f.2)) → K () (h.set b (.row e (putL xs (o + i) ys) cap (some f))) → awp P (storeCells ⟨b, o, none⟩ ys i) K h := by
  intro ys
  induction ys with
  | nil =>
    intro xs h K o i hb _ hl _ k
    have : h.set b (.row e (putL xs (o + i) []) cap (some f)) = h := by
      funext j
      unfold Hp.set
      split
      · rename_i e1; subst e1; rw [hb]; rfl
      · rfl
    rw [this] at k
    exact k
  | cons y ys ih =>
    intro xs h K o i hb hfl hl hf k
    simp only [List.length_cons] at hl
    show awp P (Sem.bind (store ((⟨b, o, none⟩ : Addr).add i) y) fun _ => storeCells ⟨b, o, none⟩ ys (i + 1)) K h
    rw [awp_bind, add_off]
    refine ⟨hfl y (List.mem_cons_self ..), ?_⟩
    rw [put_row hb (by omega) (hf (o + i) (by omega))]
    refine ih (xs.set (o + i) y) _ K o (i + 1) (Hp.set_same ..) (fun z hz => hfl z (List.mem_cons_of_mem _ hz)) (by rw [List.length_set]; omega) (fun j hj => hf j (by rwa [List.length_set] at hj)) ?_
    rw [Hp.set_set]
    exact k
/-- A copy into a row of the call's own, at a place, of a row that is read. -/
theorem aw_copy {t t2 T e b o dl dc n : Nat} {cap : Nat} {f : Nat × Nat} {xs ys : List Value} {w : Value} {K : Value → Hp → Prop} (ht : P.underlying t = some (.slice e)) (hs : sz P e = some 1) (hb : h b = some (.row e xs cap (some f)))
    (hr : Rds h 1 w ys n) (hfl : ∀ y ∈ ys, flat y = true) (hn : n ≤ dl) (hl : o + dl ≤ xs.length) (hf : ∀ i, i < xs.length → ¬ (f.1 ≤ i ∧ i < f.2))
    (k : K (.int .i64 n) (h.set b (.row e (putL xs o ys) cap (some f)))) : aw P (Builtin.copy_ #[t, t2] T #[.slice (some ⟨b, o, none⟩) dl dc, w]) K h := by
  refine aw_of ?_
  obtain ⟨hyl, wa, wc, rfl, hwc, hwr⟩ := hr
  have hr : Rds h 1 (.slice wa n wc) ys n := ⟨hyl, wa, wc, rfl, hwc, hwr⟩
  show awp P (Sem.bind (underlying t) _) _ h
  rw [awp_bind, peek_awp P _ _ _ (pk_und ht)]
  show awp P (Sem.bind (sizeOf e) _) _ h
  rw [awp_bind, peek_awp P _ _ _ (pk_size hs)]
  show awp P (Sem.bind (Builtin.firstCells 1 (Nat.min n dl) (.slice wa n wc)) _) _ h
  have hmin : Nat.min n dl = n := Nat.min_eq_left hn
  rw [hmin, awp_bind]
  refine awp_firstCells hr ?_
  show awp P (Sem.bind (storeCells ⟨b, o, none⟩ ys.toArray.toList 0) _) _ h
  rw [awp_bind]
  exact awp_putCells ys xs h _ o 0 hb hfl (by omega) hf (by rw [Nat.add_zero]; exact k)
/-- A copy of a part: as much as there is room for. -/
theorem aw_copyMin {t t2 T e b o dl dc n : Nat} {cap : Nat} {f : Nat × Nat} {xs ys : List Value} {w : Value} {K : Value → Hp → Prop} (ht : P.underlying t = some (.slice e)) (hs : sz P e = some 1) (hb : h b = some (.row e xs cap (some f)))
    (hr : Rds h 1 w ys n) (hfl : ∀ y ∈ ys, flat y = true) (hl : o + dl ≤ xs.length) (hf : ∀ i, i < xs.length → ¬ (f.1 ≤ i ∧ i < f.2))
    (k : K (.int .i64 (Nat.min n dl : Nat)) (h.set b (.row e (putL xs o (ys.take dl)) cap (some f)))) : aw P (Builtin.copy_ #[t, t2] T #[.slice (some ⟨b, o, none⟩) dl dc, w]) K h := by
  refine aw_of ?_
  obtain ⟨hyl, wa, wc, rfl, hwc, hwr⟩ := hr
  have hr : Rds h 1 (.slice wa (Nat.min n dl) wc) (ys.take dl) (Nat.min n dl) := by
    refine ⟨by rw [List.length_take, hyl]; simp [Nat.min_comm, Nat.min_def], wa, wc, rfl, Nat.le_trans (Nat.min_le_left _ _) hwc, ?_⟩
    rcases hwr with h0 | ⟨b', o', ha, hy⟩
    · left; subst h0; exact Nat.zero_min _
    · right
      refine ⟨b', o', ha, fun i x ex => ?_⟩
      rw [List.getElem?_take] at ex
      split at ex
      · exact hy i x ex
      · cases ex
  show awp P (Sem.bind (underlying t) _) _ h
  rw [awp_bind, peek_awp P _ _ _ (pk_und ht)]
  show awp P (Sem.bind (sizeOf e) _) _ h
  rw [awp_bind, peek_awp P _ _ _ (pk_size hs)]
  show awp P (Sem.bind (Builtin.firstCells 1 (Nat.min n dl) (.slice wa n wc)) _) _ h
  have e1 : Builtin.firstCells 1 (Nat.min n dl) (.slice wa n wc) = Builtin.firstCells 1 (Nat.min n dl) (.slice wa (Nat.min n dl) wc) := by cases wa <;> rfl
  rw [e1, awp_bind]
  refine awp_firstCells hr ?_
  show awp P (Sem.bind (storeCells ⟨b, o, none⟩ (ys.take dl).toArray.toList 0) _) _ h
  rw [awp_bind]
  exact awp_putCells (ys.take dl) xs h _ o 0 hb (fun y hy => hfl y (List.mem_of_mem_take hy)) (by rw [List.length_take]; omega) hf (by rw [Nat.add_zero]; exact k)
/-- A copy of a text. -/
theorem aw_copyS {t t2 T e b o dl dc : Nat} {cap : Nat} {f : Nat × Nat} {xs ys : List Value} {s : ByteArray} {K : Value → Hp → Prop} (ht : P.underlying t = some (.slice e)) (hs : sz P e = some 1) (hb : h b = some (.row e xs cap (some f)))
    (hy : (s.extract 0 s.size).data.map (fun b => Value.int .u8 b.toNat) = ys.toArray) (hfl : ∀ y ∈ ys, flat y = true) (hn : s.size ≤ dl) (hyl : ys.length = s.size) (hl : o + dl ≤ xs.length) (hf : ∀ i, i < xs.length → ¬ (f.1 ≤ i ∧ i < f.2))
    (k : K (.int .i64 s.size) (h.set b (.row e (putL xs o ys) cap (some f)))) : aw P (Builtin.copy_ #[t, t2] T #[.slice (some ⟨b, o, none⟩) dl dc, .string s]) K h := by
  refine aw_of ?_
  show awp P (Sem.bind (underlying t) _) _ h
  rw [awp_bind, peek_awp P _ _ _ (pk_und ht)]
  show awp P (Sem.bind (sizeOf e) _) _ h
  rw [awp_bind, peek_awp P _ _ _ (pk_size hs)]
  show awp P (Sem.bind (Builtin.firstCells 1 (Nat.min s.size dl) (.string s)) _) _ h
  have hmin : Nat.min s.size dl = s.size := Nat.min_eq_left hn
  rw [hmin, awp_bind]
  show awp P (Sem.bind (storeCells ⟨b, o, none⟩ ((s.extract 0 s.size).data.map (fun b => Value.int .u8 b.toNat)).toList 0) _) _ h
  rw [hy, awp_bind]
  exact awp_putCells ys xs h _ o 0 hb hfl (by omega) hf (by rw [Nat.add_zero]; exact k)
/-! ### Slices of structs -/
/-- A slice's literal of one struct. -/
theorem aw_litA {t e s : Nat} {z : Value} {ys : List Value} {K : Value → Hp → Prop} (ht : P.underlying t = some (.slice e)) (hs : sz P e = some s) (hzr : zr P e = some z) (hz : z.cells.size = s) (hy : ys.length = s) (h0 : 0 < s) (hn : s ≤ 1000)
    (k : ∀ v h', New h e s v h' ys 1 → K v h') : aw P (Instr.buildSlice t 1 #[(0, .agg ys.toArray)]) K h := by
  refine aw_of ?_
  show awp P (Sem.bind (underlying t) _) _ h
  rw [awp_bind, peek_awp P _ _ _ (pk_und ht)]
  show awp P (Sem.bind (sizeOf e) _) _ h
  rw [awp_bind, peek_awp P _ _ _ (pk_size hs)]
  show awp P (if 1 * s > 2 ^ 24 then _ else _) _ h
  rw [if_neg (by omega)]
  show awp P (if 1 * s = 0 then _ else _) _ h
  rw [if_neg (by omega)]
  show awp P (Sem.bind (zeroValue e) _) _ h
  rw [awp_bind, peek_awp P _ _ _ (pk_zero hzr)]
  have hfill : Instr.fill (fun i => some (i * s, s)) ((Array.range (1 * s)).map (fun x => z.cells[x % z.cells.size]!)) [(0, .agg ys.toArray)] = some ys.toArray := by
    simp only [Instr.fill, Value.cells, List.size_toArray, hy, Nat.zero_mul, Nat.zero_add, Array.size_map, Array.size_range, Nat.one_mul]
    rw [if_neg (by simp)]
    congr 1
    have key : ∀ (l : List Value) (j : Nat) (cs : Array Value), j + l.length ≤ cs.size → (l.zipIdx j).foldl (fun cs (p : Value × Nat) => cs.setIfInBounds p.2 p.1) cs = (cs.toList.take j ++ l ++ cs.toList.drop (j + l.length)).toArray := by
      intro l
      induction l with
      | nil => intro j cs _; simp
      | cons y l ih =>
        intro j cs hj
        simp only [List.length_cons] at hj
        rw [List.zipIdx_cons, List.foldl_cons, ih (j + 1) _ (by simp; omega)]
        congr 1
        simp only [Array.toList_setIfInBounds]
        rw [List.take_succ_eq_append_getElem (by rw [List.length_set, Array.length_toList]; omega), List.getElem_set_self, List.take_set_of_le (Nat.le_refl _), List.drop_set_of_lt (by omega)]
        simp only [List.append_assoc, List.singleton_append, List.cons_append, List.nil_append, List.length_cons]
        rw [show j + 1 + l.length = j + (l.length + 1) by omega]
    have := key ys 0 ((Array.range s).map (fun x => z.cells[x % z.cells.size]!)) (by simp [hy])
    have e1 : ys.toArray.zipIdx.foldl (fun cs (p : Value × Nat) => cs.setIfInBounds p.2 p.1) ((Array.range s).map (fun x => z.cells[x % z.cells.size]!)) = (ys.zipIdx 0).foldl (fun cs (p : Value × Nat) => cs.setIfInBounds p.2 p.1) ((Array.range s).map (fun x => z.cells[x % z.cells.size]!)) := by
      simp
    refine e1.trans (this.trans ?_)
    rw [List.take_zero, List.nil_append, Nat.zero_add, List.drop_of_length_le (by simp [hy]), List.append_nil]
  show awp P (match Instr.fill (fun i => some (i * s, s)) ((Array.range (1 * s)).map (fun x => z.cells[x % z.cells.size]!)) [(0, .agg ys.toArray)] with
      | some cells => Sem.bind (newRow e cells) fun a => Sem.pure (.slice (some a) 1 1)
      | _ => stuck "buildSlice: a part of the wrong size") K h
  rw [hfill]
  show awp P (Sem.bind (newRow e _) _) K h
  rw [awp_bind]
  intro r hr
  refine k _ _ ⟨by rw [Nat.one_mul]; exact hy, .inr ⟨r, 1, (0, 0), hr, Nat.le_refl _, rfl, ?_, fun i _ => by simp⟩⟩
  simp [absOf, hy]
end
end Go.SL
set_option linter.unusedSimpArgs false
set_option linter.unusedVariables false
set_option maxRecDepth 100000
namespace Go.Pure
/-- A number's bytes, the greatest first. -/
def bg (n v : Nat) : List Nat := (le n v).reverse
theorem bg_len (n v : Nat) : (bg n v).length = n := by simp [bg, le_len]
theorem bg_bytes (n v : Nat) : Bytes (bg n v) := fun x hx => le_bytes n v x (List.mem_reverse.1 hx)
/-- The number of bytes, the greatest first; what isn't there is 0. -/
def bval (l : List Nat) : Nat := l.foldl (fun v x => v * 256 + x) 0
theorem bval_snoc (a : List Nat) (x : Nat) : bval (a ++ [x]) = bval a * 256 + x := by simp [bval, List.foldl_append]
theorem bval_rev (l : List Nat) : bval l.reverse = leval l := by
  induction l with
  | nil => rfl
  | cons x l ih => rw [List.reverse_cons, bval_snoc, ih, leval]; omega
theorem bval_lt {l : List Nat} (h : Bytes l) : bval l < 256 ^ l.length := by
  have := leval_lt l.reverse (fun x hx => h x (List.mem_reverse.1 hx))
  rwa [← bval_rev, List.reverse_reverse, List.length_reverse] at this
theorem bval_bg (n v : Nat) : bval (bg n v) = v % 256 ^ n := by unfold bg; rw [bval_rev, leval_le]
/-- A box of a number. -/
def boxB (n len : Nat) : List Nat := (List.range len).map fun i => (bg 8 n).getD (i % 8) 0
theorem boxB_len (n len : Nat) : (boxB n len).length = len := by simp [boxB]
theorem boxB_bytes (n len : Nat) : Bytes (boxB n len) := by
  intro x hx
  obtain ⟨i, _, rfl⟩ := List.mem_map.1 hx
  exact (bg_bytes 8 n).getD _
theorem boxB_take8 (n len : Nat) (h : 8 ≤ len) : (boxB n len).take 8 = bg 8 n := by
  apply List.ext_getElem
  · rw [List.length_take, boxB_len, bg_len]; omega
  · intro i h1 h2
    rw [bg_len] at h2
    rw [List.getElem_take]
    simp only [boxB, List.getElem_map, List.getElem_range, Nat.mod_eq_of_lt h2]
    simp [List.getD_eq_getElem?_getD, bg_len, h2]
structure Box where
  key : List Nat
  nonce : List Nat
  beside : List Nat
  text : List Nat
  deriving DecidableEq
/-- What hides and digests: the real one, or a book of texts and boxes. -/
inductive Cr where
  | real
  | book (texts : List (List Nat)) (boxes : List Box)
def crSeal (c : Cr) (key nonce beside text : List Nat) : Nat × List Nat × Cr :=
  match c with
  | .real => if may key nonce then (0, sealL key nonce beside text, .real) else (1, [], .real)
  | .book ts bs => if may key nonce then (0, boxB bs.length (text.length + 16), .book ts (bs ++ [⟨key, nonce, beside, text⟩])) else (1, [], .book ts bs)
def bookOpen (bs : List Box) (key nonce beside box : List Nat) : Nat × List Nat :=
  if box.length < 16 then (8, [])
  else match bs[bval (box.take 8)]? with
    | none => (7, [])
    | some s => if s.key = key ∧ s.nonce = nonce ∧ s.beside = beside ∧ boxB (bval (box.take 8)) (s.text.length + 16) = box then (0, s.text) else (7, [])
def crOpen (c : Cr) (key nonce beside box : List Nat) : Nat × List Nat :=
  if may key nonce then
    match c with
    | .real => openL key nonce beside box
    | .book _ bs => bookOpen bs key nonce beside box
  else (1, [])
/-- The reference's book looks all boxes through. -/
def findBox (bs : List Box) (key nonce beside box : List Nat) : Nat → Option (List Nat)
  | i => match bs with
    | [] => none
    | s :: bs => if s.key = key ∧ s.nonce = nonce ∧ s.beside = beside ∧ boxB i (s.text.length + 16) = box then some s.text else findBox bs key nonce beside box (i + 1)
theorem findBox_eq (bs : List Box) (key nonce beside box : List Nat) (hl : 16 ≤ box.length) (i : Nat) (hi : i + bs.length ≤ 18446744073709551616) :
    findBox bs key nonce beside box i = if i ≤ bval (box.take 8) then (match bs[bval (box.take 8) - i]? with
      | none => none
      | some s => if s.key = key ∧ s.nonce = nonce ∧ s.beside = beside ∧ boxB (bval (box.take 8)) (s.text.length + 16) = box then some s.text else none) else none := by
  induction bs generalizing i with
  | nil => simp [findBox]
  | cons s bs ih =>
    simp only [List.length_cons] at hi
    simp only [findBox]
    have hb : ∀ n t, n < 18446744073709551616 → boxB n (t + 16) = box → bval (box.take 8) = n := fun n t hn e => by
      rw [← e, boxB_take8 _ _ (by omega), bval_bg, Nat.mod_eq_of_lt (by exact hn)]
    rw [ih (i + 1) (by omega)]
    by_cases h1 : i = bval (box.take 8)
    · subst h1
      simp only [Nat.le_refl, if_true, Nat.sub_self, List.getElem?_cons_zero]
      rw [if_neg (show ¬ bval (box.take 8) + 1 ≤ bval (box.take 8) by omega)]
    · have : ¬ (s.key = key ∧ s.nonce = nonce ∧ s.beside = beside ∧ boxB i (s.text.length + 16) = box) := fun q => h1 (hb i _ (by omega) q.2.2.2).symm
      rw [if_neg this]
      by_cases h2 : i ≤ bval (box.take 8)
      · rw [if_pos (show i + 1 ≤ bval (box.take 8) by omega), if_pos h2]
        obtain ⟨d, hd⟩ : ∃ d, bval (box.take 8) - i = d + 1 := ⟨bval (box.take 8) - i - 1, by omega⟩
        rw [hd, List.getElem?_cons_succ, show bval (box.take 8) - (i + 1) = d by omega]
      · rw [if_neg h2, if_neg (by omega)]
theorem bookOpen_find (bs : List Box) (key nonce beside box : List Nat) (hb : bs.length ≤ 18446744073709551616) :
    bookOpen bs key nonce beside box = if box.length < 16 then (8, []) else match findBox bs key nonce beside box 0 with
      | some t => (0, t)
      | none => (7, []) := by
  unfold bookOpen
  split
  · rfl
  · rename_i h16
    rw [findBox_eq bs key nonce beside box (by omega) 0 (by omega), if_pos (Nat.zero_le _), Nat.sub_zero]
    cases bs[bval (box.take 8)]? with
    | none => rfl
    | some s =>
      dsimp only
      split <;> rfl
/-! ### A layer in chunks -/
end Go.Pure
set_option linter.unusedSimpArgs false
set_option linter.unusedVariables false
set_option maxRecDepth 100000
set_option maxHeartbeats 1000000
namespace Go.Proofs.Ytnecdbclhdbaoaa
open Go Go.SL Go.Pure
theorem baToList (s : ByteArray) : s.toList = s.data.toList := by
  have key : ∀ (n i : Nat) (r : List UInt8), s.size - i = n → i ≤ s.size → ByteArray.toList.loop s i r = r.reverse ++ s.data.toList.drop i := by
    intro n
    induction n with
    | zero =>
      intro i r h h2
      rw [ByteArray.toList.loop.eq_def, if_neg (by omega), List.drop_of_length_le (by rw [Array.length_toList]; show s.size ≤ i; omega)]
      simp
    | succ n ih =>
      intro i r h h2
      have hlt : i < s.data.toList.length := by rw [Array.length_toList]; show i < s.size; omega
      rw [ByteArray.toList.loop.eq_def, if_pos (by omega), ih (i + 1) _ (by omega) (by omega), List.drop_eq_getElem_cons hlt]
      have : s.get! i = s.data.toList[i] := by
        show s.data[i]! = _
        rw [getElem!_pos s.data i (by show i < s.size; omega)]
        simp
      rw [this]
      simp
  have := key s.size 0 [] (by omega) (by omega)
  show ByteArray.toList.loop s 0 [] = _
  rw [this]
  simp
theorem strL_data (l : List Nat) : (strL l).data.toList = l.map UInt8.ofNat := by
  have key : ∀ (l : List Nat) (s : ByteArray), (l.foldl (fun s x => s.push (UInt8.ofNat x)) s).data.toList = s.data.toList ++ l.map UInt8.ofNat := by
    intro l
    induction l with
    | nil => intro s; simp
    | cons x l ih =>
      intro s
      rw [List.foldl_cons, ih]
      show (s.data.push (UInt8.ofNat x)).toList ++ _ = _
      simp
  have := key l ByteArray.empty
  simpa [strL] using this
theorem u8_inj {l m : List Nat} (hl : Bytes l) (hm : Bytes m) (e : l.map UInt8.ofNat = m.map UInt8.ofNat) : l = m := by
  induction l generalizing m with
  | nil => cases m with
    | nil => rfl
    | cons y m => cases e
  | cons x l ih => cases m with
    | nil => cases e
    | cons y m =>
      simp only [List.map_cons, List.cons.injEq] at e
      have hx := hl x (List.mem_cons_self ..)
      have hy := hm y (List.mem_cons_self ..)
      have : x = y := by
        have := congrArg UInt8.toNat e.1
        simpa [UInt8.toNat_ofNat', Nat.mod_eq_of_lt hx, Nat.mod_eq_of_lt hy] using this
      rw [this, ih (fun z hz => hl z (List.mem_cons_of_mem _ hz)) (fun z hz => hm z (List.mem_cons_of_mem _ hz)) e.2]
theorem strL_eq {l m : List Nat} (hl : Bytes l) (hm : Bytes m) : ((strL l).toList == (strL m).toList) = decide (l = m) := by
  rw [baToList, baToList, strL_data, strL_data, Bool.eq_iff_iff, beq_iff_eq, decide_eq_true_eq]
  exact ⟨u8_inj hl hm, fun e => by rw [e]⟩
theorem strL_beq {l m : List Nat} (hl : Bytes l) (hm : Bytes m) : (strL l == strL m) = decide (l = m) := by
  have e : (strL l == strL m) = ((strL l).data == (strL m).data) := by cases strL l; cases strL m; rfl
  rw [e, Bool.eq_iff_iff, beq_iff_eq, decide_eq_true_eq]
  constructor
  · intro e
    have := congrArg Array.toList e
    simp only [strL_data] at this
    exact u8_inj hl hm this
  · rintro rfl; rfl
theorem bg_get (n v i : Nat) (hi : i < n) : (bg n v).getD (n - 1 - i) 0 = v / 256 ^ i % 256 := by
  unfold bg
  rw [List.getD_eq_getElem?_getD, List.getElem?_reverse (by rw [le_len]; omega), le_len, ← List.getD_eq_getElem?_getD, show n - 1 - (n - 1 - i) = i by omega, le_get n v i hi]
theorem bg_step (n v i : Nat) (hi : i < n) : (List.replicate (n - i) 0 ++ (bg n v).drop (n - i)).set (n - 1 - i) (v / 256 ^ i % 256) = List.replicate (n - (i + 1)) 0 ++ (bg n v).drop (n - (i + 1)) := by
  rw [show n - i = (n - (i + 1)) + 1 by omega, show n - 1 - i = n - (i + 1) by omega, List.replicate_succ', List.append_assoc, List.set_append_right _ _ (by simp), List.length_replicate, Nat.sub_self]
  rw [List.singleton_append, List.set_cons_zero]
  congr 1
  have hlt : n - (i + 1) < (bg n v).length := by rw [bg_len]; omega
  rw [List.drop_eq_getElem_cons hlt]
  congr 1
  have := bg_get n v i hi
  rw [show n - 1 - i = n - (i + 1) by omega] at this
  rw [← this]
  simp [List.getD_eq_getElem?_getD, hlt]
section
variable {h : Hp} {K : Value → Hp → Prop}
theorem T_word_big (v n : Nat) (hv : v < 2 ^ 64) (hn : n ≤ 8) (h0 : 0 < n) (k : ∀ r h', Nn h t_uint8 .u8 r h' (bg n v) → K r h') : Cn P n_word_big #[.int .u64 v, .int .i64 n] h K := by
  refine F_word_big ?_
  unfold s_word_big
  refine aw_make u_Sl_uint8 nfo_uint8 rfl (Nat.le_refl n) (by omega) (by omega) fun r h1 hw => ?_
  obtain ⟨b, c, f, hb, hc, rfl, _, _⟩ := hw.form h0
  rw [replicate_nv] at hw
  refine Lp_mk (fun m vs h' => ∃ i : Nat, i + m = n ∧ New h t_uint8 1 (.slice (some ⟨b, 0, none⟩) n c) h' (nv .u8 (List.replicate (n - i) 0 ++ (bg n v).drop (n - i))) n ∧ vs = [.int .i64 (i : Int)]) n
    ⟨0, by omega, by rw [Nat.sub_zero, List.drop_of_length_le (by rw [bg_len]; omega), List.append_nil]; exact hw, rfl⟩ ?_
  rintro m vs h2 ⟨i, hi, hw, rfl⟩
  simp (disch := omega) only [GL, RL, wi64, lt_dec]
  by_cases hlt : i < n
  · have e1 : (n : Int) - 1 - (i : Int) = ((n - 1 - i : Nat) : Int) := by omega
    have e8 : (8 : Int) * (i : Int) = ((8 * i : Nat) : Int) := by omega
    have es : ((v : Int).fdiv (2 ^ min (8 * i) IntKind.u64.bits)) = ((v / 256 ^ i : Nat) : Int) := by
      rw [show min (8 * i) IntKind.u64.bits = 8 * i by simp only [IntKind.bits]; omega, fdivp, pow256]
    simp (disch := omega) only [GL, RL, wi64, hlt, decide_true, if_true, e1, e8, es, wu8]
    refine aw_storeN z_uint8 hw (by omega) rfl fun h3 hw3 => ?_
    rw [nv_set, bg_step n v i hlt] at hw3
    exact ⟨_, .refl _, m - 1, by omega, i + 1, by omega, hw3, rfl⟩
  · obtain rfl : i = n := by omega
    simp only [hlt, decide_false, Bool.false_eq_true, if_false]
    refine k _ _ ?_
    rw [Nat.sub_self, List.replicate_zero, List.nil_append, List.drop_zero] at hw
    unfold Nn
    rw [bg_len]
    exact hw
theorem T_word_Big64 (v : Nat) (hv : v < 2 ^ 64) (k : ∀ r h', Nn h t_uint8 .u8 r h' (bg 8 v) → K r h') : Cn P n_word_Big64 #[.int .u64 v] h K := by
  refine F_word_Big64 ?_
  unfold s_word_Big64
  exact T_word_big v 8 hv (by omega) (by omega) k
theorem T_word_Big32 (v : Nat) (hv : v < 2 ^ 32) (k : ∀ r h', Nn h t_uint8 .u8 r h' (bg 4 v) → K r h') : Cn P n_word_Big32 #[.int .u32 v] h K := by
  refine F_word_Big32 ?_
  unfold s_word_Big32
  simp (disch := omega) only [GL, RL, wu64i]
  exact T_word_big v 4 (by omega) (by omega) (by omega) k
theorem bval_take_succ (l : List Nat) (i : Nat) (hi : i < l.length) : bval (l.take (i + 1)) = bval (l.take i) * 256 + l.getD i 0 := by
  rw [List.take_succ_eq_append_getElem hi, bval_snoc]
  simp [List.getD_eq_getElem?_getD, hi]
theorem bval_take_lt {l : List Nat} (h : Bytes l) (i : Nat) : bval (l.take i) < 256 ^ i := by
  refine Nat.lt_of_lt_of_le (bval_lt (h.take i)) (Nat.pow_le_pow_right (by decide) ?_)
  rw [List.length_take]; exact Nat.min_le_left _ _
theorem T_word_getBig {v : Value} {l : List Nat} (n : Nat) (hn : n ≤ 8) (hr : Rn h .u8 v l) (hb : Bytes l) (hl : n ≤ l.length) (k : K (.int .u64 ((bval (l.take n) : Nat) : Int)) h) : Cn P n_word_getBig #[v, .int .i64 n] h K := by
  refine F_word_getBig ?_
  unfold s_word_getBig
  refine Lp_mk (fun m vs h' => ∃ i, i + m = n ∧ h' = h ∧ vs = [.int .u64 ((bval (l.take i) : Nat) : Int), .int .i64 (i : Int)]) n ⟨0, by omega, rfl, rfl⟩ ?_
  rintro m vs h1 ⟨i, hi, rfl, rfl⟩
  simp (disch := omega) only [GL, RL, lt_dec]
  by_cases hlt : i < n
  · simp only [hlt, decide_true, if_true]
    refine T_word_at i hr hb ?_
    have b1 := bval_take_lt hb i
    have b2 := hb.getD i
    have bi : 256 ^ i ≤ 256 ^ 7 := Nat.pow_le_pow_right (by decide) (by omega)
    have p7 : (256 : Nat) ^ 7 = 72057594037927936 := rfl
    have e1 : IntKind.u64.wrap (((bval (l.take i) : Nat) : Int) * 2 ^ min (Int.toNat 8) IntKind.u64.bits) = ((bval (l.take i) * 2 ^ 8 : Nat) : Int) := by
      rw [show min (Int.toNat 8) IntKind.u64.bits = 8 from rfl, mulp, wu64, Nat.mod_eq_of_lt (by omega)]
    have e2 : ior .u64 ((bval (l.take i) * 2 ^ 8 : Nat) : Int) ((l.getD i 0 : Nat) : Int) = ((bval (l.take (i + 1)) : Nat) : Int) := by
      rw [orN (by omega) (by omega), Nat.or_comm, or_add _ _ 8 b2, bval_take_succ l i (by omega)]
      congr 1
      omega
    simp (disch := omega) only [GL, RL, wi64, e1, e2]
    exact ⟨_, .refl _, m - 1, by omega, i + 1, by omega, rfl, rfl⟩
  · obtain rfl : i = n := by omega
    simp only [hlt, decide_false, Bool.false_eq_true, if_false]
    exact k
theorem T_word_GetBig64 {v : Value} {l : List Nat} (hr : Rn h .u8 v l) (hb : Bytes l) (hl : 8 ≤ l.length) (k : K (.int .u64 ((bval (l.take 8) : Nat) : Int)) h) : Cn P n_word_GetBig64 #[v] h K := by
  refine F_word_GetBig64 ?_
  unfold s_word_GetBig64
  exact T_word_getBig 8 (by omega) hr hb hl k
theorem T_word_GetBig32 {v : Value} {l : List Nat} (hr : Rn h .u8 v l) (hb : Bytes l) (hl : 4 ≤ l.length) (k : K (.int .u32 ((bval (l.take 4) : Nat) : Int)) h) : Cn P n_word_GetBig32 #[v] h K := by
  refine F_word_GetBig32 ?_
  unfold s_word_GetBig32
  refine T_word_getBig 4 (by omega) hr hb hl ?_
  have b1 := bval_take_lt hb 4
  have e : IntKind.u32.wrap ((bval (l.take 4) : Nat) : Int) = ((bval (l.take 4) : Nat) : Int) := by rw [wu32, Nat.mod_eq_of_lt (by omega)]
  simp (disch := omega) only [GL, RL, e]
  exact k
theorem T_bytes_Clone {v : Value} {l : List Nat} (hv : Rn h .u8 v l) (hl : l.length ≤ 70368744177664) (k : ∀ r h', Nn h t_uint8 .u8 r h' l → K r h') : Cn P n_bytes_Clone #[v] h K := by
  refine F_bytes_Clone ?_
  unfold s_bytes_Clone
  obtain ⟨a, c, rfl, hc⟩ := hv.shape
  simp (disch := omega) only [GL, RL]
  cases a with
  | none =>
    have : l = [] := by
      obtain ⟨_, a', c', e, _, h0 | ⟨b, o, ha, _⟩⟩ := hv
      · exact List.eq_nil_of_length_eq_zero h0
      · simp only [Value.slice.injEq] at e
        rw [ha] at e
        cases e.1
    subst this
    simp only [Option.isNone_none, if_true]
    exact k _ _ (Nn.nil ..)
  | some a =>
    simp only [Option.isNone_some, Bool.false_eq_true, if_false]
    refine aw_lit (ps := []) (n := 0) u_Sl_uint8 z_uint8 zr_uint8 rfl (by omega) (by intro p hp; cases hp) fun v1 h1 n1 _ => ?_
    refine aw_append u_Sl_uint8 u_Sl_uint8 nfo_uint8 rfl (by omega) n1 (hv.mono n1.cle) (nv_flat _ _) (by omega) (.refl _) fun v3 h3 n3 => ?_
    refine k _ _ ?_
    unfold Nn
    simpa [fillL] using n3
theorem T_bytes_Equal {v w : Value} {l m : List Nat} (hv : Rn h .u8 v l) (hw : Rn h .u8 w m) (bl : Bytes l) (bm : Bytes m) (k : K (.bool (decide (l = m))) h) : Cn P n_bytes_Equal #[v, w] h K := by
  refine F_bytes_Equal ?_
  unfold s_bytes_Equal
  rw [q_str hv, q_str hw, q_eqlS, strL_eq bl bm]
  exact k
theorem T_crypt_may {vk vn : Value} {key nonce : List Nat} (hk : Rn h .u8 vk key) (hn : Rn h .u8 vn nonce) (k : K (.bool (decide (may key nonce))) h) : Cn P n_crypt_may #[vk, vn] h K := by
  refine F_crypt_may ?_
  unfold s_crypt_may
  obtain ⟨a, c, rfl, hc⟩ := hk.shape
  obtain ⟨a', c', rfl, hc'⟩ := hn.shape
  have e1 : (((key.length : Nat) : Int) == 32) = decide (key.length = 32) := by rw [Bool.eq_iff_iff, beq_iff_eq, decide_eq_true_eq]; omega
  have e2 : (((nonce.length : Nat) : Int) == 12) = decide (nonce.length = 12) := by rw [Bool.eq_iff_iff, beq_iff_eq, decide_eq_true_eq]; omega
  simp (disch := omega) only [GL, RL, e1, e2]
  unfold may at k
  by_cases h1 : key.length = 32
  · simpa [h1] using k
  · simpa [h1] using k
end
end Go.Proofs.Ytnecdbclhdbaoaa
set_option linter.unusedSimpArgs false
set_option linter.unusedVariables false
set_option maxRecDepth 100000
namespace Go.Proofs.Ytnecdbclhdbaoaa
open Go Go.SL Go.Pure
theorem add32 (a b : Nat) : IntKind.u32.wrap ((a : Int) + (b : Int)) = (((a + b) % 4294967296 : Nat) : Int) := by rw [← Int.natCast_add, wu32]
theorem xor32N {a b : Nat} (ha : a < 4294967296) (hb : b < 4294967296) : ixor .u32 (a : Int) (b : Int) = ((a ^^^ b : Nat) : Int) := by
  rw [xor32 (by omega) (by omega) (by omega) (by omega), Int.toNat_natCast, Int.toNat_natCast]
theorem xor32_lt {a b : Nat} (ha : a < 4294967296) (hb : b < 4294967296) : a ^^^ b < 4294967296 := Nat.xor_lt_two_pow (n := 32) ha hb
section
variable {h : Hp} {K : Value → Hp → Prop}
theorem T_ref_rol (x n : Nat) (hx : x < 4294967296) (hn : 0 < n) (hn2 : n < 32) (k : K (.int .u32 ((rotl x n : Nat) : Int)) h) : Cn P n_orlopref04_rol #[.int .u32 x, .int .i64 n] h K := by
  refine F_orlopref04_rol ?_
  unfold s_orlopref04_rol
  simp (disch := omega) only [GL, RL, wu64i, wi64]
  have e1 : min n IntKind.u32.bits = n := by simp only [IntKind.bits]; omega
  have e2 : min ((32 : Int) - n).toNat IntKind.u32.bits = 32 - n := by simp only [IntKind.bits]; omega
  have h1 : x / 2 ^ (32 - n) ≤ x := Nat.div_le_self _ _
  rw [e1, e2, mulp, fdivp, wu32]
  unfold rotl at k
  generalize x / 2 ^ (32 - n) = y at h1 k ⊢
  rw [or32 (by omega) (by omega) (by omega) (by omega)]
  exact k
theorem T_ref_quarter (a b c d : Nat) (ha : a < 4294967296) (hb : b < 4294967296) (hc : c < 4294967296) (hd : d < 4294967296)
    (k : K (.tuple #[.int .u32 ((qr a b c d).1 : Nat), .int .u32 ((qr a b c d).2.1 : Nat), .int .u32 ((qr a b c d).2.2.1 : Nat), .int .u32 ((qr a b c d).2.2.2 : Nat)]) h) : Cn P n_orlopref04_quarter #[.int .u32 a, .int .u32 b, .int .u32 c, .int .u32 d] h K := by
  refine F_orlopref04_quarter ?_
  unfold s_orlopref04_quarter
  unfold qr at k
  dsimp only at k
  have m : ∀ x : Nat, x % 4294967296 < 4294967296 := fun x => Nat.mod_lt _ (by decide)
  simp (disch := omega) only [GL, RL, add32]
  have a1 := m (a + b)
  generalize (a + b) % 4294967296 = A1 at a1 k ⊢
  rw [xor32N hd a1]
  refine T_ref_rol _ 16 (xor32_lt hd a1) (by omega) (by omega) ?_
  have d1 := rotl_lt _ 16 (xor32_lt hd a1)
  generalize rotl (d ^^^ A1) 16 = D1 at d1 k ⊢
  simp (disch := omega) only [GL, RL, add32]
  have c1 := m (c + D1)
  generalize (c + D1) % 4294967296 = C1 at c1 k ⊢
  rw [xor32N hb c1]
  refine T_ref_rol _ 12 (xor32_lt hb c1) (by omega) (by omega) ?_
  have b1 := rotl_lt _ 12 (xor32_lt hb c1)
  generalize rotl (b ^^^ C1) 12 = B1 at b1 k ⊢
  simp (disch := omega) only [GL, RL, add32]
  have a2 := m (A1 + B1)
  generalize (A1 + B1) % 4294967296 = A2 at a2 k ⊢
  rw [xor32N d1 a2]
  refine T_ref_rol _ 8 (xor32_lt d1 a2) (by omega) (by omega) ?_
  have d2 := rotl_lt _ 8 (xor32_lt d1 a2)
  generalize rotl (D1 ^^^ A2) 8 = D2 at d2 k ⊢
  simp (disch := omega) only [GL, RL, add32]
  have c2 := m (C1 + D2)
  generalize (C1 + D2) % 4294967296 = C2 at c2 k ⊢
  rw [xor32N b1 c2]
  exact T_ref_rol _ 7 (xor32_lt b1 c2) (by omega) (by omega) k
theorem e4_0 {K : Value → Prop} (a b c d : Value) : q P emp (Instr.extract (.tuple #[a, b, c, d]) 0) K = K a := q_ext #[a, b, c, d] 0 a rfl
theorem e4_1 {K : Value → Prop} (a b c d : Value) : q P emp (Instr.extract (.tuple #[a, b, c, d]) 1) K = K b := q_ext #[a, b, c, d] 1 b rfl
theorem e4_2 {K : Value → Prop} (a b c d : Value) : q P emp (Instr.extract (.tuple #[a, b, c, d]) 2) K = K c := q_ext #[a, b, c, d] 2 c rfl
theorem e4_3 {K : Value → Prop} (a b c d : Value) : q P emp (Instr.extract (.tuple #[a, b, c, d]) 3) K = K d := q_ext #[a, b, c, d] 3 d rfl
/-- A word of bytes behind a row of words. -/
theorem quads_get (j : Nat) (hj : j < 8) : quads[j]? = some (if j < 4 then (j, 4 + j, 8 + j, 12 + j) else (j - 4, 4 + (j - 4 + 1) % 4, 8 + (j - 4 + 2) % 4, 12 + (j - 4 + 3) % 4)) := by
  have : j = 0 ∨ j = 1 ∨ j = 2 ∨ j = 3 ∨ j = 4 ∨ j = 5 ∨ j = 6 ∨ j = 7 := by omega
  rcases this with rfl | rfl | rfl | rfl | rfl | rfl | rfl | rfl <;> rfl
theorem quads_step (S : List Nat) (j : Nat) (hj : j < 8) (q : Nat × Nat × Nat × Nat) (hq : quads[j]? = some q) : (quads.take (j + 1)).foldl stepL S = stepL ((quads.take j).foldl stepL S) q := by
  have hl : j < quads.length := hj
  rw [List.take_succ_eq_append_getElem hl, List.foldl_append]
  have : quads[j] = q := by
    have := List.getElem?_eq_getElem hl
    rw [this] at hq
    exact Option.some.inj hq
  rw [this]
  rfl
theorem T_ref_words {v vx : Value} {hx : Hp} {b X : List Nat} (i : Nat) (hb : Rn hx .u8 v b) (bb : Bytes b) (hi : 4 * i + 4 ≤ b.length) (hl : b.length ≤ 1000) (hw : New h t_uint32 1 vx hx (nv .u32 X) X.length) (lX : X.length ≤ 1000) {K' : Value → Hp → Prop}
    (k : ∀ v' h', New h t_uint32 1 v' h' (nv .u32 (X ++ [leval ((b.drop (4 * i)).take 4)])) (X ++ [leval ((b.drop (4 * i)).take 4)]).length → K' v' h') :
    q P hx (Instr.sliceAt t_Sl_uint8 v (some (.int .i64 ((4 * i : Nat) : Int))) none none) fun t28 => Cn P n_orlopref01_Get #[t28, (Value.int .i64 4)] hx fun t29 h => q P h (convert t_uint64 t_uint32 t29) fun t30 => aw P (Instr.buildSlice t_Sl_uint32 1 #[(0, t30)]) (fun t31 h => aw P (Builtin.append_ #[t_Sl_uint32, t_Sl_uint32] t_Sl_uint32 #[vx, t31]) (fun t32 h => K' t32 h) h) h := by
  refine q_slRn u_Sl_uint8 z_uint8 hb .i64 (4 * i) (by omega) fun w hw' => ?_
  refine T_orlopref01_Get 4 (by omega) hw' (bb.drop _) (by rw [List.length_drop]; omega) ?_
  have := leval_take_lt (b.drop (4 * i)) (bb.drop _) 4
  simp (disch := omega) only [GL, RL, wu32i]
  refine aw_lit (ps := [(0, _)]) u_Sl_uint32 z_uint32 zr_uint32 rfl (by omega) (by intro p hp; rw [List.mem_singleton.1 hp]; exact ⟨rfl, by show _ < 1; omega⟩) fun x h4 hx' _ => ?_
  refine aw_appendN u_Sl_uint32 u_Sl_uint32 nfo_uint32 rfl (by omega) hw hx' (by intro y hy; simp [fillL] at hy; subst hy; rfl) (by omega) fun v2 h5 hw5 => ?_
  refine k _ _ ?_
  rw [nv_app, List.length_append]
  exact hw5
end
end Go.Proofs.Ytnecdbclhdbaoaa
set_option linter.unusedSimpArgs false
set_option linter.unusedVariables false
set_option maxRecDepth 100000
namespace Go.Pure
def rotr (x n : Nat) : Nat := rotl x (32 - n)
theorem rotr_lt (x n : Nat) (hx : x < 4294967296) : rotr x n < 4294967296 := rotl_lt x _ hx
theorem rotr_eq (x n : Nat) (h : n ≤ 32) : (x / 2 ^ n) ||| (x * 2 ^ (32 - n) % 4294967296) = rotr x n := by
  unfold rotr rotl
  rw [Nat.or_comm, show 32 - (32 - n) = n by omega]
def sgS0 (x : Nat) : Nat := (rotr x 7 ^^^ rotr x 18) ^^^ (x / 2 ^ 3)
def sgS1 (x : Nat) : Nat := (rotr x 17 ^^^ rotr x 19) ^^^ (x / 2 ^ 10)
def bS1 (x : Nat) : Nat := (rotr x 6 ^^^ rotr x 11) ^^^ rotr x 25
def bS0 (x : Nat) : Nat := (rotr x 2 ^^^ rotr x 13) ^^^ rotr x 22
theorem x32 {a b : Nat} (ha : a < 4294967296) (hb : b < 4294967296) : a ^^^ b < 4294967296 := Nat.xor_lt_two_pow (n := 32) ha hb
theorem a32 {a b : Nat} (ha : a < 4294967296) : a &&& b < 4294967296 := Nat.lt_of_le_of_lt Nat.and_le_left ha
def chS (e f g : Nat) : Nat := (e &&& f) ^^^ ((4294967295 ^^^ e) &&& g)
def majS (a b c : Nat) : Nat := ((a &&& b) ^^^ (a &&& c)) ^^^ (b &&& c)
theorem m32 (x : Nat) : x % 4294967296 < 4294967296 := Nat.mod_lt _ (by decide)
/-! ### A block's words -/
def schStep (l : List Nat) : Nat := (((l.getD (l.length - 16) 0 + sgS0 (l.getD (l.length - 15) 0)) % 4294967296 + l.getD (l.length - 7) 0) % 4294967296 + sgS1 (l.getD (l.length - 2) 0)) % 4294967296
def schF (w : List Nat) : Nat → List Nat
  | 0 => w
  | n + 1 => schF w n ++ [schStep (schF w n)]
theorem schF_len (w : List Nat) : ∀ n, (schF w n).length = w.length + n
  | 0 => rfl
  | n + 1 => by simp only [schF, List.length_append, schF_len w n, List.length_singleton]; omega
theorem schF_w {w : List Nat} (h : W32 w) : ∀ n, W32 (schF w n)
  | 0 => h
  | n + 1 => (schF_w h n).append fun x hx => by rw [List.mem_singleton.1 hx]; exact m32 _
def bwords (b : List Nat) : Nat → List Nat
  | 0 => []
  | n + 1 => bwords b n ++ [bval ((b.drop (4 * n)).take 4)]
theorem bwords_len (b : List Nat) : ∀ n, (bwords b n).length = n
  | 0 => rfl
  | n + 1 => by simp [bwords, bwords_len b n]
theorem bval4_lt {b : List Nat} (h : Bytes b) (i : Nat) : bval ((b.drop i).take 4) < 4294967296 := by
  have h1 := bval_lt ((h.drop i).take 4)
  have h2 : ((b.drop i).take 4).length ≤ 4 := by rw [List.length_take]; exact Nat.min_le_left _ _
  have h3 : 256 ^ ((b.drop i).take 4).length ≤ 256 ^ 4 := Nat.pow_le_pow_right (by decide) h2
  have h4 : (256 : Nat) ^ 4 = 4294967296 := by decide
  omega
theorem bwords_w {b : List Nat} (h : Bytes b) : ∀ n, W32 (bwords b n)
  | 0 => fun x hx => by cases hx
  | n + 1 => (bwords_w h n).append fun x hx => by rw [List.mem_singleton.1 hx]; exact bval4_lt h _
def schL (b : List Nat) : List Nat := schF (bwords b 16) 48
theorem schL_len (b : List Nat) : (schL b).length = 64 := by rw [schL, schF_len, bwords_len]
theorem schL_w {b : List Nat} (h : Bytes b) : W32 (schL b) := schF_w (bwords_w h 16) 48
/-! ### A round -/
def t1S (k w e f g h : Nat) : Nat := ((((h + bS1 e) % 4294967296 + chS e f g) % 4294967296 + k) % 4294967296 + w) % 4294967296
def t2S (a b c : Nat) : Nat := (bS0 a + majS a b c) % 4294967296
def rnd (k w : Nat) (s : List Nat) : List Nat :=
  [(t1S k w (s.getD 4 0) (s.getD 5 0) (s.getD 6 0) (s.getD 7 0) + t2S (s.getD 0 0) (s.getD 1 0) (s.getD 2 0)) % 4294967296, s.getD 0 0, s.getD 1 0, s.getD 2 0,
   (s.getD 3 0 + t1S k w (s.getD 4 0) (s.getD 5 0) (s.getD 6 0) (s.getD 7 0)) % 4294967296, s.getD 4 0, s.getD 5 0, s.getD 6 0]
theorem rnd_w {k w : Nat} {s : List Nat} (h : W32 s) : W32 (rnd k w s) := by
  intro x hx
  simp only [rnd, List.mem_cons, List.not_mem_nil, or_false] at hx
  rcases hx with rfl | rfl | rfl | rfl | rfl | rfl | rfl | rfl <;> first | exact m32 _ | exact h.getD _
def rnds (K w s : List Nat) : Nat → List Nat
  | 0 => s
  | n + 1 => rnd (K.getD n 0) (w.getD n 0) (rnds K w s n)
theorem rnds_w {K w s : List Nat} (h : W32 s) : ∀ n, W32 (rnds K w s n)
  | 0 => h
  | n + 1 => rnd_w (rnds_w h n)
theorem rnds_len {K w s : List Nat} (h : s.length = 8) : ∀ n, (rnds K w s n).length = 8
  | 0 => h
  | n + 1 => rfl
def addS (s v : List Nat) (n : Nat) : List Nat := (List.range n).map fun i => (s.getD i 0 + v.getD i 0) % 4294967296
theorem addS_len (s v : List Nat) (n : Nat) : (addS s v n).length = n := by simp [addS]
theorem addS_w (s v : List Nat) (n : Nat) : W32 (addS s v n) := by
  intro x hx
  obtain ⟨i, _, rfl⟩ := List.mem_map.1 hx
  exact m32 _
theorem addS_succ (s v : List Nat) (n : Nat) : addS s v (n + 1) = addS s v n ++ [(s.getD n 0 + v.getD n 0) % 4294967296] := by simp [addS, List.range_succ]
def workL (K s b : List Nat) : List Nat := addS s (rnds K (schL b) s 64) 8
theorem workL_len (K s b : List Nat) : (workL K s b).length = 8 := addS_len _ _ _
theorem workL_w (K s b : List Nat) : W32 (workL K s b) := addS_w _ _ _
/-! ### All blocks -/
def foldB (K s b : List Nat) : Nat → List Nat
  | 0 => s
  | n + 1 => workL K (foldB K s b n) ((b.drop (64 * n)).take 64)
theorem foldB_len {K s b : List Nat} (h : s.length = 8) : ∀ n, (foldB K s b n).length = 8
  | 0 => h
  | n + 1 => workL_len _ _ _
theorem foldB_w {K s b : List Nat} (h : W32 s) : ∀ n, W32 (foldB K s b n)
  | 0 => h
  | n + 1 => workL_w _ _ _
theorem foldB_app (K s a b : List Nat) : ∀ n, 64 * n ≤ a.length → foldB K s (a ++ b) n = foldB K s a n
  | 0, _ => rfl
  | n + 1, h => by
    simp only [foldB]
    rw [foldB_app K s a b n (by omega), List.drop_append_of_le_length (by omega), List.take_append_of_le_length (by rw [List.length_drop]; omega)]
def shaK : List Nat := [1116352408, 1899447441, 3049323471, 3921009573, 961987163, 1508970993, 2453635748, 2870763221, 3624381080, 310598401, 607225278, 1426881987, 1925078388, 2162078206, 2614888103, 3248222580, 3835390401, 4022224774, 264347078, 604807628, 770255983, 1249150122, 1555081692, 1996064986, 2554220882, 2821834349, 2952996808, 3210313671, 3336571891, 3584528711, 113926993, 338241895, 666307205, 773529912, 1294757372, 1396182291, 1695183700, 1986661051, 2177026350, 2456956037, 2730485921, 2820302411, 3259730800, 3345764771, 3516065817, 3600352804, 4094571909, 275423344, 430227734, 506948616, 659060556, 883997877, 958139571, 1322822218, 1537002063, 1747873779, 1955562222, 2024104815, 2227730452, 2361852424, 2428436474, 2756734187, 3204031479, 3329325298]
def shaH : List Nat := [1779033703, 3144134277, 1013904242, 2773480762, 1359893119, 2600822924, 528734635, 1541459225]
theorem shaK_w : W32 shaK := by
  intro x hx
  have : (shaK.all fun x => decide (x < 4294967296)) = true := by decide +kernel
  exact of_decide_eq_true (List.all_eq_true.1 this x hx)
theorem shaH_w : W32 shaH := by
  intro x hx
  have : (shaH.all fun x => decide (x < 4294967296)) = true := by decide +kernel
  exact of_decide_eq_true (List.all_eq_true.1 this x hx)
theorem shaK_len : shaK.length = 64 := rfl
theorem shaH_len : shaH.length = 8 := rfl
/-- A message padded. -/
def padE (n : Nat) : List Nat := [128] ++ List.replicate ((119 - n % 64) % 64) 0
def padS (b : List Nat) : List Nat := (b ++ padE b.length) ++ bg 8 (8 * b.length)
theorem padS_len (b : List Nat) : (padS b).length % 64 = 0 := by
  unfold padS padE
  rw [List.length_append, List.length_append, List.length_append, List.length_replicate, bg_len, List.length_singleton]
  omega
theorem padE_bytes (n : Nat) : Bytes (padE n) := by
  intro x hx
  rcases List.mem_append.1 hx with h | h
  · rw [List.mem_singleton.1 h]; decide
  · rw [(List.mem_replicate.1 h).2]; decide
theorem padS_bytes {b : List Nat} (h : Bytes b) : Bytes (padS b) := (h.append (padE_bytes _)).append (bg_bytes _ _)
def outS (st : List Nat) : Nat → List Nat
  | 0 => []
  | n + 1 => outS st n ++ bg 4 (st.getD n 0)
theorem outS_len (st : List Nat) : ∀ n, (outS st n).length = 4 * n
  | 0 => rfl
  | n + 1 => by simp only [outS, List.length_append, outS_len st n, bg_len]; omega
def shaL (b : List Nat) : List Nat := outS (foldB shaK shaH (padS b) ((padS b).length / 64)) 8
theorem shaL_len (b : List Nat) : (shaL b).length = 32 := outS_len _ _
/-! ### A digest on its way -/
/-- What was worked and what waits, behind the bytes M. -/
def Hst (M st wt : List Nat) (many : Nat) : Prop := st = foldB shaK shaH M (M.length / 64) ∧ many = M.length % 64 ∧ wt.length = 64 ∧ wt.take many = M.drop (64 * (M.length / 64))
theorem Hst.nil : Hst [] shaH (List.replicate 64 0) 0 := ⟨rfl, rfl, by rw [List.length_replicate], rfl⟩
theorem hst_wait {M wt : List Nat} {many : Nat} (hw : wt.length = 64) (e : wt.take many = M.drop (64 * (M.length / 64))) (hm : many = M.length % 64) (c : List Nat) (hc : c.length ≤ 64 - many) :
    (wt.take many ++ c ++ wt.drop (many + c.length)).take (many + c.length) = (M ++ c).drop (64 * (M.length / 64)) := by
  have hl : (wt.take many).length = many := by rw [List.length_take]; omega
  rw [List.take_append_of_le_length (by rw [List.length_append, hl]; exact Nat.le_refl _), List.take_of_length_le (by rw [List.length_append, hl]; exact Nat.le_refl _), e,
    List.drop_append_of_le_length (by omega)]
theorem Hst.part {M st wt : List Nat} {many : Nat} (h : Hst M st wt many) (c : List Nat) (hc : many + c.length < 64) : Hst (M ++ c) st (wt.take many ++ c ++ wt.drop (many + c.length)) (many + c.length) := by
  obtain ⟨h1, h2, h3, h4⟩ := h
  have e1 : (M ++ c).length / 64 = M.length / 64 := by rw [List.length_append]; omega
  refine ⟨?_, by rw [List.length_append]; omega, ?_, ?_⟩
  · rw [e1, foldB_app _ _ _ _ _ (by omega)]; exact h1
  · rw [List.length_append, List.length_append, List.length_take, List.length_drop]; omega
  · rw [e1]; exact hst_wait h3 h4 h2 c (by omega)
theorem Hst.full {M st wt : List Nat} {many : Nat} (h : Hst M st wt many) (c : List Nat) (hc : many + c.length = 64) : Hst (M ++ c) (workL shaK st (wt.take many ++ c ++ wt.drop (many + c.length))) (wt.take many ++ c ++ wt.drop (many + c.length)) 0 := by
  obtain ⟨h1, h2, h3, h4⟩ := h
  have e1 : (M ++ c).length / 64 = M.length / 64 + 1 := by rw [List.length_append]; omega
  have hl : (wt.take many ++ c ++ wt.drop (many + c.length)).length = 64 := by rw [List.length_append, List.length_append, List.length_take, List.length_drop]; omega
  have hw := hst_wait h3 h4 h2 c (by omega)
  generalize wt.take many ++ c ++ wt.drop (many + c.length) = W at hl hw ⊢
  have eW : W.take (many + c.length) = W := List.take_of_length_le (by omega)
  rw [eW] at hw
  refine ⟨?_, by rw [List.length_append]; omega, hl, ?_⟩
  · have eW2 : W.take 64 = W := List.take_of_length_le (by omega)
    rw [e1, foldB, foldB_app _ _ _ _ _ (by omega), ← h1, ← hw, eW2]
  · have e2 : 64 * ((M ++ c).length / 64) = (M ++ c).length := by
      have : (M ++ c).length = M.length + c.length := List.length_append
      omega
    rw [e2, List.drop_length, List.take_zero]
theorem Hst.many_lt {M st wt : List Nat} {many : Nat} (h : Hst M st wt many) : many < 64 := by rw [h.2.1]; exact Nat.mod_lt _ (by decide)
theorem Hst.len {M st wt : List Nat} {many : Nat} (h : Hst M st wt many) : st.length = 8 := by rw [h.1]; exact foldB_len rfl _
theorem Hst.w {M st wt : List Nat} {many : Nat} (h : Hst M st wt many) : W32 st := by rw [h.1]; exact foldB_w shaH_w _
end Go.Pure
set_option linter.unusedSimpArgs false
set_option linter.unusedVariables false
set_option maxRecDepth 100000
set_option maxHeartbeats 4000000
namespace Go.Proofs.Ytnecdbclhdbaoaa
open Go Go.SL Go.Pure
theorem and32N {a b : Nat} (ha : a < 4294967296) (hb : b < 4294967296) : iand .u32 (a : Int) (b : Int) = ((a &&& b : Nat) : Int) := by
  rw [and32 (by omega) (by omega) (by omega) (by omega), Int.toNat_natCast, Int.toNat_natCast]
theorem q_xorU {h : Hp} {K : Value → Prop} (a : Int) : q P h (Op.unary .xor (.int .u32 a)) K = K (.int .u32 (ixor .u32 ((4294967295 : Nat) : Int) a)) := q_of rfl K
theorem T_rotN {h : Hp} {K : Value → Hp → Prop} (x n : Nat) (hx : x < 4294967296) (hn : 0 < n) (hn2 : n < 32) (k : K (.int .u32 ((rotr x n : Nat) : Int)) h) : Cn P n_bits_RotateLeft32 #[.int .u32 x, .int .i64 (-(n : Int))] h K := by
  refine F_bits_RotateLeft32 ?_
  unfold s_bits_RotateLeft32
  have ew : IntKind.u64.wrap (-(n : Int)) = ((18446744073709551616 - n : Nat) : Int) := by
    unfold IntKind.wrap; simp [IntKind.bits, IntKind.signed]; omega
  have e0 : iand .u64 ((18446744073709551616 - n : Nat) : Int) 31 = ((32 - n : Nat) : Int) := by
    rw [and64 (by omega) (by omega) (by omega) (by omega), Int.toNat_natCast]
    have : (18446744073709551616 - n) &&& 31 = 32 - n := by
      have := Nat.and_two_pow_sub_one_eq_mod (18446744073709551616 - n) 5
      simp only [Nat.reducePow, Nat.add_one_sub_one, Nat.reduceSub] at this
      rw [this]; omega
    show ((((18446744073709551616 - n) &&& 31 : Nat)) : Int) = _
    rw [this]
  have e3 : (32 : Int) - ((32 - n : Nat) : Int) = (n : Int) := by omega
  simp (disch := omega) only [GL, RL, ew, e0, e3, wu64i]
  have e1 : min (32 - n) IntKind.u32.bits = 32 - n := by simp only [IntKind.bits]; omega
  have e2 : min n IntKind.u32.bits = n := by simp only [IntKind.bits]; omega
  have h1 : x / 2 ^ n ≤ x := Nat.div_le_self _ _
  rw [e1, e2, mulp, fdivp, wu32]
  unfold rotr rotl at k
  rw [show 32 - (32 - n) = n by omega] at k
  generalize x / 2 ^ n = y at h1 k ⊢
  rw [or32 (by omega) (by omega) (by omega) (by omega)]
  exact k
theorem zr_64u32 : zr P t_64_uint32 = some (.agg (List.replicate 64 (Value.int .u32 0)).toArray) := by kernel_rfl
theorem zr_8u32 : zr P t_8_uint32 = some (.agg (List.replicate 8 (Value.int .u32 0)).toArray) := by kernel_rfl
theorem u32row (n : Nat) : List.replicate n (Value.int .u32 0) = nv .u32 (List.replicate n 0) := by simp [nv]
theorem getD_app_left (a b : List Nat) (i : Nat) (h : i < a.length) : (a ++ b).getD i 0 = a.getD i 0 := by
  simp [List.getD_eq_getElem?_getD, List.getElem?_append_left h]
section
variable {h : Hp} {K : Value → Hp → Prop}
theorem T_schedule {v : Value} {b : List Nat} (hv : Rn h .u8 v b) (bb : Bytes b) (lb : b.length = 64) (k : K (.agg (nv .u32 (schL b)).toArray) h) : Cn P n_sha_schedule #[v] h K := by
  refine Cn_wk (F_sha_schedule ?_)
  unfold s_sha_schedule
  refine aw_allocL (List.replicate 64 (Value.int .u32 0)) zr_64u32 rfl fun r2 hr2 => ?_
  obtain ⟨O, hO⟩ : ∃ O, AObj.row t_64_uint32 (List.replicate 64 (Value.int .u32 0)) (List.replicate 64 (Value.int .u32 0)).length (some (0, 0)) = O := ⟨_, rfl⟩
  rw [hO]
  refine aw_allocL (List.replicate 64 (Value.int .u32 0)) zr_64u32 rfl fun r3 hr3 => ?_
  have hne : r3 ≠ r2 := by rintro rfl; rw [Hp.set_same] at hr3; cases hr3
  have hr3' : h r3 = none := by rwa [Hp.set_ne _ _ hne] at hr3
  have key1 : ∀ o : AObj, Hp.cle h ((h.set r2 O).set r3 o) := fun o => (cle_set r2 O hr2).trans (cle_set r3 o hr3)
  refine Lp_mk (fun m vs h' => ∃ i : Nat, i + m = 16 ∧ h' = (h.set r2 O).set r3 (.row t_64_uint32 (nv .u32 (bwords b i ++ List.replicate (64 - i) 0)) 64 (some (0, 0))) ∧ vs = [.int .i64 (i : Int)]) 16 ⟨0, rfl, by rw [u32row]; rfl, rfl⟩ ?_
  rintro m vs h' ⟨i, hi, rfl, rfl⟩
  simp (disch := omega) only [GL, RL, wi64, lt_dec]
  have e4 : (4 * (i : Int)) = ((4 * i : Nat) : Int) := by push_cast; rfl
  have e44 : (((4 * i : Nat) : Int) + 4) = ((4 * i + 4 : Nat) : Int) := by push_cast; rfl
  have e16 : decide ((i : Int) < 16) = decide (i < 16) := lt_dec i 16
  rw [e4, e16]
  by_cases hlt : i < 16
  · simp only [hlt, decide_true, if_true]
    rw [e44]
    refine q_slRnLH u_Sl_uint8 z_uint8 (hv.mono (key1 _)) .i64 .i64 (4 * i) (4 * i + 4) (by omega) (by omega) fun w' hw' => ?_
    refine T_word_GetBig32 hw' ((bb.take _).drop _) (by rw [List.length_drop, List.length_take]; omega) ?_
    have eb : bval (((b.take (4 * i + 4)).drop (4 * i)).take 4) = bval ((b.drop (4 * i)).take 4) := by
      rw [List.drop_take, List.take_take, show 4 * i + 4 - 4 * i = 4 by omega]; rfl
    rw [eb]
    have lw := bwords_len b i
    refine aw_store z_uint32 rfl (put_row (Hp.set_same ..) (by rw [nv_len, List.length_append, lw, List.length_replicate]; omega) (by simp) _) ?_
    refine ⟨_, .refl _, m - 1, by omega, i + 1, by omega, ?_, rfl⟩
    have es := set_end (bwords b i) (64 - (i + 1)) (bval ((b.drop (4 * i)).take 4))
    rw [lw] at es
    rw [Hp.set_set, nv_set, show 64 - i = (64 - (i + 1)) + 1 by omega, es]
    rfl
  obtain rfl : i = 16 := by omega
  simp only [hlt, decide_false, Bool.false_eq_true, if_false]
  have lw0 : (bwords b 16).length = 16 := bwords_len b 16
  have ww0 : W32 (bwords b 16) := bwords_w bb 16
  show Lp _ _ _
  generalize hw0 : bwords b 16 = w0 at lw0 ww0
  refine Lp_mk (fun m vs h' => ∃ n : Nat, n + m = 48 ∧ h' = (h.set r2 O).set r3 (.row t_64_uint32 (nv .u32 (schF w0 n ++ List.replicate (48 - n) 0)) 64 (some (0, 0))) ∧ vs = [.int .i64 ((16 + n : Nat) : Int)]) 48 ⟨0, rfl, by rw [show 64 - 16 = 48 - 0 from rfl]; rfl, rfl⟩ ?_
  rintro m vs h' ⟨n, hn, rfl, rfl⟩
  have ls : (schF w0 n).length = 16 + n := by rw [schF_len, lw0]
  have ws := schF_w ww0 n
  have e64 : decide ((((16 + n : Nat)) : Int) < 64) = decide (16 + n < 64) := lt_dec (16 + n) 64
  have e15 : ((16 + n : Nat) : Int) - 15 = ((n + 1 : Nat) : Int) := by omega
  have e2 : ((16 + n : Nat) : Int) - 2 = ((n + 14 : Nat) : Int) := by omega
  have e16' : ((16 + n : Nat) : Int) - 16 = ((n : Nat) : Int) := by omega
  have e7 : ((16 + n : Nat) : Int) - 7 = ((n + 9 : Nat) : Int) := by omega
  have cell : ∀ j, j < 16 + n → ((h.set r2 O).set r3 (.row t_64_uint32 (nv .u32 (schF w0 n ++ List.replicate (48 - n) 0)) 64 (some (0, 0)))).cell ⟨r3, j, none⟩ = some (.int .u32 (((schF w0 n).getD j 0 : Nat) : Int)) := fun j hj => by
    rw [cell_row (Hp.set_same ..), nv_getD _ _ _ (by rw [List.length_append]; omega), getD_app_left _ _ _ (by omega)]
  simp (disch := omega) only [GL, RL, wi64, e64]
  by_cases hlt2 : 16 + n < 64
  · simp only [hlt2, decide_true, if_true]
    simp (disch := omega) only [GL, RL, wi64, e15, e2, cell]
    have hx := ws.getD (n + 1)
    have hy := ws.getD (n + 14)
    have es : schStep (schF w0 n) = ((((schF w0 n).getD n 0 + sgS0 ((schF w0 n).getD (n + 1) 0)) % 4294967296 + (schF w0 n).getD (n + 9) 0) % 4294967296 + sgS1 ((schF w0 n).getD (n + 14) 0)) % 4294967296 := by
      unfold schStep
      rw [ls, show 16 + n - 16 = n by omega, show 16 + n - 15 = n + 1 by omega, show 16 + n - 7 = n + 9 by omega, show 16 + n - 2 = n + 14 by omega]
    generalize hX : (schF w0 n).getD (n + 1) 0 = X at hx es
    generalize hY : (schF w0 n).getD (n + 14) 0 = Y at hy es
    refine T_rotN X 7 hx (by omega) (by omega) ?_
    refine T_rotN X 18 hx (by omega) (by omega) ?_
    simp (disch := omega) only [GL, RL]
    rw [xor32N (rotr_lt _ _ hx) (rotr_lt _ _ hx)]
    have sh3 : ((X : Int).fdiv (2 ^ min (Int.toNat 3) IntKind.u32.bits)) = ((X / 2 ^ 3 : Nat) : Int) := fdivp X 3
    rw [sh3, xor32N (x32 (rotr_lt _ _ hx) (rotr_lt _ _ hx)) (Nat.lt_of_le_of_lt (Nat.div_le_self _ _) hx)]
    refine T_rotN Y 17 hy (by omega) (by omega) ?_
    refine T_rotN Y 19 hy (by omega) (by omega) ?_
    simp (disch := omega) only [GL, RL, wi64, e16', e7, cell]
    rw [xor32N (rotr_lt _ _ hy) (rotr_lt _ _ hy)]
    have sh10 : ((Y : Int).fdiv (2 ^ min (Int.toNat 10) IntKind.u32.bits)) = ((Y / 2 ^ 10 : Nat) : Int) := fdivp Y 10
    rw [sh10, xor32N (x32 (rotr_lt _ _ hy) (rotr_lt _ _ hy)) (Nat.lt_of_le_of_lt (Nat.div_le_self _ _) hy)]
    simp only [add32]
    have eS : ((((schF w0 n).getD n 0 + (rotr X 7 ^^^ rotr X 18 ^^^ X / 2 ^ 3)) % 4294967296 + (schF w0 n).getD (n + 9) 0) % 4294967296 + (rotr Y 17 ^^^ rotr Y 19 ^^^ Y / 2 ^ 10)) % 4294967296 = schStep (schF w0 n) := by
      rw [es]; rfl
    rw [eS]
    refine aw_store z_uint32 rfl (put_row (Hp.set_same ..) (by rw [nv_len, List.length_append, ls, List.length_replicate]; omega) (by simp) _) ?_
    refine ⟨_, .refl _, m - 1, by omega, n + 1, by omega, ?_, by rw [show ((16 + n : Nat) : Int) + 1 = ((16 + (n + 1) : Nat) : Int) by omega]⟩
    have es2 := set_end (schF w0 n) (48 - (n + 1)) (schStep (schF w0 n))
    rw [ls] at es2
    rw [Hp.set_set, nv_set, show 48 - n = (48 - (n + 1)) + 1 by omega, es2]
    rfl
  have hn48 : n = 48 := by omega
  simp only [hlt2, decide_false, Bool.false_eq_true, if_false]
  have hfin : schF w0 n ++ List.replicate (48 - n) 0 = schL b := by
    have e1 : 48 - n = 0 := by omega
    have e2 : schL b = schF w0 n := by unfold schL; rw [hw0, hn48]
    rw [e1, e2, List.replicate_zero, List.append_nil]
  rw [hfin]
  have hl64 : (nv .u32 (schL b)).length = 64 := by rw [nv_len, schL_len]
  generalize schL b = W at hl64 k ⊢
  rw [q_ldRow u_64_uint32 rfl (by rw [hl64]; exact z_64_uint32) (Hp.set_same ..)]
  refine aw_storeRow (xs := List.replicate 64 (Value.int .u32 0)) (f := (0, 0)) (cap := 64) (e := t_64_uint32) (by rw [hl64]; exact z_64_uint32) (by rw [Hp.set_ne _ _ (Ne.symm hne), Hp.set_same, ← hO]; rfl) (by rw [hl64, List.length_replicate]) (nv_flat _ _) (fun i _ => by simp) ?_
  rw [q_resRow u_64_uint32 rfl (by rw [hl64]; exact z_64_uint32) (Hp.set_same ..)]
  refine ⟨h, fun b o e => ?_, k⟩
  have n6 : b ≠ r2 := by rintro rfl; rw [hr2] at e; cases e
  have n7 : b ≠ r3 := by rintro rfl; rw [hr3'] at e; cases e
  exact ⟨o, by rw [Hp.set_ne _ _ n6, Hp.set_ne _ _ n7, Hp.set_ne _ _ n6]; exact e, .refl _⟩
end
end Go.Proofs.Ytnecdbclhdbaoaa
set_option linter.unusedSimpArgs false
set_option linter.unusedVariables false
namespace Go.SL
open Go
section
variable {P : Program} {h : Hp}
theorem aw_wkK {m : Sem Value} {K : Value → Hp → Prop} (a : aw P m (fun v h' => ∃ h0, Hp.le h0 h' ∧ K v h0) h) : aw P m K h :=
  awp_mono P m _ _ h (fun v h' ⟨h1, l1, h0, l0, q⟩ => ⟨h0, Hp.le.trans l0 l1, q⟩) a
/-- An empty row without room: nothing need be known of it. -/
theorem aw_nil0 {t e : Nat} {z : Value} {K : Value → Hp → Prop} (ht : P.underlying t = some (.slice e)) (hs : sz P e = some 1) (hzr : zr P e = some z) (hz : z.cells = #[z]) (k : ∀ r, K (.slice (some ⟨r, 0, none⟩) 0 0) h) : aw P (Instr.buildSlice t 0 #[]) K h :=
  aw_wkK (aw_lit (n := 0) (ps := []) ht hs hzr hz (by omega) (by intro p hp; cases hp) fun v h' nw hx => by
    obtain ⟨r, hr, rfl, rfl⟩ := hx
    exact ⟨h, le_fresh hr, k r⟩)
/-- Appending to what has no room makes a new row, or leaves all as it was. -/
theorem aw_append0 {t t2 T e e2 s B m : Nat} {a : Option Addr} {w : Value} {ys : List Value} {z : Value} {K : Value → Hp → Prop}
    (ht : P.underlying t = some (.slice e)) (ht2 : P.underlying t2 = some (.slice e2)) (hi : (P.info? e).map (fun i => (i.zero, i.size, i.bytes)) = some (some z, s, B)) (hzs : z.cells.size = s) (hB1 : 1 ≤ B) (hr : Rds h s w ys m)
    (hB : (2 * m + 768) * B ≤ 2 ^ 48)
    (k0 : m = 0 → K (.slice a 0 0) h) (k : ∀ v' h'', New h e s v' h'' ys m → K v' h'') : aw P (Builtin.append_ #[t, t2] T #[.slice a 0 0, w]) K h := by
  obtain ⟨i, hi0, hi1⟩ := Option.map_eq_some_iff.1 hi
  simp only [Prod.mk.injEq] at hi1
  have hs : sz P e = some s := by simp [sz, hi0, hi1.2.1]
  have hz : zr P e = some z := by simp [zr, hi0, hi1.1]
  have hbound : m ≤ 140737488355328 := by
    have : (2 * m + 768) * 1 ≤ (2 * m + 768) * B := Nat.mul_le_mul_left _ hB1
    omega
  obtain ⟨hyl, wa, wc, rfl, hwc, hwr⟩ := hr
  have hr : Rds h s (.slice wa m wc) ys m := ⟨hyl, wa, wc, rfl, hwc, hwr⟩
  have hrv : Rds h s (.slice a 0 0) [] 0 := ⟨by simp, a, 0, rfl, Nat.le_refl _, .inl rfl⟩
  show awp P (Sem.bind (underlying t) _) _ h
  rw [awp_bind, peek_awp P _ _ _ (pk_und ht)]
  show awp P (Sem.bind (sizeOf e) _) _ h
  rw [awp_bind, peek_awp P _ _ _ (pk_size hs)]
  show awp P (Sem.bind (underlying t2) _) _ h
  rw [awp_bind, peek_awp P _ _ _ (pk_und ht2)]
  show awp P (if 0 + m ≤ 0 then _ else _) _ h
  split
  · rename_i hle
    have hm0 : m = 0 := by omega
    subst hm0
    have : ys = [] := List.eq_nil_of_length_eq_zero (by simpa using hyl)
    subst this
    show awp P (Sem.bind (Builtin.firstCells s 0 _) _) _ h
    rw [awp_bind]
    refine awp_firstCells hr ?_
    cases a with
    | none => exact ⟨h, .refl _, k0 rfl⟩
    | some a => exact ⟨h, .refl _, k0 rfl⟩
  · rename_i hgt
    have hnc : Builtin.nextslicecap (0 + m) 0 * B ≤ 2 ^ 48 := Nat.le_trans (Nat.mul_le_mul_right B (nextcap_le (0 + m) 0 (by omega))) (by rw [Nat.zero_add]; exact hB)
    have hinfo : peek P h (typeInfo e) = some i := pk_info hi0
    show awp P (Sem.bind (typeInfo e) _) _ h
    rw [awp_bind, peek_awp P _ _ _ hinfo]
    show awp P (if ((0 + m : Nat) : Int) > IntKind.i64.max ∧ (false = true ∨ i.bytes = 0) then _ else _) _ h
    rw [if_neg (by rw [hi1.2.2]; simp; omega)]
    show awp P (Sem.bind (typeInfo e) _) _ h
    rw [awp_bind, peek_awp P _ _ _ hinfo]
    show awp P (if Builtin.nextslicecap (0 + m) 0 * i.bytes > 2 ^ 48 then _ else _) _ h
    rw [if_neg (by rw [hi1.2.2]; omega)]
    show awp P (Sem.choose (.appendCap (0 + m) 0 e) _) _ h
    simp only [awp, Question.forced, Bool.false_eq_true, if_false]
    intro tp
    obtain ⟨nc, hncap, hge⟩ : ∃ nc, Question.cut (.appendCap (0 + m) 0 e) tp = nc ∧ 0 + m ≤ nc := ⟨_, rfl, by simp [Question.cut]⟩
    rw [hncap]
    show awp P (Sem.bind (typeInfo e) _) _ h
    rw [awp_bind, peek_awp P _ _ _ hinfo]
    show awp P (Sem.bind (askRoom (nc * i.bytes)) _) _ h
    rw [awp_bind]
    have hroom : ∀ (x : Nat) (K : Unit → Hp → Prop), K () h → awp P (askRoom x) K h := by
      intro x K q
      unfold askRoom
      split <;> exact q
    refine hroom _ _ ?_
    show awp P (Sem.bind (Builtin.firstCells s 0 _) _) _ h
    rw [awp_bind]
    refine awp_firstCells hrv ?_
    show awp P (Sem.bind (Builtin.firstCells s m _) _) _ h
    rw [awp_bind]
    refine awp_firstCells hr ?_
    show awp P (Sem.bind (zeroValue e) _) _ h
    rw [awp_bind, peek_awp P _ _ _ (pk_zero hz)]
    intro r hrn
    obtain ⟨rest, hrest, hsz⟩ : ∃ rest : Array Value, Builtin.zeroCells z.cells (nc - (0 + m)) = rest ∧ rest.size = (nc - (0 + m)) * s := ⟨_, rfl, by rw [zeroCells_size, hzs]⟩
    refine ⟨h.set r (.row e ys (nc * s) (some (0, 0))), fun b' o ho => ?_, k _ _ ⟨hyl, .inr ⟨r, nc, (0, 0), hrn, by omega, by rw [Nat.zero_add], rfl, fun i _ => by simp⟩⟩⟩
    by_cases e1 : b' = r
    · subst e1
      rw [Hp.set_same] at ho
      cases ho
      refine ⟨_, Hp.set_same .., ?_⟩
      rw [hrest]
      refine ⟨rfl, ?_, ?_, .inl rfl⟩
      · simp only [Array.size_append, List.size_toArray, List.length_nil, hyl, hsz]
        rw [Nat.zero_add, ← Nat.add_mul]
        congr 1
        omega
      · simp only [Array.toList_append, List.append_assoc]
        exact ⟨rest.toList, by simp⟩
    · rw [Hp.set_ne _ _ e1] at ho ⊢
      exact ⟨o, ho, .refl _⟩
end
end Go.SL
set_option linter.unusedSimpArgs false
set_option linter.unusedVariables false
namespace Go.SL
open Go
section
variable {P : Program} {h : Hp}
/-- A copy into a row of the call's own, at a place, of a row that is read. -/
theorem aw_copyG {t t2 T e b o dl dc n : Nat} {e' cap : Nat} {f : Nat × Nat} {xs ys : List Value} {w : Value} {K : Value → Hp → Prop} (ht : P.underlying t = some (.slice e)) (hs : sz P e = some 1) (hb : h b = some (.row e' xs cap (some f)))
    (hr : Rds h 1 w ys n) (hfl : ∀ y ∈ ys, flat y = true) (hn : n ≤ dl) (hl : o + dl ≤ xs.length) (hf : ∀ i, i < xs.length → ¬ (f.1 ≤ i ∧ i < f.2))
    (k : K (.int .i64 n) (h.set b (.row e' (putL xs o ys) cap (some f)))) : aw P (Builtin.copy_ #[t, t2] T #[.slice (some ⟨b, o, none⟩) dl dc, w]) K h := by
  refine aw_of ?_
  obtain ⟨hyl, wa, wc, rfl, hwc, hwr⟩ := hr
  have hr : Rds h 1 (.slice wa n wc) ys n := ⟨hyl, wa, wc, rfl, hwc, hwr⟩
  show awp P (Sem.bind (underlying t) _) _ h
  rw [awp_bind, peek_awp P _ _ _ (pk_und ht)]
  show awp P (Sem.bind (sizeOf e) _) _ h
  rw [awp_bind, peek_awp P _ _ _ (pk_size hs)]
  show awp P (Sem.bind (Builtin.firstCells 1 (Nat.min n dl) (.slice wa n wc)) _) _ h
  have hmin : Nat.min n dl = n := Nat.min_eq_left hn
  rw [hmin, awp_bind]
  refine awp_firstCells hr ?_
  show awp P (Sem.bind (storeCells ⟨b, o, none⟩ ys.toArray.toList 0) _) _ h
  rw [awp_bind]
  exact awp_putCells ys xs h _ o 0 hb hfl (by omega) hf (by rw [Nat.add_zero]; exact k)
/-- A copy of a part: as much as there is room for. -/
theorem aw_copyMinG {t t2 T e b o dl dc n : Nat} {e' cap : Nat} {f : Nat × Nat} {xs ys : List Value} {w : Value} {K : Value → Hp → Prop} (ht : P.underlying t = some (.slice e)) (hs : sz P e = some 1) (hb : h b = some (.row e' xs cap (some f)))
    (hr : Rds h 1 w ys n) (hfl : ∀ y ∈ ys, flat y = true) (hl : o + dl ≤ xs.length) (hf : ∀ i, i < xs.length → ¬ (f.1 ≤ i ∧ i < f.2))
    (k : K (.int .i64 (Nat.min n dl : Nat)) (h.set b (.row e' (putL xs o (ys.take dl)) cap (some f)))) : aw P (Builtin.copy_ #[t, t2] T #[.slice (some ⟨b, o, none⟩) dl dc, w]) K h := by
  refine aw_of ?_
  obtain ⟨hyl, wa, wc, rfl, hwc, hwr⟩ := hr
  have hr : Rds h 1 (.slice wa (Nat.min n dl) wc) (ys.take dl) (Nat.min n dl) := by
    refine ⟨by rw [List.length_take, hyl]; simp [Nat.min_comm, Nat.min_def], wa, wc, rfl, Nat.le_trans (Nat.min_le_left _ _) hwc, ?_⟩
    rcases hwr with h0 | ⟨b', o', ha, hy⟩
    · left; subst h0; exact Nat.zero_min _
    · right
      refine ⟨b', o', ha, fun i x ex => ?_⟩
      rw [List.getElem?_take] at ex
      split at ex
      · exact hy i x ex
      · cases ex
  show awp P (Sem.bind (underlying t) _) _ h
  rw [awp_bind, peek_awp P _ _ _ (pk_und ht)]
  show awp P (Sem.bind (sizeOf e) _) _ h
  rw [awp_bind, peek_awp P _ _ _ (pk_size hs)]
  show awp P (Sem.bind (Builtin.firstCells 1 (Nat.min n dl) (.slice wa n wc)) _) _ h
  have e1 : Builtin.firstCells 1 (Nat.min n dl) (.slice wa n wc) = Builtin.firstCells 1 (Nat.min n dl) (.slice wa (Nat.min n dl) wc) := by cases wa <;> rfl
  rw [e1, awp_bind]
  refine awp_firstCells hr ?_
  show awp P (Sem.bind (storeCells ⟨b, o, none⟩ (ys.take dl).toArray.toList 0) _) _ h
  rw [awp_bind]
  exact awp_putCells (ys.take dl) xs h _ o 0 hb (fun y hy => hfl y (List.mem_of_mem_take hy)) (by rw [List.length_take]; omega) hf (by rw [Nat.add_zero]; exact k)
/-- An array from a place on. -/
theorem q_slArrLo {t e s n : Nat} {K : Value → Prop} (ht : P.underlying t = some (.array n e)) (hs : sz P e = some s) (a : Addr) (k : IntKind) (lo : Nat) (h1 : lo ≤ n) :
    q P h (Instr.sliceAt t (.pointer (some a)) (some (.int k lo)) none none) K = K (.slice (some (if n = lo then a else a.add (lo * s))) (n - lo) (n - lo)) := q_of (by
  show peek P h (Sem.bind (underlying t) _) = _
  rw [peek_bind, pk_und ht, Option.bind_some]
  show peek P h (Sem.bind (Sem.bind (Instr.sliceBound (.int k (lo : Int)) n .sliceB) _) _) = _
  rw [peek_bind, peek_bind, pk_bound k lo n h1, Option.bind_some]
  show peek P h (Sem.bind (sizeOf e) _) = _
  rw [peek_bind, pk_size hs]
  rfl) K
end
end Go.SL
set_option linter.unusedSimpArgs false
set_option linter.unusedVariables false
set_option maxRecDepth 100000
set_option maxHeartbeats 4000000
namespace Go.Proofs.Ytnecdbclhdbaoaa
open Go Go.SL Go.Pure
/-- The cells of a digest on its way, behind its state. -/
def hashT (wt : List Nat) (many : Nat) (all : Nat) : List Value := nv .u32 shaK ++ (nv .u8 wt ++ [.int .i64 (many : Int), .int .u64 (all : Int)])
def hashC (st wt : List Nat) (many all : Nat) : List Value := nv .u32 st ++ hashT wt many all
theorem hashT_len {wt : List Nat} (lw : wt.length = 64) (many all : Nat) : (hashT wt many all).length = 130 := by
  simp only [hashT, List.length_append, nv_len, lw, shaK_len, List.length_cons, List.length_nil]
theorem hashC_len {st wt : List Nat} (ls : st.length = 8) (lw : wt.length = 64) (many all : Nat) : (hashC st wt many all).length = 138 := by
  rw [hashC, List.length_append, nv_len, ls, hashT_len lw]
theorem ht0 {h : Hp} {K : Value → Prop} (r : Nat) : q P h (Instr.fieldAt t_sha_Hash (.pointer (some ⟨r, 0, none⟩)) 0) K = K (.pointer (some ⟨r, 0, none⟩)) := q_of (by kernel_rfl) K
theorem ht1 {h : Hp} {K : Value → Prop} (r : Nat) : q P h (Instr.fieldAt t_sha_Hash (.pointer (some ⟨r, 0, none⟩)) 1) K = K (.pointer (some ⟨r, 8, none⟩)) := q_of (by kernel_rfl) K
theorem ht2 {h : Hp} {K : Value → Prop} (r : Nat) : q P h (Instr.fieldAt t_sha_Hash (.pointer (some ⟨r, 0, none⟩)) 2) K = K (.pointer (some ⟨r, 72, none⟩)) := q_of (by kernel_rfl) K
theorem ht3 {h : Hp} {K : Value → Prop} (r : Nat) : q P h (Instr.fieldAt t_sha_Hash (.pointer (some ⟨r, 0, none⟩)) 3) K = K (.pointer (some ⟨r, 136, none⟩)) := q_of (by kernel_rfl) K
theorem ht4 {h : Hp} {K : Value → Prop} (r : Nat) : q P h (Instr.fieldAt t_sha_Hash (.pointer (some ⟨r, 0, none⟩)) 4) K = K (.pointer (some ⟨r, 137, none⟩)) := q_of (by kernel_rfl) K
theorem s8lo {h : Hp} {K : Value → Prop} (r : Nat) : q P h (Instr.sliceAt t_8_uint32 (.pointer (some ⟨r, 0, none⟩)) (some (.int .i64 1)) none none) K = K (.slice (some ⟨r, 1, none⟩) 7 7) := q_of (by kernel_rfl) K
theorem s8hi {h : Hp} {K : Value → Prop} (r : Nat) : q P h (Instr.sliceAt t_8_uint32 (.pointer (some ⟨r, 0, none⟩)) none (some (.int .i64 7)) none) K = K (.slice (some ⟨r, 0, none⟩) 7 8) := q_of (by kernel_rfl) K
theorem hashC_K {st wt : List Nat} {many all : Nat} (ls : st.length = 8) (i : Nat) (hi : i < 64) : (hashC st wt many all)[8 + i]? = some (.int .u32 ((shaK.getD i 0 : Nat) : Int)) := by
  have l1 : (nv .u32 st).length = 8 := by rw [nv_len, ls]
  rw [hashC, List.getElem?_append_right (by omega), l1, Nat.add_sub_cancel_left, hashT, List.getElem?_append_left (by rw [nv_len, shaK_len]; exact hi), nv_getD _ _ _ (by rw [shaK_len]; exact hi)]
theorem hashC_st {st wt : List Nat} {many all : Nat} (i : Nat) (hi : i < st.length) : (hashC st wt many all)[i]? = some (.int .u32 ((st.getD i 0 : Nat) : Int)) := by
  rw [hashC, List.getElem?_append_left (by rw [nv_len]; exact hi), nv_getD _ _ _ hi]
theorem hashC_set {st wt : List Nat} {many all : Nat} (i x : Nat) (hi : i < st.length) : (hashC st wt many all).set i (.int .u32 (x : Int)) = hashC (st.set i x) wt many all := by
  rw [hashC, List.set_append_left _ _ (by rw [nv_len]; exact hi), nv_set]; rfl
section
variable {h : Hp} {K : Value → Hp → Prop}
/-- One round. -/
theorem round_go {base : Hp} {r5 p r4 : Nat} {s w : List Nat} {i : Nat} (hs : W32 s) (ls : s.length = 8) (hw : W32 w) (lw : w.length = 64) (hi : i < 64)
    (b4 : base r4 = some (.row t_64_uint32 (nv .u32 w) 64 (some (0, 0)))) (n45 : r4 ≠ r5) (n5p : p ≠ r5) (cK : base.cell ⟨p, 8 + i, none⟩ = some (.int .u32 ((shaK.getD i 0 : Nat) : Int)))
    {F : Value → Hp → Prop} (k : F (.int .i64 ((i + 1 : Nat) : Int)) (base.set r5 (.row t_8_uint32 (nv .u32 (rnd (shaK.getD i 0) (w.getD i 0) s)) 8 (some (0, 0))))) :
    (fun (h : Hp) => q P emp (Instr.indexAt t_8_uint32 (.pointer (some ⟨r5, 0, none⟩)) (Value.int .i64 0)) fun t22 => q P h (Instr.loadAt t_uint32 t22) fun t23 => q P emp (Instr.indexAt t_8_uint32 (.pointer (some ⟨r5, 0, none⟩)) (Value.int .i64 4)) fun t24 => q P h (Instr.loadAt t_uint32 t24) fun t25 => Cn P n_bits_RotateLeft32 #[t25, (Value.int .i64 (-6))] h fun t27 h => Cn P n_bits_RotateLeft32 #[t25, (Value.int .i64 (-11))] h fun t29 h => q P h (binOp .xor t_uint32 t27 t29) fun t30 => Cn P n_bits_RotateLeft32 #[t25, (Value.int .i64 (-25))] h fun t32 h => q P h (binOp .xor t_uint32 t30 t32) fun t33 => q P emp (Instr.indexAt t_8_uint32 (.pointer (some ⟨r5, 0, none⟩)) (Value.int .i64 7)) fun t34 => q P h (Instr.loadAt t_uint32 t34) fun t35 => q P emp (binOp .add t_uint32 t35 t33) fun t37 => q P emp (Instr.indexAt t_8_uint32 (.pointer (some ⟨r5, 0, none⟩)) (Value.int .i64 5)) fun t39 => q P h (Instr.loadAt t_uint32 t39) fun t40 => q P emp (binOp .and t_uint32 t25 t40) fun t41 => q P emp (Op.unary .xor t25) fun t43 => q P emp (Instr.indexAt t_8_uint32 (.pointer (some ⟨r5, 0, none⟩)) (Value.int .i64 6)) fun t44 => q P h (Instr.loadAt t_uint32 t44) fun t45 => q P emp (binOp .and t_uint32 t43 t45) fun t46 => q P emp (binOp .xor t_uint32 t41 t46) fun t47 => q P emp (binOp .add t_uint32 t37 t47) fun t48 => q P emp (nilCk (.pointer (some ⟨p, 0, none⟩))) fun t51 => q P h (Instr.fieldAt t_sha_Hash t51 1) fun t52 => q P emp (Instr.indexAt t_64_uint32 t52 (Value.int .i64 (i : Int))) fun t53 => q P h (Instr.loadAt t_uint32 t53) fun t54 => q P emp (binOp .add t_uint32 t48 t54) fun t55 => q P emp (Instr.indexAt t_64_uint32 (.pointer (some ⟨r4, 0, none⟩)) (Value.int .i64 (i : Int))) fun t57 => q P h (Instr.loadAt t_uint32 t57) fun t58 => q P emp (binOp .add t_uint32 t55 t58) fun t59 => Cn P n_bits_RotateLeft32 #[t23, (Value.int .i64 (-2))] h fun t61 h => Cn P n_bits_RotateLeft32 #[t23, (Value.int .i64 (-13))] h fun t63 h => q P h (binOp .xor t_uint32 t61 t63) fun t64 => Cn P n_bits_RotateLeft32 #[t23, (Value.int .i64 (-22))] h fun t66 h => q P h (binOp .xor t_uint32 t64 t66) fun t67 => q P h (Instr.indexAt t_8_uint32 (.pointer (some ⟨r5, 0, none⟩)) (Value.int .i64 1)) fun t70 => q P h (Instr.loadAt t_uint32 t70) fun t71 => q P h (binOp .and t_uint32 t23 t71) fun t72 => q P h (Instr.indexAt t_8_uint32 (.pointer (some ⟨r5, 0, none⟩)) (Value.int .i64 2)) fun t74 => q P h (Instr.loadAt t_uint32 t74) fun t75 => q P h (binOp .and t_uint32 t23 t75) fun t76 => q P h (binOp .xor t_uint32 t72 t76) fun t77 => q P h (Instr.indexAt t_8_uint32 (.pointer (some ⟨r5, 0, none⟩)) (Value.int .i64 1)) fun t78 => q P h (Instr.loadAt t_uint32 t78) fun t79 => q P h (Instr.indexAt t_8_uint32 (.pointer (some ⟨r5, 0, none⟩)) (Value.int .i64 2)) fun t80 => q P h (Instr.loadAt t_uint32 t80) fun t81 => q P h (binOp .and t_uint32 t79 t81) fun t82 => q P h (binOp .xor t_uint32 t77 t82) fun t83 => q P h (binOp .add t_uint32 t67 t83) fun t84 => q P h (Instr.sliceAt t_8_uint32 (.pointer (some ⟨r5, 0, none⟩)) (some (Value.int .i64 1)) none none) fun t85 => q P h (Instr.sliceAt t_8_uint32 (.pointer (some ⟨r5, 0, none⟩)) none (some (Value.int .i64 7)) none) fun t86 => aw P (Builtin.copy_ #[t_Sl_uint32, t_Sl_uint32] t_int #[t85, t86]) (fun t87 h => q P h (Instr.indexAt t_8_uint32 (.pointer (some ⟨r5, 0, none⟩)) (Value.int .i64 4)) fun t88 => q P h (Instr.loadAt t_uint32 t88) fun t89 => q P h (binOp .add t_uint32 t89 t59) fun t91 => q P h (Instr.indexAt t_8_uint32 (.pointer (some ⟨r5, 0, none⟩)) (Value.int .i64 4)) fun t92 => aw P (Instr.storeAt t_uint32 t92 t91) (fun _ h => q P h (binOp .add t_uint32 t59 t84) fun t95 => q P h (Instr.indexAt t_8_uint32 (.pointer (some ⟨r5, 0, none⟩)) (Value.int .i64 0)) fun t96 => aw P (Instr.storeAt t_uint32 t96 t95) (fun _ h => q P h (binOp .add t_int (Value.int .i64 (i : Int)) (Value.int .i64 1)) fun t97 => F t97 h) h) h) h) (base.set r5 (.row t_8_uint32 (nv .u32 s) 8 (some (0, 0)))) := by
  match s, ls with
  | [a, b, c, d, e, f, g, z], _ =>
  have ha : a < 4294967296 := hs.getD 0
  have hb : b < 4294967296 := hs.getD 1
  have hc : c < 4294967296 := hs.getD 2
  have hd : d < 4294967296 := hs.getD 3
  have he : e < 4294967296 := hs.getD 4
  have hf : f < 4294967296 := hs.getD 5
  have hg : g < 4294967296 := hs.getD 6
  have hz : z < 4294967296 := hs.getD 7
  have hwi := hw.getD i
  have hki := shaK_w.getD i
  have ernd : rnd (shaK.getD i 0) (w.getD i 0) [a, b, c, d, e, f, g, z] = [(t1S (shaK.getD i 0) (w.getD i 0) e f g z + t2S a b c) % 4294967296, a, b, c, (d + t1S (shaK.getD i 0) (w.getD i 0) e f g z) % 4294967296, e, f, g] := rfl
  rw [ernd] at k
  generalize hkk : shaK.getD i 0 = kq at *
  have c4 : base.cell ⟨r4, i, none⟩ = some (.int .u32 ((w.getD i 0 : Nat) : Int)) := by rw [cell_row b4, nv_getD _ _ _ (by omega)]
  generalize w.getD i 0 = wq at *
  have cells : ∀ (X : List Nat) (j x : Nat), X[j]? = some x → (base.set r5 (.row t_8_uint32 (nv .u32 X) 8 (some (0, 0)))).cell ⟨r5, j, none⟩ = some (.int .u32 (x : Int)) := fun X j x e => by
    rw [cell_row (Hp.set_same ..), nv, List.getElem?_map, e]; rfl
  have ck : ∀ X, (base.set r5 X).cell ⟨p, 8 + i, none⟩ = some (.int .u32 (kq : Int)) := fun X => by
    unfold Hp.cell at cK ⊢; rw [Hp.set_ne _ _ n5p]; exact cK
  have cw : ∀ X, (base.set r5 X).cell ⟨r4, i, none⟩ = some (.int .u32 (wq : Int)) := fun X => by
    unfold Hp.cell at c4 ⊢; rw [Hp.set_ne _ _ n45]; exact c4
  have z0 := cells [a, b, c, d, e, f, g, z] 0 a rfl
  have z1 := cells [a, b, c, d, e, f, g, z] 1 b rfl
  have z2 := cells [a, b, c, d, e, f, g, z] 2 c rfl
  have z4 := cells [a, b, c, d, e, f, g, z] 4 e rfl
  have z5 := cells [a, b, c, d, e, f, g, z] 5 f rfl
  have z6 := cells [a, b, c, d, e, f, g, z] 6 g rfl
  have z7 := cells [a, b, c, d, e, f, g, z] 7 z rfl
  have tn : ∀ x : Nat, Int.toNat (OfNat.ofNat x) = x := fun x => rfl
  simp (disch := omega) only [GL, RL, Int.reduceToNat, z0, z4]
  refine T_rotN e 6 he (by omega) (by omega) ?_
  refine T_rotN e 11 he (by omega) (by omega) ?_
  simp (disch := omega) only [GL, RL]
  refine T_rotN e 25 he (by omega) (by omega) ?_
  simp (disch := omega) only [GL, RL, Int.reduceToNat, q_xorU, ht1, z5, z6, z7, ck, cw]
  rw [xor32N (rotr_lt e 6 he) (rotr_lt e 11 he), xor32N (x32 (rotr_lt e 6 he) (rotr_lt e 11 he)) (rotr_lt e 25 he), and32N he hf, xor32N (by decide) he, and32N (x32 (by decide) he) hg, xor32N (a32 he) (a32 (x32 (by decide) he))]
  simp only [add32]
  have e1 : ((((z + (rotr e 6 ^^^ rotr e 11 ^^^ rotr e 25)) % 4294967296 + (e &&& f ^^^ (4294967295 ^^^ e) &&& g)) % 4294967296 + kq) % 4294967296 + wq) % 4294967296 = t1S kq wq e f g z := rfl
  rw [e1]
  have ht : t1S kq wq e f g z < 4294967296 := m32 _
  generalize t1S kq wq e f g z = T at ht k ⊢
  refine T_rotN a 2 ha (by omega) (by omega) ?_
  refine T_rotN a 13 ha (by omega) (by omega) ?_
  simp (disch := omega) only [GL, RL]
  refine T_rotN a 22 ha (by omega) (by omega) ?_
  simp (disch := omega) only [GL, RL, Int.reduceToNat, z1, z2, s8lo, s8hi]
  rw [xor32N (rotr_lt a 2 ha) (rotr_lt a 13 ha), xor32N (x32 (rotr_lt a 2 ha) (rotr_lt a 13 ha)) (rotr_lt a 22 ha), and32N ha hb, and32N ha hc, and32N hb hc, xor32N (a32 ha) (a32 ha), xor32N (x32 (a32 ha) (a32 ha)) (a32 hb)]
  simp only [add32]
  have e2 : ((rotr a 2 ^^^ rotr a 13 ^^^ rotr a 22) + (a &&& b ^^^ a &&& c ^^^ b &&& c)) % 4294967296 = t2S a b c := rfl
  rw [e2]
  generalize t2S a b c = U at k ⊢
  refine aw_copyG (o := 1) (xs := nv .u32 [a, b, c, d, e, f, g, z]) (f := (0, 0)) (dl := 7) (dc := 7) (n := 7) (ys := nv .u32 [a, b, c, d, e, f, g]) u_Sl_uint32 z_uint32 (Hp.set_same ..) ⟨rfl, _, 8, rfl, by omega, .inr ⟨r5, 0, rfl, fun j x ex => ?_⟩⟩ (nv_flat _ _) (by omega) (by simp [nv_len]) (fun j _ => by simp) ?_
  · rw [cell_row (Hp.set_same ..), Nat.zero_add]
    have hj : j < 7 := (List.getElem?_eq_some_iff.1 ex).1
    rw [← ex]
    show (nv .u32 ([a, b, c, d, e, f, g] ++ [z]))[j]? = _
    rw [nv_app, List.getElem?_append_left hj]
  rw [Hp.set_set]
  have eput : putL (nv .u32 [a, b, c, d, e, f, g, z]) 1 (nv .u32 [a, b, c, d, e, f, g]) = nv .u32 [a, a, b, c, d, e, f, g] := rfl
  rw [eput]
  have y4 := cells [a, a, b, c, d, e, f, g] 4 d rfl
  simp (disch := omega) only [GL, RL, Int.reduceToNat, y4, add32]
  refine aw_store z_uint32 rfl (put_row (Hp.set_same ..) (by simp [nv_len]) (by simp) _) ?_
  rw [Hp.set_set, nv_set]
  refine aw_store z_uint32 rfl (put_row (Hp.set_same ..) (by simp [nv_len]) (by simp) _) ?_
  rw [Hp.set_set, nv_set, wi64 (by omega) (by omega)]
  exact k
end
end Go.Proofs.Ytnecdbclhdbaoaa
set_option linter.unusedSimpArgs false
set_option linter.unusedVariables false
set_option maxRecDepth 100000
set_option maxHeartbeats 1000000
namespace Go.Proofs.Ytnecdbclhdbaoaa
open Go Go.SL Go.Pure
theorem putL_nv (l : List Nat) (j : Nat) (ys : List Nat) (h : j + ys.length ≤ l.length) : putL (nv .u8 l) j (nv .u8 ys) = nv .u8 (l.take j ++ ys ++ l.drop (j + ys.length)) := by
  rw [putL_eq _ _ _ (by rw [nv_len, nv_len]; exact h), nv_len]
  unfold nv
  rw [List.map_append, List.map_append, List.map_take, List.map_drop]
theorem nv_take (k : IntKind) (l : List Nat) (n : Nat) : (nv k l).take n = nv k (l.take n) := by unfold nv; rw [List.map_take]
theorem boxB_step (n len j : Nat) (hj : 8 * j < len) :
    ((boxB n len).take (8 * j) ++ List.replicate (len - 8 * j) 0).take (8 * j) ++ (bg 8 n).take (len - 8 * j) ++ ((boxB n len).take (8 * j) ++ List.replicate (len - 8 * j) 0).drop (8 * j + ((bg 8 n).take (len - 8 * j)).length) =
      (boxB n len).take (8 * (j + 1)) ++ List.replicate (len - 8 * (j + 1)) 0 := by
  have lt : ((boxB n len).take (8 * j)).length = 8 * j := by rw [List.length_take, boxB_len]; omega
  have lb : ((bg 8 n).take (len - 8 * j)).length = min (len - 8 * j) 8 := by rw [List.length_take, bg_len]
  rw [List.take_append_of_le_length (by omega), List.take_of_length_le (by omega), lb, List.drop_append, lt, List.drop_of_length_le (by omega), List.nil_append, List.drop_replicate, Nat.add_sub_cancel_left]
  have e1 : (boxB n len).take (8 * (j + 1)) = (boxB n len).take (8 * j) ++ (bg 8 n).take (len - 8 * j) := by
    apply List.ext_getElem
    · rw [List.length_append, lt, lb, List.length_take, boxB_len]; omega
    · intro i h1 h2
      rw [List.length_take, boxB_len] at h1
      rw [List.getElem_take]
      by_cases hi : i < 8 * j
      · rw [List.getElem_append_left (by omega), List.getElem_take]
      · rw [List.getElem_append_right (by omega), List.getElem_take]
        simp only [lt]
        have hl : i - 8 * j < (bg 8 n).length := by rw [bg_len]; omega
        simp only [boxB, List.getElem_map, List.getElem_range]
        rw [show i % 8 = i - 8 * j by omega]
        simp [List.getD_eq_getElem?_getD, hl]
  rw [e1, show len - 8 * j - min (len - 8 * j) 8 = len - 8 * (j + 1) by omega]
section
variable {h : Hp} {K : Value → Hp → Prop}
theorem T_bytesOf (n len : Nat) (hn : n < 9223372036854775808) (hl : len ≤ 70368744177664) (k : ∀ r h', Nn h t_uint8 .u8 r h' (boxB n len) → K r h') : Cn P n_crypt_bytesOf #[.int .i64 n, .int .i64 len] h K := by
  refine Cn_wk (F_crypt_bytesOf ?_)
  unfold s_crypt_bytesOf
  refine aw_make u_Sl_uint8 nfo_uint8 rfl (Nat.le_refl len) (by omega) (by omega) fun r h1 hw => ?_
  rw [replicate_nv] at hw
  by_cases h00 : len = 0
  · subst h00
    refine Lp_mk (fun m vs h' => m = 0 ∧ h' = h1 ∧ vs = [.int .i64 0]) 0 ⟨rfl, rfl, rfl⟩ ?_
    rintro m vs h2 ⟨rfl, rfl, rfl⟩
    have e0 : decide ((0 : Int) < ((0 : Nat) : Int)) = false := rfl
    simp (disch := omega) only [GL, RL, e0, Bool.false_eq_true, if_false]
    exact ⟨h2, .refl _, k _ _ hw⟩
  obtain ⟨b, c, f, hb, hc, rfl, hh1, _⟩ := hw.form (by omega)
  refine Lp_mk (fun m vs h' => ∃ j : Nat, m = (len + 7) / 8 - j ∧ j ≤ (len + 7) / 8 ∧ New h t_uint8 1 (.slice (some ⟨b, 0, none⟩) len c) h' (nv .u8 ((boxB n len).take (8 * j) ++ List.replicate (len - 8 * j) 0)) len ∧ vs = [.int .i64 ((8 * j : Nat) : Int)]) ((len + 7) / 8)
    ⟨0, rfl, Nat.zero_le _, by simpa using hw, rfl⟩ ?_
  clear hw hh1
  rintro m vs h2 ⟨j, hm, hj, hw, rfl⟩
  simp (disch := omega) only [GL, RL, wi64, lt_dec]
  by_cases hlt : 8 * j < len
  · simp only [hlt, decide_true, if_true]
    obtain ⟨b', c', f', hb', _, hv', hh', hfz⟩ := hw.form (by omega)
    simp only [Value.slice.injEq, Option.some.injEq, Addr.mk.injEq] at hv'
    obtain ⟨⟨rfl, _⟩, _, rfl⟩ := hv'
    have hcut : SL.cut (some ⟨b, 0, none⟩) c (8 * j) 1 = some ⟨b, 8 * j, none⟩ := by
      unfold SL.cut
      rw [if_neg (by omega), Option.map_some, add_off]
      simp
    have esl : ∀ H : Hp, peek P H (Instr.sliceAt t_Sl_uint8 (.slice (some ⟨b, 0, none⟩) len c) (some (.int .i64 ((8 * j : Nat) : Int))) none none) = some (.slice (some ⟨b, 8 * j, none⟩) (len - 8 * j) (c - 8 * j)) := fun H => by
      obtain ⟨x, hx, e⟩ := withVal_elim (K := fun x => x = .slice (some ⟨b, 8 * j, none⟩) (len - 8 * j) (c - 8 * j)) ((q_slLo (P := P) (h := H) (K := fun x => x = .slice (some ⟨b, 8 * j, none⟩) (len - 8 * j) (c - 8 * j)) u_Sl_uint8 z_uint8 (some ⟨b, 0, none⟩) len c .i64 (8 * j) (by omega) (by omega)).mpr (by rw [hcut]))
      rw [e] at hx
      exact hx
    rw [q_of (esl _)]
    simp (disch := omega) only [GL, RL, wu64i]
    refine T_word_Big64 n (by omega) fun t19 h3 n3 => ?_
    refine ⟨esl _, ?_⟩
    have hb3 : h3 b = some (.row t_uint8 (nv .u8 ((boxB n len).take (8 * j) ++ List.replicate (len - 8 * j) 0)) (c * 1) (some f')) := n3.ext _ _ (by rw [hh']; exact Hp.set_same ..)
    have lx : ((boxB n len).take (8 * j) ++ List.replicate (len - 8 * j) 0).length = len := by rw [List.length_append, List.length_take, boxB_len, List.length_replicate]; omega
    have r3 : Rds h3 1 t19 (nv .u8 (bg 8 n)) 8 := by have := n3.rn; unfold Rn at this; rwa [bg_len] at this
    refine aw_copyMin u_Sl_uint8 z_uint8 hb3 r3 (nv_flat _ _) (by rw [nv_len, lx]; omega) (fun i hi => hfz i (by rw [nv_len, lx] at hi; omega)) ?_
    have e8 : ((8 * j : Nat) : Int) + 8 = ((8 * (j + 1) : Nat) : Int) := by omega
    simp (disch := omega) only [GL, RL, wi64, e8]
    rw [nv_take, putL_nv _ _ _ (by rw [List.length_take, bg_len, lx]; omega), boxB_step n len j hlt]
    refine ⟨h.set b (.row t_uint8 (nv .u8 ((boxB n len).take (8 * (j + 1)) ++ List.replicate (len - 8 * (j + 1)) 0)) (c * 1) (some f')), le_set ((New.le hw).trans n3.le), m - 1, by omega, j + 1, by omega, by omega, ⟨?_, .inr ⟨b, c, f', hb', by omega, rfl, rfl, hfz⟩⟩, rfl⟩
    rw [nv_len, List.length_append, List.length_take, boxB_len, List.length_replicate]; omega
  · simp only [hlt, decide_false, Bool.false_eq_true, if_false]
    refine ⟨h2, .refl _, k _ _ ?_⟩
    rw [List.take_of_length_le (by rw [boxB_len]; omega), show len - 8 * j = 0 by omega, List.replicate_zero, List.append_nil] at hw
    unfold Nn
    rw [boxB_len]
    exact hw
end
/-- What is to be read (R) is known, what is owned (S) is known and not among it. -/
structure Own (R h : Hp) (S : List Nat) : Prop where
  sub : Hp.ext R h
  dis : ∀ b, b ∈ S → R b = none
  kn : ∀ b, b ∈ S → ∃ o, h b = some o
/-- A step: what is to be read (R) grows, what is owned (S) changes, all else that is known (h) stays. -/
structure Stp (R h R' h' : Hp) (S S' : List Nat) : Prop where
  ext : Hp.ext R R'
  keep : ∀ b o, b ∉ S → h b = some o → h' b = some o
  frS : ∀ b o, b ∉ S → h b = some o → b ∉ S'
  frR : ∀ b o, b ∉ S → h b = some o → R b = none → R' b = none
  own : Own R' h' S'
theorem Stp.refl {R h : Hp} {S : List Nat} (w : Own R h S) : Stp R h R h S S := ⟨.refl _, fun _ _ _ e => e, fun _ _ n _ => n, fun _ _ _ _ e => e, w⟩
theorem Stp.trans {R h R1 h1 R2 h2 : Hp} {S S1 S2 : List Nat} (a : Stp R h R1 h1 S S1) (b : Stp R1 h1 R2 h2 S1 S2) : Stp R h R2 h2 S S2 where
  ext := a.ext.trans b.ext
  own := b.own
  keep := fun x o n e => b.keep x o (a.frS x o n e) (a.keep x o n e)
  frS := fun x o n e => b.frS x o (a.frS x o n e) (a.keep x o n e)
  frR := fun x o n e r => b.frR x o (a.frS x o n e) (a.keep x o n e) (a.frR x o n e r)
/-- What is owned beside stays so. -/
theorem Stp.frame {R h R' h' : Hp} {S S' S2 : List Nat} (a : Stp R h R' h' S S') (w : Own R h S2) (n : ∀ b, b ∈ S2 → b ∉ S) : Own R' h' S2 ∧ (∀ b, b ∈ S2 → b ∉ S') ∧ ∀ b, b ∈ S2 → h' b = h b := by
  refine ⟨⟨a.own.sub, fun b hb => ?_, fun b hb => ?_⟩, fun b hb => ?_, fun b hb => ?_⟩ <;> obtain ⟨o, e⟩ := w.kn b hb
  · exact a.frR b o (n b hb) e (w.dis b hb)
  · exact ⟨o, a.keep b o (n b hb) e⟩
  · exact a.frS b o (n b hb) e
  · rw [e]; exact a.keep b o (n b hb) e
/-- A step, with what is owned beside. -/
theorem Stp.wide {R h R' h' : Hp} {S S' S2 : List Nat} (a : Stp R h R' h' S S') (w : Own R h S2) (n : ∀ b, b ∈ S2 → b ∉ S) : Stp R h R' h' (S ++ S2) (S' ++ S2) where
  ext := a.ext
  keep := fun b o hn e => a.keep b o (fun q => hn (List.mem_append_left _ q)) e
  frS := fun b o hn e q => (List.mem_append.1 q).elim (a.frS b o (fun q => hn (List.mem_append_left _ q)) e) (fun q => hn (List.mem_append_right _ q))
  frR := fun b o hn e r => a.frR b o (fun q => hn (List.mem_append_left _ q)) e r
  own := by
    obtain ⟨w2, _, _⟩ := a.frame w n
    exact ⟨w2.sub, fun b hb => (List.mem_append.1 hb).elim (a.own.dis b) (w2.dis b), fun b hb => (List.mem_append.1 hb).elim (a.own.kn b) (w2.kn b)⟩
theorem Own.nil {R h : Hp} {S : List Nat} (w : Own R h S) : Own R h [] := ⟨w.sub, fun b hb => (by cases hb), fun b hb => (by cases hb)⟩
/-- A step that only makes what is to be read: a block. -/
theorem Stp.block {R h : Hp} {S : List Nat} {r : Nat} (o : AObj) (w : Own R h S) (hr : h r = none) : Stp R h (R.set r o) (h.set r o) S S := by
  have hRb : R r = none := w.sub.none hr
  refine ⟨ext_set _ hRb, fun x o' hn e => ?_, fun x o' hn e => hn, fun x o' hn e r' => ?_, ⟨fun x o' e => ?_, fun x hx => ?_, fun x hx => ?_⟩⟩
  · rw [Hp.set_ne _ _ (by rintro rfl; rw [hr] at e; cases e)]; exact e
  · rw [Hp.set_ne _ _ (by rintro rfl; rw [hr] at e; cases e)]; exact r'
  · by_cases q : x = r
    · subst q; rw [Hp.set_same] at e ⊢; exact e
    · rw [Hp.set_ne _ _ q] at e ⊢; exact w.sub x o' e
  · rw [Hp.set_ne _ _ (by rintro rfl; obtain ⟨o2, e⟩ := w.kn x hx; rw [hr] at e; cases e)]; exact w.dis x hx
  · obtain ⟨o2, e⟩ := w.kn x hx
    exact ⟨o2, by rw [Hp.set_ne _ _ (by rintro rfl; rw [hr] at e; cases e)]; exact e⟩
/-- A new row, to be read. -/
theorem Stp.new {R h : Hp} {S : List Nat} {t s n : Nat} {v : Value} {h' : Hp} {xs : List Value} (w : Own R h S) (nw : New h t s v h' xs n) : ∃ R', Stp R h R' h' S S ∧ Rds R' s v xs n := by
  rcases nw.2 with ⟨rfl, rfl, rfl⟩ | ⟨b, c, f, hb, hc, rfl, rfl, hf⟩
  · exact ⟨R, .refl w, nw.1, none, 0, rfl, Nat.le_refl _, .inl rfl⟩
  · exact ⟨_, Stp.block _ w hb, nw.1, _, c, rfl, hc, .inr ⟨b, 0, rfl, fun i x e => by rw [cell_row (Hp.set_same ..), Nat.zero_add]; exact e⟩⟩
theorem Stp.newN {R h : Hp} {S : List Nat} {t : Nat} {v : Value} {h' : Hp} {k : IntKind} {l : List Nat} (w : Own R h S) (nw : Nn h t k v h' l) : ∃ R', Stp R h R' h' S S ∧ Rn R' k v l := Stp.new w nw
theorem Own.rn {R h : Hp} {S : List Nat} {k : IntKind} {v : Value} {l : List Nat} (w : Own R h S) (r : Rn R k v l) : Rn h k v l := r.mono w.sub.cle
end Go.Proofs.Ytnecdbclhdbaoaa
set_option linter.unusedSimpArgs false
set_option linter.unusedVariables false
set_option maxRecDepth 100000
set_option maxHeartbeats 4000000
namespace Go.Proofs.Ytnecdbclhdbaoaa
open Go Go.SL Go.Pure
theorem Hp.set_id {h : Hp} {b : Nat} {o : AObj} (e : h b = some o) : h.set b o = h := by
  funext i
  by_cases q : i = b
  · subst q; rw [Hp.set_same, e]
  · rw [Hp.set_ne _ _ q]
theorem sz_hash : sz P t_sha_Hash = some 138 := by kernel_rfl
def zHash : List Value := nv .u32 (List.replicate 72 0) ++ (nv .u8 (List.replicate 64 0) ++ [.int .i64 0, .int .u64 0])
theorem zr_hash : zr P t_sha_Hash = some (.agg zHash.toArray) := by kernel_rfl
theorem zHash_len : zHash.length = 138 := by decide +kernel
theorem bldK {h : Hp} {K : Value → Prop} : q P h (Instr.build t_64_uint32 #[(0, (Value.int .u32 1116352408)), (1, (Value.int .u32 1899447441)), (2, (Value.int .u32 3049323471)), (3, (Value.int .u32 3921009573)), (4, (Value.int .u32 961987163)), (5, (Value.int .u32 1508970993)), (6, (Value.int .u32 2453635748)), (7, (Value.int .u32 2870763221)), (8, (Value.int .u32 3624381080)), (9, (Value.int .u32 310598401)), (10, (Value.int .u32 607225278)), (11, (Value.int .u32 1426881987)), (12, (Value.int .u32 1925078388)), (13, (Value.int .u32 2162078206)), (14, (Value.int .u32 2614888103)), (15, (Value.int .u32 3248222580)), (16, (Value.int .u32 3835390401)), (17, (Value.int .u32 4022224774)), (18, (Value.int .u32 264347078)), (19, (Value.int .u32 604807628)), (20, (Value.int .u32 770255983)), (21, (Value.int .u32 1249150122)), (22, (Value.int .u32 1555081692)), (23, (Value.int .u32 1996064986)), (24, (Value.int .u32 2554220882)), (25, (Value.int .u32 2821834349)), (26, (Value.int .u32 2952996808)), (27, (Value.int .u32 3210313671)), (28, (Value.int .u32 3336571891)), (29, (Value.int .u32 3584528711)), (30, (Value.int .u32 113926993)), (31, (Value.int .u32 338241895)), (32, (Value.int .u32 666307205)), (33, (Value.int .u32 773529912)), (34, (Value.int .u32 1294757372)), (35, (Value.int .u32 1396182291)), (36, (Value.int .u32 1695183700)), (37, (Value.int .u32 1986661051)), (38, (Value.int .u32 2177026350)), (39, (Value.int .u32 2456956037)), (40, (Value.int .u32 2730485921)), (41, (Value.int .u32 2820302411)), (42, (Value.int .u32 3259730800)), (43, (Value.int .u32 3345764771)), (44, (Value.int .u32 3516065817)), (45, (Value.int .u32 3600352804)), (46, (Value.int .u32 4094571909)), (47, (Value.int .u32 275423344)), (48, (Value.int .u32 430227734)), (49, (Value.int .u32 506948616)), (50, (Value.int .u32 659060556)), (51, (Value.int .u32 883997877)), (52, (Value.int .u32 958139571)), (53, (Value.int .u32 1322822218)), (54, (Value.int .u32 1537002063)), (55, (Value.int .u32 1747873779)), (56, (Value.int .u32 1955562222)), (57, (Value.int .u32 2024104815)), (58, (Value.int .u32 2227730452)), (59, (Value.int .u32 2361852424)), (60, (Value.int .u32 2428436474)), (61, (Value.int .u32 2756734187)), (62, (Value.int .u32 3204031479)), (63, (Value.int .u32 3329325298))]) K = K (.agg (nv .u32 shaK).toArray) := q_of (by kernel_rfl) K
theorem bldH {h : Hp} {K : Value → Prop} : q P h (Instr.build t_8_uint32 #[(0, (Value.int .u32 1779033703)), (1, (Value.int .u32 3144134277)), (2, (Value.int .u32 1013904242)), (3, (Value.int .u32 2773480762)), (4, (Value.int .u32 1359893119)), (5, (Value.int .u32 2600822924)), (6, (Value.int .u32 528734635)), (7, (Value.int .u32 1541459225))]) K = K (.agg (nv .u32 shaH).toArray) := q_of (by kernel_rfl) K
theorem bldNew {h : Hp} {K : Value → Prop} : q P h (Instr.build t_sha_Hash #[(0, .agg (nv .u32 shaH).toArray), (1, .agg (nv .u32 shaK).toArray)]) K = K (.agg (hashC shaH (List.replicate 64 0) 0 0).toArray) := q_of (by kernel_rfl) K
theorem s64 {h : Hp} {K : Value → Prop} (r : Nat) : q P h (Instr.sliceAt t_64_uint8 (.pointer (some ⟨r, 72, none⟩)) none none none) K = K (.slice (some ⟨r, 72, none⟩) 64 64) := q_of (by kernel_rfl) K
theorem hashC_wt {st wt : List Nat} {many all : Nat} (ls : st.length = 8) (lw : wt.length = 64) (i : Nat) (hi : i < 64) : (hashC st wt many all)[72 + i]? = some (.int .u8 ((wt.getD i 0 : Nat) : Int)) := by
  have l1 : (nv .u32 st).length = 8 := by rw [nv_len, ls]
  have l2 : (nv .u32 shaK).length = 64 := by rw [nv_len, shaK_len]
  rw [hashC, List.getElem?_append_right (by omega), l1, hashT, List.getElem?_append_right (by omega), l2, List.getElem?_append_left (by rw [nv_len]; omega), show 72 + i - 8 - 64 = i by omega, nv_getD _ _ _ (by omega)]
theorem hashC_136 {st wt : List Nat} {many all : Nat} (ls : st.length = 8) (lw : wt.length = 64) : (hashC st wt many all)[136]? = some (.int .i64 (many : Int)) := by
  have l1 : (nv .u32 st).length = 8 := by rw [nv_len, ls]
  have l2 : (nv .u32 shaK).length = 64 := by rw [nv_len, shaK_len]
  have l3 : (nv .u8 wt).length = 64 := by rw [nv_len, lw]
  rw [hashC, List.getElem?_append_right (by omega), l1, hashT, List.getElem?_append_right (by omega), l2, List.getElem?_append_right (by omega), l3]
  rfl
theorem hashC_137 {st wt : List Nat} {many all : Nat} (ls : st.length = 8) (lw : wt.length = 64) : (hashC st wt many all)[137]? = some (.int .u64 (all : Int)) := by
  have l1 : (nv .u32 st).length = 8 := by rw [nv_len, ls]
  have l2 : (nv .u32 shaK).length = 64 := by rw [nv_len, shaK_len]
  have l3 : (nv .u8 wt).length = 64 := by rw [nv_len, lw]
  rw [hashC, List.getElem?_append_right (by omega), l1, hashT, List.getElem?_append_right (by omega), l2, List.getElem?_append_right (by omega), l3]
  rfl
theorem hashC_set136 {st wt : List Nat} {many all : Nat} (ls : st.length = 8) (lw : wt.length = 64) (x : Nat) : (hashC st wt many all).set 136 (.int .i64 (x : Int)) = hashC st wt x all := by
  have l1 : (nv .u32 st).length = 8 := by rw [nv_len, ls]
  have l2 : (nv .u32 shaK).length = 64 := by rw [nv_len, shaK_len]
  have l3 : (nv .u8 wt).length = 64 := by rw [nv_len, lw]
  rw [hashC, List.set_append_right _ _ (by omega), l1, hashT, List.set_append_right _ _ (by omega), l2, List.set_append_right _ _ (by omega), l3]
  rfl
theorem hashC_set137 {st wt : List Nat} {many all : Nat} (ls : st.length = 8) (lw : wt.length = 64) (x : Nat) : (hashC st wt many all).set 137 (.int .u64 (x : Int)) = hashC st wt many x := by
  have l1 : (nv .u32 st).length = 8 := by rw [nv_len, ls]
  have l2 : (nv .u32 shaK).length = 64 := by rw [nv_len, shaK_len]
  have l3 : (nv .u8 wt).length = 64 := by rw [nv_len, lw]
  rw [hashC, List.set_append_right _ _ (by omega), l1, hashT, List.set_append_right _ _ (by omega), l2, List.set_append_right _ _ (by omega), l3]
  rfl
theorem hashC_put {st wt c : List Nat} {many all : Nat} (ls : st.length = 8) (lw : wt.length = 64) (hm : many + c.length ≤ 64) : putL (hashC st wt many all) (72 + many) (nv .u8 c) = hashC st (wt.take many ++ c ++ wt.drop (many + c.length)) many all := by
  have l1 : (nv .u32 st).length = 8 := by rw [nv_len, ls]
  have l2 : (nv .u32 shaK).length = 64 := by rw [nv_len, shaK_len]
  rw [putL_eq _ _ _ (by rw [hashC_len ls lw, nv_len]; omega)]
  have e1 : (hashC st wt many all) = (nv .u32 st ++ nv .u32 shaK) ++ (nv .u8 wt ++ [.int .i64 (many : Int), .int .u64 (all : Int)]) := by simp only [hashC, hashT, List.append_assoc]
  have l12 : (nv .u32 st ++ nv .u32 shaK).length = 72 := by rw [List.length_append]; omega
  have lt : (nv .u8 wt).length = 64 := by rw [nv_len, lw]
  rw [e1, List.take_append, List.take_of_length_le (by omega), l12, Nat.add_sub_cancel_left, List.take_append_of_le_length (by omega), List.drop_append, List.drop_of_length_le (by omega), List.nil_append, l12, show 72 + many + (nv .u8 c).length - 72 = many + c.length by rw [nv_len]; omega, List.drop_append_of_le_length (by omega)]
  simp only [hashC, hashT, nv_app, nv_take, List.append_assoc]
  have : List.drop (many + c.length) (nv .u8 wt) = nv .u8 (wt.drop (many + c.length)) := by unfold nv; rw [List.map_drop]
  rw [this]
section
variable {h : Hp} {K : Value → Hp → Prop}
theorem T_constants (k : K (.agg (nv .u32 shaK).toArray) h) : Cn P n_sha_constants #[] h K := by
  refine Cn_wk (F_sha_constants ?_)
  unfold s_sha_constants
  refine aw_allocL (List.replicate 64 (Value.int .u32 0)) zr_64u32 rfl fun r hr => ?_
  have hl : (nv .u32 shaK).length = 64 := by rw [nv_len, shaK_len]
  rw [bldK]
  refine aw_storeRow (ys := nv .u32 shaK) (by rw [hl]; exact z_64_uint32) (Hp.set_same ..) (by rw [hl, List.length_replicate]) (nv_flat _ _) (fun i _ => by simp) ?_
  rw [q_resRow (ys := nv .u32 shaK) u_64_uint32 rfl (by rw [hl]; exact z_64_uint32) (Hp.set_same ..)]
  refine ⟨h, ?_, k⟩
  rw [Hp.set_set]
  exact le_fresh hr
theorem T_beginning (k : K (.agg (nv .u32 shaH).toArray) h) : Cn P n_sha_beginning #[] h K := by
  refine Cn_wk (F_sha_beginning ?_)
  unfold s_sha_beginning
  refine aw_allocL (List.replicate 8 (Value.int .u32 0)) zr_8u32 rfl fun r hr => ?_
  have hl : (nv .u32 shaH).length = 8 := by rw [nv_len, shaH_len]
  rw [bldH]
  refine aw_storeRow (ys := nv .u32 shaH) (by rw [hl]; exact z_8_uint32) (Hp.set_same ..) (by rw [hl, List.length_replicate]) (nv_flat _ _) (fun i _ => by simp) ?_
  rw [q_resRow (ys := nv .u32 shaH) u_8_uint32 rfl (by rw [hl]; exact z_8_uint32) (Hp.set_same ..)]
  refine ⟨h, ?_, k⟩
  rw [Hp.set_set]
  exact le_fresh hr
/-- A row that holds a digest on its way. -/
def HashRow (h : Hp) (p : Nat) (st wt : List Nat) (many all : Nat) : Prop := h p = some (.row t_sha_Hash (hashC st wt many all) 138 (some (0, 0)))
theorem T_shaBlock {p : Nat} {v1 : Value} {st wt b : List Nat} {many all : Nat} (hb : HashRow h p st wt many all) (ws : W32 st) (ls : st.length = 8) (lw : wt.length = 64) (hv : Rn h .u8 v1 b) (bb : Bytes b) (lb : b.length = 64)
    (k : K (.tuple #[]) (h.set p (.row t_sha_Hash (hashC (workL shaK st b) wt many all) 138 (some (0, 0))))) : Cn P n_sha_Hash_block #[.pointer (some ⟨p, 0, none⟩), v1] h K := by
  refine Cn_wk (F_sha_Hash_block ?_)
  unfold s_sha_Hash_block
  refine T_schedule hv bb lb ?_
  have lW := schL_len b
  have wW := schL_w bb
  unfold workL at k
  generalize schL b = W at lW wW k ⊢
  have lnW : (nv .u32 W).length = 64 := by rw [nv_len, lW]
  have lnS : (nv .u32 st).length = 8 := by rw [nv_len, ls]
  refine aw_allocL (List.replicate 64 (Value.int .u32 0)) zr_64u32 rfl fun r4 hr4 => ?_
  refine aw_storeRow (ys := nv .u32 W) (by rw [lnW]; exact z_64_uint32) (Hp.set_same ..) (by rw [lnW, List.length_replicate]) (nv_flat _ _) (fun i _ => by simp) ?_
  rw [Hp.set_set, List.length_replicate]
  have n4 : p ≠ r4 := by rintro rfl; rw [HashRow, hr4] at hb; cases hb
  have hb4 : (h.set r4 (.row t_64_uint32 (nv .u32 W) 64 (some (0, 0)))) p = some (.row t_sha_Hash (hashC st wt many all) 138 (some (0, 0))) := by rw [Hp.set_ne _ _ n4]; exact hb
  have b4 : (h.set r4 (.row t_64_uint32 (nv .u32 W) 64 (some (0, 0)))) r4 = some (.row t_64_uint32 (nv .u32 W) 64 (some (0, 0))) := Hp.set_same ..
  have le4 : ∀ r5 o, (h.set r4 (.row t_64_uint32 (nv .u32 W) 64 (some (0, 0)))) r5 = none → Hp.le h ((h.set r4 (.row t_64_uint32 (nv .u32 W) 64 (some (0, 0)))).set r5 o) := fun r5 o e => (le_fresh hr4).trans (le_fresh e)
  generalize h.set r4 (.row t_64_uint32 (nv .u32 W) 64 (some (0, 0))) = base at hb4 b4 le4 ⊢
  simp (disch := omega) only [GL, RL, ht0]
  rw [q_ldAgg (ys := nv .u32 st) u_8_uint32 rfl (by rw [lnS]; exact z_8_uint32) fun j x e => by
    rw [cell_row hb4, Nat.zero_add, hashC, List.getElem?_append_left (List.getElem?_eq_some_iff.1 e).1]; exact e]
  refine aw_allocL (List.replicate 8 (Value.int .u32 0)) zr_8u32 rfl fun r5 hr5 => ?_
  refine aw_storeRow (ys := nv .u32 st) (by rw [lnS]; exact z_8_uint32) (Hp.set_same ..) (by rw [lnS, List.length_replicate]) (nv_flat _ _) (fun i _ => by simp) ?_
  rw [Hp.set_set, List.length_replicate]
  have n5 : p ≠ r5 := by rintro rfl; rw [hr5] at hb4; cases hb4
  have n45 : r4 ≠ r5 := by rintro rfl; rw [hr5] at b4; cases b4
  refine Lp_mk (fun m vs h' => ∃ i : Nat, i + m = 64 ∧ h' = base.set r5 (.row t_8_uint32 (nv .u32 (rnds shaK W st i)) 8 (some (0, 0))) ∧ vs = [.int .i64 (i : Int)]) 64 ⟨0, rfl, rfl, rfl⟩ ?_
  rintro m vs h' ⟨i, hi, rfl, rfl⟩
  have e64 : decide ((i : Int) < 64) = decide (i < 64) := lt_dec i 64
  simp only [List.getD_cons_zero]
  refine (q_lss _ _ _ _).mpr ?_
  refine (cnd_bool _ _ _).mpr ?_
  rw [e64]
  have wr := rnds_w (K := shaK) (w := W) ws i
  have lr := rnds_len (K := shaK) (w := W) ls i
  by_cases hlt : i < 64
  · rw [if_pos (by simp [hlt])]
    exact round_go wr lr wW lW hlt b4 n45 n5 (by rw [cell_row hb4]; exact hashC_K ls i hlt) ⟨_, .refl _, m - 1, by omega, i + 1, by omega, rfl, rfl⟩
  rw [if_neg (by simp [hlt])]
  obtain rfl : i = 64 := by omega
  generalize rnds shaK W st 64 = V at wr lr k ⊢
  have hb5 : (base.set r5 (.row t_8_uint32 (nv .u32 V) 8 (some (0, 0)))) p = some (.row t_sha_Hash (hashC st wt many all) 138 (some (0, 0))) := by rw [Hp.set_ne _ _ n5]; exact hb4
  have v5 : ∀ X : AObj, ((base.set r5 (.row t_8_uint32 (nv .u32 V) 8 (some (0, 0)))).set p X) r5 = some (.row t_8_uint32 (nv .u32 V) 8 (some (0, 0))) := fun X => by rw [Hp.set_ne _ _ (Ne.symm n5), Hp.set_same]
  have le5 := le4 r5 (.row t_8_uint32 (nv .u32 V) 8 (some (0, 0))) hr5
  generalize base.set r5 (.row t_8_uint32 (nv .u32 V) 8 (some (0, 0))) = B5 at hb5 v5 le5 ⊢
  refine Lp_mk (fun m vs h' => ∃ i : Nat, i + m = 8 ∧ h' = B5.set p (.row t_sha_Hash (hashC (addS st V i ++ st.drop i) wt many all) 138 (some (0, 0))) ∧ vs = [.int .i64 (i : Int)]) 8 ⟨0, rfl, (Hp.set_id hb5).symm, rfl⟩ ?_
  rintro m vs h' ⟨i, hi, rfl, rfl⟩
  have e8 : decide ((i : Int) < 8) = decide (i < 8) := lt_dec i 8
  have lA := addS_len st V i
  by_cases hlt : i < 8
  · have lS : (addS st V i ++ st.drop i).length = 8 := by rw [List.length_append, lA, List.length_drop]; omega
    have c1 : ∀ o, (B5.set p (.row t_sha_Hash (hashC (addS st V i ++ st.drop i) wt many all) 138 o)).cell ⟨p, i, none⟩ = some (.int .u32 ((st.getD i 0 : Nat) : Int)) := fun o => by
      rw [cell_row (Hp.set_same ..), hashC_st _ (by omega)]
      congr 3
      rw [List.getD_eq_getElem?_getD, List.getElem?_append_right (by omega), lA, Nat.sub_self, List.getElem?_drop, Nat.add_zero, List.getD_eq_getElem?_getD]
    have c2 : ∀ X, (B5.set p X).cell ⟨r5, i, none⟩ = some (.int .u32 ((V.getD i 0 : Nat) : Int)) := fun X => by
      rw [cell_row (v5 X), nv_getD _ _ _ (by omega)]
    simp (disch := omega) only [GL, RL, e8, hlt, decide_true, if_true, ht0, c1, c2, add32, wi64]
    refine aw_store z_uint32 rfl (put_row (Hp.set_same ..) (by rw [hashC_len lS lw]; omega) (by simp) _) ?_
    refine ⟨_, .refl _, m - 1, by omega, i + 1, by omega, ?_, rfl⟩
    rw [Hp.set_set, hashC_set _ _ (by omega)]
    have e1 : (addS st V i ++ st.drop i).set i ((st.getD i 0 + V.getD i 0) % 4294967296) = addS st V (i + 1) ++ st.drop (i + 1) := by
      rw [List.set_append_right _ _ (by omega), lA, Nat.sub_self, List.drop_eq_getElem_cons (by omega), List.set_cons_zero, addS_succ, List.append_assoc]
      rfl
    rw [e1]
  obtain rfl : i = 8 := by omega
  simp (disch := omega) only [GL, RL, e8, hlt, decide_false, Bool.false_eq_true, if_false]
  rw [List.drop_of_length_le (by omega), List.append_nil]
  exact ⟨_, le_set le5, k⟩
end
end Go.Proofs.Ytnecdbclhdbaoaa
set_option linter.unusedSimpArgs false
set_option linter.unusedVariables false
set_option maxRecDepth 100000
set_option maxHeartbeats 1000000
namespace Go.Proofs.Ytnecdbclhdbaoaa
open Go Go.SL Go.Pure
/-- The cells of a book's boxes. -/
def BoxCells (R : Hp) : List Value → List Box → Prop
  | [], [] => True
  | vk :: vn :: vb :: vt :: xs, b :: bs => (Rn R .u8 vk b.key ∧ Rn R .u8 vn b.nonce ∧ Rn R .u8 vb b.beside ∧ Rn R .u8 vt b.text) ∧ BoxCells R xs bs
  | _, _ => False
theorem BoxCells.mono {R R' : Hp} (c : Hp.cle R R') : ∀ {xs : List Value} {bs : List Box}, BoxCells R xs bs → BoxCells R' xs bs
  | [], [], _ => trivial
  | _ :: _ :: _ :: _ :: _, _ :: _, h => ⟨⟨h.1.1.mono c, h.1.2.1.mono c, h.1.2.2.1.mono c, h.1.2.2.2.mono c⟩, BoxCells.mono c h.2⟩
  | [], _ :: _, h => h.elim
  | [_], _, h => by cases ‹List Box› <;> exact h.elim
  | [_, _], _, h => by cases ‹List Box› <;> exact h.elim
  | [_, _, _], _, h => by cases ‹List Box› <;> exact h.elim
  | _ :: _ :: _ :: _ :: _, [], h => h.elim
theorem BoxCells.len {R : Hp} : ∀ {xs : List Value} {bs : List Box}, BoxCells R xs bs → xs.length = bs.length * 4
  | [], [], _ => rfl
  | _ :: _ :: _ :: _ :: xs, _ :: bs, h => by have := BoxCells.len h.2; simp only [List.length_cons]; omega
  | [], _ :: _, h => h.elim
  | [_], _, h => by cases ‹List Box› <;> exact h.elim
  | [_, _], _, h => by cases ‹List Box› <;> exact h.elim
  | [_, _, _], _, h => by cases ‹List Box› <;> exact h.elim
  | _ :: _ :: _ :: _ :: _, [], h => h.elim
theorem rn_flat {R : Hp} {k : IntKind} {v : Value} {l : List Nat} (r : Rn R k v l) : flat v = true := by
  obtain ⟨a, c, rfl, _⟩ := r.shape; rfl
theorem BoxCells.flat {R : Hp} : ∀ {xs : List Value} {bs : List Box}, BoxCells R xs bs → ∀ y ∈ xs, SL.flat y = true
  | [], [], _ => by intro y hy; cases hy
  | vk :: vn :: vb :: vt :: xs, _ :: bs, h => by
    intro y hy
    rcases List.mem_cons.1 hy with rfl | hy
    · exact rn_flat h.1.1
    rcases List.mem_cons.1 hy with rfl | hy
    · exact rn_flat h.1.2.1
    rcases List.mem_cons.1 hy with rfl | hy
    · exact rn_flat h.1.2.2.1
    rcases List.mem_cons.1 hy with rfl | hy
    · exact rn_flat h.1.2.2.2
    · exact BoxCells.flat h.2 y hy
  | [], _ :: _, h => h.elim
  | [_], _, h => by cases ‹List Box› <;> exact h.elim
  | [_, _], _, h => by cases ‹List Box› <;> exact h.elim
  | [_, _, _], _, h => by cases ‹List Box› <;> exact h.elim
  | _ :: _ :: _ :: _ :: _, [], h => h.elim
theorem BoxCells.snoc {R : Hp} {vk vn vb vt : Value} {b : Box} (hb : Rn R .u8 vk b.key ∧ Rn R .u8 vn b.nonce ∧ Rn R .u8 vb b.beside ∧ Rn R .u8 vt b.text) :
    ∀ {xs : List Value} {bs : List Box}, BoxCells R xs bs → BoxCells R (xs ++ [vk, vn, vb, vt]) (bs ++ [b])
  | [], [], _ => ⟨hb, trivial⟩
  | _ :: _ :: _ :: _ :: _, _ :: _, h => ⟨h.1, BoxCells.snoc hb h.2⟩
  | [], _ :: _, h => h.elim
  | [_], _, h => by cases ‹List Box› <;> exact h.elim
  | [_, _], _, h => by cases ‹List Box› <;> exact h.elim
  | [_, _, _], _, h => by cases ‹List Box› <;> exact h.elim
  | _ :: _ :: _ :: _ :: _, [], h => h.elim
theorem BoxCells.get {R : Hp} : ∀ {xs : List Value} {bs : List Box} (i : Nat) {b : Box}, BoxCells R xs bs → bs[i]? = some b →
    ∃ vk vn vb vt, (∀ (j : Nat) (x : Value), [vk, vn, vb, vt][j]? = some x → xs[i * 4 + j]? = some x) ∧ Rn R .u8 vk b.key ∧ Rn R .u8 vn b.nonce ∧ Rn R .u8 vb b.beside ∧ Rn R .u8 vt b.text
  | [], [], i, b, _, hb => by simp at hb
  | vk :: vn :: vb :: vt :: xs, _ :: bs, 0, b, h, hb => by
    simp only [List.getElem?_cons_zero, Option.some.injEq] at hb
    subst hb
    refine ⟨vk, vn, vb, vt, fun j x e => ?_, h.1⟩
    match j, e with
    | 0, e => simpa using e
    | 1, e => simpa using e
    | 2, e => simpa using e
    | 3, e => simpa using e
    | j + 4, e => simp at e
  | vk :: vn :: vb :: vt :: xs, _ :: bs, i + 1, b, h, hb => by
    obtain ⟨wk, wn, wb, wt, q, r⟩ := BoxCells.get i h.2 (by simpa using hb)
    refine ⟨wk, wn, wb, wt, fun j x e => ?_, r⟩
    have := q j x e
    rw [show (i + 1) * 4 + j = (i * 4 + j) + 1 + 1 + 1 + 1 by omega]
    simpa using this
  | [], _ :: _, _, _, h, _ => h.elim
  | [_], _, _, _, h, _ => by cases ‹List Box› <;> exact h.elim
  | [_, _], _, _, _, h, _ => by cases ‹List Box› <;> exact h.elim
  | [_, _, _], _, _, _, h, _ => by cases ‹List Box› <;> exact h.elim
  | _ :: _ :: _ :: _ :: _, [], _, _, h, _ => h.elim
/-- A book's texts, in their map. -/
def TextsOf (es : Array MapEntry) (ts : List (List Nat)) : Prop :=
  es.size = ts.length ∧ strKeys es.toList ∧ ts.Nodup ∧ (∀ t ∈ ts, Bytes t) ∧ ∀ t, Bytes t → (mget es.toList (strL t)) = (ts.idxOf? t).map fun (i : Nat) => (i, Value.int .i64 (i : Int))
/-- A book's boxes, in their row. -/
def BoxesAt (R h : Hp) (bx : Value) (bs : List Box) (Sb : List Nat) : Prop :=
  (bx = .slice none 0 0 ∧ bs = [] ∧ Sb = []) ∨
  ∃ b c f xs, bx = .slice (some ⟨b, 0, none⟩) bs.length c ∧ bs.length ≤ c ∧ h b = some (.row t_crypt_sealed xs (c * 4) (some f)) ∧ (∀ i, i < c * 4 → ¬ (f.1 ≤ i ∧ i < f.2)) ∧ BoxCells R xs bs ∧ Sb = [b]
def BookAt (R h : Hp) (p : Nat) (ts : List (List Nat)) (bs : List Box) (S : List Nat) : Prop :=
  ∃ r bx es c Sb, h p = some (.row t_crypt_book [.map (some r), bx] 2 (some (0, 0))) ∧ h r = some (.obj (.map es c)) ∧ TextsOf es ts ∧ BoxesAt R h bx bs Sb ∧ S = p :: r :: Sb ∧ p ≠ r ∧ p ∉ Sb ∧ r ∉ Sb ∧ ∀ b ∈ bs, Bytes b.key ∧ Bytes b.nonce ∧ Bytes b.beside ∧ Bytes b.text
theorem BoxesAt.keep {R R' h h' : Hp} {bx : Value} {bs : List Box} {Sb : List Nat} (a : BoxesAt R h bx bs Sb) (e : Hp.ext R R') (k : ∀ b, b ∈ Sb → h' b = h b) : BoxesAt R' h' bx bs Sb := by
  rcases a with a | ⟨b, c, f, xs, h1, h2, h3, h4, h5, h6⟩
  · exact .inl a
  · exact .inr ⟨b, c, f, xs, h1, h2, by rw [k b (by rw [h6]; exact List.mem_singleton.2 rfl)]; exact h3, h4, h5.mono e.cle, h6⟩
theorem BookAt.keep {R R' h h' : Hp} {p : Nat} {ts : List (List Nat)} {bs : List Box} {S : List Nat} (a : BookAt R h p ts bs S) (e : Hp.ext R R') (k : ∀ b, b ∈ S → h' b = h b) : BookAt R' h' p ts bs S := by
  obtain ⟨r, bx, es, c, Sb, h1, h2, h3, h4, rfl, h6⟩ := a
  exact ⟨r, bx, es, c, Sb, by rw [k p (by simp)]; exact h1, by rw [k r (by simp)]; exact h2, h3, h4.keep e fun b hb => k b (by simp [hb]), rfl, h6⟩
theorem bf0 {h : Hp} {K : Value → Prop} (r : Nat) : q P h (Instr.fieldAt t_crypt_book (.pointer (some ⟨r, 0, none⟩)) 0) K = K (.pointer (some ⟨r, 0, none⟩)) := q_of (by kernel_rfl) K
theorem bf1 {h : Hp} {K : Value → Prop} (r : Nat) : q P h (Instr.fieldAt t_crypt_book (.pointer (some ⟨r, 0, none⟩)) 1) K = K (.pointer (some ⟨r, 1, none⟩)) := q_of (by kernel_rfl) K
theorem pbf1 {h : Hp} (r : Nat) : peek P h (Instr.fieldAt t_crypt_book (.pointer (some ⟨r, 0, none⟩)) 1) = some (.pointer (some ⟨r, 1, none⟩)) := by kernel_rfl
theorem sf0 {h : Hp} {K : Value → Prop} (r : Nat) : q P h (Instr.fieldAt t_crypt_sealed (.pointer (some ⟨r, 0, none⟩)) 0) K = K (.pointer (some ⟨r, 0, none⟩)) := q_of (by kernel_rfl) K
theorem sf1 {h : Hp} {K : Value → Prop} (r : Nat) : q P h (Instr.fieldAt t_crypt_sealed (.pointer (some ⟨r, 0, none⟩)) 1) K = K (.pointer (some ⟨r, 1, none⟩)) := q_of (by kernel_rfl) K
theorem sf2 {h : Hp} {K : Value → Prop} (r : Nat) : q P h (Instr.fieldAt t_crypt_sealed (.pointer (some ⟨r, 0, none⟩)) 2) K = K (.pointer (some ⟨r, 2, none⟩)) := q_of (by kernel_rfl) K
theorem sf3 {h : Hp} {K : Value → Prop} (r : Nat) : q P h (Instr.fieldAt t_crypt_sealed (.pointer (some ⟨r, 0, none⟩)) 3) K = K (.pointer (some ⟨r, 3, none⟩)) := q_of (by kernel_rfl) K
theorem bldSealed {h : Hp} {K : Value → Prop} (a b c d : Option Addr) (n1 n2 n3 n4 c1 c2 c3 c4 : Nat) : q P h (Instr.build t_crypt_sealed #[(0, .slice a n1 c1), (1, .slice b n2 c2), (2, .slice c n3 c3), (3, .slice d n4 c4)]) K = K (.agg #[.slice a n1 c1, .slice b n2 c2, .slice c n3 c3, .slice d n4 c4]) := q_of (by kernel_rfl) K
theorem bldBook {h : Hp} {K : Value → Prop} (r : Nat) : q P h (Instr.build t_crypt_book #[(0, .map (some r))]) K = K (.agg #[.map (some r), .slice none 0 0]) := q_of (by kernel_rfl) K
abbrev nil4 : List Value := [.slice none 0 0, .slice none 0 0, .slice none 0 0, .slice none 0 0]
theorem zr_sealed : zr P t_crypt_sealed = some (.agg nil4.toArray) := by kernel_rfl
theorem nfo_sealed : (P.info? t_crypt_sealed).map (fun i => (i.zero, i.size, i.bytes)) = some (some (.agg nil4.toArray), 4, 96) := by kernel_rfl
theorem sz_sealed : sz P t_crypt_sealed = some 4 := by kernel_rfl
theorem lenBoxes {R h H : Hp} {bx : Value} {bs : List Box} {Sb : List Nat} {K : Value → Prop} (a : BoxesAt R h bx bs Sb) : q P H (Builtin.len_ #[t_Sl_crypt_sealed] t_int #[bx]) K = K (.int .i64 bs.length) := by
  rcases a with ⟨rfl, rfl, _⟩ | ⟨b, c, f, xs, rfl, _⟩
  · exact q_lenS u_Sl_crypt_sealed none 0 0
  · exact q_lenS u_Sl_crypt_sealed (some ⟨b, 0, none⟩) bs.length c
section
variable {h : Hp} {K : Value → Hp → Prop}
theorem T_Book {R : Hp} {S : List Nat} (w : Own R h S) (k : ∀ p h' S', BookAt R h' p [] [] S' → Own R h' S' → Stp R h R h' S S → (∀ b ∈ S', b ∉ S) → K (.iface t_Pt_crypt_book (.pointer (some ⟨p, 0, none⟩))) h') : Cn P n_crypt_Book #[] h K := by
  refine F_crypt_Book ?_
  unfold s_crypt_Book
  refine aw_makeMap fun r hr => ?_
  rw [bldBook]
  refine aw_box fun p hp => ?_
  rw [q_mkI u_Pt_crypt_book rfl]
  have hpr : p ≠ r := by rintro rfl; rw [Hp.set_same] at hp; cases hp
  have hp0 : h p = none := by rwa [Hp.set_ne _ _ hpr] at hp
  have hE : (Value.agg #[.map (some r), .slice none 0 0]).cells.toList = [.map (some r), .slice none 0 0] := rfl
  have hS : (Value.agg #[.map (some r), .slice none 0 0]).cells.size = 2 := rfl
  rw [hE, hS]
  have kp : ∀ x o, h x = some o → ((h.set r (.obj (.map #[] 0))).set p (.row t_crypt_book [.map (some r), .slice none 0 0] 2 (some (0, 0)))) x = some o := fun x o e => by
    rw [Hp.set_ne _ _ (by rintro rfl; rw [hp0] at e; cases e), Hp.set_ne _ _ (by rintro rfl; rw [hr] at e; cases e)]; exact e
  refine k p _ [p, r] ⟨r, .slice none 0 0, #[], 0, [], Hp.set_same .., ?_, ⟨rfl, (by intro e he; simp at he), List.nodup_nil, (by intro t ht; cases ht), fun t _ => rfl⟩, .inl ⟨rfl, rfl, rfl⟩, rfl, hpr, (by simp), (by simp), (by intro b hb; cases hb)⟩ ⟨fun x o e => kp x o (w.sub x o e), fun b hb => ?_, fun b hb => ?_⟩
    ⟨.refl _, fun x o _ e => kp x o e, fun x o hn _ => hn, fun x o _ _ e => e, ⟨fun x o e => kp x o (w.sub x o e), w.dis, fun b hb => let ⟨o, e⟩ := w.kn b hb; ⟨o, kp b o e⟩⟩⟩ fun b hb hbS => ?_
  · rw [Hp.set_ne _ _ (Ne.symm hpr), Hp.set_same]
  · simp only [List.mem_cons, List.not_mem_nil, or_false] at hb
    rcases hb with rfl | rfl
    · exact w.sub.none hp0
    · exact w.sub.none hr
  · simp only [List.mem_cons, List.not_mem_nil, or_false] at hb
    rcases hb with rfl | rfl
    · exact ⟨_, Hp.set_same ..⟩
    · exact ⟨_, by rw [Hp.set_ne _ _ (Ne.symm hpr), Hp.set_same]⟩
  · simp only [List.mem_cons, List.not_mem_nil, or_false] at hb
    obtain ⟨o, e⟩ := w.kn b hbS
    rcases hb with rfl | rfl
    · rw [hp0] at e; cases e
    · rw [hr] at e; cases e
end
end Go.Proofs.Ytnecdbclhdbaoaa
set_option linter.unusedSimpArgs false
set_option linter.unusedVariables false
set_option maxRecDepth 100000
set_option maxHeartbeats 1000000
namespace Go.Proofs.Ytnecdbclhdbaoaa
open Go Go.SL Go.Pure
theorem pk_ldB {h : Hp} {a : Addr} {v : Value} (e : h.cell a = some v) : peek P h (Instr.loadAt t_Sl_crypt_sealed (.pointer (some a))) = some v := by
  obtain ⟨x, hx, e⟩ := withVal_elim (K := fun x => x = v) ((q_ld (P := P) (h := h) (K := fun x => x = v) u_Sl_crypt_sealed rfl a).mpr (by rw [e]; rfl))
  rw [e] at hx
  exact hx
section
variable {h : Hp} {K : Value → Hp → Prop}
theorem T_book_Seal {R : Hp} {p : Nat} {ts : List (List Nat)} {bs : List Box} {S : List Nat} {vk vn vb vt : Value} {key nonce b t : List Nat} (w : Own R h S) (hB : BookAt R h p ts bs S) (nb : bs.length ≤ 1000000)
    (hk : Rn R .u8 vk key) (hn : Rn R .u8 vn nonce) (hb : Rn R .u8 vb b) (ht : Rn R .u8 vt t) (bk : Bytes key) (bn : Bytes nonce) (bb : Bytes b) (bt : Bytes t)
    (lb : b.length ≤ 1099511627776) (lt : t.length ≤ 1099511627776)
    (k : ∀ v R' h' S', Stp R h R' h' S S' → BookAt R' h' p ts (if may key nonce then bs ++ [⟨key, nonce, b, t⟩] else bs) S' → (if may key nonce then Rn R' .u8 v (boxB bs.length (t.length + 16)) else v = .slice none 0 0) → K (.tuple #[v, .int .i64 (if may key nonce then 0 else 1)]) h') :
    Cn P n_crypt_book_Seal #[.pointer (some ⟨p, 0, none⟩), vk, vn, vb, vt] h K := by
  refine F_crypt_book_Seal ?_
  unfold s_crypt_book_Seal
  refine T_crypt_may (w.rn hk) (w.rn hn) ?_
  by_cases hm : may key nonce
  case neg =>
    simp only [if_neg hm] at k
    simp only [hm, decide_false, GL, RL, Bool.not_false, if_true]
    exact k _ R h S (.refl w) hB rfl
  simp only [if_pos hm] at k
  simp (disch := omega) only [hm, decide_true, GL, RL, Bool.not_true, Bool.false_eq_true, if_false, bf1]
  obtain ⟨r, bx, es, c, Sb, hp, hr, hT, hX, rfl, hpr, hpS, hrS, hby⟩ := hB
  have c1 : h.cell ⟨p, 1, none⟩ = some bx := by rw [cell_row hp]; rfl
  simp (disch := omega) only [GL, RL, c1, lenBoxes hX]
  refine T_bytes_Clone (w.rn hk) (by unfold may at hm; omega) fun v28 h1 n1 => ?_
  obtain ⟨R1, s1, r28⟩ := Stp.newN w n1
  refine ⟨pk_ldB (n1.cle _ _ c1), pbf1 p, ?_⟩
  refine T_bytes_Clone (s1.own.rn (hn.mono s1.ext.cle)) (by unfold may at hm; omega) fun v30 h2 n2 => ?_
  obtain ⟨R2, s2, r30⟩ := Stp.newN s1.own n2
  refine ⟨pk_ldB (n2.cle _ _ (n1.cle _ _ c1)), pbf1 p, ?_⟩
  refine T_bytes_Clone (s2.own.rn (hb.mono (s1.trans s2).ext.cle)) (by omega) fun v32 h3 n3 => ?_
  obtain ⟨R3, s3, r32⟩ := Stp.newN s2.own n3
  refine ⟨pk_ldB (n3.cle _ _ (n2.cle _ _ (n1.cle _ _ c1))), pbf1 p, ?_⟩
  refine T_bytes_Clone (s3.own.rn (ht.mono ((s1.trans s2).trans s3).ext.cle)) (by omega) fun v34 h4 n4 => ?_
  obtain ⟨R4, s4, r34⟩ := Stp.newN s3.own n4
  have c4 := n4.cle _ _ (n3.cle _ _ (n2.cle _ _ (n1.cle _ _ c1)))
  refine ⟨pk_ldB c4, pbf1 p, ?_⟩
  have st4 := ((s1.trans s2).trans s3).trans s4
  have x4 : Hp.ext h h4 := ((n1.ext.trans n2.ext).trans n3.ext).trans n4.ext
  have q28 := r28.mono ((s2.trans s3).trans s4).ext.cle
  have q30 := r30.mono (s3.trans s4).ext.cle
  have q32 := r32.mono s4.ext.cle
  have hX4 : BoxesAt R4 h4 bx bs Sb := hX.keep st4.ext fun x hx => by
    obtain ⟨o, e⟩ := w.kn x (by simp [hx])
    rw [e, x4 _ _ e]
  have hp4 := x4 _ _ hp
  have hr4 := x4 _ _ hr
  have ow := st4.own
  clear n1 n2 n3 n4 s1 s2 s3 s4 r28 r30 r32 hX
  have hf28 := rn_flat q28
  have hf30 := rn_flat q30
  have hf32 := rn_flat q32
  have hf34 := rn_flat r34
  obtain ⟨a28, c28, e28, _⟩ := q28.shape
  obtain ⟨a30, c30, e30, _⟩ := q30.shape
  obtain ⟨a32, c32, e32, _⟩ := q32.shape
  obtain ⟨a34, c34, e34, _⟩ := r34.shape
  rw [show q P emp (Instr.build t_crypt_sealed #[(0, v28), (1, v30), (2, v32), (3, v34)]) = fun K => K (.agg #[v28, v30, v32, v34]) from by
    funext K; rw [e28, e30, e32, e34]; exact bldSealed ..]
  refine aw_litA (ys := [v28, v30, v32, v34]) u_Sl_crypt_sealed sz_sealed zr_sealed rfl rfl (by omega) (by omega) fun v36 h5 n5 => ?_
  refine ⟨pk_ldB (n5.cle _ _ c4), pbf1 p, ?_⟩
  have hfl : ∀ y ∈ [v28, v30, v32, v34], flat y = true := by
    intro y hy
    simp only [List.mem_cons, List.not_mem_nil, or_false] at hy
    rcases hy with rfl | rfl | rfl | rfl <;> assumption
  -- the row of boxes, in what stands beside
  have app : ∃ X xs, New X t_crypt_sealed 4 bx h5 xs bs.length ∧ BoxCells R4 xs bs ∧ (∀ x, x ∉ Sb → X x = h5 x) ∧ (∀ x, x ∈ Sb → X x = none) := by
    rcases hX4 with ⟨rfl, rfl, rfl⟩ | ⟨bb', cc, ff, xs, rfl, hle, hbb, hfz, hxs, rfl⟩
    · exact ⟨h5, [], ⟨rfl, .inl ⟨rfl, rfl, rfl⟩⟩, trivial, fun _ _ => rfl, fun x hx => by cases hx⟩
    · refine ⟨h5.del bb', xs, New.at (n5.ext _ _ hbb) hxs.len hle hfz, hxs, fun x hx => ?_, fun x hx => ?_⟩
      · simp only [List.mem_singleton] at hx
        exact Hp.del_ne _ hx
      · rw [List.mem_singleton.1 hx]; exact del_at _ _
  obtain ⟨X, xs, nX, hxs, X1, X2⟩ := app
  have r36 : Rds h5 4 v36 [v28, v30, v32, v34] 1 := n5.rds
  refine aw_append u_Sl_crypt_sealed u_Sl_crypt_sealed nfo_sealed rfl (by omega) nX r36 hfl (by omega) (.refl _) fun v37 h6 n6 => ?_
  obtain ⟨b6, c6, f6, hb6, hc6, rfl, rfl, hf6⟩ := n6.form (by omega)
  have hpX : X p = some (.row t_crypt_book [.map (some r), bx] 2 (some (0, 0))) := by rw [X1 p hpS]; exact n5.ext _ _ hp4
  have hrX : X r = some (.obj (.map es c)) := by rw [X1 r hrS]; exact n5.ext _ _ hr4
  have np : p ≠ b6 := by rintro rfl; rw [hb6] at hpX; cases hpX
  have nr : r ≠ b6 := by rintro rfl; rw [hb6] at hrX; cases hrX
  refine aw_store (z_Sl_crypt_sealed) rfl (put_row (off := 1) (by rw [Hp.set_ne _ _ np]; exact hpX) (by simp) (by simp) _) ?_
  obtain ⟨at', ct, rfl, _⟩ := ht.shape
  have e16 : ((t.length : Nat) : Int) + 16 = ((t.length + 16 : Nat) : Int) := by omega
  simp (disch := omega) only [GL, RL, wi64, e16]
  refine T_bytesOf bs.length (t.length + 16) (by omega) (by omega) fun v44 h8 n8 => ?_
  obtain ⟨h7, hh7⟩ : ∃ h7, (X.set b6 (.row t_crypt_sealed (xs ++ [v28, v30, v32, v34]) (c6 * 4) (some f6))).set p (.row t_crypt_book ([Value.map (some r), bx].set 1 (.slice (some ⟨b6, 0, none⟩) (bs.length + 1) c6)) 2 (some (0, 0))) = h7 := ⟨_, rfl⟩
  rw [hh7] at n8
  have k7 : ∀ x o, x ∉ p :: r :: Sb → h4 x = some o → h7 x = some o := fun x o hx e => by
    simp only [List.mem_cons, not_or] at hx
    have e5 := n5.ext _ _ e
    have eX : X x = some o := by rw [X1 x hx.2.2]; exact e5
    rw [← hh7, Hp.set_ne _ _ hx.1, Hp.set_ne _ _ (by rintro rfl; rw [hb6] at eX; cases eX)]
    exact eX
  have b6n : ∀ x o, x ∉ p :: r :: Sb → h4 x = some o → x ≠ b6 := fun x o hx e => by
    rintro rfl
    simp only [List.mem_cons, not_or] at hx
    have eX : X x = some o := by rw [X1 x hx.2.2]; exact n5.ext _ _ e
    rw [hb6] at eX; cases eX
  have st7 : Stp R4 h4 R4 h7 (p :: r :: Sb) [p, r, b6] := by
    refine ⟨.refl _, k7, fun x o hx e => ?_, fun x o _ _ e => e, ⟨fun x o e => ?_, fun x hx => ?_, fun x hx => ?_⟩⟩
    · have := b6n x o hx e
      simp only [List.mem_cons, not_or] at hx ⊢
      exact ⟨hx.1, hx.2.1, this, by simp⟩
    · refine k7 x o (fun hx => ?_) (ow.sub x o e)
      rw [ow.dis x hx] at e; cases e
    · simp only [List.mem_cons, List.not_mem_nil, or_false] at hx
      rcases hx with rfl | rfl | rfl
      · exact ow.dis _ (by simp)
      · exact ow.dis _ (by simp)
      · cases e : R4 x with
        | none => rfl
        | some o =>
          refine absurd rfl (b6n x o (fun hx => ?_) (ow.sub x o e))
          rw [ow.dis x hx] at e; cases e
    · simp only [List.mem_cons, List.not_mem_nil, or_false] at hx
      rcases hx with rfl | rfl | rfl
      · exact ⟨_, by rw [← hh7]; exact Hp.set_same ..⟩
      · exact ⟨_, by rw [← hh7, Hp.set_ne _ _ (Ne.symm hpr), Hp.set_ne _ _ nr]; exact hrX⟩
      · exact ⟨_, by rw [← hh7, Hp.set_ne _ _ (Ne.symm np)]; exact Hp.set_same ..⟩
  obtain ⟨R8, s8, r44⟩ := Stp.newN st7.own n8
  have key8 : BookAt R4 h7 p ts (bs ++ [⟨key, nonce, b, t⟩]) [p, r, b6] := by
    refine ⟨r, .slice (some ⟨b6, 0, none⟩) (bs.length + 1) c6, es, c, [b6], ?_, ?_, hT, .inr ⟨b6, c6, f6, xs ++ [v28, v30, v32, v34], ?_, ?_, ?_, hf6, BoxCells.snoc ⟨q28, q30, q32, r34⟩ hxs, rfl⟩, rfl, hpr, by simpa using np, by simpa using nr, fun bx hbx => ?_⟩
    · rw [← hh7]; exact Hp.set_same ..
    · rw [← hh7, Hp.set_ne _ _ (Ne.symm hpr), Hp.set_ne _ _ nr]; exact hrX
    · rw [List.length_append]; rfl
    · rw [List.length_append]; exact hc6
    · rw [← hh7, Hp.set_ne _ _ (Ne.symm np)]; exact Hp.set_same ..
    · rcases List.mem_append.1 hbx with q | q
      · exact hby bx q
      · rw [List.mem_singleton.1 q]; exact ⟨bk, bn, bb, bt⟩
  refine k v44 R8 h8 [p, r, b6] ((st4.trans st7).trans s8) (key8.keep s8.ext fun x hx => ?_) r44
  obtain ⟨o, e⟩ := st7.own.kn x hx
  rw [e, n8.ext _ _ e]
theorem T_book_Open {R : Hp} {p : Nat} {ts : List (List Nat)} {bs : List Box} {S : List Nat} {vk vn vb vx : Value} {key nonce b x : List Nat} (w : Own R h S) (hB : BookAt R h p ts bs S) (nb : bs.length ≤ 1000000)
    (hk : Rn R .u8 vk key) (hn : Rn R .u8 vn nonce) (hb : Rn R .u8 vb b) (hx : Rn R .u8 vx x) (bk : Bytes key) (bn : Bytes nonce) (bb : Bytes b) (bx : Bytes x) (lx : x.length ≤ 1099511627776) (lbs : ∀ s ∈ bs, s.text.length ≤ 1099511627776)
    (k : ∀ v R' h', Stp R h R' h' S S → BookAt R' h' p ts bs S → (if (crOpen (.book ts bs) key nonce b x).1 = 0 then Rn R' .u8 v (crOpen (.book ts bs) key nonce b x).2 else v = .slice none 0 0) → K (.tuple #[v, .int .i64 (((crOpen (.book ts bs) key nonce b x).1 : Nat) : Int)]) h') :
    Cn P n_crypt_book_Open #[.pointer (some ⟨p, 0, none⟩), vk, vn, vb, vx] h K := by
  refine F_crypt_book_Open ?_
  unfold s_crypt_book_Open
  refine T_crypt_may (w.rn hk) (w.rn hn) ?_
  by_cases hm : may key nonce
  case neg =>
    have e : crOpen (.book ts bs) key nonce b x = (1, []) := by unfold crOpen; rw [if_neg hm]
    rw [e] at k
    simp only [hm, decide_false, GL, RL, Bool.not_false, if_true]
    exact k _ R h (.refl w) hB rfl
  have eo : crOpen (.book ts bs) key nonce b x = bookOpen bs key nonce b x := by unfold crOpen; rw [if_pos hm]
  rw [eo] at k
  simp (disch := omega) only [hm, decide_true, GL, RL, Bool.not_true, Bool.false_eq_true, if_false]
  obtain ⟨ax, cx, rfl, hcx⟩ := hx.shape
  have e16 : decide (((x.length : Nat) : Int) < 16) = decide (x.length < 16) := lt_dec _ 16
  simp (disch := omega) only [GL, RL, e16]
  by_cases h16 : x.length < 16
  · have e : bookOpen bs key nonce b x = (8, []) := by unfold bookOpen; rw [if_pos h16]
    rw [e] at k
    simp only [h16, decide_true, if_true]
    exact k _ R h (.refl w) hB rfl
  simp only [h16, decide_false, Bool.false_eq_true, if_false]
  refine T_word_GetBig64 (w.rn hx) bx (by omega) ?_
  have eb : bookOpen bs key nonce b x = match bs[bval (x.take 8)]? with
    | none => (7, [])
    | some s => if s.key = key ∧ s.nonce = nonce ∧ s.beside = b ∧ boxB (bval (x.take 8)) (s.text.length + 16) = x then (0, s.text) else (7, []) := by unfold bookOpen; rw [if_neg h16] <;> rfl
  rw [eb] at k
  have hnlt := bval_take_lt bx 8
  generalize bval (x.take 8) = n at k hnlt
  have p8 : (256 : Nat) ^ 8 = 18446744073709551616 := rfl
  rw [p8] at hnlt
  have hB0 := hB
  obtain ⟨r, bxv, es, c, Sb, hp, hr, hT, hX, rfl, hpr, hpS, hrS, hby⟩ := hB
  have c1 : h.cell ⟨p, 1, none⟩ = some bxv := by rw [cell_row hp]; rfl
  have eg : decide (((bs.length : Nat) : Int) ≤ ((n : Nat) : Int)) = decide (bs.length ≤ n) := by rw [decide_eq_decide]; omega
  simp (disch := omega) only [GL, RL, bf1, c1, lenBoxes hX, wu64i, eg]
  by_cases hge : bs.length ≤ n
  · rw [List.getElem?_eq_none hge] at k
    simp only [hge, decide_true, if_true]
    exact k _ R h (.refl w) hB0 rfl
  simp only [hge, decide_false, Bool.false_eq_true, if_false]
  have hlt : n < bs.length := by omega
  rw [List.getElem?_eq_getElem hlt] at k
  have hs : bs[n]? = some bs[n] := List.getElem?_eq_getElem hlt
  have bys := hby bs[n] (List.getElem_mem hlt)
  have lbt := lbs bs[n] (List.getElem_mem hlt)
  generalize bs[n] = s at k hs bys lbt
  rcases hX with ⟨_, rfl, _⟩ | ⟨bb', cc, ff, xs, rfl, hle, hbb, hfz, hxs, rfl⟩
  · simp at hlt
  obtain ⟨wk, wn, wb, wt, hcells, rk, rn, rb, rt⟩ := hxs.get n hs
  rw [q_idxS u_Sl_crypt_sealed sz_sealed ⟨bb', 0, none⟩ bs.length cc .u64 n (by omega) (by omega), Int.toNat_natCast, add_off, Nat.zero_add]
  rw [q_ldAgg (ys := [wk, wn, wb, wt]) u_crypt_sealed rfl sz_sealed (b := bb') (o := n * 4) (fun j y e => by rw [cell_row hbb]; exact hcells j y e)]
  refine aw_allocL nil4 zr_sealed rfl fun r13 hr13 => ?_
  have hflat : ∀ y ∈ [wk, wn, wb, wt], flat y = true := by
    intro y hy
    simp only [List.mem_cons, List.not_mem_nil, or_false] at hy
    rcases hy with rfl | rfl | rfl | rfl
    · exact rn_flat rk
    · exact rn_flat rn
    · exact rn_flat rb
    · exact rn_flat rt
  refine aw_storeRow (ys := [wk, wn, wb, wt]) sz_sealed (Hp.set_same ..) rfl hflat (fun i _ => by simp) ?_
  rw [Hp.set_set]
  have s0 := Stp.block (.row t_crypt_sealed [wk, wn, wb, wt] 4 (some (0, 0))) w hr13
  have x0 : Hp.ext h (h.set r13 (.row t_crypt_sealed [wk, wn, wb, wt] 4 (some (0, 0)))) := ext_set _ hr13
  have hM : (h.set r13 (.row t_crypt_sealed [wk, wn, wb, wt] 4 (some (0, 0)))) r13 = some (.row t_crypt_sealed [wk, wn, wb, wt] 4 (some (0, 0))) := Hp.set_same ..
  generalize h.set r13 (.row t_crypt_sealed [wk, wn, wb, wt] 4 (some (0, 0))) = M at s0 x0 hM
  generalize R.set r13 (.row t_crypt_sealed [wk, wn, wb, wt] 4 (some (0, 0))) = R0 at s0
  have d0 : M.cell ⟨r13, 0, none⟩ = some wk := by rw [cell_row hM]; rfl
  have d1 : M.cell ⟨r13, 1, none⟩ = some wn := by rw [cell_row hM]; rfl
  have d2 : M.cell ⟨r13, 2, none⟩ = some wb := by rw [cell_row hM]; rfl
  have d3 : M.cell ⟨r13, 3, none⟩ = some wt := by rw [cell_row hM]; rfl
  have up : ∀ {v : Value} {l : List Nat}, Rn R .u8 v l → Rn M .u8 v l := fun r => s0.own.rn (r.mono s0.ext.cle)
  have kB : ∀ R' h', Hp.ext R R' → Hp.ext h h' → BookAt R' h' p ts bs (p :: r :: [bb']) := fun R' h' xR xh => hB0.keep xR fun x hx => by
    obtain ⟨o, e⟩ := w.kn x hx
    rw [e, xh _ _ e]
  have fin7 : ∀ R' h', Stp R0 M R' h' (p :: r :: [bb']) (p :: r :: [bb']) → Hp.ext M h' → ¬ (s.key = key ∧ s.nonce = nonce ∧ s.beside = b ∧ boxB n (s.text.length + 16) = x) → K (.tuple #[.slice none 0 0, .int .i64 7]) h' := fun R' h' st xt hne => by
    dsimp only at k
    simp only [if_neg hne] at k
    exact k _ R' h' (s0.trans st) (kB R' h' (s0.ext.trans st.ext) (x0.trans xt)) rfl
  simp (disch := omega) only [GL, RL, sf0, sf1, sf2, sf3, d0]
  refine T_bytes_Equal (up rk) (up hk) bys.1 bk ?_
  by_cases g1 : s.key = key
  case neg =>
    simp only [g1, decide_false, GL, RL, Bool.not_false, Bool.true_eq_false, if_false, if_true]
    exact fin7 _ _ (.refl s0.own) (.refl _) (fun q => g1 q.1)
  simp (disch := omega) only [g1, decide_true, GL, RL, Bool.not_true, if_true, sf1, d1]
  refine T_bytes_Equal (up rn) (up hn) bys.2.1 bn ?_
  by_cases g2 : s.nonce = nonce
  case neg =>
    simp only [g2, decide_false, GL, RL, Bool.not_false, Bool.true_eq_false, if_false, if_true]
    exact fin7 _ _ (.refl s0.own) (.refl _) (fun q => g2 q.2.1)
  simp (disch := omega) only [g2, decide_true, GL, RL, Bool.not_true, if_true, sf2, d2]
  refine T_bytes_Equal (up rb) (up hb) bys.2.2.1 bb ?_
  by_cases g3 : s.beside = b
  case neg =>
    simp only [g3, decide_false, GL, RL, Bool.not_false, Bool.true_eq_false, if_false, if_true]
    exact fin7 _ _ (.refl s0.own) (.refl _) (fun q => g3 q.2.2.1)
  obtain ⟨at', ct, rfl, hct⟩ := rt.shape
  have el : ((s.text.length : Nat) : Int) + 16 = ((s.text.length + 16 : Nat) : Int) := by omega
  simp (disch := omega) only [g3, decide_true, GL, RL, Bool.not_true, if_true, sf3, d3, wi64, el]
  refine T_bytesOf n (s.text.length + 16) (by omega) (by omega) fun v66 h2 n2 => ?_
  obtain ⟨R2, s2, _⟩ := Stp.newN s0.own n2
  refine T_bytes_Equal n2.rn ((up hx).mono n2.cle) (boxB_bytes _ _) bx ?_
  by_cases g4 : boxB n (s.text.length + 16) = x
  case neg =>
    simp only [g4, decide_false, GL, RL, Bool.not_false, if_true]
    exact fin7 _ _ s2 n2.ext (fun q => g4 q.2.2.2)
  simp only [g4, decide_true, GL, RL, Bool.not_true, Bool.false_eq_true, if_false]
  have d3' := n2.cle _ _ d3
  simp (disch := omega) only [GL, RL, sf3, d3']
  refine T_bytes_Clone ((up rt).mono n2.cle) (by omega) fun v73 h3 n3 => ?_
  obtain ⟨R3, s3, r3⟩ := Stp.newN s2.own n3
  dsimp only at k
  simp only [if_pos (show s.key = key ∧ s.nonce = nonce ∧ s.beside = b ∧ boxB n (s.text.length + 16) = x from ⟨g1, g2, g3, g4⟩)] at k
  exact k _ R3 h3 ((s0.trans s2).trans s3) (kB R3 h3 ((s0.trans s2).trans s3).ext ((x0.trans n2.ext).trans n3.ext)) (by simpa using r3)
end
end Go.Proofs.Ytnecdbclhdbaoaa
set_option linter.unusedSimpArgs false
set_option linter.unusedVariables false
set_option maxRecDepth 100000
set_option maxHeartbeats 1000000
namespace Go.Proofs.Ytnecdbclhdbaoaa
open Go Go.SL Go.Pure
/-- A crypt, in memory. -/
def CrAt (R h : Hp) (vc : Value) (c : Cr) (S : List Nat) : Prop :=
  match c with
  | .real => vc = .iface t_crypt_actual (.agg #[]) ∧ S = []
  | .book ts bs => ∃ p, vc = .iface t_Pt_crypt_book (.pointer (some ⟨p, 0, none⟩)) ∧ BookAt R h p ts bs S
def few (n : Nat) (c : Cr) : Prop :=
  match c with
  | .real => True
  | .book _ bs => bs.length ≤ n ∧ ∀ s ∈ bs, s.text.length ≤ 1099511627776
theorem few.mono {n m : Nat} {c : Cr} (f : few n c) (h : n ≤ m) : few m c := by
  cases c with
  | real => trivial
  | book ts bs => exact ⟨Nat.le_trans f.1 h, f.2⟩
theorem few.next {n : Nat} {c : Cr} (f : few n c) (key nonce b t : List Nat) (lt : t.length ≤ 1099511627776) : few (n + 1) (crSeal c key nonce b t).2.2 := by
  cases c with
  | real => unfold crSeal; dsimp only; split <;> trivial
  | book ts bs =>
    unfold crSeal
    dsimp only
    split
    · refine ⟨by rw [List.length_append]; have := f.1; simp; omega, fun s hs => ?_⟩
      rcases List.mem_append.1 hs with q | q
      · exact f.2 s q
      · rw [List.mem_singleton.1 q]; exact lt
    · exact f.mono (Nat.le_succ n)
theorem CrAt.keep {R R' h h' : Hp} {vc : Value} {c : Cr} {S : List Nat} (a : CrAt R h vc c S) (e : Hp.ext R R') (k : ∀ b, b ∈ S → h' b = h b) : CrAt R' h' vc c S := by
  cases c with
  | real => exact a
  | book ts bs => exact let ⟨p, hp, hB⟩ := a; ⟨p, hp, hB.keep e k⟩
theorem CrAt.shape {R h : Hp} {vc : Value} {c : Cr} {S : List Nat} (a : CrAt R h vc c S) : ∃ t v, vc = .iface t v := by
  cases c with
  | real => exact ⟨_, _, a.1⟩
  | book ts bs => exact let ⟨p, hp, _⟩ := a; ⟨_, _, hp⟩
theorem crSeal_bytes {c : Cr} {key nonce b t : List Nat} (bt : Bytes t) : Bytes (crSeal c key nonce b t).2.1 := by
  cases c with
  | real =>
    unfold crSeal; dsimp only; split
    · exact sealL_bytes _ _ _ bt
    · intro x hx; cases hx
  | book ts bs =>
    unfold crSeal; dsimp only; split
    · exact boxB_bytes _ _
    · intro x hx; cases hx
theorem crSeal_len {c : Cr} {key nonce b t : List Nat} (h : (crSeal c key nonce b t).1 = 0) : (crSeal c key nonce b t).2.1.length = t.length + 16 := by
  cases c with
  | real =>
    unfold crSeal at h ⊢; dsimp only at h ⊢; split at h
    · rename_i hm; rw [if_pos hm]; exact sealL_len _ _ _ _
    · cases h
  | book ts bs =>
    unfold crSeal at h ⊢; dsimp only at h ⊢; split at h
    · rename_i hm; rw [if_pos hm]; exact boxB_len _ _
    · cases h
theorem crOpen_real (key nonce b x : List Nat) : (crOpen .real key nonce b x).1 = openC key nonce b x ∧ (openC key nonce b x = 0 → (crOpen .real key nonce b x).2 = (openL key nonce b x).2) := by
  by_cases hm : may key nonce
  · have hm' : key.length = 32 ∧ nonce.length = 12 := hm
    simp only [crOpen, if_pos hm, openC, if_pos hm', implies_true, and_self]
  · have hm' : ¬ (key.length = 32 ∧ nonce.length = 12) := hm
    simp only [crOpen, if_neg hm, openC, if_neg hm', Nat.one_ne_zero, false_implies, and_self]
section
variable {h : Hp} {K : Value → Hp → Prop}
theorem T_crSeal {R : Hp} {vc : Value} {c : Cr} {S : List Nat} {vk vn vb vt : Value} {key nonce b t : List Nat} (w : Own R h S) (hC : CrAt R h vc c S) (hf : few 1000000 c)
    (hk : Rn R .u8 vk key) (hn : Rn R .u8 vn nonce) (hb : Rn R .u8 vb b) (ht : Rn R .u8 vt t) (bk : Bytes key) (bn : Bytes nonce) (bb : Bytes b) (bt : Bytes t)
    (lb : b.length ≤ 1099511627776) (lt : t.length ≤ 1099511627776)
    (k : ∀ v R' h' S', Stp R h R' h' S S' → CrAt R' h' vc (crSeal c key nonce b t).2.2 S' → (if (crSeal c key nonce b t).1 = 0 then Rn R' .u8 v (crSeal c key nonce b t).2.1 else v = .slice none 0 0) → K (.tuple #[v, .int .i64 (((crSeal c key nonce b t).1 : Nat) : Int)]) h') :
    aw P (callMethod vc "Seal" #[vk, vn, vb, vt]) (nextP P K) h := by
  cases c with
  | real =>
    obtain ⟨rfl, rfl⟩ := hC
    refine aw_method (g := n_crypt_actual_Seal) (r := .agg #[]) (by kernel_rfl) ?_
    show Cn P n_crypt_actual_Seal #[.agg #[], vk, vn, vb, vt] h K
    refine F_crypt_actual_Seal ?_
    unfold s_crypt_actual_Seal
    refine aw_box fun r hr => ?_
    have s0 := Stp.block (.row t_crypt_actual (Value.agg #[]).cells.toList (Value.agg #[]).cells.size (some (0, 0))) w hr
    generalize h.set r (.row t_crypt_actual (Value.agg #[]).cells.toList (Value.agg #[]).cells.size (some (0, 0))) = M at s0
    generalize R.set r (.row t_crypt_actual (Value.agg #[]).cells.toList (Value.agg #[]).cells.size (some (0, 0))) = R0 at s0
    have up : ∀ {v : Value} {l : List Nat}, Rn R .u8 v l → Rn M .u8 v l := fun r => s0.own.rn (r.mono s0.ext.cle)
    refine T_Seal (up hk) (up hn) (up hb) (up ht) bk bn bb bt lb lt fun v h1 n1 => ?_
    rw [ext0, ext1]
    by_cases hm : key.length = 32 ∧ nonce.length = 12
    · have hm' : may key nonce := hm
      simp only [if_pos hm] at n1 ⊢
      simp only [crSeal, if_pos hm'] at k
      obtain ⟨R1, s1, r1⟩ := Stp.newN s0.own n1
      exact k v R1 h1 [] (s0.trans s1) ⟨rfl, rfl⟩ (by simpa using r1)
    · have hm' : ¬ may key nonce := hm
      simp only [if_neg hm] at n1 ⊢
      simp only [crSeal, if_neg hm'] at k
      obtain ⟨rfl, rfl⟩ := n1
      exact k _ R0 h1 [] s0 ⟨rfl, rfl⟩ (by simp)
  | book ts bs =>
    obtain ⟨p, rfl, hB⟩ := hC
    refine aw_method (g := n_crypt_book_Seal) (r := .pointer (some ⟨p, 0, none⟩)) (by kernel_rfl) ?_
    show Cn P n_crypt_book_Seal #[.pointer (some ⟨p, 0, none⟩), vk, vn, vb, vt] h K
    refine T_book_Seal w hB hf.1 hk hn hb ht bk bn bb bt lb lt fun v R' h' S' st hB' hv => ?_
    by_cases hm : may key nonce
    · simp only [if_pos hm] at hB' hv ⊢
      simp only [crSeal, if_pos hm] at k
      exact k v R' h' S' st ⟨p, rfl, hB'⟩ (by simpa using hv)
    · simp only [if_neg hm] at hB' hv ⊢
      simp only [crSeal, if_neg hm] at k
      exact k v R' h' S' st ⟨p, rfl, hB'⟩ (by simpa using hv)
theorem T_crOpen {R : Hp} {vc : Value} {c : Cr} {S : List Nat} {vk vn vb vx : Value} {key nonce b x : List Nat} (w : Own R h S) (hC : CrAt R h vc c S) (hf : few 1000000 c)
    (hk : Rn R .u8 vk key) (hn : Rn R .u8 vn nonce) (hb : Rn R .u8 vb b) (hx : Rn R .u8 vx x) (bk : Bytes key) (bn : Bytes nonce) (bb : Bytes b) (bx : Bytes x)
    (lb : b.length ≤ 1099511627776) (lx : x.length ≤ 1099511627776)
    (k : ∀ v R' h', Stp R h R' h' S S → CrAt R' h' vc c S → (if (crOpen c key nonce b x).1 = 0 then Rn R' .u8 v (crOpen c key nonce b x).2 else v = .slice none 0 0) → K (.tuple #[v, .int .i64 (((crOpen c key nonce b x).1 : Nat) : Int)]) h') :
    aw P (callMethod vc "Open" #[vk, vn, vb, vx]) (nextP P K) h := by
  cases c with
  | real =>
    obtain ⟨rfl, rfl⟩ := hC
    refine aw_method (g := n_crypt_actual_Open) (r := .agg #[]) (by kernel_rfl) ?_
    show Cn P n_crypt_actual_Open #[.agg #[], vk, vn, vb, vx] h K
    refine F_crypt_actual_Open ?_
    unfold s_crypt_actual_Open
    refine aw_box fun r hr => ?_
    have s0 := Stp.block (.row t_crypt_actual (Value.agg #[]).cells.toList (Value.agg #[]).cells.size (some (0, 0))) w hr
    generalize h.set r (.row t_crypt_actual (Value.agg #[]).cells.toList (Value.agg #[]).cells.size (some (0, 0))) = M at s0
    generalize R.set r (.row t_crypt_actual (Value.agg #[]).cells.toList (Value.agg #[]).cells.size (some (0, 0))) = R0 at s0
    have up : ∀ {v : Value} {l : List Nat}, Rn R .u8 v l → Rn M .u8 v l := fun r => s0.own.rn (r.mono s0.ext.cle)
    refine T_Open (up hk) (up hn) (up hb) (up hx) bk bn bb bx lb lx fun v h1 n1 => ?_
    rw [ext0, ext1]
    obtain ⟨eO, eO2⟩ := crOpen_real key nonce b x
    rw [eO] at k
    by_cases h0 : openC key nonce b x = 0
    · simp only [if_pos h0] at n1 k
      rw [eO2 h0] at k
      obtain ⟨R1, s1, r1⟩ := Stp.newN s0.own n1
      exact k v R1 h1 (s0.trans s1) ⟨rfl, rfl⟩ r1
    · simp only [if_neg h0] at n1 k
      obtain ⟨rfl, rfl⟩ := n1
      exact k _ R0 h1 s0 ⟨rfl, rfl⟩ rfl
  | book ts bs =>
    obtain ⟨p, rfl, hB⟩ := hC
    refine aw_method (g := n_crypt_book_Open) (r := .pointer (some ⟨p, 0, none⟩)) (by kernel_rfl) ?_
    show Cn P n_crypt_book_Open #[.pointer (some ⟨p, 0, none⟩), vk, vn, vb, vx] h K
    exact T_book_Open w hB hf.1 hk hn hb hx bk bn bb bx lx hf.2 fun v R' h' st hB' hv => k v R' h' st ⟨p, rfl, hB'⟩ hv
theorem T_Real (k : K (.iface t_crypt_actual (.agg #[])) h) : Cn P n_crypt_Real #[] h K := by
  refine F_crypt_Real ?_
  unfold s_crypt_Real
  refine (q_of (v := .agg #[]) (by kernel_rfl) _).mpr ?_
  refine (q_mkI u_crypt_actual rfl _).mpr ?_
  exact k
end
end Go.Proofs.Ytnecdbclhdbaoaa
set_option linter.unusedSimpArgs false
set_option linter.unusedVariables false
set_option maxRecDepth 100000
namespace Go.Pure
def okAsk (key pre : List Nat) (size : Int) : Prop := key.length = 32 ∧ pre.length = 7 ∧ 1 ≤ size ∧ size ≤ 65536
instance (key pre : List Nat) (size : Int) : Decidable (okAsk key pre size) := by unfold okAsk; infer_instance
end Go.Pure
set_option linter.unusedSimpArgs false
set_option linter.unusedVariables false
set_option maxRecDepth 100000
set_option maxHeartbeats 1000000
namespace Go.Proofs.Ytnecdbclhdbaoaa
open Go Go.SL Go.Pure
/-- A row of the call's own that may be appended to, or nil; the block that it lies in. -/
def OutAt (t s : Nat) (h : Hp) (v : Value) (xs : List Value) (n : Nat) (So : List Nat) : Prop :=
  (v = .slice none 0 0 ∧ n = 0 ∧ xs = [] ∧ So = []) ∨
  ∃ b c f, h b = some (.row t xs (c * s) (some f)) ∧ v = .slice (some ⟨b, 0, none⟩) n c ∧ n ≤ c ∧ (∀ i, i < c * s → ¬ (f.1 ≤ i ∧ i < f.2)) ∧ So = [b] ∧ xs.length = n * s
theorem OutAt.of {t s : Nat} {h h' : Hp} {v : Value} {xs : List Value} {n : Nat} (w : New h t s v h' xs n) : ∃ So, OutAt t s h' v xs n So ∧ (∀ x, x ∈ So → h x = none) := by
  rcases w.2 with ⟨rfl, rfl, rfl⟩ | ⟨b, c, f, hb, hc, rfl, rfl, hf⟩
  · exact ⟨[], .inl ⟨rfl, rfl, List.eq_nil_of_length_eq_zero (by have := w.1; omega), rfl⟩, fun x hx => by cases hx⟩
  · exact ⟨[b], .inr ⟨b, c, f, Hp.set_same .., rfl, hc, hf, rfl, w.1⟩, fun x hx => by rw [List.mem_singleton.1 hx]; exact hb⟩
theorem OutAt.new {t s : Nat} {h : Hp} {v : Value} {xs : List Value} {n : Nat} {So : List Nat} (a : OutAt t s h v xs n So) : ∃ X, New X t s v h xs n ∧ (∀ x, x ∉ So → X x = h x) ∧ (∀ x, x ∈ So → X x = none) := by
  rcases a with ⟨rfl, rfl, rfl, rfl⟩ | ⟨b, c, f, hb, rfl, hc, hf, rfl, hl⟩
  · exact ⟨h, ⟨by simp, .inl ⟨rfl, rfl, rfl⟩⟩, fun _ _ => rfl, fun x hx => by cases hx⟩
  · refine ⟨h.del b, New.at hb hl hc hf, fun x hx => Hp.del_ne _ (by simpa using hx), fun x hx => by rw [List.mem_singleton.1 hx]; exact del_at _ _⟩
theorem OutAt.keep {t s : Nat} {h h' : Hp} {v : Value} {xs : List Value} {n : Nat} {So : List Nat} (a : OutAt t s h v xs n So) (k : ∀ x, x ∈ So → h' x = h x) : OutAt t s h' v xs n So := by
  rcases a with a | ⟨b, c, f, hb, hv, hc, hf, hS, hl⟩
  · exact .inl a
  · exact .inr ⟨b, c, f, by rw [k b (by simp [hS])]; exact hb, hv, hc, hf, hS, hl⟩
theorem OutAt.rds {t s : Nat} {h : Hp} {v : Value} {xs : List Value} {n : Nat} {So : List Nat} (a : OutAt t s h v xs n So) : Rds h s v xs n := by
  obtain ⟨X, w, _⟩ := a.new
  exact w.rds
theorem aw_appendO {t2 T ts e e2 s B n m : Nat} {h : Hp} {v w : Value} {xs ys : List Value} {z : Value} {So : List Nat} {K : Value → Hp → Prop}
    (ht : P.underlying ts = some (.slice e)) (ht2 : P.underlying t2 = some (.slice e2)) (hi : (P.info? e).map (fun i => (i.zero, i.size, i.bytes)) = some (some z, s, B)) (hzs : z.cells.size = s) (hB1 : 1 ≤ B) (ho : OutAt e s h v xs n So) (hr : Rds h s w ys m) (hfl : ∀ y ∈ ys, flat y = true)
    (hB : (2 * (n + m) + 768) * B ≤ 2 ^ 48)
    (k : ∀ v' h' So', OutAt e s h' v' (xs ++ ys) (n + m) So' → (∀ x o, x ∉ So → h x = some o → h' x = some o) → (∀ x o, x ∉ So → h x = some o → x ∉ So') → K v' h') : aw P (Builtin.append_ #[ts, t2] T #[v, w]) K h := by
  obtain ⟨X, nX, X1, X2⟩ := ho.new
  refine aw_append ht ht2 hi hzs hB1 nX hr hfl hB (.refl _) fun v' h' n' => ?_
  obtain ⟨So', o', f'⟩ := OutAt.of n'
  refine k v' h' So' o' (fun x o hx e => ?_) (fun x o hx e q => ?_)
  · exact n'.ext _ _ (by rw [X1 x hx]; exact e)
  · have := f' x q
    rw [X1 x hx, e] at this
    cases this
section
variable {h : Hp} {K : Value → Hp → Prop}
end
end Go.Proofs.Ytnecdbclhdbaoaa
