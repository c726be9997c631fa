/- What the stream cipher's functions come to. Conditions: each names its own. -/
import Derived.Test.YtnecdbclhdbaoaaSWb
import Derived.Test.YtnecdbclhdbaoaaSPb
set_option linter.unusedSimpArgs false
set_option linter.unusedVariables false
set_option maxRecDepth 100000
namespace Go.Proofs.Ytnecdbclhdbaoaa
open Go Go.SL Go.Pure

theorem T_rot {h : Hp} {K : Value → Hp → Prop} (x n : Nat) (hx : x < 4294967296) (hn : 0 < n) (hn2 : n < 32) (k : K (.int .u32 ((rotl x n : Nat) : Int)) h) : Cn P n_bits_RotateLeft32 #[.int .u32 x, .int .i64 n] h K := by
  refine F_bits_RotateLeft32 ?_
  unfold s_bits_RotateLeft32
  have e0 : iand .u64 (n : Int) 31 = (n : Int) := by
    rw [and64 (by omega) (by omega) (by omega) (by omega)]
    have : n &&& 31 = n := by
      have := Nat.and_two_pow_sub_one_eq_mod n 5
      simp only [Nat.reducePow, Nat.add_one_sub_one, Nat.reduceSub] at this
      rw [this]; omega
    rw [Int.toNat_natCast]
    show ((n &&& 31 : Nat) : Int) = n
    rw [this]
  simp (disch := omega) only [GL, RL, wu64i, e0]
  have e1 : min n IntKind.u32.bits = n := by simp only [IntKind.bits]; omega
  have e2 : min ((32 : Int) - n).toNat IntKind.u32.bits = 32 - n := by simp only [IntKind.bits]; omega
  have h1 : x / 2 ^ (32 - n) ≤ x := Nat.div_le_self _ _
  rw [e1, e2, mulp, fdivp, wu32]
  unfold rotl at k
  generalize x / 2 ^ (32 - n) = y at h1 k ⊢
  rw [or32 (by omega) (by omega) (by omega) (by omega)]
  exact k

theorem T_half {h : Hp} {K : Value → Hp → Prop} {g e cap : Nat} {f : Nat × Nat} (S : List Nat) (a b d n : Nat) (hS : S.length = 16) (hw : W32 S) (ha : a < 16) (hb : b < 16) (hd : d < 16) (hn : 0 < n) (hn2 : n < 32)
    (hg : h g = some (.row e (nv .u32 S) cap (some f))) (hf : ∀ i, i < 16 → ¬ (f.1 ≤ i ∧ i < f.2)) (k : K (.tuple #[]) (h.set g (.row e (nv .u32 (halfL S a b d n)) cap (some f)))) :
    Cn P n_chacha_state_half #[.pointer (some ⟨g, 0, none⟩), .int .i64 a, .int .i64 b, .int .i64 d, .int .i64 n] h K := by
  refine F_chacha_state_half ?_
  unfold s_chacha_state_half
  have c1 : h.cell ⟨g, a, none⟩ = some (.int .u32 ((S.getD a 0 : Nat) : Int)) := by rw [cell_row hg, nv_getD _ _ _ (by omega)]
  have c2 : h.cell ⟨g, b, none⟩ = some (.int .u32 ((S.getD b 0 : Nat) : Int)) := by rw [cell_row hg, nv_getD _ _ _ (by omega)]
  simp (disch := omega) only [GL, RL, c1, c2]
  rw [← Int.natCast_add, wu32]
  have hl : (nv .u32 S).length = 16 := by rw [nv_len]; exact hS
  refine aw_store z_uint32 rfl (put_row hg (by omega) (hf _ (by omega)) _) ?_
  rw [nv_set]
  obtain ⟨S1, hS1⟩ : ∃ S1, S.set a ((S.getD a 0 + S.getD b 0) % 4294967296) = S1 := ⟨_, rfl⟩
  have hl1 : S1.length = 16 := by rw [← hS1, List.length_set]; exact hS
  have hw1 : W32 S1 := by rw [← hS1]; exact hw.set _ (Nat.mod_lt _ (by decide))
  rw [hS1]
  obtain ⟨h1, hh1⟩ : ∃ h1, h.set g (.row e (nv .u32 S1) cap (some f)) = h1 := ⟨_, rfl⟩
  have hg1 : h1 g = some (.row e (nv .u32 S1) cap (some f)) := by rw [← hh1]; exact Hp.set_same ..
  rw [hh1]
  have c3 : h1.cell ⟨g, d, none⟩ = some (.int .u32 ((S1.getD d 0 : Nat) : Int)) := by rw [cell_row hg1, nv_getD _ _ _ (by omega)]
  have c4 : h1.cell ⟨g, a, none⟩ = some (.int .u32 ((S1.getD a 0 : Nat) : Int)) := by rw [cell_row hg1, nv_getD _ _ _ (by omega)]
  simp (disch := omega) only [GL, RL, c3, c4]
  have b3 := hw1.getD d
  have b4 := hw1.getD a
  rw [xor32 (by omega) (by omega) (by omega) (by omega), Int.toNat_natCast, Int.toNat_natCast]
  have b5 : S1.getD d 0 ^^^ S1.getD a 0 < 4294967296 := Nat.xor_lt_two_pow (n := 32) b3 b4
  refine T_rot _ n b5 hn hn2 ?_
  have hl2 : (nv .u32 S1).length = 16 := by rw [nv_len]; exact hl1
  refine aw_store z_uint32 rfl (put_row hg1 (by omega) (hf _ (by omega)) _) ?_
  rw [nv_set, ← hh1, Hp.set_set]
  have : halfL S a b d n = S1.set d (rotl (S1.getD d 0 ^^^ S1.getD a 0) n) := by unfold halfL; rw [hS1]
  rw [← this]
  exact k

theorem T_quarter {h : Hp} {K : Value → Hp → Prop} {g e cap : Nat} {f : Nat × Nat} (S : List Nat) (a b c d : Nat) (hS : S.length = 16) (hw : W32 S) (ha : a < 16) (hb : b < 16) (hc : c < 16) (hd : d < 16)
    (hg : h g = some (.row e (nv .u32 S) cap (some f))) (hf : ∀ i, i < 16 → ¬ (f.1 ≤ i ∧ i < f.2)) (k : K (.tuple #[]) (h.set g (.row e (nv .u32 (quarterL S a b c d)) cap (some f)))) :
    Cn P n_chacha_state_quarter #[.pointer (some ⟨g, 0, none⟩), .agg #[.int .i64 a, .int .i64 b, .int .i64 c, .int .i64 d]] h K := by
  refine Cn_wk (F_chacha_state_quarter ?_)
  unfold s_chacha_state_quarter
  refine aw_box fun r hr => ?_
  have hne : r ≠ g := by rintro rfl; rw [hr] at hg; cases hg
  obtain ⟨O, hO⟩ : ∃ O, AObj.row t_4_int (Value.agg #[.int .i64 (a : Int), .int .i64 (b : Int), .int .i64 (c : Int), .int .i64 (d : Int)]).cells.toList (Value.agg #[.int .i64 (a : Int), .int .i64 (b : Int), .int .i64 (c : Int), .int .i64 (d : Int)]).cells.size (some (0, 0)) = O := ⟨_, rfl⟩
  have cells : ∀ (S' : List Nat), (((h.set r O).set g (.row e (nv .u32 S') cap (some f))).cell ⟨r, 0, none⟩ = some (.int .i64 (a : Int))) ∧ (((h.set r O).set g (.row e (nv .u32 S') cap (some f))).cell ⟨r, 1, none⟩ = some (.int .i64 (b : Int))) ∧
      (((h.set r O).set g (.row e (nv .u32 S') cap (some f))).cell ⟨r, 2, none⟩ = some (.int .i64 (c : Int))) ∧ (((h.set r O).set g (.row e (nv .u32 S') cap (some f))).cell ⟨r, 3, none⟩ = some (.int .i64 (d : Int))) := by
    intro S'
    have : ((h.set r O).set g (.row e (nv .u32 S') cap (some f))) r = some O := by rw [Hp.set_ne _ _ hne, Hp.set_same]
    rw [← hO] at this ⊢
    exact ⟨by rw [cell_row this]; rfl, by rw [cell_row this]; rfl, by rw [cell_row this]; rfl, by rw [cell_row this]; rfl⟩
  have start : h.set r O = (h.set r O).set g (.row e (nv .u32 S) cap (some f)) := by
    funext j
    by_cases ej : j = g
    · subst ej; rw [Hp.set_same, Hp.set_ne _ _ (Ne.symm hne), hg]
    · rw [Hp.set_ne _ _ ej]
  have one : ∀ (S' : List Nat) (x y z n : Nat) (K' : Value → Hp → Prop), S'.length = 16 → W32 S' → x < 16 → y < 16 → z < 16 → 0 < n → n < 32 → K' (.tuple #[]) ((h.set r O).set g (.row e (nv .u32 (halfL S' x y z n)) cap (some f))) →
      Cn P n_chacha_state_half #[.pointer (some ⟨g, 0, none⟩), .int .i64 x, .int .i64 y, .int .i64 z, .int .i64 n] ((h.set r O).set g (.row e (nv .u32 S') cap (some f))) K' := by
    intro S' x y z n K' h1 h2 h3 h4 h5 h6 h7 q
    refine T_half S' x y z n h1 h2 h3 h4 h5 h6 h7 (Hp.set_same ..) hf ?_
    rw [Hp.set_set]
    exact q
  show q P (h.set r (AObj.row t_4_int (Value.agg #[.int .i64 (a : Int), .int .i64 (b : Int), .int .i64 (c : Int), .int .i64 (d : Int)]).cells.toList (Value.agg #[.int .i64 (a : Int), .int .i64 (b : Int), .int .i64 (c : Int), .int .i64 (d : Int)]).cells.size (some (0, 0)))) _ _
  rw [hO, start]
  obtain ⟨q0, q1, q2, q3⟩ := cells S
  simp (disch := omega) only [GL, RL, Int.reduceToNat, q0, q1, q2, q3]
  refine one S a b d 16 _ hS hw ha hb hd (by omega) (by omega) ?_
  obtain ⟨q0, q1, q2, q3⟩ := cells (halfL S a b d 16)
  simp (disch := omega) only [GL, RL, Int.reduceToNat, q0, q1, q2, q3]
  have l1 := halfL_len S a b d 16
  have w1 := halfL_w hw a b d 16
  refine one _ c d b 12 _ (by omega) w1 hc hd hb (by omega) (by omega) ?_
  obtain ⟨q0, q1, q2, q3⟩ := cells (halfL (halfL S a b d 16) c d b 12)
  simp (disch := omega) only [GL, RL, Int.reduceToNat, q0, q1, q2, q3]
  have l2 := halfL_len (halfL S a b d 16) c d b 12
  have w2 := halfL_w w1 c d b 12
  refine one _ a b d 8 _ (by omega) w2 ha hb hd (by omega) (by omega) ?_
  obtain ⟨q0, q1, q2, q3⟩ := cells (halfL (halfL (halfL S a b d 16) c d b 12) a b d 8)
  simp (disch := omega) only [GL, RL, Int.reduceToNat, q0, q1, q2, q3]
  have l3 := halfL_len (halfL (halfL S a b d 16) c d b 12) a b d 8
  have w3 := halfL_w w2 a b d 8
  refine one _ c d b 7 _ (by omega) w3 hc hd hb (by omega) (by omega) ?_
  exact ⟨_, le_set (le_fresh hr), k⟩

theorem set_end (A : List Nat) (m x : Nat) : (A ++ List.replicate (m + 1) 0).set A.length x = A ++ [x] ++ List.replicate m 0 := by
  rw [List.set_append_right _ _ (Nat.le_refl _), Nat.sub_self, List.replicate_succ, List.set_cons_zero, List.append_assoc]
  rfl
theorem zr_state : zr P t_chacha_state = some (.agg #[.int .u32 0, .int .u32 0, .int .u32 0, .int .u32 0, .int .u32 0, .int .u32 0, .int .u32 0, .int .u32 0, .int .u32 0, .int .u32 0, .int .u32 0, .int .u32 0, .int .u32 0, .int .u32 0, .int .u32 0, .int .u32 0]) := by kernel_rfl

theorem T_begin {h : Hp} {K : Value → Hp → Prop} {vk vn : Value} {key nonce : List Nat} (counter : Nat) (hc : counter < 4294967296) (hk : Rn h .u8 vk key) (hn : Rn h .u8 vn nonce) (bk : Bytes key) (bn : Bytes nonce) (lk : key.length = 32) (ln : nonce.length = 12)
    (k : K (.agg (nv .u32 (beginL key nonce counter)).toArray) h) : Cn P n_chacha_begin #[vk, vn, .int .u32 counter] h K := by
  refine Cn_wk (F_chacha_begin ?_)
  unfold s_chacha_begin
  refine aw_allocL (List.replicate 16 (Value.int .u32 0)) zr_state rfl fun r6 hr6 => ?_
  have eb : peek P (h.set r6 (.row t_chacha_state (List.replicate 16 (Value.int .u32 0)) 16 (some (0, 0)))) (Instr.build t_chacha_state #[(0, (Value.int .u32 1634760805)), (1, (Value.int .u32 857760878)), (2, (Value.int .u32 2036477234)), (3, (Value.int .u32 1797285236))]) =
      some (.agg #[.int .u32 1634760805, .int .u32 857760878, .int .u32 2036477234, .int .u32 1797285236, .int .u32 0, .int .u32 0, .int .u32 0, .int .u32 0, .int .u32 0, .int .u32 0, .int .u32 0, .int .u32 0, .int .u32 0, .int .u32 0, .int .u32 0, .int .u32 0]) := by kernel_rfl
  show q P (h.set r6 (.row t_chacha_state (List.replicate 16 (Value.int .u32 0)) 16 (some (0, 0)))) _ _
  rw [q_of eb]
  obtain ⟨O, hO⟩ : ∃ O, AObj.row t_chacha_state (List.replicate 16 (Value.int .u32 0)) (List.replicate 16 (Value.int .u32 0)).length (some (0, 0)) = O := ⟨_, rfl⟩
  rw [hO]
  refine aw_allocL (List.replicate 16 (Value.int .u32 0)) zr_state rfl fun r7 hr7 => ?_
  have hne : r7 ≠ r6 := by rintro rfl; rw [Hp.set_same] at hr7; cases hr7
  have hr7' : h r7 = none := by rwa [Hp.set_ne _ _ hne] at hr7
  refine aw_storeRow (ys := nv .u32 (consts ++ List.replicate 12 0)) (xs := List.replicate 16 (Value.int .u32 0)) (f := (0, 0)) (by exact z_chacha_state) (Hp.set_same ..) rfl (nv_flat _ _) (fun i _ => by simp) ?_
  rw [Hp.set_set]
  have key1 : ∀ o : AObj, Hp.cle h ((h.set r6 O).set r7 o) := fun o => (cle_set r6 O hr6).trans (cle_set r7 o hr7)
  refine Lp_mk (fun m vs h' => ∃ i : Nat, i + m = 8 ∧ h' = (h.set r6 O).set r7 (.row t_chacha_state (nv .u32 (consts ++ words key i ++ List.replicate (12 - i) 0)) 16 (some (0, 0))) ∧ vs = [.int .i64 (i : Int)]) 8 ⟨0, rfl, by simp [words], rfl⟩ ?_
  rintro m vs h' ⟨i, hi, rfl, rfl⟩
  simp (disch := omega) only [GL, RL, wi64]
  have hlen : (consts ++ words key i).length = 4 + i := by rw [List.length_append, words_len]; rfl
  split
  · rename_i hlt
    simp only [decide_eq_true_eq] at hlt
    have e1 : (4 * (i : Int)) = ((4 * i : Nat) : Int) := by push_cast; rfl
    have e2 : ((4 : Int) + (i : Int)).toNat = 4 + i := by omega
    rw [e1]
    refine q_slRn u_Sl_uint8 z_uint8 (hk.mono (key1 _)) .i64 (4 * i) (by omega) fun w' hw' => ?_
    refine T_word_Get32 hw' (bk.drop _) ?_
    simp (disch := omega) only [GL, RL, wi64, e2]
    refine aw_store z_uint32 rfl (put_row (Hp.set_same ..) (by rw [nv_len, List.length_append, hlen, List.length_replicate]; omega) (by simp) _) ?_
    refine ⟨_, .refl _, m - 1, by omega, i + 1, by omega, ?_, rfl⟩
    rw [Hp.set_set, nv_set, ← hlen, show 12 - i = (12 - (i + 1)) + 1 by omega, set_end, words_succ key i, ← List.append_assoc]
  · rename_i hge
    simp only [decide_eq_true_eq] at hge
    obtain rfl : i = 8 := by omega
    simp (disch := omega) only [GL, RL, Int.reduceToNat]
    refine aw_store z_uint32 rfl (put_row (Hp.set_same ..) (by rw [nv_len, List.length_append, hlen, List.length_replicate]; omega) (by simp) _) ?_
    rw [Hp.set_set, nv_set, show (12 : Nat) = (consts ++ words key 8).length by rw [hlen]]
    rw [show (consts ++ words key 8).length - 8 = 3 + 1 by rw [hlen], set_end]
    refine Lp_mk (fun m vs h' => ∃ i : Nat, i + m = 3 ∧ h' = (h.set r6 O).set r7 (.row t_chacha_state (nv .u32 (consts ++ words key 8 ++ [counter] ++ words nonce i ++ List.replicate (3 - i) 0)) 16 (some (0, 0))) ∧ vs = [.int .i64 (i : Int)]) 3 ⟨0, rfl, by simp [words], rfl⟩ ?_
    rintro m vs h' ⟨i, hi', rfl, rfl⟩
    simp (disch := omega) only [GL, RL, wi64]
    have hlen2 : (consts ++ words key 8 ++ [counter] ++ words nonce i).length = 13 + i := by rw [List.length_append, List.length_append, hlen, words_len]; rfl
    split
    · rename_i hlt
      simp only [decide_eq_true_eq] at hlt
      have e1 : (4 * (i : Int)) = ((4 * i : Nat) : Int) := by push_cast; rfl
      have e2 : ((13 : Int) + (i : Int)).toNat = 13 + i := by omega
      rw [e1]
      refine q_slRn u_Sl_uint8 z_uint8 (hn.mono (key1 _)) .i64 (4 * i) (by omega) fun w' hw' => ?_
      refine T_word_Get32 hw' (bn.drop _) ?_
      simp (disch := omega) only [GL, RL, wi64, e2]
      refine aw_store z_uint32 rfl (put_row (Hp.set_same ..) (by rw [nv_len, List.length_append, hlen2, List.length_replicate]; omega) (by simp) _) ?_
      refine ⟨_, .refl _, m - 1, by omega, i + 1, by omega, ?_, rfl⟩
      rw [Hp.set_set, nv_set, ← hlen2, show 3 - i = (3 - (i + 1)) + 1 by omega, set_end, words_succ nonce i, ← List.append_assoc]
    · rename_i hge
      simp only [decide_eq_true_eq] at hge
      obtain rfl : i = 3 := by omega
      have hfin : consts ++ words key 8 ++ [counter] ++ words nonce 3 ++ List.replicate (3 - 3) 0 = beginL key nonce counter := by simp [beginL]
      rw [hfin]
      have hl16 : (nv .u32 (beginL key nonce counter)).length = 16 := by rw [nv_len, beginL_len]
      rw [q_ldRow u_chacha_state rfl (by rw [hl16]; exact z_chacha_state) (Hp.set_same ..)]
      refine aw_storeRow (xs := List.replicate 16 (Value.int .u32 0)) (f := (0, 0)) (cap := 16) (e := t_chacha_state) (by rw [hl16]; exact z_chacha_state) (by rw [Hp.set_ne _ _ (Ne.symm hne), Hp.set_same, ← hO]; rfl) (by rw [hl16]; rfl) (nv_flat _ _) (fun i _ => by simp) ?_
      rw [q_resRow u_chacha_state rfl (by rw [hl16]; exact z_chacha_state) (Hp.set_same ..)]
      refine ⟨h, fun b o e => ?_, k⟩
      have n6 : b ≠ r6 := by rintro rfl; rw [hr6] at e; cases e
      have n7 : b ≠ r7 := by rintro rfl; rw [hr7'] at e; cases e
      exact ⟨o, by rw [Hp.set_ne _ _ n6, Hp.set_ne _ _ n7, Hp.set_ne _ _ n6]; exact e, .refl _⟩
/-! ### A block -/
def qv (q : Nat × Nat × Nat × Nat) : List Value := [.int .i64 (q.1 : Int), .int .i64 (q.2.1 : Int), .int .i64 (q.2.2.1 : Int), .int .i64 (q.2.2.2 : Int)]
def tbl : List Value := quads.flatMap qv
theorem bld4 {h : Hp} {K : Value → Prop} (a b c d : Int) : q P h (Instr.build t_4_int #[(0, .int .i64 a), (1, .int .i64 b), (2, .int .i64 c), (3, .int .i64 d)]) K = K (.agg #[.int .i64 a, .int .i64 b, .int .i64 c, .int .i64 d]) := q_of (by kernel_rfl) K
theorem zr_table : zr P t_8_4_int = some (.agg (List.replicate 32 (Value.int .i64 0)).toArray) := by kernel_rfl
theorem T_quarters {h : Hp} {K : Value → Hp → Prop} (k : K (.agg tbl.toArray) h) : Cn P n_chacha_quarters #[] h K := by
  refine Cn_wk (F_chacha_quarters ?_)
  unfold s_chacha_quarters
  refine aw_allocL (List.replicate 32 (Value.int .i64 0)) zr_table rfl fun r hr => ?_
  simp only [bld4]
  obtain ⟨H, hH⟩ : ∃ H, h.set r (AObj.row t_8_4_int (List.replicate 32 (Value.int .i64 0)) (List.replicate 32 (Value.int .i64 0)).length (some (0, 0))) = H := ⟨_, rfl⟩
  rw [hH, q_of (v := .agg tbl.toArray) (by kernel_rfl)]
  refine aw_storeRow (xs := List.replicate 32 (Value.int .i64 0)) (f := (0, 0)) (cap := 32) (e := t_8_4_int) (by exact z_8_4_int) (by rw [← hH]; exact Hp.set_same ..) rfl (by decide) (fun i _ => by simp) ?_
  rw [q_resRow (ys := tbl) u_8_4_int rfl (by exact z_8_4_int) (Hp.set_same ..)]
  refine ⟨h, ?_, k⟩
  rw [← hH, Hp.set_set]
  exact le_fresh hr
theorem tbl_at {h : Hp} {K : Value → Prop} (i : Nat) (hi : i < 8) : q P h (Instr.index t_8_4_int (.agg tbl.toArray) (.int .i64 i)) K = K (.agg (qv (quads.getD i (0, 0, 0, 0))).toArray) := by
  have : i = 0 ∨ i = 1 ∨ i = 2 ∨ i = 3 ∨ i = 4 ∨ i = 5 ∨ i = 6 ∨ i = 7 := by omega
  rcases this with rfl | rfl | rfl | rfl | rfl | rfl | rfl | rfl <;> exact q_of (by kernel_rfl) K
theorem zr_4 : zr P t_4_int = some (.agg (List.replicate 4 (Value.int .i64 0)).toArray) := by kernel_rfl
theorem qv_bound (q : Nat × Nat × Nat × Nat) (hq : q ∈ quads) : q.1 < 16 ∧ q.2.1 < 16 ∧ q.2.2.1 < 16 ∧ q.2.2.2 < 16 := by
  revert q; decide
theorem out_step (s x : List Nat) (i : Nat) : outL s x (i + 1) = outL s x i ++ le 4 ((s.getD i 0 + x.getD i 0) % 4294967296) := rfl

theorem T_block {h : Hp} {K : Value → Hp → Prop} {vk vn : Value} {key nonce : List Nat} (counter : Nat) (hc : counter < 4294967296) (hk : Rn h .u8 vk key) (hn : Rn h .u8 vn nonce) (bk : Bytes key) (bn : Bytes nonce) (lk : key.length = 32) (ln : nonce.length = 12)
    (k : ∀ v h', Nn h t_uint8 .u8 v h' (blockL key nonce counter) → K v h') : Cn P n_chacha_block #[vk, vn, .int .u32 counter] h K := by
  refine Cn_wk (F_chacha_block ?_)
  unfold s_chacha_block
  refine T_begin counter hc hk hn bk bn lk ln ?_
  obtain ⟨B, hB⟩ : ∃ B, beginL key nonce counter = B := ⟨_, rfl⟩
  have lB : B.length = 16 := by rw [← hB, beginL_len]
  have wB : W32 B := by rw [← hB]; exact beginL_w bk bn hc
  rw [hB]
  have l16 : ∀ S : List Nat, S.length = 16 → (nv .u32 S).length = 16 := fun S hS => by rw [nv_len, hS]
  refine aw_allocL (List.replicate 16 (Value.int .u32 0)) zr_state rfl fun r7 hr7 => ?_
  refine aw_storeRow (xs := List.replicate 16 (Value.int .u32 0)) (f := (0, 0)) (e := t_chacha_state) (by rw [l16 B lB]; exact z_chacha_state) (Hp.set_same ..) (by rw [l16 B lB]; rfl) (nv_flat _ _) (fun i _ => by simp) ?_
  rw [Hp.set_set, q_ldRow u_chacha_state rfl (by rw [l16 B lB]; exact z_chacha_state) (Hp.set_same ..)]
  obtain ⟨h1, hh1⟩ : ∃ h1, h.set r7 (AObj.row t_chacha_state (nv .u32 B) (List.replicate 16 (Value.int .u32 0)).length (some (0, 0))) = h1 := ⟨_, rfl⟩
  rw [hh1]
  have h1r7 : h1 r7 = some (AObj.row t_chacha_state (nv .u32 B) 16 (some (0, 0))) := by rw [← hh1]; exact Hp.set_same ..
  have le1 : Hp.le h h1 := by rw [← hh1]; exact le_fresh hr7
  refine aw_allocL (List.replicate 16 (Value.int .u32 0)) zr_state rfl fun r8 hr8 => ?_
  have n78 : r7 ≠ r8 := by rintro rfl; rw [h1r7] at hr8; cases hr8
  refine aw_storeRow (xs := List.replicate 16 (Value.int .u32 0)) (f := (0, 0)) (e := t_chacha_state) (by rw [l16 B lB]; exact z_chacha_state) (Hp.set_same ..) (by rw [l16 B lB]; rfl) (nv_flat _ _) (fun i _ => by simp) ?_
  rw [Hp.set_set]
  refine T_quarters ?_
  refine aw_allocL (List.replicate 32 (Value.int .i64 0)) zr_table rfl fun r9 hr9 => ?_
  have n89 : r8 ≠ r9 := by rintro rfl; rw [Hp.set_same] at hr9; cases hr9
  have n79 : r7 ≠ r9 := by rintro rfl; rw [Hp.set_ne _ _ n78, h1r7] at hr9; cases hr9
  refine aw_storeRow (ys := tbl) (xs := List.replicate 32 (Value.int .i64 0)) (f := (0, 0)) (cap := 32) (e := t_8_4_int) (by exact z_8_4_int) (Hp.set_same ..) rfl (by decide) (fun i _ => by simp) ?_
  rw [Hp.set_set]
  -- the memory, by the state
  obtain ⟨M, hM⟩ : ∃ M : List Nat → Hp, ∀ S, (h1.set r8 (AObj.row t_chacha_state (nv .u32 S) (List.replicate 16 (Value.int .u32 0)).length (some (0, 0)))).set r9 (AObj.row t_8_4_int tbl 32 (some (0, 0))) = M S := ⟨fun S => _, fun S => rfl⟩
  rw [hM]
  have M8 : ∀ S, M S r8 = some (AObj.row t_chacha_state (nv .u32 S) 16 (some (0, 0))) := fun S => by rw [← hM, Hp.set_ne _ _ n89, Hp.set_same]; rfl
  have M7 : ∀ S, M S r7 = some (AObj.row t_chacha_state (nv .u32 B) 16 (some (0, 0))) := fun S => by rw [← hM, Hp.set_ne _ _ n79, Hp.set_ne _ _ n78, h1r7]
  have M9 : ∀ S, M S r9 = some (AObj.row t_8_4_int tbl 32 (some (0, 0))) := fun S => by rw [← hM, Hp.set_same]
  have Mset : ∀ S S', (M S).set r8 (AObj.row t_chacha_state (nv .u32 S') 16 (some (0, 0))) = M S' := fun S S' => by
    rw [← hM, ← hM, Hp.set_comm _ _ _ (Ne.symm n89), Hp.set_set]; rfl
  have r9h1 : h1 r9 = none := by rwa [Hp.set_ne _ _ (Ne.symm n89)] at hr9
  have leM : ∀ S, Hp.le h (M S) := fun S => by
    rw [← hM]
    refine le1.trans ((le_fresh hr8).trans (le_fresh ?_))
    rw [Hp.set_ne _ _ (Ne.symm n89)]; exact r9h1
  refine Lp_mk (fun m vs h' => ∃ i : Nat, i + m = 10 ∧ h' = M (rounds i B) ∧ vs = [.int .i64 (i : Int)]) 10 ⟨0, rfl, rfl, rfl⟩ ?_
  rintro m vs h' ⟨i, hi, rfl, rfl⟩
  have lR : (rounds i B).length = 16 := by rw [rounds_len, lB]
  have wR : W32 (rounds i B) := rounds_w i wB
  generalize hR : rounds i B = R at lR wR ⊢
  simp (disch := omega) only [GL, RL, wi64]
  split
  · rename_i hlt
    simp only [decide_eq_true_eq] at hlt
    rw [q_ldRow u_8_4_int rfl (by exact z_8_4_int) (M9 R)]
    refine Lp_mk (fun m' vs h' => ∃ j : Nat, j + m' = 8 ∧ h' = M ((quads.take j).foldl stepL R) ∧ vs = [.int .i64 (j : Int)]) 8 ⟨0, rfl, rfl, rfl⟩ ?_
    rintro m' vs h' ⟨j, hj, rfl, rfl⟩
    have lS : ((quads.take j).foldl stepL R).length = 16 := by rw [foldStep_len, lR]
    have wS : W32 ((quads.take j).foldl stepL R) := foldStep_w _ wR
    generalize hS : (quads.take j).foldl stepL R = S at lS wS ⊢
    simp (disch := omega) only [GL, RL, wi64]
    split
    · rename_i hlt2
      simp only [decide_eq_true_eq] at hlt2
      have hj8 : j < 8 := by omega
      rw [tbl_at j hj8]
      have hjl : j < quads.length := hj8
      obtain ⟨q, hq⟩ : ∃ q, quads.getD j (0, 0, 0, 0) = q := ⟨_, rfl⟩
      have hq' : quads[j] = q := by rw [← hq]; simp [List.getD_eq_getElem?_getD, hjl]
      have hmem : q ∈ quads := by rw [← hq']; exact List.getElem_mem hjl
      obtain ⟨q1, q2, q3, q4⟩ := qv_bound q hmem
      rw [hq]
      refine aw_allocL (List.replicate 4 (Value.int .i64 0)) zr_4 rfl fun r11 hr11 => ?_
      refine aw_storeRow (ys := qv q) (xs := List.replicate 4 (Value.int .i64 0)) (f := (0, 0)) (e := t_4_int) (by exact z_4_int) (Hp.set_same ..) rfl (by intro y hy; simp [qv] at hy; rcases hy with rfl | rfl | rfl | rfl <;> rfl) (fun i _ => by simp) ?_
      rw [Hp.set_set, q_ldRow (ys := qv q) u_4_int rfl (by exact z_4_int) (Hp.set_same ..)]
      refine Cn.weaken (le_fresh hr11) (T_quarter S q.1 q.2.1 q.2.2.1 q.2.2.2 lS wS q1 q2 q3 q4 (M8 S) (fun i _ => by simp) ?_)
      refine ⟨_, .refl _, m' - 1, by omega, j + 1, by omega, ?_, rfl⟩
      rw [Mset, List.take_succ_eq_append_getElem hjl, List.foldl_append, hS, hq']
      rfl
    · rename_i hge
      simp only [decide_eq_true_eq] at hge
      obtain rfl : j = 8 := by omega
      refine ⟨_, .refl _, m - 1, by omega, i + 1, by omega, ?_, rfl⟩
      rw [← hS, rounds, hR, droundL]
      rfl
  · rename_i hge
    simp only [decide_eq_true_eq] at hge
    obtain rfl : i = 10 := by omega
    refine aw_make (n := 0) (c := 64) u_Sl_uint8 nfo_uint8 rfl (by omega) (by omega) (by omega) fun r h2 hw => ?_
    refine Lp_mk (fun m' vs h' => ∃ (j : Nat) (v : Value), j + m' = 16 ∧ New (M R) t_uint8 1 v h' (nv .u8 (outL R B j)) (4 * j) ∧ vs = [v, .int .i64 (j : Int)]) 16 ⟨0, r, rfl, hw, rfl⟩ ?_
    clear hw
    rintro m' vs h3 ⟨j, v, hj, hw, rfl⟩
    simp (disch := omega) only [GL, RL, wi64]
    split
    · rename_i hlt2
      simp only [decide_eq_true_eq] at hlt2
      have c1 : h3.cell ⟨r8, j, none⟩ = some (.int .u32 ((R.getD j 0 : Nat) : Int)) := hw.cle _ _ (by rw [cell_row (M8 R), nv_getD _ _ _ (by omega)])
      have c2 : h3.cell ⟨r7, j, none⟩ = some (.int .u32 ((B.getD j 0 : Nat) : Int)) := hw.cle _ _ (by rw [cell_row (M7 R), nv_getD _ _ _ (by omega)])
      simp (disch := omega) only [GL, RL, wi64, c1, c2]
      rw [← Int.natCast_add, wu32]
      refine T_word_Put32 _ (Nat.mod_lt _ (by decide)) fun r' h4 hp => ?_
      have hp' : New h3 t_uint8 1 r' h4 (nv .u8 (le 4 ((R.getD j 0 + B.getD j 0) % 4294967296))) 4 := by
        unfold Nn at hp; rw [le_len] at hp; exact hp
      refine aw_appendN u_Sl_uint8 u_Sl_uint8 nfo_uint8 rfl (by omega) hw hp' (nv_flat _ _) (by omega) fun v' h5 hw5 => ?_
      refine ⟨_, .refl _, m' - 1, by omega, j + 1, v', by omega, ?_, rfl⟩
      rw [out_step, nv_app]
      exact hw5
    · rename_i hge2
      simp only [decide_eq_true_eq] at hge2
      obtain rfl : j = 16 := by omega
      have hfin : outL R B 16 = blockL key nonce counter := by unfold blockL; rw [hB, hR]
      rw [hfin] at hw
      obtain ⟨h0, l0, hw0⟩ := New.down (leM R) hw
      refine ⟨h0, l0, k _ _ ?_⟩
      unfold Nn
      rw [blockL_len]
      exact hw0
theorem T_may {h : Hp} {K : Value → Hp → Prop} {vk vn : Value} {key nonce : List Nat} (hk : Rn h .u8 vk key) (hn : Rn h .u8 vn nonce) (k : K (.bool (decide (key.length = 32 ∧ nonce.length = 12))) h) : Cn P n_chacha_may #[vk, vn] h K := by
  refine F_chacha_may ?_
  obtain ⟨a, c, rfl, hc⟩ := hk.shape
  obtain ⟨a', c', rfl, hc'⟩ := hn.shape
  unfold s_chacha_may
  simp (disch := omega) only [GL, RL]
  have e1 : ((key.length : Int) == 32) = decide (key.length = 32) := by rw [Bool.eq_iff_iff]; simp; omega
  have e2 : ((nonce.length : Int) == 12) = decide (nonce.length = 12) := by rw [Bool.eq_iff_iff]; simp; omega
  rw [e1, e2]
  by_cases h1 : key.length = 32
  · simpa [h1] using k
  · simpa [h1] using k
theorem T_Block {h : Hp} {K : Value → Hp → Prop} {vk vn : Value} {key nonce : List Nat} (counter : Nat) (hc : counter < 4294967296) (hk : Rn h .u8 vk key) (hn : Rn h .u8 vn nonce) (bk : Bytes key) (bn : Bytes nonce)
    (k : ∀ v h', (if key.length = 32 ∧ nonce.length = 12 then Nn h t_uint8 .u8 v h' (blockL key nonce counter) else v = .slice none 0 0 ∧ h' = h) → K (.tuple #[v, .int .i64 (if key.length = 32 ∧ nonce.length = 12 then 0 else 1)]) h') : Cn P n_chacha_Block #[vk, vn, .int .u32 counter] h K := by
  refine F_chacha_Block ?_
  unfold s_chacha_Block
  refine T_may hk hn ?_
  simp (disch := omega) only [GL, RL]
  by_cases hm : key.length = 32 ∧ nonce.length = 12
  · simp only [hm, decide_true, Bool.not_true, Bool.false_eq_true, if_false, and_self, if_true] at k ⊢
    exact T_block counter hc hk hn bk bn hm.1 hm.2 fun v h' hw => k v h' hw
  · simp only [hm, decide_false, Bool.not_false, if_true, if_false] at k ⊢
    exact k _ _ ⟨rfl, rfl⟩
theorem ixor8_nat (a b : Nat) (ha : a < 256) (hb : b < 256) : ixor .u8 (a : Int) (b : Int) = ((a ^^^ b : Nat) : Int) := by
  rw [xor8 (by omega) (by omega) (by omega) (by omega), Int.toNat_natCast, Int.toNat_natCast]

theorem T_Xor {h : Hp} {K : Value → Hp → Prop} {vk vn vb : Value} {key nonce b : List Nat} (counter : Nat) (hc : counter < 4294967296) (hk : Rn h .u8 vk key) (hn : Rn h .u8 vn nonce) (hb : Rn h .u8 vb b) (bk : Bytes key) (bn : Bytes nonce) (bb : Bytes b) (hl : b.length ≤ 70368744177664)
    (k : ∀ v h', (if key.length = 32 ∧ nonce.length = 12 then Nn h t_uint8 .u8 v h' (xorL key nonce counter b) else v = .slice none 0 0 ∧ h' = h) → K (.tuple #[v, .int .i64 (if key.length = 32 ∧ nonce.length = 12 then 0 else 1)]) h') : Cn P n_chacha_Xor #[vk, vn, .int .u32 counter, vb] h K := by
  refine F_chacha_Xor ?_
  unfold s_chacha_Xor
  refine T_may hk hn ?_
  obtain ⟨ab, cb, rfl, hcb⟩ := hb.shape
  simp (disch := omega) only [GL, RL]
  by_cases hm : key.length = 32 ∧ nonce.length = 12
  case neg =>
    simp only [hm, decide_false, Bool.not_false, if_true, if_false] at k ⊢
    exact k _ _ ⟨rfl, rfl⟩
  simp only [hm, decide_true, Bool.not_true, Bool.false_eq_true, if_false, and_self, if_true] at k ⊢
  refine aw_make (n := 0) (c := b.length) u_Sl_uint8 nfo_uint8 rfl (by omega) (by omega) (by omega) fun r h1 hw => ?_
  obtain ⟨X, hX⟩ : ∃ X, xorL key nonce counter b = X := ⟨_, rfl⟩
  have lX : X.length = b.length := by rw [← hX, xorL_len]
  rw [hX] at k
  refine Lp_mk (fun m vs h' => ∃ (i : Nat) (v : Value), i + m = (b.length + 63) / 64 ∧ New h t_uint8 1 v h' (nv .u8 (X.take (64 * i))) (X.take (64 * i)).length ∧ vs = [.int .u32 (((counter + i) % 4294967296 : Nat) : Int), v, .int .i64 ((64 * i : Nat) : Int)]) ((b.length + 63) / 64)
    ⟨0, r, by omega, by simpa [nv] using hw, by rw [Nat.add_zero, Nat.mod_eq_of_lt hc]; rfl⟩ ?_
  clear hw
  rintro m vs h2 ⟨i, v, hi, hw, rfl⟩
  simp (disch := omega) only [GL, RL, wi64]
  by_cases hlt : 64 * i < b.length
  · rw [if_pos (by simpa using (by omega : ((64 * i : Nat) : Int) < (b.length : Int)))]
    refine T_block _ (Nat.mod_lt _ (by decide)) (hk.mono hw.cle) (hn.mono hw.cle) bk bn hm.1 hm.2 fun vb' h3 hblk => ?_
    obtain ⟨BL, hBL⟩ : ∃ BL, blockL key nonce ((counter + i) % 4294967296) = BL := ⟨_, rfl⟩
    have lBL : BL.length = 64 := by rw [← hBL, blockL_len]
    have bBL : Bytes BL := by rw [← hBL]; exact blockL_bytes _ _ _
    rw [hBL] at hblk
    obtain ⟨rb, crb, frb, hrb, hcrb, rfl, hh3, _⟩ := New.form hblk (by omega)
    have hblk3 : ∀ j, j < 64 → h3.cell ⟨rb, j, none⟩ = some (.int .u8 ((BL.getD j 0 : Nat) : Int)) := fun j hj => by
      rw [hh3, cell_row (Hp.set_same ..), nv_getD _ _ _ (by omega)]
    have hw3 := hw.add hrb (AObj.row t_uint8 (nv .u8 BL) (crb * 1) (some frb))
    rw [← hh3] at hw3
    have hrbh : h rb = none := hw.noneAt hrb
    obtain ⟨hb0, hhb0⟩ : ∃ hb0, h.set rb (AObj.row t_uint8 (nv .u8 BL) (crb * 1) (some frb)) = hb0 := ⟨_, rfl⟩
    rw [hhb0] at hw3
    have hb0c : ∀ j, j < 64 → hb0.cell ⟨rb, j, none⟩ = some (.int .u8 ((BL.getD j 0 : Nat) : Int)) := fun j hj => by
      rw [← hhb0, cell_row (Hp.set_same ..), nv_getD _ _ _ (by omega)]
    have hb0b : Hp.cle h hb0 := by rw [← hhb0]; exact cle_set rb _ hrbh
    have hb0l : Hp.le h hb0 := by rw [← hhb0]; exact le_fresh hrbh
    clear hblk3 hh3 hw
    have ec : IntKind.u32.wrap (((counter + i) % 4294967296 : Nat) + 1 : Int) = (((counter + (i + 1)) % 4294967296 : Nat) : Int) := by
      rw [inc, wu32]; congr 1; omega
    refine Lp_mk (fun m' vs h' => ∃ (j : Nat) (v : Value), j + m' = 64 ∧ 64 * i + j ≤ b.length ∧ New hb0 t_uint8 1 v h' (nv .u8 (X.take (64 * i + j))) (X.take (64 * i + j)).length ∧ vs = [v, .int .i64 (j : Int)]) 64 ⟨0, v, rfl, by omega, hw3, rfl⟩ ?_
    clear hw3
    rintro m' vs h4 ⟨j, v', hj, hjb, hw, rfl⟩
    have fin : (64 * i + j = b.length ∨ j = 64) → ∃ h0, Hp.le h0 h4 ∧ ∃ m_1, m_1 < m ∧ ∃ (i' : Nat) (v : Value), i' + m_1 = (b.length + 63) / 64 ∧ New h t_uint8 1 v h0 (nv .u8 (X.take (64 * i'))) (X.take (64 * i')).length ∧
        [Value.int .u32 (((counter + (i + 1)) % 4294967296 : Nat) : Int), v', .int .i64 (((64 * i : Nat) : Int) + 64)] = [.int .u32 (((counter + i') % 4294967296 : Nat) : Int), v, .int .i64 ((64 * i' : Nat) : Int)] := by
      intro hd
      have e1 : X.take (64 * i + j) = X.take (64 * (i + 1)) := by
        rcases hd with hd | hd
        · rw [List.take_of_length_le (by omega), List.take_of_length_le (by omega)]
        · rw [hd, Nat.mul_add]
      rw [e1] at hw
      obtain ⟨h0, l0, hw0⟩ := New.down hb0l hw
      exact ⟨h0, l0, m - 1, by omega, i + 1, v', by omega, hw0, by rw [Nat.mul_add]; rfl⟩
    simp (disch := omega) only [GL, RL, wi64, ec]
    by_cases hj64 : j < 64
    · rw [if_pos (by simpa using (by omega : (j : Int) < 64))]
      by_cases hjb2 : 64 * i + j < b.length
      · rw [if_pos (by simp; omega)]
        obtain ⟨bb', ob, rfl, hyb⟩ := hb.pos (by omega)
        have e2 : (((64 * i : Nat) : Int) + (j : Int)).toNat = 64 * i + j := by omega
        have c1 : h4.cell ⟨bb', ob + (64 * i + j), none⟩ = some (.int .u8 ((b.getD (64 * i + j) 0 : Nat) : Int)) := hw.cle _ _ (hb0b _ _ (hyb _ hjb2))
        have c2 : h4.cell ⟨rb, j, none⟩ = some (.int .u8 ((BL.getD j 0 : Nat) : Int)) := hw.cle _ _ (hb0c j hj64)
        simp (disch := omega) only [GL, RL, wi64, e2, c1, c2]
        rw [ixor8_nat _ _ (bb.getD _) (bBL.getD _)]
        refine aw_lit (ps := [(0, _)]) u_Sl_uint8 z_uint8 zr_uint8 rfl (by omega) (by intro p hp; rw [List.mem_singleton.1 hp]; exact ⟨rfl, by omega⟩) fun x h5 hx _ => ?_
        refine aw_appendN u_Sl_uint8 u_Sl_uint8 nfo_uint8 rfl (by omega) hw hx (by intro y hy; simp [fillL] at hy; subst hy; rfl) (by rw [List.length_take]; omega) fun v2 h6 hw6 => ?_
        refine ⟨_, .refl _, m' - 1, by omega, j + 1, v2, by omega, by omega, ?_, rfl⟩
        have e3 : X.take (64 * i + (j + 1)) = X.take (64 * i + j) ++ [b.getD (64 * i + j) 0 ^^^ BL.getD j 0] := by
          rw [← hX, ← Nat.add_assoc, xorL_take _ _ _ _ _ hjb2, ← hBL, show (64 * i + j) / 64 = i by omega, show (64 * i + j) % 64 = j by omega]
        rw [e3, nv_app, List.length_append]
        exact hw6
      · rw [if_neg (by simp; omega)]
        exact fin (.inl (by omega))
    · rw [if_neg (by simp; omega)]
      exact fin (.inr (by omega))
  · rw [if_neg (by simp; omega)]
    rw [List.take_of_length_le (by omega)] at hw
    exact k _ _ hw
end Go.Proofs.Ytnecdbclhdbaoaa
