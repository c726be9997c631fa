/- What the tag of a message comes to. Conditions: each names its own. -/
import Derived.Test.YtnecdbclhdbaoaaSWf
set_option linter.unusedSimpArgs false
set_option linter.unusedVariables false
set_option maxRecDepth 100000
namespace Go.Proofs.Ytnecdbclhdbaoaa
open Go Go.SL Go.Pure

def t15 : List Nat := [3, 7, 11, 15]
def t252 : List Nat := [4, 8, 12]
theorem t15_at {h : Hp} {K : Value → Prop} (i : Nat) (hi : i < 4) : q P h (Instr.index t_4_int (.agg #[.int .i64 3, .int .i64 7, .int .i64 11, .int .i64 15]) (.int .i64 i)) K = K (.int .i64 ((t15.getD i 0 : Nat) : Int)) := by
  have : i = 0 ∨ i = 1 ∨ i = 2 ∨ i = 3 := by omega
  rcases this with rfl | rfl | rfl | rfl <;> exact q_of (by kernel_rfl) K
theorem t252_at {h : Hp} {K : Value → Prop} (i : Nat) (hi : i < 3) : q P h (Instr.index t_3_int (.agg #[.int .i64 4, .int .i64 8, .int .i64 12]) (.int .i64 i)) K = K (.int .i64 ((t252.getD i 0 : Nat) : Int)) := by
  have : i = 0 ∨ i = 1 ∨ i = 2 := by omega
  rcases this with rfl | rfl | rfl <;> exact q_of (by kernel_rfl) K
theorem t15_b {h : Hp} {K : Value → Prop} : q P h (Instr.build t_4_int #[(0, (Value.int .i64 3)), (1, (Value.int .i64 7)), (2, (Value.int .i64 11)), (3, (Value.int .i64 15))]) K = K (.agg #[.int .i64 3, .int .i64 7, .int .i64 11, .int .i64 15]) := q_of (by kernel_rfl) K
theorem t252_b {h : Hp} {K : Value → Prop} : q P h (Instr.build t_3_int #[(0, (Value.int .i64 4)), (1, (Value.int .i64 8)), (2, (Value.int .i64 12))]) K = K (.agg #[.int .i64 4, .int .i64 8, .int .i64 12]) := q_of (by kernel_rfl) K
theorem and8N {a b : Nat} (ha : a < 256) (hb : b < 256) : iand .u8 (a : Int) (b : Int) = ((a &&& b : Nat) : Int) := by
  rw [and8 (by omega) (by omega) (by omega) (by omega), Int.toNat_natCast, Int.toNat_natCast]
theorem clampN_step (v : Nat) (l is : List Nat) (i : Nat) (hi : i < is.length) : clampN v l (is.take (i + 1)) = (clampN v l (is.take i)).set (is.getD i 0) ((clampN v l (is.take i)).getD (is.getD i 0) 0 &&& v) := by
  rw [List.take_succ_eq_append_getElem hi]
  unfold clampN
  rw [List.foldl_append]
  have : is.getD i 0 = is[i] := by simp [List.getD_eq_getElem?_getD, hi]
  rw [this]
  rfl

section
variable {h : Hp} {K : Value → Hp → Prop}
theorem T_poly_Tag {vk vm : Value} {key m : List Nat} (hk : Rn h .u8 vk key) (hm : Rn h .u8 vm m) (bk : Bytes key) (bm : Bytes m) (lk : key.length = 32) (hl : m.length ≤ 70368744177664)
    (k : ∀ v h', Nn h t_uint8 .u8 v h' (tagL key m) → K (.tuple #[v, .int .i64 0]) h') : Cn P n_poly_Tag #[vk, vm] h K := by
  refine Cn_wk (F_poly_Tag ?_)
  obtain ⟨ak, ck, rfl, hck⟩ := hk.shape
  unfold s_poly_Tag
  have e32 : (((key.length : Nat) : Int) != 32) = false := by rw [lk]; rfl
  simp (disch := omega) only [GL, RL, e32, Bool.false_eq_true, if_false]
  refine q_slRnHi u_Sl_uint8 z_uint8 hk .i64 16 (by omega) fun w16 hw16 => ?_
  refine T_Clone hw16 (by rw [List.length_take]; omega) fun r1 h1 n1 => ?_
  have l16 : (key.take 16).length = 16 := by rw [List.length_take]; omega
  have b16 : Bytes (key.take 16) := bk.take 16
  have hcl : clampL (key.take 16) = clampN 252 (clampN 15 (key.take 16) t15) t252 := rfl
  obtain ⟨F0, hF0⟩ : ∃ F0, key.take 16 = F0 := ⟨_, rfl⟩
  have htag : tagL key m = bytesL (reduceL (tagN (loadL (clampL F0)) m ((m.length + 15) / 16))) (key.drop 16) := by rw [← hF0]; rfl
  rw [hF0] at l16 b16 hcl n1
  rw [t15_b]
  have n1' : New h t_uint8 1 r1 h1 (nv .u8 F0) 16 := by unfold Nn at n1; rwa [l16] at n1
  obtain ⟨b, c, f0, hb, hc16, rfl, _, _⟩ := n1'.form (by omega)
  refine Lp_mk (fun u vs h' => ∃ i : Nat, i + u = 4 ∧ New h t_uint8 1 (.slice (some ⟨b, 0, none⟩) 16 c) h' (nv .u8 (clampN 15 F0 (t15.take i))) 16 ∧ vs = [.int .i64 (i : Int)]) 4 ⟨0, rfl, n1', rfl⟩ ?_
  clear n1 n1'
  rintro u vs h2 ⟨i, hi, hw, rfl⟩
  simp (disch := omega) only [GL, RL, wi64, lt_dec4]
  by_cases hlt : i < 4
  · have lC : (clampN 15 F0 (t15.take i)).length = 16 := by rw [clampN_len, l16]
    have bC := clampN_bytes 15 (t15.take i) b16
    have hx : t15.getD i 0 < 16 := by
      have : i = 0 ∨ i = 1 ∨ i = 2 ∨ i = 3 := by omega
      rcases this with rfl | rfl | rfl | rfl <;> decide
    have hstep := clampN_step 15 F0 t15 i (by show i < 4; exact hlt)
    obtain ⟨x, hxx⟩ : ∃ x, t15.getD i 0 = x := ⟨_, rfl⟩
    obtain ⟨C, hC⟩ : ∃ C, clampN 15 F0 (t15.take i) = C := ⟨_, rfl⟩
    rw [hC] at lC bC hw hstep
    rw [hxx] at hx hstep
    obtain ⟨b', c', f', hb', _, hv', hh', _⟩ := hw.form (by omega)
    simp only [Value.slice.injEq, Option.some.injEq, Addr.mk.injEq] at hv'
    obtain ⟨⟨rfl, _⟩, _, rfl⟩ := hv'
    have c1 := cellN (h := h2) (g := b) (i := x) (S := C) (by rw [hh']; exact Hp.set_same ..) (by omega)
    simp (disch := omega) only [GL, RL, wi64, hlt, decide_true, if_true, t15_at i hlt, hxx, c1]
    have e15 : iand .u8 ((C.getD x 0 : Nat) : Int) 15 = ((C.getD x 0 &&& 15 : Nat) : Int) := and8N (bC.getD x) (by decide)
    rw [e15]
    refine aw_storeN z_uint8 hw hx rfl fun h3 hw3 => ?_
    rw [nv_set, ← hstep] at hw3
    exact ⟨_, .refl _, u - 1, by omega, i + 1, by omega, hw3, rfl⟩
  obtain rfl : i = 4 := by omega
  simp only [hlt, decide_false, Bool.false_eq_true, if_false]
  rw [t252_b]
  have hC1 : clampN 15 F0 (t15.take 4) = clampN 15 F0 t15 := rfl
  rw [hC1] at hw
  have l16' : (clampN 15 F0 t15).length = 16 := by rw [clampN_len, l16]
  have b16' : Bytes (clampN 15 F0 t15) := clampN_bytes 15 _ b16
  generalize clampN 15 F0 t15 = F1 at hw l16' b16' hcl
  refine Lp_mk (fun u vs h' => ∃ i : Nat, i + u = 3 ∧ New h t_uint8 1 (.slice (some ⟨b, 0, none⟩) 16 c) h' (nv .u8 (clampN 252 F1 (t252.take i))) 16 ∧ vs = [.int .i64 (i : Int)]) 3 ⟨0, rfl, hw, rfl⟩ ?_
  clear hw hlt
  rintro u vs h2 ⟨i, hi, hw, rfl⟩
  simp (disch := omega) only [GL, RL, wi64, lt_dec3]
  by_cases hlt : i < 3
  · have lC : (clampN 252 F1 (t252.take i)).length = 16 := by rw [clampN_len, l16']
    have bC := clampN_bytes 252 (t252.take i) b16'
    have hx : t252.getD i 0 < 16 := by
      have : i = 0 ∨ i = 1 ∨ i = 2 := by omega
      rcases this with rfl | rfl | rfl <;> decide
    have hstep := clampN_step 252 F1 t252 i (by show i < 3; exact hlt)
    obtain ⟨x, hxx⟩ : ∃ x, t252.getD i 0 = x := ⟨_, rfl⟩
    obtain ⟨C, hC⟩ : ∃ C, clampN 252 F1 (t252.take i) = C := ⟨_, rfl⟩
    rw [hC] at lC bC hw hstep
    rw [hxx] at hx hstep
    obtain ⟨b', c', f', hb', _, hv', hh', _⟩ := hw.form (by omega)
    simp only [Value.slice.injEq, Option.some.injEq, Addr.mk.injEq] at hv'
    obtain ⟨⟨rfl, _⟩, _, rfl⟩ := hv'
    have c1 := cellN (h := h2) (g := b) (i := x) (S := C) (by rw [hh']; exact Hp.set_same ..) (by omega)
    simp (disch := omega) only [GL, RL, wi64, hlt, decide_true, if_true, t252_at i hlt, hxx, c1]
    have e15 : iand .u8 ((C.getD x 0 : Nat) : Int) 252 = ((C.getD x 0 &&& 252 : Nat) : Int) := and8N (bC.getD x) (by decide)
    rw [e15]
    refine aw_storeN z_uint8 hw hx rfl fun h3 hw3 => ?_
    rw [nv_set, ← hstep] at hw3
    exact ⟨_, .refl _, u - 1, by omega, i + 1, by omega, hw3, rfl⟩
  obtain rfl : i = 3 := by omega
  simp only [hlt, decide_false, Bool.false_eq_true, if_false]
  have hC2 : clampN 252 F1 (t252.take 3) = clampN 252 F1 t252 := rfl
  rw [hC2, ← hcl] at hw
  have lCl : (clampL F0).length = 16 := by rw [hcl, clampN_len, l16']
  have bCl : Bytes (clampL F0) := by rw [hcl]; exact clampN_bytes 252 _ b16'
  have hwr : Rn h2 .u8 (.slice (some ⟨b, 0, none⟩) 16 c) (clampL F0) := by
    have := hw.rds
    unfold Rn
    rwa [lCl]
  refine T_load hwr bCl (by omega) fun _ _ => ?_
  have lR := loadL_len (clampL F0)
  have wR := loadL_w (clampL F0)
  generalize loadL (clampL F0) = R at lR wR htag ⊢
  have hzz : ∀ U : List Nat, U.length = 5 → sz P t_poly_number = some (nv .u64 U).length := fun U hU => by rw [nv_len, hU]; exact z_poly_number
  refine aw_allocL (nv .u64 zero5) zr_number (by rfl) fun r11 hr11 => ?_
  refine aw_storeRow (hzz R lR) (Hp.set_same ..) (by rw [nv_len, nv_len, lR]; rfl) (nv_flat _ _) (fun i hi => by simp) ?_
  rw [Hp.set_set]
  refine aw_allocL (nv .u64 zero5) zr_number (by rfl) fun r12 hr12 => ?_
  have n12 : r11 ≠ r12 := by rintro rfl; rw [Hp.set_same] at hr12; cases hr12
  have hr12' : h2 r12 = none := by rwa [Hp.set_ne _ _ (Ne.symm n12)] at hr12
  refine T_Chunk (n := 16) (by omega) (by obtain ⟨a, c, e, _⟩ := hm.shape; rw [e]; rfl) fun r2 r3 hr2 hr3 n23 => ?_
  have n2_12 : r2 ≠ r12 := by rintro rfl; rw [Hp.set_same] at hr2; cases hr2
  have n3_12 : r3 ≠ r12 := by rintro rfl; rw [Hp.set_same] at hr3; cases hr3
  have n2_11 : r2 ≠ r11 := by rintro rfl; rw [Hp.set_ne _ _ n2_12, Hp.set_same] at hr2; cases hr2
  have n3_11 : r3 ≠ r11 := by rintro rfl; rw [Hp.set_ne _ _ n3_12, Hp.set_same] at hr3; cases hr3
  have hr2' : h2 r2 = none := by rwa [Hp.set_ne _ _ n2_12, Hp.set_ne _ _ n2_11] at hr2
  have hr3' : h2 r3 = none := by rwa [Hp.set_ne _ _ n3_12, Hp.set_ne _ _ n3_11] at hr3
  rw [show (nv IntKind.u64 zero5).length = 5 from rfl]
  -- what stands beside the sum
  obtain ⟨A, hA⟩ : ∃ A : Hp, ((h2.set r11 (.row t_poly_number (nv .u64 R) 5 (some (0, 0)))).set r2 (.row t_Sl_uint8 [vm] 1 (some (0, 0)))).set r3 (.row t_int [.int .i64 (16 : Nat)] 1 (some (0, 0))) = A := ⟨_, rfl⟩
  have A12 : A r12 = none := by rw [← hA, Hp.set_ne _ _ (Ne.symm n3_12), Hp.set_ne _ _ (Ne.symm n2_12), Hp.set_ne _ _ (Ne.symm n12)]; exact hr12'
  have A11 : A r11 = some (.row t_poly_number (nv .u64 R) 5 (some (0, 0))) := by rw [← hA, Hp.set_ne _ _ (Ne.symm n3_11), Hp.set_ne _ _ (Ne.symm n2_11), Hp.set_same]
  have A2 : A r2 = some (.row t_Sl_uint8 [vm] 1 (some (0, 0))) := by rw [← hA, Hp.set_ne _ _ n23, Hp.set_same]
  have A3 : A r3 = some (.row t_int [.int .i64 (16 : Nat)] 1 (some (0, 0))) := by rw [← hA, Hp.set_same]
  have leA : Hp.le h2 A := by
    rw [← hA]
    refine (le_fresh (r := r11) (by simpa using hr11)).trans ((le_fresh ?_).trans (le_fresh ?_))
    · rw [Hp.set_ne _ _ n2_11]; exact hr2'
    · rw [Hp.set_ne _ _ (Ne.symm n23), Hp.set_ne _ _ n3_11]; exact hr3'
  have cleA : Hp.cle h2 A := by
    rw [← hA]
    refine (cle_set r11 _ (by simpa using hr11)).trans ((cle_set r2 _ ?_).trans (cle_set r3 _ ?_))
    · rw [Hp.set_ne _ _ n2_11]; exact hr2'
    · rw [Hp.set_ne _ _ (Ne.symm n23), Hp.set_ne _ _ n3_11]; exact hr3'
  have start : (((h2.set r11 (.row t_poly_number (nv .u64 R) 5 (some (0, 0)))).set r12 (.row t_poly_number (nv .u64 zero5) 5 (some (0, 0)))).set r2 (.row t_Sl_uint8 [vm] 1 (some (0, 0)))).set r3 (.row t_int [.int .i64 (16 : Nat)] 1 (some (0, 0))) =
      A.set r12 (.row t_poly_number (nv .u64 zero5) 5 (some (0, 0))) := by
    rw [← hA, Hp.set_comm _ _ _ (Ne.symm n2_12), Hp.set_comm _ _ _ (Ne.symm n3_12)]
  intro L o hL hY
  rw [start] at hL ⊢
  have nL12 : L ≠ r12 := by rintro rfl; rw [Hp.set_same] at hL; cases hL
  have AL : A L = none := by rwa [Hp.set_ne _ _ nL12] at hL
  obtain ⟨G, hG⟩ : ∃ G : Nat → Hp, ∀ i, (A.set r12 (.row t_poly_number (nv .u64 (tagN R m i)) 5 (some (0, 0)))).set L (o .ready none) = G i := ⟨_, fun i => rfl⟩
  show iterP P _ _ ((A.set r12 (.row t_poly_number (nv .u64 (tagN R m 0)) 5 (some (0, 0)))).set L (o .ready none)) _
  rw [hG]
  have cAG : ∀ i, Hp.cle A (G i) := fun i => by
    rw [← hG]; exact (cle_set r12 _ A12).trans (cle_set L _ (by rw [Hp.set_ne _ _ nL12]; exact AL))
  have hmA : Rn A .u8 vm m := (hm.mono hw.cle).mono cleA
  have delG : ∀ i, (G i).del L = A.set r12 (.row t_poly_number (nv .u64 (tagN R m i)) 5 (some (0, 0))) := fun i => by
    rw [← hG]
    funext j
    unfold Hp.del
    split
    · rename_i e; subst e; rw [Hp.set_ne _ _ nL12]; exact AL.symm
    · rename_i e; rw [Hp.set_ne _ _ e]
  unfold iterP
  dsimp only
  refine T_Chunk_1 (v := vm) (m := m) (n := 16) (by omega) (by omega) (by omega) (fun i h' => h' = G i) (fun _ => False) ?_ rfl ?_ ?_
  · rintro i h' rfl
    refine ⟨cAG i _ _ ?_, cAG i _ _ ?_, hmA.mono (cAG i)⟩
    · rw [cell_row A2]; rfl
    · rw [cell_row A3]; rfl
  · rintro i h' w hi rfl hwc
    refine hY w (G i) _ (by rw [← hG]; exact Hp.set_same ..) ?_
    rw [delG]
    have la := tagN_len R m i
    have wa := tagN_w R m i
    have hGs : ∀ h0 : Hp, h0 = A.set r12 (.row t_poly_number (nv .u64 (tagN R m (i + 1))) 5 (some (0, 0))) → h0.set L (o .ready none) = G (i + 1) := by rintro h0 rfl; exact hG (i + 1)
    have hnext : tagN R m (i + 1) = timesL (addL (tagN R m i) (loadL (chunk m i ++ [1]))) R := rfl
    rw [hnext] at hGs
    have hwc' : Rn ((A.set r12 (.row t_poly_number (nv .u64 (tagN R m i)) 5 (some (0, 0)))).set L (o .busy none)) .u8 w (chunk m i) := hwc _ (hmA.mono ((cle_set r12 _ A12).trans (cle_set L _ (by rw [Hp.set_ne _ _ nL12]; exact AL))))
    have lc : (chunk m i).length ≤ 16 := chunkN_len 16 m i
    have bc : Bytes (chunk m i) := chunkN_bytes bm 16 i
    generalize chunk m i = C at hwc' lc bc hGs ⊢
    generalize tagN R m i = a at la wa hwc' hGs ⊢
    obtain ⟨Bm, hBm⟩ : ∃ Bm, (A.set r12 (.row t_poly_number (nv .u64 a) 5 (some (0, 0)))).set L (o .busy none) = Bm := ⟨_, rfl⟩
    have nL11 : L ≠ r11 := by rintro rfl; rw [AL] at A11; cases A11
    have B12 : Bm r12 = some (.row t_poly_number (nv .u64 a) 5 (some (0, 0))) := by rw [← hBm, Hp.set_ne _ _ (Ne.symm nL12), Hp.set_same]
    have B11 : Bm r11 = some (.row t_poly_number (nv .u64 R) 5 (some (0, 0))) := by rw [← hBm, Hp.set_ne _ _ (Ne.symm nL11), Hp.set_ne _ _ n12]; exact A11
    show (fun h => _) ((A.set r12 (.row t_poly_number (nv .u64 a) 5 (some (0, 0)))).set L (o .busy none))
    rw [hBm] at hwc' ⊢
    refine T_Clone hwc' (by omega) fun r h3 n3 => ?_
    refine aw_lit (ps := [(0, _)]) u_Sl_uint8 z_uint8 zr_uint8 rfl (by omega) (by intro p hp; rw [List.mem_singleton.1 hp]; exact ⟨rfl, by omega⟩) fun x h4 hx _ => ?_
    refine aw_appendN u_Sl_uint8 u_Sl_uint8 nfo_uint8 rfl (by omega) n3 hx (by intro y hy; simp [fillL] at hy; subst hy; rfl) (by omega) fun v2 h5 hw5 => ?_
    have hw5' : Nn Bm t_uint8 .u8 v2 h5 (C ++ [1]) := by
      unfold Nn
      rw [nv_app, List.length_append]
      exact hw5
    obtain ⟨b5, c5, f5, hb5, _, _, hh5, _⟩ := New.form hw5' (by simp)
    have n5_12 : r12 ≠ b5 := by rintro rfl; rw [B12] at hb5; cases hb5
    have n5_11 : r11 ≠ b5 := by rintro rfl; rw [B11] at hb5; cases hb5
    have h5_12 : h5 r12 = some (.row t_poly_number (nv .u64 a) 5 (some (0, 0))) := by rw [hh5, Hp.set_ne _ _ n5_12, B12]
    have h5_11 : h5 r11 = some (.row t_poly_number (nv .u64 R) 5 (some (0, 0))) := by rw [hh5, Hp.set_ne _ _ n5_11, B11]
    refine T_load hw5'.rn (bc.append (by intro y hy; simp at hy; omega)) (by simp; omega) fun _ _ => ?_
    refine T_add a _ la (loadL_len _) h5_12 (fun i _ => by simp) ?_
    have lAdd : (addL a (loadL (C ++ [1]))).length = 5 := by rw [addL, addN_len, la]
    have wAdd : W64 (addL a (loadL (C ++ [1]))) := addN_w wa _ _
    rw [q_ldRow u_poly_number rfl (hzz R lR) (b := r11) (by rw [Hp.set_ne _ _ n12, h5_11])]
    refine Cn_wk (T_times _ R lAdd lR wAdd (Hp.set_same ..) (fun i _ => by simp) ?_)
    rw [Hp.set_set]
    refine ⟨Bm.set r12 (.row t_poly_number (nv .u64 (timesL (addL a (loadL (C ++ [1]))) R)) 5 (some (0, 0))), le_set (New.le hw5'), ?_, .inl ⟨rfl, ?_⟩⟩
    · rw [Hp.set_ne _ _ nL12, ← hBm, Hp.set_same]
    · have e : (Bm.set r12 (.row t_poly_number (nv .u64 (timesL (addL a (loadL (C ++ [1]))) R)) 5 (some (0, 0)))).set L (o .ready none) = (A.set r12 (.row t_poly_number (nv .u64 (timesL (addL a (loadL (C ++ [1]))) R)) 5 (some (0, 0)))).set L (o .ready none) := by
        rw [← hBm, Hp.set_comm _ _ _ nL12, Hp.set_set, Hp.set_set]
      rw [e]
      exact hGs _ rfl
  · rintro h' (rfl | hf)
    case inr => exact hf.elim
    rw [show (m.length + 16 - 1) / 16 = (m.length + 15) / 16 by omega]
    refine ⟨.ready, by simp, by rw [← hG]; exact Hp.set_same .., ?_⟩
    rw [delG]
    have la := tagN_len R m ((m.length + 15) / 16)
    have wa := tagN_w R m ((m.length + 15) / 16)
    generalize tagN R m ((m.length + 15) / 16) = a at la wa htag ⊢
    refine T_reduce a la wa (Hp.set_same ..) (fun i _ => by simp) ?_
    rw [Hp.set_set]
    have hkA : Rn (A.set r12 (.row t_poly_number (nv .u64 (reduceL a)) 5 (some (0, 0)))) .u8 (.slice ak key.length ck) key := ((hk.mono hw.cle).mono cleA).mono (cle_set r12 _ A12)
    refine q_slRn u_Sl_uint8 z_uint8 hkA .i64 16 (by omega) fun wk hwk => ?_
    refine T_bytes (reduceL a) (key.drop 16) (by rw [reduceL_len, la]) (reduceL_w wa) (Hp.set_same ..) hwk (bk.drop 16) (by rw [List.length_drop]; omega) fun v hf nf => ?_
    rw [← htag] at nf
    have leF : Hp.le h (A.set r12 (.row t_poly_number (nv .u64 (reduceL a)) 5 (some (0, 0)))) := (hw.le.trans leA).trans (le_fresh A12)
    obtain ⟨h0, l0, nf0⟩ := nf.down leF
    exact ⟨h0, l0, k v h0 nf0⟩
end
end Go.Proofs.Ytnecdbclhdbaoaa
