/- What the reference's tag comes to. Conditions: each names its own. -/
import Derived.Test.YtoepmfgahcbmiaaSXk
set_option linter.unusedSimpArgs false
set_option linter.unusedVariables false
set_option maxRecDepth 100000
set_option maxHeartbeats 2000000
namespace Go.Proofs.Ytoepmfgahcbmiaa
open Go Go.SL Go.Pure

/-- Two new rows stand in either order. -/
theorem New.swap {h ha h' : Hp} {e s e2 s2 : Nat} {v w : Value} {xs ys : List Value} {n m : Nat} (a : New h e s v ha xs n) (b : New ha e2 s2 w h' ys m) : ∃ hb, New h e2 s2 w hb ys m ∧ New hb e s v h' xs n := by
  rcases b.2 with ⟨e1, e2, rfl⟩ | ⟨bb, c, f, hb, hc, hv, rfl, hf⟩
  · exact ⟨h, ⟨b.1, .inl ⟨e1, e2, rfl⟩⟩, a⟩
  · exact ⟨_, ⟨b.1, .inr ⟨bb, c, f, a.noneAt hb, hc, hv, rfl, hf⟩⟩, a.add hb _⟩

def clampI (key : List Nat) (i : Nat) : Nat := if i % 4 = 3 then key.getD i 0 % 16 else if 0 < i ∧ i % 4 = 0 then key.getD i 0 / 4 * 4 else key.getD i 0
theorem clampR_take (key : List Nat) (i : Nat) (hi : i < 16) : (clampR key).take (i + 1) = (clampR key).take i ++ [clampI key i] := by
  rw [List.take_succ_eq_append_getElem (by simp [clampR]; exact hi)]
  congr 1
  simp [clampR, clampI]
theorem clampR_len (key : List Nat) : (clampR key).length = 16 := by simp [clampR]
theorem clampI_lt {key : List Nat} (h : Bytes key) (i : Nat) : clampI key i < 256 := by
  have := h.getD i
  unfold clampI
  split
  · omega
  · split <;> omega
theorem clampR_bytes {key : List Nat} (h : Bytes key) : Bytes (clampR key) := by
  intro x hx
  obtain ⟨i, _, rfl⟩ := List.mem_map.1 hx
  exact clampI_lt h i
theorem clampR_lt {key : List Nat} (h : Bytes key) : leval (clampR key) < 21267647932558653966460912964485513216 := by
  have e : (clampR key).take 16 = clampR key := List.take_of_length_le (by rw [clampR_len]; omega)
  have e2 := leval_take_succ (clampR key) 15
  rw [e] at e2
  have h15 : (clampR key).getD 15 0 < 16 := by
    have : (clampR key).getD 15 0 = clampI key 15 := by simp [clampR, clampI]
    rw [this]
    simp only [clampI, Nat.reduceMod, if_true]
    omega
  have hb := leval_take_lt _ (clampR_bytes h) 15
  have p : (256 : Nat) ^ 15 = 1329227995784915872903807060280344576 := rfl
  rw [p] at e2 hb
  omega

section
variable {h : Hp} {K : Value → Hp → Prop}
theorem conv53 {h : Hp} {K : Value → Prop} (x : Nat) (hx : x < 256) : q P h (convert 5 3 (.int .u8 (x : Int))) K = K (.int .i64 (x : Int)) := by
  rw [q_conv _ u_uint8 u_int, wi64 (by omega) (by omega)]
theorem conv35 {h : Hp} {K : Value → Prop} (x : Nat) (hx : x < 256) : q P h (convert 3 5 (.int .i64 (x : Int))) K = K (.int .u8 (x : Int)) := by
  rw [q_conv _ u_int u_uint8, wu8i (by omega) (by omega)]
/-- One more at a row's end. -/
theorem aw_push {H : Hp} {h' : Hp} {v : Value} {l : List Nat} {x : Nat} {K : Value → Hp → Prop} (n : Nn H t_int .i64 v h' l) (hl : l.length ≤ 1099511627776) (k : ∀ v' h'', Nn H t_int .i64 v' h'' (l ++ [x]) → K v' h'') :
    aw P (Instr.buildSlice 45 1 #[(0, .int .i64 (x : Int))]) (fun t h => aw P (Builtin.append_ #[45, 45] 45 #[v, t]) (fun u h => K u h) h) h' :=
  aw_lit (n := 1) (ps := [(0, _)]) u_Sl_int z_int zr_int rfl (by omega) (by intro p hp; rw [List.mem_singleton.1 hp]; exact ⟨rfl, by omega⟩) fun x h4 hx _ =>
    aw_appendN u_Sl_int u_Sl_int nfo_int rfl (by omega) n hx (by intro y hy; simp [fillL] at hy; subst hy; rfl) (by omega) fun v5 h5 hw5 => k v5 h5 (by unfold Nn; rw [nv_app, List.length_append]; exact hw5)
theorem aw_push8 {H : Hp} {h' : Hp} {v : Value} {l : List Nat} {x : Nat} {K : Value → Hp → Prop} (n : Nn H t_uint8 .u8 v h' l) (hl : l.length ≤ 1099511627776) (k : ∀ v' h'', Nn H t_uint8 .u8 v' h'' (l ++ [x]) → K v' h'') :
    aw P (Instr.buildSlice 22 1 #[(0, .int .u8 (x : Int))]) (fun t h => aw P (Builtin.append_ #[22, 22] 22 #[v, t]) (fun u h => K u h) h) h' :=
  aw_lit (n := 1) (ps := [(0, _)]) u_Sl_uint8 z_uint8 zr_uint8 rfl (by omega) (by intro p hp; rw [List.mem_singleton.1 hp]; exact ⟨rfl, by omega⟩) fun x h4 hx _ =>
    aw_appendN u_Sl_uint8 u_Sl_uint8 nfo_uint8 rfl (by omega) n hx (by intro y hy; simp [fillL] at hy; subst hy; rfl) (by omega) fun v5 h5 hw5 => k v5 h5 (by unfold Nn; rw [nv_app, List.length_append]; exact hw5)

theorem T_ref_Tag {vk vm : Value} {key m : List Nat} (hk : Rn h .u8 vk key) (hm : Rn h .u8 vm m) (bk : Bytes key) (bm : Bytes m) (lk : key.length = 32) (hl : m.length ≤ 70368744177664)
    (k : ∀ v h', Nn h t_uint8 .u8 v h' (tagL key m) → K (.tuple #[v, .int .i64 0]) h') : Cn P n_orlopref05_Tag #[vk, vm] h K := by
  rw [tagL_eq key m lk bk bm] at k
  refine Cn_wk (F_orlopref05_Tag ?_)
  unfold s_orlopref05_Tag
  obtain ⟨ak, ck, rfl, hck⟩ := hk.shape
  obtain ⟨am, cm, rfl, hcm⟩ := hm.shape
  obtain ⟨bk', ok, rfl, hyk⟩ := hk.pos (by omega)
  have e32 : (((key.length : Nat) : Int) != 32) = false := by rw [lk]; rfl
  simp -zeta (disch := omega) only [GL, RL, e32, Bool.false_eq_true, if_false]
  refine Lp_mk (fun u vs h' => ∃ (i : Nat) (r s : Value) (ha : Hp), i + u = 16 ∧ Nn h t_int .i64 r ha ((clampR key).take i) ∧ Nn ha t_int .i64 s h' ((key.drop 16).take i) ∧ vs = [r, s, .int .i64 (i : Int)]) 16
    ⟨0, _, _, h, rfl, Nn.nil .., Nn.nil .., rfl⟩ ?_
  rintro u vs h1 ⟨i, r, s, ha, hi, nr, ns, rfl⟩
  have e16 : decide ((i : Int) < 16) = decide (i < 16) := lt_dec i 16
  simp -zeta (disch := omega) only [GL, RL, e16]
  have lR : ((clampR key).take i).length = i := by rw [List.length_take, clampR_len]; omega
  have lS : ((key.drop 16).take i).length = i := by rw [List.length_take, List.length_drop]; omega
  by_cases hlt : i < 16
  · have x1 := ns.cle _ _ (nr.cle _ _ (hyk i (by omega)))
    have b1 := bk.getD i
    simp -zeta (disch := omega) only [GL, RL, hlt, decide_true, if_true, x1, conv53 _ b1]
    intro J14
    have p14 : ∀ t : Nat, t = (if i % 4 = 3 then key.getD i 0 % 16 else key.getD i 0) → J14 (.int .i64 (t : Int)) h1 := by
      intro t ht
      simp -zeta only [J14]
      clear J14
      intro J16
      have p16 : ∀ x : Nat, x = clampI key i → J16 (.int .i64 (x : Int)) h1 := by
        intro x hx
        simp -zeta only [J16]
        clear J16
        obtain ⟨hb, ns', nr'⟩ := New.swap nr ns
        refine aw_lit (n := 1) (ps := [(0, _)]) u_Sl_int z_int zr_int rfl (by omega) (by intro p hp; rw [List.mem_singleton.1 hp]; exact ⟨rfl, by omega⟩) fun t46 h2 n46 _ => ?_
        refine aw_appendN u_Sl_int u_Sl_int nfo_int rfl (by omega) nr' n46 (by intro y hy; simp [fillL] at hy; subst hy; rfl) (by rw [lR]; omega) fun t47 h3 n47 => ?_
        have nr2 : Nn hb t_int .i64 t47 h3 ((clampR key).take (i + 1)) := by
          rw [clampR_take key i hlt, ← hx]
          unfold Nn; rw [nv_app, List.length_append]; exact n47
        have x2 := nr2.cle _ _ (ns'.cle _ _ (hyk (16 + i) (by omega)))
        have b2 := bk.getD (16 + i)
        have e16i : (16 : Int) + (i : Int) = ((16 + i : Nat) : Int) := by omega
        simp -zeta (disch := omega) only [GL, RL, wi64, e16i, x2, conv53 _ b2]
        obtain ⟨hc, nr3, ns3⟩ := New.swap ns' nr2
        refine aw_lit (n := 1) (ps := [(0, _)]) u_Sl_int z_int zr_int rfl (by omega) (by intro p hp; rw [List.mem_singleton.1 hp]; exact ⟨rfl, by omega⟩) fun t55 h4 n55 _ => ?_
        refine aw_appendN u_Sl_int u_Sl_int nfo_int rfl (by omega) ns3 n55 (by intro y hy; simp [fillL] at hy; subst hy; rfl) (by rw [lS]; omega) fun t56 h5 n56 => ?_
        have hs2 : (key.drop 16).take (i + 1) = (key.drop 16).take i ++ [key.getD (16 + i) 0] := by
          rw [List.take_succ_eq_append_getElem (by rw [List.length_drop]; omega)]
          congr 1
          simp [List.getD_eq_getElem?_getD, show 16 + i < key.length by omega]
        refine ⟨h5, .refl _, u - 1, by omega, i + 1, t47, t56, hc, by omega, nr3, ?_, rfl⟩
        rw [hs2]
        unfold Nn; rw [nv_app, List.length_append]; exact n56
      clear_value J16
      have ht256 : t < 256 := by subst ht; split <;> omega
      have egt : decide ((0 : Int) < (i : Int)) = decide (0 < i) := lt_dec 0 i
      have em4 : ((i : Int)).tmod 4 = ((i % 4 : Nat) : Int) := (Int.ofNat_tmod i 4).symm
      have ed4 : ((t : Int)).tdiv 4 = ((t / 4 : Nat) : Int) := (Int.ofNat_tdiv t 4).symm
      have e0 : (((i % 4 : Nat) : Int) == 0) = decide (i % 4 = 0) := by rw [Bool.eq_iff_iff, beq_iff_eq, decide_eq_true_eq]; omega
      simp -zeta (disch := omega) only [GL, RL, egt, em4, e0]
      by_cases h0 : 0 < i
      · simp only [h0, decide_true, if_true]
        by_cases h4 : i % 4 = 0
        · have emul : ((t / 4 : Nat) : Int) * 4 = ((t / 4 * 4 : Nat) : Int) := by push_cast; rfl
          simp (disch := omega) only [GL, RL, h4, decide_true, if_true, ed4, wi64, emul]
          refine p16 _ ?_
          rw [ht, if_neg (show ¬ i % 4 = 3 by omega), clampI, if_neg (show ¬ i % 4 = 3 by omega), if_pos ⟨h0, h4⟩]
        · simp (disch := omega) only [h4, decide_false, Bool.false_eq_true, if_false]
          refine p16 _ ?_
          rw [ht, clampI]
          by_cases h3 : i % 4 = 3
          · rw [if_pos h3, if_pos h3]
          · rw [if_neg h3, if_neg h3, if_neg (by omega)]
      · simp only [h0, decide_false, Bool.false_eq_true, if_false]
        refine p16 _ ?_
        rw [ht, clampI, if_neg (by omega), if_neg (by omega), if_neg (by omega)]
    clear_value J14
    have em4 : ((i : Int)).tmod 4 = ((i % 4 : Nat) : Int) := (Int.ofNat_tmod i 4).symm
    have e3 : (((i % 4 : Nat) : Int) == 3) = decide (i % 4 = 3) := by rw [Bool.eq_iff_iff, beq_iff_eq, decide_eq_true_eq]; omega
    have em16 : ((key.getD i 0 : Nat) : Int).tmod 16 = ((key.getD i 0 % 16 : Nat) : Int) := (Int.ofNat_tmod _ 16).symm
    simp (disch := omega) only [GL, RL, em4, e3]
    by_cases h3 : i % 4 = 3
    · simp (disch := omega) only [GL, RL, h3, decide_true, if_true, em16]
      exact p14 _ (by rw [if_pos h3])
    · simp (disch := omega) only [h3, decide_false, Bool.false_eq_true, if_false]
      exact p14 _ (by rw [if_neg h3])
  obtain rfl : i = 16 := by omega
  rw [List.take_of_length_le (by rw [clampR_len]; omega)] at nr
  rw [List.take_of_length_le (by rw [List.length_drop]; omega)] at ns
  simp -zeta only [hlt, decide_false, Bool.false_eq_true, if_false]
  have br : Bytes (clampR key) := clampR_bytes bk
  have lr : (clampR key).length = 16 := clampR_len key
  have vr : leval (clampR key) < 21267647932558653966460912964485513216 := clampR_lt bk
  generalize clampR key = R at nr br lr vr k
  have hle1 : Hp.le h h1 := nr.le.trans ns.le
  have hcl1 : Hp.cle h h1 := nr.cle.trans ns.cle
  have hr1 : Rn h1 .i64 r R := nr.rn.mono ns.cle
  have hs1 : Rn h1 .i64 s (key.drop 16) := ns.rn
  clear lR lS
  refine aw_make (n := 17) (c := 17) u_Sl_int nfo_int rfl (by omega) (by omega) (by omega) fun t57 h2 n57 => ?_
  rw [replicate_nv] at n57
  refine Lp_mk (fun u vs h' => ∃ (i : Nat) (a : Value) (A : List Nat), i + u = (m.length + 15) / 16 ∧ Hp.le h1 h' ∧ Hp.cle h1 h' ∧ Rn h' .i64 a A ∧ A.length = 17 ∧ Bytes A ∧ leval A = accR (leval R) m i ∧ vs = [a, .int .i64 ((16 * i : Nat) : Int)]) ((m.length + 15) / 16)
    ⟨0, t57, List.replicate 17 0, by omega, n57.le, n57.cle, n57.rds, rfl, by intro x hx; rw [List.mem_replicate] at hx; omega, rfl, rfl⟩ ?_
  clear n57 t57
  rintro u vs h3 ⟨i, a, A, hi, le3, c3, hA, lA, bA, eA, rfl⟩
  simp -zeta (disch := omega) only [GL, RL, lt_dec]
  by_cases hlt : 16 * i < m.length
  · simp -zeta only [hlt, decide_true, if_true]
    intro J27
    have p27 : ∀ b h4, Nn h3 t_int .i64 b h4 (chunk m i) → J27 b h4 := by
      intro b h4 n4
      simp -zeta only [J27]
      clear J27
      have lc : (chunk m i).length ≤ 16 := chunkN_len 16 m i
      have bc : Bytes (chunk m i) := chunkN_bytes bm 16 i
      have v1 := chunk1_lt bm i
      have hacc : accR (leval R) m (i + 1) = (leval A + leval (chunk m i ++ [1])) * leval R % PP := by rw [eA]; rfl
      have aA := accR_lt (leval R) m i
      rw [← eA] at aA
      clear eA
      generalize chunk m i = C at n4 lc bc v1 hacc
      refine aw_push (x := 1) n4 (by omega) fun t88 h5 n5 => ?_
      have b1 : Bytes (C ++ [1]) := bc.append (by intro x hx; simp at hx; omega)
      refine T_ref_add 18 (by omega) (by omega) (hA.mono n5.cle) n5.rn bA b1 fun t89 h6 n6 => ?_
      have p18 : (256 : Nat) ^ 18 = 22300745198530623141535718272648361505980416 := rfl
      have e18 : leval (le 18 (leval A + leval (C ++ [1]))) = leval A + leval (C ++ [1]) := by
        rw [leval_le, Nat.mod_eq_of_lt]
        rw [p18]
        unfold PP at aA
        omega
      refine T_ref_times n6.rn (((hr1.mono c3).mono n5.cle).mono n6.cle) (le_bytes _ _) br (by rw [le_len]; omega) fun t91 h7 n7 => ?_
      rw [e18] at n7
      have hprod : (leval A + leval (C ++ [1])) * leval R < 2 ^ 256 := by
        have q1 : leval A + leval (C ++ [1]) < 2722258935367507707706996859454145691648 := by unfold PP at aA; omega
        have q2 := Nat.mul_lt_mul_of_lt_of_lt q1 vr
        exact Nat.lt_of_lt_of_le q2 (by decide)
      have p36 : (2 : Nat) ^ 256 ≤ 256 ^ 36 := by
        have e : (2 : Nat) ^ 256 = 256 ^ 32 := rfl
        rw [e]; exact Nat.pow_le_pow_right (by decide) (by decide)
      have e36 : leval (le 36 ((leval A + leval (C ++ [1])) * leval R)) = (leval A + leval (C ++ [1])) * leval R := by
        rw [leval_le, Nat.mod_eq_of_lt (Nat.lt_of_lt_of_le hprod p36)]
      refine T_ref_rest n7.rn (le_bytes _ _) (le_len _ _) (by rw [e36]; exact hprod) fun t92 h8 n8 => ?_
      rw [e36, ← hacc] at n8
      have e16 : ((16 * i : Nat) : Int) + 16 = ((16 * (i + 1) : Nat) : Int) := by omega
      simp (disch := omega) only [GL, RL, wi64, e16]
      refine ⟨h8, .refl _, u - 1, by omega, i + 1, t92, _, by omega, (((le3.trans n5.le).trans n6.le).trans n7.le).trans n8.le, (((c3.trans n5.cle).trans n6.cle).trans n7.cle).trans n8.cle, n8.rn, le_len _ _, le_bytes _ _, ?_, rfl⟩
      rw [leval_le, Nat.mod_eq_of_lt]
      have := accR_lt (leval R) m (i + 1)
      have p17 : (256 : Nat) ^ 17 = 87112285931760246646623899502532662132736 := rfl
      rw [p17]
      unfold PP at this
      omega
    clear_value J27
    refine Lp_mk (fun w vs h' => ∃ (j : Nat) (b : Value), 16 * i ≤ j ∧ j ≤ min (16 * i + 16) m.length ∧ w = 16 * i + 16 - j ∧ Nn h3 t_int .i64 b h' ((m.take j).drop (16 * i)) ∧ vs = [b, .int .i64 (j : Int)]) 16
      ⟨16 * i, _, Nat.le_refl _, by omega, by omega, by
        rw [List.drop_of_length_le (by rw [List.length_take]; omega)]
        exact Nn.nil .., rfl⟩ ?_
    rintro w vs h4 ⟨j, b, hj1, hj2, rfl, nb, rfl⟩
    intro J30
    have e16 : ((16 * i : Nat) : Int) + 16 = ((16 * i + 16 : Nat) : Int) := by omega
    simp (disch := omega) only [GL, RL, wi64, e16, lt_dec]
    have done : ¬ (j < 16 * i + 16 ∧ j < m.length) → J27 b h4 := by
      intro hn
      refine p27 b h4 ?_
      have : j = min (16 * i + 16) m.length := by omega
      rw [this] at nb
      exact nb
    by_cases hj3 : j < 16 * i + 16
    · simp only [hj3, decide_true, if_true]
      by_cases hj4 : j < m.length
      · simp only [hj4, decide_true, if_true]
        simp only [J30]
        clear J30
        obtain ⟨bm', om, rfl, hym⟩ := hm.pos (by omega)
        have x1 := nb.cle _ _ (c3 _ _ (hcl1 _ _ (hym j hj4)))
        have b1 := bm.getD j
        simp (disch := omega) only [GL, RL, x1, conv53 _ b1]
        have ln : ((m.take j).drop (16 * i)).length = j - 16 * i := by rw [List.length_drop, List.length_take]; omega
        refine aw_push nb (by rw [ln]; omega) fun t84 h5 n5 => ?_
        simp (disch := omega) only [GL, RL, wi64]
        refine ⟨h5, .refl _, 16 * i + 16 - (j + 1), by omega, j + 1, t84, by omega, by omega, rfl, ?_, rfl⟩
        have : (m.take (j + 1)).drop (16 * i) = (m.take j).drop (16 * i) ++ [m.getD j 0] := by
          rw [List.take_succ_eq_append_getElem hj4, List.drop_append_of_le_length (by rw [List.length_take]; omega)]
          simp [List.getD_eq_getElem?_getD, hj4]
        rw [this]
        exact n5
      · simp only [hj4, decide_false, Bool.false_eq_true, if_false]
        exact done (by omega)
    · simp only [hj3, decide_false, Bool.false_eq_true, if_false]
      exact done (by omega)
  · obtain rfl : i = (m.length + 15) / 16 := by omega
    simp only [hlt, decide_false, Bool.false_eq_true, if_false]
    refine T_ref_add 16 (by omega) (by omega) hA (hs1.mono c3) bA (bk.drop 16) fun t95 h4 n4 => ?_
    rw [eA] at n4
    generalize accR (leval R) m ((m.length + 15) / 16) + leval (key.drop 16) = V at n4 k
    have lX := le_len 16 V
    have bX := le_bytes 16 V
    generalize le 16 V = X at n4 k lX bX
    obtain ⟨ax, cx, rfl, hcx⟩ := n4.rn.shape
    obtain ⟨bx, ox, rfl, hyx⟩ := n4.rn.pos (by omega)
    refine Lp_mk (fun u vs h' => ∃ (i : Nat) (v : Value), i + u = 16 ∧ Nn h4 t_uint8 .u8 v h' (X.take i) ∧ vs = [v, .int .i64 (i : Int)]) 16 ⟨0, _, rfl, Nn.nil .., rfl⟩ ?_
    rintro u' vs h5 ⟨j, v, hj, nv', rfl⟩
    have e16 : decide ((j : Int) < 16) = decide (j < 16) := lt_dec j 16
    simp (disch := omega) only [GL, RL, e16]
    by_cases hjl : j < 16
    · have x1 := nv'.cle _ _ (hyx j (by omega))
      have b1 := bX.getD j
      simp (disch := omega) only [GL, RL, hjl, decide_true, if_true, x1, conv35 _ b1]
      have lt : (X.take j).length = j := by rw [List.length_take]; omega
      refine aw_push8 nv' (by rw [lt]; omega) fun t107 h6 n6 => ?_
      simp (disch := omega) only [GL, RL, wi64]
      refine ⟨h6, .refl _, u' - 1, by omega, j + 1, t107, by omega, ?_, rfl⟩
      have : X.take (j + 1) = X.take j ++ [X.getD j 0] := by
        rw [List.take_succ_eq_append_getElem (by omega)]
        simp [List.getD_eq_getElem?_getD, show j < X.length by omega]
      rw [this]
      exact n6
    · obtain rfl : j = 16 := by omega
      simp only [hjl, decide_false, Bool.false_eq_true, if_false]
      rw [List.take_of_length_le (by omega)] at nv'
      obtain ⟨h0, l0, n0⟩ := nv'.down ((hle1.trans le3).trans n4.le)
      exact ⟨h0, l0, k _ _ n0⟩
end
end Go.Proofs.Ytoepmfgahcbmiaa
