/- What the reference's block comes to: the same as the program's. Conditions: each names its own. -/
import Derived.Test.YtoepmfgahcbmiaaSXa
set_option linter.unusedSimpArgs false
set_option linter.unusedVariables false
set_option maxRecDepth 100000
set_option maxHeartbeats 2000000
namespace Go.Proofs.Ytoepmfgahcbmiaa
open Go Go.SL Go.Pure

section
variable {h : Hp} {K : Value → Hp → Prop}
theorem T_ref_Block {vk vn : Value} {key nonce : List Nat} (counter : Nat) (hc : counter < 4294967296) (hk : Rn h .u8 vk key) (hn : Rn h .u8 vn nonce) (bk : Bytes key) (bn : Bytes nonce) (lk : key.length = 32) (ln : nonce.length = 12)
    (k : ∀ v h', Nn h t_uint8 .u8 v h' (blockL key nonce counter) → K v h') : Cn P n_orlopref04_Block #[vk, vn, .int .u32 counter] h K := by
  refine Cn_wk (F_orlopref04_Block ?_)
  unfold s_orlopref04_Block
  refine aw_lit (ps := [(0, _), (1, _), (2, _), (3, _)]) u_Sl_uint32 z_uint32 zr_uint32 rfl (by omega) (by intro p hp; simp at hp; rcases hp with rfl | rfl | rfl | rfl <;> exact ⟨rfl, by show _ < 4; omega⟩) fun v19 h1 n1 _ => ?_
  have n1' : New h t_uint32 1 v19 h1 (nv .u32 (consts ++ words key 0)) (consts ++ words key 0).length := n1
  refine Lp_mk (fun u vs h' => ∃ (i : Nat) (v : Value), i + u = 8 ∧ New h t_uint32 1 v h' (nv .u32 (consts ++ words key i)) (consts ++ words key i).length ∧ vs = [v, .int .i64 (i : Int)]) 8 ⟨0, v19, rfl, n1', rfl⟩ ?_
  clear n1 n1'
  rintro u vs h2 ⟨i, v, hi, hw, rfl⟩
  have e4 : (4 : Int) * (i : Int) = ((4 * i : Nat) : Int) := by omega
  have e8 : decide ((i : Int) < 8) = decide (i < 8) := lt_dec i 8
  simp (disch := omega) only [GL, RL, wi64, e8, e4]
  by_cases hlt : i < 8
  · simp only [hlt, decide_true, if_true]
    have := @T_ref_words h v
    refine T_ref_words i (hk.mono hw.cle) bk (by omega) (by omega) hw (by rw [List.length_append, words_len]; simp [consts]; omega) fun v' h' hw' => ?_
    refine ⟨_, .refl _, u - 1, by omega, i + 1, v', by omega, ?_, rfl⟩
    rw [words_succ, ← List.append_assoc]
    exact hw'
  obtain rfl : i = 8 := by omega
  simp only [hlt, decide_false, Bool.false_eq_true, if_false]
  refine aw_lit (ps := [(0, _)]) u_Sl_uint32 z_uint32 zr_uint32 rfl (by omega) (by intro p hp; rw [List.mem_singleton.1 hp]; exact ⟨rfl, by show _ < 1; omega⟩) fun x h4 hx' _ => ?_
  refine aw_appendN u_Sl_uint32 u_Sl_uint32 nfo_uint32 rfl (by omega) hw hx' (by intro y hy; simp [fillL] at hy; subst hy; rfl) (by rw [List.length_append, words_len]; simp [consts]) fun v36 h5 hw5 => ?_
  have hw5' : New h t_uint32 1 v36 h5 (nv .u32 (consts ++ words key 8 ++ [counter] ++ words nonce 0)) (consts ++ words key 8 ++ [counter] ++ words nonce 0).length := by
    rw [show words nonce 0 = [] from rfl, List.append_nil, nv_app, List.length_append]
    exact hw5
  refine Lp_mk (fun u vs h' => ∃ (i : Nat) (v : Value), i + u = 3 ∧ New h t_uint32 1 v h' (nv .u32 (consts ++ words key 8 ++ [counter] ++ words nonce i)) (consts ++ words key 8 ++ [counter] ++ words nonce i).length ∧ vs = [v, .int .i64 (i : Int)]) 3 ⟨0, v36, rfl, hw5', rfl⟩ ?_
  clear hw5 hw5' hw hlt
  rintro u vs h6 ⟨i, v, hi, hw, rfl⟩
  have e4 : (4 : Int) * (i : Int) = ((4 * i : Nat) : Int) := by omega
  simp (disch := omega) only [GL, RL, wi64, lt_dec3, e4]
  by_cases hlt : i < 3
  · simp only [hlt, decide_true, if_true]
    refine T_ref_words i (hn.mono hw.cle) bn (by omega) (by omega) hw (by simp [consts, words_len]; omega) fun v' h' hw' => ?_
    refine ⟨_, .refl _, u - 1, by omega, i + 1, v', by omega, ?_, rfl⟩
    rw [words_succ, ← List.append_assoc]
    exact hw'
  obtain rfl : i = 3 := by omega
  simp only [hlt, decide_false, Bool.false_eq_true, if_false]
  have hBB : consts ++ words key 8 ++ [counter] ++ words nonce 3 = beginL key nonce counter := rfl
  rw [hBB] at hw
  obtain ⟨B, hB⟩ : ∃ B, beginL key nonce counter = B := ⟨_, rfl⟩
  have lB : B.length = 16 := by rw [← hB, beginL_len]
  have wB : W32 B := by rw [← hB]; exact beginL_w bk bn hc
  rw [hB] at hw
  refine aw_lit (ps := []) (n := 0) u_Sl_uint32 z_uint32 zr_uint32 rfl (by omega) (by intro p hp; cases hp) fun v50 h7 n7 _ => ?_
  refine aw_append u_Sl_uint32 u_Sl_uint32 nfo_uint32 rfl (by omega) n7 (hw.rds.mono n7.cle) (nv_flat _ _) (by omega) (.refl _) fun v52 h8 n8 => ?_
  have n8' : New h6 t_uint32 1 v52 h8 (nv .u32 B) 16 := by rw [← lB]; simpa [fillL] using n8
  rw [lB] at hw
  obtain ⟨bx, cx, fx, hbx, hcx, rfl, hh6, hfx⟩ := hw.form (by omega)
  obtain ⟨bs, cs, fs, hbs, hcs, rfl, hh8, hfs⟩ := n8'.form (by omega)
  have hxs : bx ≠ bs := by rintro rfl; rw [hh6, Hp.set_same] at hbs; cases hbs
  obtain ⟨M, hM⟩ : ∃ M : List Nat → Hp, ∀ S, h6.set bs (.row t_uint32 (nv .u32 S) (cs * 1) (some fs)) = M S := ⟨_, fun S => rfl⟩
  have Ms : ∀ S, M S bs = some (.row t_uint32 (nv .u32 S) (cs * 1) (some fs)) := fun S => by rw [← hM, Hp.set_same]
  have Mx : ∀ S, M S bx = some (.row t_uint32 (nv .u32 B) (cx * 1) (some fx)) := fun S => by rw [← hM, Hp.set_ne _ _ hxs, hh6, Hp.set_same]
  have Mset : ∀ S S', (M S).set bs (.row t_uint32 (nv .u32 S') (cs * 1) (some fs)) = M S' := fun S S' => by rw [← hM, ← hM, Hp.set_set]
  have leM : ∀ S, Hp.le h (M S) := fun S => by rw [← hM]; exact hw.le.trans (le_fresh hbs)
  have hfs' : ∀ i, i < 16 → ¬ (fs.1 ≤ i ∧ i < fs.2) := fun i hi => hfs i (by omega)
  rw [hh8, hM]
  clear hh8 hM n8 n8' n7 hw hlt
  -- four stores
  have four : ∀ (S : List Nat) (a b c d : Nat) (t93 t94 t95 t96 : Nat) (K' : Hp → Prop), S.length = 16 → a < 16 → b < 16 → c < 16 → d < 16 → K' (M ((((S.set a t93).set b t94).set c t95).set d t96)) →
      aw P (Instr.storeAt 33 (.pointer (some ⟨bs, a, none⟩)) (.int .u32 (t93 : Int))) (fun _ h => aw P (Instr.storeAt 33 (.pointer (some ⟨bs, b, none⟩)) (.int .u32 (t94 : Int))) (fun _ h => aw P (Instr.storeAt 33 (.pointer (some ⟨bs, c, none⟩)) (.int .u32 (t95 : Int))) (fun _ h =>
        aw P (Instr.storeAt 33 (.pointer (some ⟨bs, d, none⟩)) (.int .u32 (t96 : Int))) (fun _ h => K' h) h) h) h) (M S) := by
    intro S a b c d t93 t94 t95 t96 K' lS ha hb hc hd q
    refine storeN z_uint32 (Ms _) (by omega) (hfs' a ha) ?_
    rw [Mset]
    refine storeN z_uint32 (Ms _) (by rw [List.length_set]; omega) (hfs' b hb) ?_
    rw [Mset]
    refine storeN z_uint32 (Ms _) (by rw [List.length_set, List.length_set]; omega) (hfs' c hc) ?_
    rw [Mset]
    refine storeN z_uint32 (Ms _) (by rw [List.length_set, List.length_set, List.length_set]; omega) (hfs' d hd) ?_
    rw [Mset]
    exact q
  refine Lp_mk (fun m vs h' => ∃ i : Nat, i + m = 10 ∧ h' = M (rounds i B) ∧ vs = [.int .i64 (i : Int)]) 10 ⟨0, rfl, rfl, rfl⟩ ?_
  rintro m vs h' ⟨i, hi, rfl, rfl⟩
  have lR : (rounds i B).length = 16 := by rw [rounds_len, lB]
  have wR : W32 (rounds i B) := rounds_w i wB
  have e10 : decide ((i : Int) < 10) = decide (i < 10) := lt_dec i 10
  simp (disch := omega) only [GL, RL, wi64, e10]
  by_cases hlt : i < 10
  · simp only [hlt, decide_true, if_true]
    obtain ⟨R, hR⟩ : ∃ R, rounds i B = R := ⟨_, rfl⟩
    rw [hR] at lR wR ⊢
    have lS : ∀ j, ((quads.take j).foldl stepL R).length = 16 := fun j => by rw [foldStep_len, lR]
    have wS : ∀ j, W32 ((quads.take j).foldl stepL R) := fun j => foldStep_w _ wR
    refine Lp_mk (fun m' vs h' => ∃ j : Nat, j + m' = 4 ∧ h' = M ((quads.take j).foldl stepL R) ∧ vs = [.int .i64 (j : Int)]) 4 ⟨0, rfl, rfl, rfl⟩ ?_
    rintro m' vs h' ⟨j, hj, rfl, rfl⟩
    simp (disch := omega) only [GL, RL, wi64, lt_dec4]
    by_cases hlt2 : j < 4
    · have hq := quads_get j (by omega)
      rw [if_pos hlt2] at hq
      have hst := quads_step R j (by omega) _ hq
      have lSj := lS j
      have wSj := wS j
      obtain ⟨S, hS⟩ : ∃ S, (quads.take j).foldl stepL R = S := ⟨_, rfl⟩
      rw [hS] at hst lSj wSj ⊢
      have t1 : ((4 : Int) + (j : Int)).toNat = 4 + j := by omega
      have t2 : ((8 : Int) + (j : Int)).toNat = 8 + j := by omega
      have t3 : ((12 : Int) + (j : Int)).toNat = 12 + j := by omega
      have c0 := cellN (i := j) (Ms S) (by omega)
      have c1 := cellN (i := 4 + j) (Ms S) (by omega)
      have c2 := cellN (i := 8 + j) (Ms S) (by omega)
      have c3 := cellN (i := 12 + j) (Ms S) (by omega)
      simp (disch := omega) only [GL, RL, wi64, hlt2, decide_true, if_true, t1, t2, t3, c0, c1, c2, c3]
      refine T_ref_quarter _ _ _ _ (wSj.getD _) (wSj.getD _) (wSj.getD _) (wSj.getD _) ?_
      simp (disch := omega) only [GL, RL, wi64, t1, t2, t3, e4_0, e4_1, e4_2, e4_3]
      refine four S j (4 + j) (8 + j) (12 + j) _ _ _ _ _ lSj (by omega) (by omega) (by omega) (by omega) ?_
      refine ⟨_, .refl _, m' - 1, by omega, j + 1, by omega, ?_, rfl⟩
      rw [hst, stepL]
      dsimp only
      rw [quarter_eq S _ _ _ _ (by omega) (by omega) (by omega) (by omega) (by omega) (by omega) (by omega) (by omega) (by omega) (by omega)]
      rfl
    obtain rfl : j = 4 := by omega
    simp only [hlt2, decide_false, Bool.false_eq_true, if_false]
    refine Lp_mk (fun m' vs h' => ∃ j : Nat, j + m' = 4 ∧ h' = M ((quads.take (j + 4)).foldl stepL R) ∧ vs = [.int .i64 (j : Int)]) 4 ⟨0, rfl, rfl, rfl⟩ ?_
    rintro m' vs h' ⟨j, hj, rfl, rfl⟩
    simp (disch := omega) only [GL, RL, wi64, lt_dec4]
    by_cases hlt3 : j < 4
    · have hq := quads_get (j + 4) (by omega)
      rw [if_neg (by omega), Nat.add_sub_cancel] at hq
      have hst := quads_step R (j + 4) (by omega) _ hq
      have lSj := lS (j + 4)
      have wSj := wS (j + 4)
      obtain ⟨S, hS⟩ : ∃ S, (quads.take (j + 4)).foldl stepL R = S := ⟨_, rfl⟩
      rw [hS] at hst lSj wSj ⊢
      have r1 : ((j : Int) + 1).tmod 4 = (((j + 1) % 4 : Nat) : Int) := (Int.ofNat_tmod (j + 1) 4).symm
      have r2 : ((j : Int) + 2).tmod 4 = (((j + 2) % 4 : Nat) : Int) := (Int.ofNat_tmod (j + 2) 4).symm
      have r3 : ((j : Int) + 3).tmod 4 = (((j + 3) % 4 : Nat) : Int) := (Int.ofNat_tmod (j + 3) 4).symm
      have t1 : ((4 : Int) + (((j + 1) % 4 : Nat) : Int)).toNat = 4 + (j + 1) % 4 := by omega
      have t2 : ((8 : Int) + (((j + 2) % 4 : Nat) : Int)).toNat = 8 + (j + 2) % 4 := by omega
      have t3 : ((12 : Int) + (((j + 3) % 4 : Nat) : Int)).toNat = 12 + (j + 3) % 4 := by omega
      have c0 := cellN (i := j) (Ms S) (by omega)
      have c1 := cellN (i := 4 + (j + 1) % 4) (Ms S) (by omega)
      have c2 := cellN (i := 8 + (j + 2) % 4) (Ms S) (by omega)
      have c3 := cellN (i := 12 + (j + 3) % 4) (Ms S) (by omega)
      simp (disch := omega) only [GL, RL, wi64, hlt3, decide_true, if_true, r1, r2, r3, t1, t2, t3, c0, c1, c2, c3]
      refine T_ref_quarter _ _ _ _ (wSj.getD _) (wSj.getD _) (wSj.getD _) (wSj.getD _) ?_
      simp (disch := omega) only [GL, RL, wi64, t1, t2, t3, e4_0, e4_1, e4_2, e4_3]
      refine four S j (4 + (j + 1) % 4) (8 + (j + 2) % 4) (12 + (j + 3) % 4) _ _ _ _ _ lSj (by omega) (by omega) (by omega) (by omega) ?_
      refine ⟨_, .refl _, m' - 1, by omega, j + 1, by omega, ?_, rfl⟩
      rw [show j + 1 + 4 = j + 4 + 1 by omega, hst, stepL]
      dsimp only
      rw [quarter_eq S _ _ _ _ (by omega) (by omega) (by omega) (by omega) (by omega) (by omega) (by omega) (by omega) (by omega) (by omega)]
      rfl
    obtain rfl : j = 4 := by omega
    simp only [hlt3, decide_false, Bool.false_eq_true, if_false]
    refine ⟨_, .refl _, m - 1, by omega, i + 1, by omega, ?_, rfl⟩
    rw [rounds, hR]
    rfl
  obtain rfl : i = 10 := by omega
  simp only [hlt, decide_false, Bool.false_eq_true, if_false]
  obtain ⟨R, hR⟩ : ∃ R, rounds 10 B = R := ⟨_, rfl⟩
  rw [hR] at lR wR ⊢
  refine Lp_mk (fun m' vs h' => ∃ (j : Nat) (v : Value), j + m' = 16 ∧ New (M R) t_uint8 1 v h' (nv .u8 (outL R B j)) (4 * j) ∧ vs = [v, .int .i64 (j : Int)]) 16 ⟨0, .slice none 0 0, rfl, ⟨rfl, .inl ⟨rfl, rfl, rfl⟩⟩, rfl⟩ ?_
  rintro m' vs h3 ⟨j, v, hj, hw, rfl⟩
  have e16 : decide ((j : Int) < 16) = decide (j < 16) := lt_dec j 16
  simp (disch := omega) only [GL, RL, wi64, e16]
  by_cases hlt2 : j < 16
  · have c1 : h3.cell ⟨bs, j, none⟩ = some (.int .u32 ((R.getD j 0 : Nat) : Int)) := hw.cle _ _ (cellN (Ms R) (by omega))
    have c2 : h3.cell ⟨bx, j, none⟩ = some (.int .u32 ((B.getD j 0 : Nat) : Int)) := hw.cle _ _ (cellN (Mx R) (by omega))
    have hm := Nat.mod_lt (R.getD j 0 + B.getD j 0) (show 4294967296 > 0 by decide)
    simp (disch := omega) only [GL, RL, wi64, hlt2, decide_true, if_true, c1, c2, add32, wu64i]
    refine T_orlopref01_Little _ 4 (by omega) (by omega) fun r' h4 hp => ?_
    have hp' : New h3 t_uint8 1 r' h4 (nv .u8 (le 4 ((R.getD j 0 + B.getD j 0) % 4294967296))) 4 := by
      unfold Nn at hp; rw [le_len] at hp; exact hp
    refine aw_appendN u_Sl_uint8 u_Sl_uint8 nfo_uint8 rfl (by omega) hw hp' (nv_flat _ _) (by omega) fun v' h5 hw5 => ?_
    refine ⟨_, .refl _, m' - 1, by omega, j + 1, v', by omega, ?_, rfl⟩
    rw [out_step, nv_app]
    exact hw5
  · obtain rfl : j = 16 := by omega
    simp only [hlt2, decide_false, Bool.false_eq_true, if_false]
    have hfin : outL R B 16 = blockL key nonce counter := by unfold blockL; rw [hB, hR]
    rw [hfin] at hw
    obtain ⟨h0, l0, hw0⟩ := New.down (leM R) hw
    refine ⟨h0, l0, k _ _ ?_⟩
    unfold Nn
    rw [blockL_len]
    exact hw0
end
end Go.Proofs.Ytoepmfgahcbmiaa
