/- What the reference's rest comes to. Conditions: each names its own. -/
import Derived.Test.YtoepmfgahcbmiaaSXj
set_option linter.unusedSimpArgs false
set_option linter.unusedVariables false
set_option maxRecDepth 100000
set_option maxHeartbeats 2000000
namespace Go.Proofs.Ytoepmfgahcbmiaa
open Go Go.SL Go.Pure

theorem app2_congr {a b c d : List Nat} (x : a = b) (y : c = d) : a ++ c = b ++ d := by rw [x, y]

section
variable {h : Hp} {K : Value → Hp → Prop}
theorem T_ref_rest {va : Value} {A0 : List Nat} (ha : Rn h .i64 va A0) (b0 : Bytes A0) (l0 : A0.length = 36) (hv : leval A0 < 2 ^ 256) (k : ∀ r h', Nn h t_int .i64 r h' (le 17 (leval A0 % PP)) → K r h') :
    Cn P n_orlopref05_rest #[va] h K := by
  refine Cn_wk (F_orlopref05_rest ?_)
  unfold s_orlopref05_rest
  refine Lp_mk (fun u vs h' => ∃ (i : Nat) (v : Value) (A : List Nat), i + u = 4 ∧ Hp.le h h' ∧ Hp.cle h h' ∧ Rn h' .i64 v A ∧ A.length = 36 ∧ Bytes A ∧ leval A = iterR (leval A0) i ∧ vs = [v, .int .i64 (i : Int)]) 4
    ⟨0, va, A0, rfl, .refl _, .refl _, ha, l0, b0, rfl, rfl⟩ ?_
  rintro u vs h1 ⟨i, v, A, hi, le1, c1, hA, lA, bA, eA, rfl⟩
  simp -zeta (disch := omega) only [GL, RL, lt_dec4]
  have hAlt : leval A < 2 ^ 256 := by rw [eA]; exact Nat.lt_of_le_of_lt (iterR_le _ _) hv
  obtain ⟨a, c, rfl, hc⟩ := hA.shape
  obtain ⟨b, o, rfl, hy⟩ := hA.pos (by omega)
  by_cases hlt : i < 4
  · simp -zeta only [hlt, decide_true, if_true]
    refine aw_make (n := 20) (c := 20) u_Sl_int nfo_int rfl (by omega) (by omega) (by omega) fun t13 h2 hw => ?_
    obtain ⟨b13, c13, f13, hb13, hc13, rfl, _, _⟩ := hw.form (by omega)
    rw [replicate_nv] at hw
    intro J9
    have fin : ∀ h3, New h1 t_int 1 (.slice (some ⟨b13, 0, none⟩) 20 c13) h3 (nv .i64 (le 20 (leval A / QQ))) 20 → J9 h3 := by
      intro h3 hw3
      simp -zeta only [J9]
      clear J9
      intro J17
      have hw3' : Nn h1 t_int .i64 (.slice (some ⟨b13, 0, none⟩) 20 c13) h3 (le 20 (leval A / QQ)) := by
        unfold Nn; rw [le_len]; exact hw3
      have hA3 := hA.mono hw3.cle
      have hx := hw3.cle _ _ (hy 16 (by omega))
      refine (q_slHi (hi := 16) u_Sl_int z_int _ _ c .i64 (by omega)).mpr ?_
      have em : ((A.getD 16 0 : Nat) : Int).tmod 4 = ((A.getD 16 0 % 4 : Nat) : Int) := (Int.ofNat_tmod _ 4).symm
      simp (disch := omega) only [GL, RL, Int.reduceToNat, hx, em]
      refine T_low b (o + 16) (A.getD 16 0) hA3 (by omega) hx J17 ?_
      intro B t63 h4 lB cB n4
      simp only [J17]
      clear J17
      have n4' : Nn B t_int .i64 t63 h4 (A.take 16 ++ [A.getD 16 0 % 4]) := by
        unfold Nn
        rw [show (A.take 16 ++ [A.getD 16 0 % 4]).length = 17 by rw [List.length_append, List.length_take]; simp; omega]
        exact n4
      have c34 : Hp.cle h3 h4 := cB.trans n4.cle
      have h13 := (hw3'.rn.mono c34)
      refine q_slRnHi u_Sl_int z_int h13 .i64 17 (by rw [le_len]; omega) fun t66 hr66 => ?_
      rw [le_take 20 17 _ (by omega)] at hr66
      refine aw_lit (n := 1) (ps := [(0, _)]) u_Sl_int z_int zr_int rfl (by omega) (by intro p hp; rw [List.mem_singleton.1 hp]; exact ⟨rfl, by omega⟩) fun t67 h5 n5 _ => ?_
      have n5' : Nn h4 t_int .i64 t67 h5 [5] := by unfold Nn; simpa [fillL, nv] using n5
      have hV : leval A / QQ < 256 ^ 17 := by
        have p : (256 : Nat) ^ 17 = 87112285931760246646623899502532662132736 := rfl
        rw [p]
        unfold QQ
        omega
      refine T_ref_times (hr66.mono n5.cle) n5'.rn (le_bytes _ _) (by intro x hx; simp at hx; omega) (by rw [le_len]; simp) fun t68 h6 n6 => ?_
      have e5 : leval [5] = 5 := rfl
      rw [leval_le, Nat.mod_eq_of_lt hV, e5] at n6
      refine q_slRnHi u_Sl_int z_int n6.rn .i64 20 (by rw [le_len]; omega) fun t69 hr69 => ?_
      rw [le_take 36 20 _ (by omega)] at hr69
      have bl : Bytes (A.take 16 ++ [A.getD 16 0 % 4]) := (bA.take 16).append (by intro x hx; simp at hx; omega)
      refine T_ref_add 36 (by omega) (by omega) ((n4'.rn.mono n5.cle).mono n6.cle) hr69 bl (le_bytes _ _) fun t70 h7 n7 => ?_
      have e20 : leval (le 20 (leval A / QQ * 5)) = 5 * (leval A / QQ) := by
        rw [leval_le, Nat.mul_comm, Nat.mod_eq_of_lt]
        have p : (256 : Nat) ^ 20 = 1461501637330902918203684832716283019655932542976 := rfl
        have p7 : (256 : Nat) ^ 17 = 87112285931760246646623899502532662132736 := rfl
        omega
      rw [low_val bA (by omega), e20] at n7
      have estep : leval A % QQ + 5 * (leval A / QQ) = iterR (leval A0) (i + 1) := by
        show _ = stepR (iterR (leval A0) i)
        rw [← eA]; rfl
      rw [estep] at n7
      simp (disch := omega) only [GL, RL, wi64]
      refine ⟨h7, .refl _, u - 1, by omega, i + 1, t70, _, by omega, ((((le1.trans hw3.le).trans lB).trans n4.le).trans n5.le).trans (n6.le.trans n7.le), ((c1.trans hw3.cle).trans c34).trans (n5.cle.trans (n6.cle.trans n7.cle)), n7.rn, le_len _ _, le_bytes _ _, ?_, rfl⟩
      rw [leval_le, Nat.mod_eq_of_lt]
      have q := leval_lt A0 b0
      rw [l0] at q
      exact Nat.lt_of_le_of_lt (iterR_le (leval A0) (i + 1)) q
    clear_value J9
    refine Lp_mk (fun u vs h' => ∃ j : Nat, j + u = 20 ∧ New h1 t_int 1 (.slice (some ⟨b13, 0, none⟩) 20 c13) h' (nv .i64 ((le 20 (leval A / QQ)).take j ++ List.replicate (20 - j) 0)) 20 ∧ vs = [.int .i64 (j : Int)]) 20
      ⟨0, rfl, by simpa using hw, rfl⟩ ?_
    clear hw
    rintro u' vs h3 ⟨j, hj, hw, rfl⟩
    intro J12
    have e20 : decide ((j : Int) < 20) = decide (j < 20) := lt_dec j 20
    simp (disch := omega) only [GL, RL, e20, wi64]
    by_cases hjl : j < 20
    · have e36 : decide ((16 : Int) + (j : Int) < ((A.length : Nat) : Int)) = true := decide_eq_true (by omega)
      simp only [hjl, decide_true, if_true, e36]
      have e16 : (16 : Int) + (j : Int) = ((16 + j : Nat) : Int) := by omega
      have e17 : (17 : Int) + (j : Int) = ((17 + j : Nat) : Int) := by omega
      have e37 : decide (((17 + j : Nat) : Int) < ((A.length : Nat) : Int)) = decide (17 + j < A.length) := lt_dec _ _
      simp only [J12]
      clear J12
      have x1 := bA.getD (16 + j)
      have x2 := bA.getD (17 + j)
      have d1 : ((A.getD (16 + j) 0 : Nat) : Int).tdiv 4 = ((A.getD (16 + j) 0 / 4 : Nat) : Int) := (Int.ofNat_tdiv _ 4).symm
      have d2 : ((A.getD (17 + j) 0 : Nat) : Int).tmod 4 = ((A.getD (17 + j) 0 % 4 : Nat) : Int) := (Int.ofNat_tmod _ 4).symm
      have y1 := hw.cle _ _ (hy (16 + j) (by omega))
      simp (disch := omega) only [GL, RL, wi64, e16, e17, e37, y1, d1]
      refine aw_storeN z_int hw hjl rfl fun h4 hw4 => ?_
      rw [nv_set] at hw4
      have hst := le_step 20 (leval A / QQ) j hjl
      rw [high_byte bA] at hst
      have step : ∀ h5, New h1 t_int 1 (.slice (some ⟨b13, 0, none⟩) 20 c13) h5 (nv .i64 (((le 20 (leval A / QQ)).take j ++ List.replicate (20 - j) 0).set j (A.getD (16 + j) 0 / 4 + A.getD (17 + j) 0 % 4 * 64))) 20 →
          ∃ h0, Hp.le h0 h5 ∧ ∃ m, m < u' ∧ ∃ j_1 : Nat, j_1 + m = 20 ∧ New h1 t_int 1 (.slice (some ⟨b13, 0, none⟩) 20 c13) h0 (nv .i64 ((le 20 (leval A / QQ)).take j_1 ++ List.replicate (20 - j_1) 0)) 20 ∧ [Value.int .i64 ((j : Int) + 1)] = [.int .i64 (j_1 : Int)] := by
        intro h5 hw5
        rw [hst] at hw5
        exact ⟨h5, .refl _, u' - 1, by omega, j + 1, by omega, hw5, rfl⟩
      have lL : ((le 20 (leval A / QQ)).take j ++ List.replicate (20 - j) 0).length = 20 := by rw [List.length_append, List.length_take, le_len, List.length_replicate]; omega
      generalize (le 20 (leval A / QQ)).take j ++ List.replicate (20 - j) 0 = L at hw hw4 step lL
      by_cases h36 : 17 + j < A.length
      · have y2 := hw4.cle _ _ (hy (17 + j) h36)
        have y3 : h4.cell ⟨b13, j, none⟩ = some (.int .i64 ((A.getD (16 + j) 0 / 4 : Nat) : Int)) := by
          obtain ⟨bw, cw, fw, hbw, _, hvw, hhw, _⟩ := hw4.form (by omega)
          simp only [Value.slice.injEq, Option.some.injEq, Addr.mk.injEq] at hvw
          obtain ⟨⟨rfl, _⟩, _, rfl⟩ := hvw
          have := cellN (h := h4) (g := b13) (i := j) (S := L.set j (A.getD (16 + j) 0 / 4)) (by rw [hhw]; exact Hp.set_same ..) (by rw [List.length_set]; omega)
          rw [getD_setI _ _ _ _ (by omega), if_pos rfl] at this
          exact this
        simp (disch := omega) only [GL, RL, wi64, e16, e17, e37, h36, decide_true, if_true, y2, y3, d2]
        have ev : ((A.getD (16 + j) 0 / 4 : Nat) : Int) + ((A.getD (17 + j) 0 % 4 : Nat) : Int) * 64 = ((A.getD (16 + j) 0 / 4 + A.getD (17 + j) 0 % 4 * 64 : Nat) : Int) := by push_cast; omega
        rw [ev]
        refine aw_storeN z_int hw4 hjl rfl fun h5 hw5 => ?_
        rw [nv_set, List.set_set] at hw5
        exact step h5 hw5
      · have z : A.getD (17 + j) 0 = 0 := by simp [List.getElem?_eq_none (show A.length ≤ 17 + j by omega)]
        simp (disch := omega) only [GL, RL, wi64, e16, e17, e37, h36, decide_false, Bool.false_eq_true, if_false]
        refine step h4 ?_
        rw [z]
        exact hw4
    · obtain rfl : j = 20 := by omega
      simp only [hjl, decide_false, Bool.false_eq_true, if_false]
      refine fin h3 ?_
      rw [List.take_of_length_le (by rw [le_len]; omega)] at hw
      simpa using hw
  · obtain rfl : i = 4 := by omega
    simp only [hlt, decide_false, Bool.false_eq_true, if_false]
    have hlt4 := iterR_lt (leval A0) hv
    have hred := iterR_red (leval A0) 4
    rw [← eA] at hlt4 hred
    have hres := rest_fin _ _ hlt4 hred
    refine aw_lit (n := 0) (ps := []) u_Sl_int z_int zr_int rfl (by omega) (by intro p hp; cases hp) fun t71 h2 n2 _ => ?_
    refine (q_slHi (hi := 17) u_Sl_int z_int _ _ c .i64 (by omega)).mpr ?_
    have r17 : Rn h2 .i64 (.slice (SL.cut (some ⟨b, o, none⟩) c 0 1) 17 c) (A.take 17) := (rn_hiI hA (by omega)).mono n2.cle
    have l17 : (A.take 17).length = 17 := by rw [List.length_take]; omega
    have rr17 : Rds h2 1 (.slice (SL.cut (some ⟨b, o, none⟩) c 0 1) 17 c) (nv .i64 (A.take 17)) 17 := by unfold Rn at r17; rwa [l17] at r17
    refine aw_append u_Sl_int u_Sl_int nfo_int rfl (by omega) n2 rr17 (nv_flat _ _) (by omega) (.refl _) fun t74 h3 n3 => ?_
    have n3' : Nn h1 t_int .i64 t74 h3 (A.take 17) := by unfold Nn; rw [l17]; simpa [fillL] using n3
    have e17 : leval (A.take 17) = leval A := by
      have e := leval_split A 17
      have p : (256 : Nat) ^ 17 = 87112285931760246646623899502532662132736 := rfl
      rw [p] at e
      unfold QQ at hlt4
      omega
    refine T_ref_prime fun t75 h4 n4 => ?_
    refine T_ref_less (n3'.rn.mono n4.cle) n4.rn (bA.take 17) primeL_bytes l17 primeL_len ?_
    have pv : leval primeL = PP := by rw [primeL_val]
    rw [e17, pv]
    simp (disch := omega) only [GL, RL]
    obtain ⟨hm, lm, n3m⟩ := n3'.down le1
    by_cases hP : leval A < PP
    · rw [if_pos hP] at hres
      simp only [hP, decide_true, Bool.not_true, Bool.false_eq_true, if_false]
      refine ⟨hm, lm.trans n4.le, k _ _ ?_⟩
      rw [hres, ← e17]
      have := le_leval (bA.take 17)
      rw [l17] at this
      rw [this]
      exact n3m
    · rw [if_neg hP] at hres
      simp only [hP, decide_false, Bool.not_false, if_true]
      refine aw_lit (n := 1) (ps := [(0, _)]) u_Sl_int z_int zr_int rfl (by omega) (by intro p hp; rw [List.mem_singleton.1 hp]; exact ⟨rfl, by omega⟩) fun t81 h5 n5 _ => ?_
      have n5' : Nn h4 t_int .i64 t81 h5 [5] := by unfold Nn; simpa [fillL, nv] using n5
      refine T_ref_add 17 (by omega) (by omega) ((n3'.rn.mono n4.cle).mono n5.cle) n5'.rn (bA.take 17) (by intro x hx; simp at hx; omega) fun t82 h6 n6 => ?_
      have e5 : leval [5] = 5 := rfl
      rw [e17, e5] at n6
      have n6d : New h5 t_int 1 t82 h6 (nv .i64 (le 17 (leval A + 5))) 17 := by have := n6; unfold Nn at this; rwa [le_len] at this
      obtain ⟨b82, c82, f82, hb82, hc82, rfl, hh6, _⟩ := n6d.form (by omega)
      have y : h6.cell ⟨b82, 16, none⟩ = some (.int .i64 (((le 17 (leval A + 5)).getD 16 0 : Nat) : Int)) := cellN (by rw [hh6]; exact Hp.set_same ..) (by rw [le_len]; omega)
      have em : (((le 17 (leval A + 5)).getD 16 0 : Nat) : Int).tmod 4 = (((le 17 (leval A + 5)).getD 16 0 % 4 : Nat) : Int) := (Int.ofNat_tmod _ 4).symm
      simp (disch := omega) only [GL, RL, y, em, Int.reduceToNat]
      refine aw_storeN (i := 16) z_int n6d (by omega) rfl fun h7 n7 => ?_
      rw [nv_set] at n7
      have el : (le 17 (leval A + 5)).set 16 ((le 17 (leval A + 5)).getD 16 0 % 4) = le 17 (leval A + 5 - QQ) := by
        rw [le_get 17 _ 16 (by omega), show (17 : Nat) = 16 + 1 from rfl, le_append, le_append, List.set_append_right _ _ (by rw [le_len]; omega), le_len]
        have p : (256 : Nat) ^ 16 = 340282366920938463463374607431768211456 := rfl
        rw [p]
        unfold QQ at *
        unfold PP at hP
        refine app2_congr ?_ ?_
        · refine le_congr ?_
          rw [p]; omega
        · simp only [le, Nat.sub_self, List.set_cons_zero]
          refine congrArg (fun x => [x]) ?_
          omega
      rw [el, ← hres] at n7
      have n7' : Nn h5 t_int .i64 (.slice (some ⟨b82, 0, none⟩) 17 c82) h7 (le 17 (leval A0 % PP)) := by unfold Nn; rw [le_len]; exact n7
      obtain ⟨hn, ln, n7m⟩ := n7'.down (((le1.trans n3'.le).trans n4.le).trans n5.le)
      exact ⟨hn, ln, k _ _ n7m⟩
end
end Go.Proofs.Ytoepmfgahcbmiaa
