/- What the statements of boxes come to, against the reference. Conditions: each names its own. -/
import Derived.Test.YtoepmfgahcbmiaaSXm
set_option linter.unusedSimpArgs false
set_option linter.unusedVariables false
set_option maxRecDepth 100000
set_option maxHeartbeats 2000000
namespace Go.Proofs.Ytoepmfgahcbmiaa
open Go Go.SL Go.Pure

theorem openL_sealed {key nonce b x : List Nat} (e : (openL key nonce b x).1 = 0) : sealL key nonce b (openL key nonce b x).2 = x := by
  unfold openL at e ⊢
  split at e
  · cases e
  · split at e
    · rename_i h16 heq
      rw [if_neg h16, if_pos heq]
      unfold sealL
      simp only [xorL_xorL]
      rw [heq, List.take_append_drop]
    · cases e

section
variable {h : Hp} {K : Value → Hp → Prop}
theorem T_AeadSeals {vk vn vb vt : Value} {key nonce b t : List Nat} (hk : Rn h .u8 vk key) (hn : Rn h .u8 vn nonce) (hb : Rn h .u8 vb b) (ht : Rn h .u8 vt t) (bk : Bytes key) (bn : Bytes nonce) (bb : Bytes b) (bt : Bytes t)
    (k : ∀ h', K (.bool true) h') : Cn P n_orloplaw06_AeadSeals #[.agg #[vk, vn, vb, vt]] h K := by
  refine F_orloplaw06_AeadSeals ?_
  unfold s_orloplaw06_AeadSeals
  refine aw_box fun r hr => ?_
  obtain ⟨M, hM⟩ : ∃ M, h.set r (.row 24 (Value.agg #[vk, vn, vb, vt]).cells.toList (Value.agg #[vk, vn, vb, vt]).cells.size (some (0, 0))) = M := ⟨_, rfl⟩
  have hMr : M r = some (.row t_orloplaw06_Ask [vk, vn, vb, vt] 4 (some (0, 0))) := by rw [← hM, Hp.set_same]; rfl
  have hMl : Hp.cle h M := by rw [← hM]; exact cle_set r _ hr
  rw [hM]
  have ha := ask_row hMr
  replace hk := hk.mono hMl
  replace hn := hn.mono hMl
  replace hb := hb.mono hMl
  replace ht := ht.mono hMl
  clear hMl hM
  refine T_awake ?_
  simp -zeta (disch := omega) only [GL, RL, Bool.not_true, Bool.false_eq_true, if_false]
  refine (q_ldRow (ys := [vk, vn, vb, vt]) Try.underlying24 rfl (show sz P t_orloplaw06_Ask = some 4 by kernel_rfl) hMr).mpr ?_
  refine T_small hb ht ?_
  by_cases hsm : b.length ≤ 1024 ∧ t.length ≤ 1024
  case neg =>
    simp only [hsm, decide_false, GL, RL, Bool.not_false, if_true]
    exact k _
  simp -zeta only [hsm, decide_true, Bool.not_true, Bool.false_eq_true, if_false, fld0, fld1, fld2, fld3, ha.1, ha.2.1, ha.2.2.1, ha.2.2.2, GL, RL]
  obtain ⟨lb, lt⟩ := hsm
  refine T_Seal hk hn hb ht bk bn bb bt (by omega) (by omega) fun vS h1 nS => ?_
  rw [ext0, ext1]
  by_cases hm : key.length = 32 ∧ nonce.length = 12
  · simp -zeta only [if_pos hm] at nS ⊢
    have a1 := ha.mono nS.cle
    simp -zeta only [fld0, fld1, fld2, fld3, a1.1, a1.2.1, a1.2.2.1, a1.2.2.2, GL, RL]
    refine T_ref_Seal (hk.mono nS.cle) (hn.mono nS.cle) (hb.mono nS.cle) (ht.mono nS.cle) bk bn bb bt (by omega) (by omega) fun vR h2 nR => ?_
    rw [ext0, ext1]
    simp -zeta only [if_pos hm] at nR ⊢
    have c2 := nS.cle.trans nR.cle
    have a2 := ha.mono c2
    intro J10
    simp (disch := omega) only [GL, RL, bne_self_eq_false, if_true]
    have lS := sealL_len key nonce b t
    have bS := sealL_bytes key nonce b bt
    have oS := open_seal key nonce b t
    refine T_orlopref01_Equal (nS.rn.mono nR.cle) nR.rn (by omega) ?_
    generalize sealL key nonce b t = S at nS nR lS bS oS
    simp (disch := omega) only [GL, RL, decide_true, Bool.not_true, Bool.false_eq_true, if_false]
    simp only [J10]
    clear J10
    simp (disch := omega) only [GL, RL, fld0, fld1, fld2, fld3, a2.1, a2.2.1, a2.2.2.1, a2.2.2.2]
    refine T_Open (hk.mono c2) (hn.mono c2) (hb.mono c2) (nS.rn.mono nR.cle) bk bn bb bS (by omega) (by omega) fun vO h3 nO => ?_
    have eO : openC key nonce b S = 0 := by unfold openC; rw [if_pos hm, oS]
    rw [eO, if_pos rfl, oS] at nO
    replace nO : Nn h2 t_uint8 .u8 vO h3 t := nO
    rw [eO, ext0, ext1]
    have a3 := a2.mono nO.cle
    obtain ⟨aS, cS, rfl, hcS⟩ := nS.rn.shape
    obtain ⟨at', ct, rfl, hct⟩ := ht.shape
    have e1 : (((S.length : Nat) : Int) == ((t.length : Nat) : Int) + 16) = true := by rw [lS, beq_iff_eq]; omega
    have e2 : ((((0 : Nat) : Int)) == 0) = true := rfl
    simp (disch := omega) only [GL, RL, bne_self_eq_false, Bool.false_eq_true, if_false, fld3, a3.2.2.2, wi64, e1, e2, if_true]
    refine T_orlopref01_Equal nO.rn (ht.mono (c2.trans nO.cle)) (by omega) ?_
    simp only [decide_true]
    exact k _
  · simp -zeta only [if_neg hm] at nS ⊢
    obtain ⟨rfl, rfl⟩ := nS
    simp -zeta only [fld0, fld1, fld2, fld3, ha.1, ha.2.1, ha.2.2.1, ha.2.2.2, GL, RL]
    refine T_ref_Seal hk hn hb ht bk bn bb bt (by omega) (by omega) fun vR h2 nR => ?_
    rw [ext0, ext1]
    simp -zeta only [if_neg hm] at nR ⊢
    obtain ⟨rfl, rfl⟩ := nR
    intro J10
    simp (disch := omega) only [GL, RL, bne_self_eq_false, if_true]
    refine T_orlopref01_Equal (rn_nil _ _) (rn_nil _ _) (by simp) ?_
    simp (disch := omega) only [GL, RL, decide_true, Bool.not_true, Bool.false_eq_true, if_false]
    simp only [J10]
    clear J10
    simp (disch := omega) only [GL, RL, fld0, fld1, fld2, fld3, ha.1, ha.2.1, ha.2.2.1, ha.2.2.2]
    refine T_Open hk hn hb (rn_nil _ _) bk bn bb (by intro y hy; cases hy) (by omega) (by simp) fun vO h3 nO => ?_
    have eO : openC key nonce b [] = 1 := by unfold openC; rw [if_neg hm]
    rw [eO, if_neg (by omega)] at nO
    obtain ⟨rfl, rfl⟩ := nO
    rw [eO, ext0, ext1]
    have e1 : ((1 : Int) != 0) = true := rfl
    have e2 : ((((1 : Nat) : Int)) == 1) = true := rfl
    have e3 : ((1 : Int) == 1) = true := rfl
    simp (disch := omega) only [GL, RL, e1, e2, e3, if_true]
    exact k _

theorem T_AeadOpens {vk vn vb vt : Value} {key nonce b t : List Nat} (hk : Rn h .u8 vk key) (hn : Rn h .u8 vn nonce) (hb : Rn h .u8 vb b) (ht : Rn h .u8 vt t) (bk : Bytes key) (bn : Bytes nonce) (bb : Bytes b) (bt : Bytes t)
    (k : ∀ h', K (.bool true) h') : Cn P n_orloplaw06_AeadOpens #[.agg #[vk, vn, vb, vt]] h K := by
  refine F_orloplaw06_AeadOpens ?_
  unfold s_orloplaw06_AeadOpens
  refine aw_box fun r hr => ?_
  obtain ⟨M, hM⟩ : ∃ M, h.set r (.row 24 (Value.agg #[vk, vn, vb, vt]).cells.toList (Value.agg #[vk, vn, vb, vt]).cells.size (some (0, 0))) = M := ⟨_, rfl⟩
  have hMr : M r = some (.row t_orloplaw06_Ask [vk, vn, vb, vt] 4 (some (0, 0))) := by rw [← hM, Hp.set_same]; rfl
  have hMl : Hp.cle h M := by rw [← hM]; exact cle_set r _ hr
  rw [hM]
  have ha := ask_row hMr
  replace hk := hk.mono hMl
  replace hn := hn.mono hMl
  replace hb := hb.mono hMl
  replace ht := ht.mono hMl
  clear hMl hM
  refine T_awake ?_
  simp -zeta (disch := omega) only [GL, RL, Bool.not_true, Bool.false_eq_true, if_false]
  refine (q_ldRow (ys := [vk, vn, vb, vt]) Try.underlying24 rfl (show sz P t_orloplaw06_Ask = some 4 by kernel_rfl) hMr).mpr ?_
  refine T_small hb ht ?_
  by_cases hsm : b.length ≤ 1024 ∧ t.length ≤ 1024
  case neg =>
    simp only [hsm, decide_false, GL, RL, Bool.not_false, if_true]
    exact k _
  simp -zeta only [hsm, decide_true, Bool.not_true, Bool.false_eq_true, if_false, fld0, fld1, fld2, fld3, ha.1, ha.2.1, ha.2.2.1, ha.2.2.2, GL, RL]
  obtain ⟨lb, lt⟩ := hsm
  refine T_Open hk hn hb ht bk bn bb bt (by omega) (by omega) fun vO h1 nO => ?_
  rw [ext0, ext1]
  by_cases h0 : openC key nonce b t = 0
  · rw [if_pos h0] at nO
    have hm : key.length = 32 ∧ nonce.length = 12 := by
      unfold openC at h0
      split at h0
      · assumption
      · omega
    have h01 : (openL key nonce b t).1 = 0 := by unfold openC at h0; rwa [if_pos hm] at h0
    have hsl := openL_sealed h01
    rw [h0]
    have a1 := ha.mono nO.cle
    simp -zeta only [fld0, fld1, fld2, fld3, a1.1, a1.2.1, a1.2.2.1, a1.2.2.2, GL, RL]
    refine T_ref_Open (hk.mono nO.cle) (hn.mono nO.cle) (hb.mono nO.cle) (ht.mono nO.cle) bk bn bb bt (by omega) (by omega) fun vR h2 nR => ?_
    rw [if_pos h0] at nR
    rw [h0, ext0, ext1]
    have c2 := nO.cle.trans nR.cle
    have a2 := ha.mono c2
    have lO : (openL key nonce b t).2.length + 16 = t.length := by rw [← hsl, sealL_len, hsl]
    have bO : Bytes (openL key nonce b t).2 := by
      unfold openL
      split
      · intro y hy; cases hy
      · split
        · exact xorL_bytes (bt.take _)
        · intro y hy; cases hy
    generalize (openL key nonce b t).2 = O at nO nR hsl lO bO
    intro J10
    simp (disch := omega) only [GL, RL, bne_self_eq_false, if_true]
    refine T_orlopref01_Equal (nO.rn.mono nR.cle) nR.rn (by omega) ?_
    simp (disch := omega) only [GL, RL, decide_true, Bool.not_true, Bool.false_eq_true, if_false]
    simp only [J10]
    clear J10
    simp (disch := omega) only [GL, RL, fld0, fld1, fld2, fld3, a2.1, a2.2.1, a2.2.2.1, a2.2.2.2]
    refine T_Seal (hk.mono c2) (hn.mono c2) (hb.mono c2) (nO.rn.mono nR.cle) bk bn bb bO (by omega) (by omega) fun vS h3 nS => ?_
    simp only [if_pos hm] at nS ⊢
    rw [hsl] at nS
    rw [ext0, ext1]
    have a3 := a2.mono nS.cle
    have e1 : ((((0 : Nat) : Int)) != 0) = false := rfl
    have e2 : ((0 : Int) == 0) = true := rfl
    simp (disch := omega) only [GL, RL, e1, e2, if_true, fld3, a3.2.2.2]
    refine T_orlopref01_Equal nS.rn (ht.mono (c2.trans nS.cle)) (by omega) ?_
    simp only [decide_true]
    exact k _
  · rw [if_neg h0] at nO
    obtain ⟨rfl, rfl⟩ := nO
    simp -zeta only [fld0, fld1, fld2, fld3, ha.1, ha.2.1, ha.2.2.1, ha.2.2.2, GL, RL]
    refine T_ref_Open hk hn hb ht bk bn bb bt (by omega) (by omega) fun vR h2 nR => ?_
    rw [if_neg h0] at nR
    obtain ⟨rfl, rfl⟩ := nR
    rw [ext0, ext1]
    intro J10
    simp (disch := omega) only [GL, RL, bne_self_eq_false, if_true]
    refine T_orlopref01_Equal (rn_nil _ _) (rn_nil _ _) (by simp) ?_
    simp (disch := omega) only [GL, RL, decide_true, Bool.not_true, Bool.false_eq_true, if_false]
    simp only [J10]
    clear J10
    simp (disch := omega) only [GL, RL, fld0, fld1, fld2, fld3, ha.1, ha.2.1, ha.2.2.1, ha.2.2.2]
    refine T_Seal hk hn hb (rn_nil _ _) bk bn bb (by intro y hy; cases hy) (by omega) (by simp) fun vS h3 nS => ?_
    rw [ext0, ext1]
    have e1 : (((openC key nonce b t : Nat) : Int) != 0) = true := by rw [bne_iff_ne]; omega
    simp (disch := omega) only [GL, RL, e1, Bool.true_eq_false, if_false]
    exact k _
end
end Go.Proofs.Ytoepmfgahcbmiaa
