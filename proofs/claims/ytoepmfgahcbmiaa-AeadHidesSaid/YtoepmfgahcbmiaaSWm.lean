/- What the statement of hiding comes to. Conditions: each names its own. -/
import Derived.Test.YtoepmfgahcbmiaaSWl
set_option linter.unusedSimpArgs false
set_option linter.unusedVariables false
set_option maxRecDepth 100000
namespace Go.Proofs.Ytoepmfgahcbmiaa
open Go Go.SL Go.Pure

theorem seal_take (key nonce b t : List Nat) : (sealL key nonce b t).take t.length = xorL key nonce 1 t := by
  rw [sealL, List.take_append_of_le_length (by rw [xorL_len]; exact Nat.le_refl _), List.take_of_length_le (by rw [xorL_len]; exact Nat.le_refl _)]

section
variable {h : Hp} {K : Value → Hp → Prop}
theorem T_AeadHides {vk vn vb vt vo : Value} {key nonce b t o : List Nat} (hk : Rn h .u8 vk key) (hn : Rn h .u8 vn nonce) (hb : Rn h .u8 vb b) (ht : Rn h .u8 vt t) (ho : Rn h .u8 vo o) (bk : Bytes key) (bn : Bytes nonce) (bb : Bytes b) (bt : Bytes t) (bo : Bytes o)
    (k : ∀ h', K (.bool true) h') : Cn P n_orloplaw06_AeadHides #[.agg #[vk, vn, vb, vt], vo] h K := by
  refine F_orloplaw06_AeadHides ?_
  unfold s_orloplaw06_AeadHides
  refine aw_box fun r hr => ?_
  obtain ⟨M, hM⟩ : ∃ M, h.set r (.row 24 (Value.agg #[vk, vn, vb, vt]).cells.toList (Value.agg #[vk, vn, vb, vt]).cells.size (some (0, 0))) = M := ⟨_, rfl⟩
  have hMr : M r = some (.row t_orloplaw06_Ask [vk, vn, vb, vt] 4 (some (0, 0))) := by rw [← hM, Hp.set_same]; rfl
  have hMl : Hp.cle h M := by rw [← hM]; exact cle_set r _ hr
  rw [hM]
  replace hk := hk.mono hMl
  replace hn := hn.mono hMl
  replace hb := hb.mono hMl
  replace ht := ht.mono hMl
  replace ho := ho.mono hMl
  clear hMl hM
  refine T_awake ?_
  rw [q_not, cnd_bool, if_neg (by simp)]
  intro J5
  rw [q_ldRow (ys := [vk, vn, vb, vt]) u_orloplaw06_Ask rfl z_orloplaw06_Ask hMr]
  refine T_small hb ht ?_
  obtain ⟨c0, c1, c2, c3⟩ := ask_row hMr
  obtain ⟨ak, ck, ek, hck⟩ := hk.shape
  obtain ⟨an, cn, en, hcn⟩ := hn.shape
  obtain ⟨ao, co, eo, hco⟩ := ho.shape
  have kl : ∀ (X : Value → Prop), q P M (Builtin.len_ #[22] 3 #[vk]) X = X (.int .i64 (key.length : Nat)) := fun X => by subst ek; exact q_lenS u_Sl_uint8 ak _ ck
  have nl : ∀ (X : Value → Prop), q P M (Builtin.len_ #[22] 3 #[vn]) X = X (.int .i64 (nonce.length : Nat)) := fun X => by subst en; exact q_lenS u_Sl_uint8 an _ cn
  have ol : ∀ (X : Value → Prop), q P M (Builtin.len_ #[22] 3 #[vo]) X = X (.int .i64 (o.length : Nat)) := fun X => by subst eo; exact q_lenS u_Sl_uint8 ao _ co
  have e32 : (((key.length : Nat) : Int) != 32) = decide (key.length ≠ 32) := ne_dec key.length 32
  have e12 : (((nonce.length : Nat) : Int) != 12) = decide (nonce.length ≠ 12) := ne_dec nonce.length 12
  have e1024 : decide ((1024 : Int) < ((o.length : Nat) : Int)) = decide (¬ o.length ≤ 1024) := by rw [decide_eq_decide]; omega
  simp (disch := omega) only [GL, RL, fld0, fld1, c0, c1, kl, nl, ol, e32, e12, e1024]
  by_cases hs : b.length ≤ 1024 ∧ t.length ≤ 1024
  case neg => simp [hs, k]
  by_cases hol : o.length ≤ 1024
  case neg => simp [hs, hol, k]
  by_cases hm1 : key.length = 32
  case neg => simp [hs, hol, hm1, k]
  by_cases hm2 : nonce.length = 12
  case neg => simp [hs, hol, hm1, hm2, k]
  simp only [hs, hol, hm1, hm2, and_self, decide_true, Bool.not_true, ne_eq, not_true_eq_false, decide_false, if_true, Bool.false_eq_true, if_false]
  show J5 M
  simp only [J5]
  clear J5
  have hm : key.length = 32 ∧ nonce.length = 12 := ⟨hm1, hm2⟩
  simp (disch := omega) only [fld0, fld1, fld2, fld3, GL, RL, c0, c1, c2, c3]
  refine T_Seal hk hn hb ht bk bn bb bt (by omega) (by omega) fun v1 h1 n1 => ?_
  simp only [if_pos hm] at n1 ⊢
  rw [ext0, ext1]
  have m1 := n1.cle
  obtain ⟨d0, d1, d2, d3⟩ := (ask_row hMr).mono m1
  simp (disch := omega) only [fld0, fld1, fld2, fld3, GL, RL, d0, d1, d2, d3]
  refine T_Seal (hk.mono m1) (hn.mono m1) (ho.mono m1) (ht.mono m1) bk bn bo bt (by omega) (by omega) fun v2 h2 n2 => ?_
  simp only [if_pos hm] at n2 ⊢
  rw [ext0, ext1]
  have m2 := m1.trans n2.cle
  obtain ⟨d0, d1, d2, d3⟩ := (ask_row hMr).mono m2
  simp (disch := omega) only [fld0, fld1, fld2, fld3, GL, RL, d0, d1, d2, d3]
  refine T_Xor 1 (by omega) (hk.mono m2) (hn.mono m2) (ht.mono m2) bk bn bt (by omega) fun v3 h3 n3 => ?_
  simp only [if_pos hm] at n3 ⊢
  rw [ext0, ext1]
  have m3 := m2.trans n3.cle
  obtain ⟨d0, d1, d2, d3⟩ := (ask_row hMr).mono m3
  have l1 := sealL_len key nonce b t
  have l2 := sealL_len key nonce o t
  have l3 := xorL_len key nonce 1 t
  have t1 := seal_take key nonce b t
  have t2 := seal_take key nonce o t
  generalize sealL key nonce b t = S1 at n1 l1 t1
  generalize sealL key nonce o t = S2 at n2 l2 t2
  generalize xorL key nonce 1 t = X at n3 l3 t1 t2
  have r1 := (n1.rn.mono n2.cle).mono n3.cle
  have r2 := n2.rn.mono n3.cle
  have r3 := n3.rn
  have rt := ht.mono m3
  obtain ⟨a1, cc1, rfl, _⟩ := r1.shape
  obtain ⟨a2, cc2, rfl, _⟩ := r2.shape
  obtain ⟨at', ct, rfl, _⟩ := rt.shape
  have e00 : ((0 : Int) == 0) = true := rfl
  have el1 : (((S1.length : Nat) : Int) == ((t.length : Nat) : Int) + 16) = true := by rw [beq_iff_eq]; omega
  have el2 : (((S2.length : Nat) : Int) == ((t.length : Nat) : Int) + 16) = true := by rw [beq_iff_eq]; omega
  simp (disch := omega) only [fld3, GL, RL, d3, wi64, e00, el1, el2, if_true]
  refine q_slRnHi u_Sl_uint8 z_uint8 r1 .i64 t.length (by omega) fun w1 hw1 => ?_
  rw [t1] at hw1
  refine T_orlopref01_Equal hw1 r3 (by omega) ?_
  simp (disch := omega) only [GL, RL, decide_true, if_true]
  refine q_slRnHi u_Sl_uint8 z_uint8 r2 .i64 t.length (by omega) fun w2 hw2 => ?_
  rw [t2] at hw2
  refine T_orlopref01_Equal hw2 r3 (by omega) ?_
  simp only [decide_true]
  exact k _
end
end Go.Proofs.Ytoepmfgahcbmiaa
