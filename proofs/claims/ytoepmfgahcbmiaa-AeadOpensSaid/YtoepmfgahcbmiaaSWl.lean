/- What the statements of boxes come to, where no reference is asked. Conditions: each names its own. -/
import Derived.Test.YtoepmfgahcbmiaaSWk
set_option linter.unusedSimpArgs false
set_option linter.unusedVariables false
set_option maxRecDepth 100000
namespace Go.Proofs.Ytoepmfgahcbmiaa
open Go Go.SL Go.Pure

section
variable {h : Hp} {K : Value → Hp → Prop}
theorem fld0 {K : Value → Prop} (r : Nat) : q P h (Instr.fieldAt t_orloplaw06_Ask (.pointer (some ⟨r, 0, none⟩)) 0) K = K (.pointer (some ⟨r, 0, none⟩)) := q_of (by kernel_rfl) K
theorem fld1 {K : Value → Prop} (r : Nat) : q P h (Instr.fieldAt t_orloplaw06_Ask (.pointer (some ⟨r, 0, none⟩)) 1) K = K (.pointer (some ⟨r, 1, none⟩)) := q_of (by kernel_rfl) K
theorem fld2 {K : Value → Prop} (r : Nat) : q P h (Instr.fieldAt t_orloplaw06_Ask (.pointer (some ⟨r, 0, none⟩)) 2) K = K (.pointer (some ⟨r, 2, none⟩)) := q_of (by kernel_rfl) K
theorem fld3 {K : Value → Prop} (r : Nat) : q P h (Instr.fieldAt t_orloplaw06_Ask (.pointer (some ⟨r, 0, none⟩)) 3) K = K (.pointer (some ⟨r, 3, none⟩)) := q_of (by kernel_rfl) K

/-- A box that holds an ask. -/
def AskAt (h : Hp) (r : Nat) (vk vn vb vt : Value) : Prop :=
  h.cell ⟨r, 0, none⟩ = some vk ∧ h.cell ⟨r, 1, none⟩ = some vn ∧ h.cell ⟨r, 2, none⟩ = some vb ∧ h.cell ⟨r, 3, none⟩ = some vt
theorem AskAt.mono {h h' : Hp} {r : Nat} {vk vn vb vt : Value} (a : AskAt h r vk vn vb vt) (c : Hp.cle h h') : AskAt h' r vk vn vb vt := ⟨c _ _ a.1, c _ _ a.2.1, c _ _ a.2.2.1, c _ _ a.2.2.2⟩
theorem ask_row {r : Nat} {vk vn vb vt : Value} (e : h r = some (.row t_orloplaw06_Ask [vk, vn, vb, vt] 4 (some (0, 0)))) : AskAt h r vk vn vb vt :=
  ⟨by rw [cell_row e]; rfl, by rw [cell_row e]; rfl, by rw [cell_row e]; rfl, by rw [cell_row e]; rfl⟩
theorem dec_and {p q : Prop} [Decidable p] [Decidable q] {X Y : Prop} : (if decide p = true then (if decide q = true then X else Y) else Y) = (if decide (p ∧ q) = true then X else Y) := by
  by_cases hp : p <;> by_cases hq : q <;> simp [hp, hq]

theorem T_small {vk vn vb vt : Value} {b t : List Nat} (hb : Rn h .u8 vb b) (ht : Rn h .u8 vt t) (k : K (.bool (decide (b.length ≤ 1024 ∧ t.length ≤ 1024))) h) : Cn P n_orloplaw06_small #[.agg #[vk, vn, vb, vt]] h K := by
  refine Cn_wk (F_orloplaw06_small ?_)
  unfold s_orloplaw06_small
  refine aw_box fun r hr => ?_
  have ha : AskAt (h.set r (.row 24 (Value.agg #[vk, vn, vb, vt]).cells.toList (Value.agg #[vk, vn, vb, vt]).cells.size (some (0, 0)))) r vk vn vb vt := ask_row (Hp.set_same ..)
  obtain ⟨c0, c1, c2, c3⟩ := ha
  obtain ⟨ab, cb, rfl, hcb⟩ := hb.shape
  obtain ⟨at', ct, rfl, hct⟩ := ht.shape
  have e1 : decide (((b.length : Nat) : Int) ≤ 1024) = decide (b.length ≤ 1024) := by rw [decide_eq_decide]; omega
  have e2 : decide (((t.length : Nat) : Int) ≤ 1024) = decide (t.length ≤ 1024) := by rw [decide_eq_decide]; omega
  simp (disch := omega) only [GL, RL, fld2, fld3, c2, c3, e1, e2]
  by_cases h1 : b.length ≤ 1024
  · simp only [h1, decide_true, if_true, true_and] at k ⊢
    exact ⟨h, le_fresh hr, k⟩
  · simp only [h1, decide_false, Bool.false_eq_true, if_false, false_and] at k ⊢
    exact ⟨h, le_fresh hr, k⟩

theorem ne_dec (a n : Nat) : (((a : Nat) : Int) != ((n : Nat) : Int)) = decide (a ≠ n) := by
  rw [Bool.eq_iff_iff, bne_iff_ne, decide_eq_true_eq]; omega

theorem T_AeadCut {vk vn vb vt : Value} {key nonce b t : List Nat} (n : Nat) (hn8 : n < 256) (hk : Rn h .u8 vk key) (hn : Rn h .u8 vn nonce) (hb : Rn h .u8 vb b) (ht : Rn h .u8 vt t) (bk : Bytes key) (bn : Bytes nonce) (bb : Bytes b) (bt : Bytes t)
    (k : ∀ h', K (.bool true) h') : Cn P n_orloplaw06_AeadCut #[.agg #[vk, vn, vb, vt], .int .u8 n] h K := by
  refine F_orloplaw06_AeadCut ?_
  unfold s_orloplaw06_AeadCut
  refine aw_box fun r hr => ?_
  obtain ⟨M, hM⟩ : ∃ M, h.set r (.row 24 (Value.agg #[vk, vn, vb, vt]).cells.toList (Value.agg #[vk, vn, vb, vt]).cells.size (some (0, 0))) = M := ⟨_, rfl⟩
  have hMr : M r = some (.row t_orloplaw06_Ask [vk, vn, vb, vt] 4 (some (0, 0))) := by rw [← hM, Hp.set_same]; rfl
  have hMl : Hp.cle h M := by rw [← hM]; exact cle_set r _ hr
  rw [hM]
  have ha := ask_row hMr
  replace hk := hk.mono hMl
  replace hn := hn.mono hMl
  replace hb := hb.mono hMl
  replace ht := ht.mono hMl
  clear hMl hM
  refine T_awake ?_
  have e0 : (!true) = false := rfl
  rw [q_not, cnd_bool, if_neg (by simp)]
  intro J5
  rw [q_ldRow (ys := [vk, vn, vb, vt]) u_orloplaw06_Ask rfl z_orloplaw06_Ask hMr]
  refine T_small hb ht ?_
  obtain ⟨c0, c1, c2, c3⟩ := ha
  obtain ⟨ak, ck, ek, hck⟩ := hk.shape
  obtain ⟨an, cn, en, hcn⟩ := hn.shape
  have kl : ∀ (X : Value → Prop), q P M (Builtin.len_ #[22] 3 #[vk]) X = X (.int .i64 (key.length : Nat)) := fun X => by subst ek; exact q_lenS u_Sl_uint8 ak _ ck
  have nl : ∀ (X : Value → Prop), q P M (Builtin.len_ #[22] 3 #[vn]) X = X (.int .i64 (nonce.length : Nat)) := fun X => by subst en; exact q_lenS u_Sl_uint8 an _ cn
  have e32 : (((key.length : Nat) : Int) != 32) = decide (key.length ≠ 32) := ne_dec key.length 32
  have e12 : (((nonce.length : Nat) : Int) != 12) = decide (nonce.length ≠ 12) := ne_dec nonce.length 12
  simp (disch := omega) only [GL, RL, fld0, fld1, c0, c1, kl, nl, e32, e12]
  by_cases hs : b.length ≤ 1024 ∧ t.length ≤ 1024
  case neg => simp [hs, k]
  by_cases hm1 : key.length = 32
  case neg => simp [hs, hm1, k]
  by_cases hm2 : nonce.length = 12
  case neg => simp [hs, hm1, hm2, k]
  simp only [hs, hm1, hm2, and_self, decide_true, Bool.not_true, ne_eq, not_true_eq_false, decide_false, if_true, Bool.false_eq_true, if_false]
  show J5 M
  simp only [J5]
  clear J5
  have hm : key.length = 32 ∧ nonce.length = 12 := ⟨hm1, hm2⟩
  refine aw_lit (ps := []) (n := 0) u_Sl_uint8 z_uint8 zr_uint8 rfl (by omega) (by intro p hp; cases hp) fun v28 h1 n1 _ => ?_
  have a1 := (ask_row hMr).mono n1.cle
  simp (disch := omega) only [GL, RL, fld0, a1.1]
  refine aw_append u_Sl_uint8 u_Sl_uint8 nfo_uint8 rfl (by omega) n1 (hk.mono n1.cle) (nv_flat _ _) (by omega) (.refl _) fun v31 h2 n2 => ?_
  have n2' : Nn M t_uint8 .u8 v31 h2 key := by unfold Nn; simpa [fillL] using n2
  have m2 := n2'.cle
  refine aw_lit (ps := []) (n := 0) u_Sl_uint8 z_uint8 zr_uint8 rfl (by omega) (by intro p hp; cases hp) fun v32 h3 n3 _ => ?_
  have a3 := ((ask_row hMr).mono m2).mono n3.cle
  simp (disch := omega) only [GL, RL, fld2, a3.2.2.1]
  refine aw_append u_Sl_uint8 u_Sl_uint8 nfo_uint8 rfl (by omega) n3 ((hb.mono m2).mono n3.cle) (nv_flat _ _) (by omega) (.refl _) fun v35 h4 n4 => ?_
  have n4' : Nn h2 t_uint8 .u8 v35 h4 b := by unfold Nn; simpa [fillL] using n4
  have m4 := m2.trans n4'.cle
  have a4 := (ask_row hMr).mono m4
  simp (disch := omega) only [GL, RL, fld1, fld3, a4.2.1, a4.2.2.2]
  refine T_Seal (n2'.rn.mono n4'.cle) (hn.mono m4) n4'.rn (ht.mono m4) bk bn bb bt (by omega) (by omega) fun vS h5 n5 => ?_
  simp only [if_pos hm] at n5 ⊢
  rw [ext0, ext1]
  have lS := sealL_len key nonce b t
  have bS := sealL_bytes key nonce b bt
  generalize sealL key nonce b t = S at n5 lS bS
  have m5 := m4.trans n5.cle
  have a5 := (ask_row hMr).mono m5
  obtain ⟨aS, cS, rfl, hcS⟩ := n5.rn.shape
  have el : decide (((S.length : Nat) : Int) < 16) = false := decide_eq_false (by omega)
  have em : (IntKind.i64.wrap ((n : Nat) : Int)).tmod 16 = ((n % 16 : Nat) : Int) := by rw [wi64 (by omega) (by omega)]; exact (Int.ofNat_tmod n 16).symm
  have em2 : (((n : Nat) : Int)).tmod 16 = ((n % 16 : Nat) : Int) := (Int.ofNat_tmod n 16).symm
  simp (disch := omega) only [GL, RL, bne_self_eq_false, if_true, if_false, Bool.false_eq_true, el, fld1, a5.2.1, wi64, em, em2]
  refine q_slRnHi u_Sl_uint8 z_uint8 n5.rn .i64 (n % 16) (by omega) fun w hw => ?_
  have h16 : (S.take (n % 16)).length < 16 := by rw [List.length_take]; omega
  refine T_Open ((n2'.rn.mono n4'.cle).mono n5.cle) (hn.mono m5) (n4'.rn.mono n5.cle) hw bk bn bb (bS.take _) (by omega) (by omega) fun vO h6 n6 => ?_
  have e8 : openC key nonce b (S.take (n % 16)) = 8 := by unfold openC openL; rw [if_pos hm, if_pos h16]
  rw [e8, if_neg (by omega)] at n6
  obtain ⟨rfl, rfl⟩ := n6
  rw [e8, ext0, ext1]
  have e88 : ((((8 : Nat) : Int)) == 8) = true := rfl
  simp (disch := omega) only [GL, RL, e88, if_true, fld0, fld2, a5.1, a5.2.2.1]
  refine T_orlopref01_Equal ((n2'.rn.mono n4'.cle).mono n5.cle) (hk.mono m5) (by omega) ?_
  simp (disch := omega) only [GL, RL, decide_true, if_true, fld0, fld2, a5.1, a5.2.2.1]
  refine T_orlopref01_Equal (n4'.rn.mono n5.cle) (hb.mono m5) (by omega) ?_
  simp only [decide_true]
  exact k _
end
end Go.Proofs.Ytoepmfgahcbmiaa
