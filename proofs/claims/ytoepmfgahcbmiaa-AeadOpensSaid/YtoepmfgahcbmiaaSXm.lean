/- What the reference's sealing and opening come to. Conditions: each names its own. -/
import Derived.Test.YtoepmfgahcbmiaaSXl
set_option linter.unusedSimpArgs false
set_option linter.unusedVariables false
set_option maxRecDepth 100000
set_option maxHeartbeats 2000000
namespace Go.Proofs.Ytoepmfgahcbmiaa
open Go Go.SL Go.Pure

theorem pad_mod (b : List Nat) : (pad16 b).length % 16 = 0 := by
  unfold pad16 need16; rw [List.length_append, List.length_replicate]; omega
theorem padL2 (b t : List Nat) : padL [b, t] = pad16 b ++ pad16 t := by
  show pad16 (pad16 ([] ++ b) ++ t) = _
  rw [List.nil_append]
  have := pad_mod b
  generalize pad16 b = B at this
  have e : need16 (B ++ t).length = need16 t.length := by unfold need16; rw [List.length_append]; omega
  unfold pad16
  rw [e, List.append_assoc]

section
variable {h : Hp} {K : Value → Hp → Prop}
theorem T_ref_Seal {vk vn vb vt : Value} {key nonce b t : List Nat} (hk : Rn h .u8 vk key) (hn : Rn h .u8 vn nonce) (hb : Rn h .u8 vb b) (ht : Rn h .u8 vt t) (bk : Bytes key) (bn : Bytes nonce) (bb : Bytes b) (bt : Bytes t)
    (lb : b.length ≤ 1099511627776) (lt : t.length ≤ 1099511627776)
    (k : ∀ v h', (if key.length = 32 ∧ nonce.length = 12 then Nn h t_uint8 .u8 v h' (sealL key nonce b t) else v = .slice none 0 0 ∧ h' = h) → K (.tuple #[v, .int .i64 (if key.length = 32 ∧ nonce.length = 12 then 0 else 1)]) h') :
    Cn P n_orlopref06_Seal #[vk, vn, vb, vt] h K := by
  refine Cn_wk (F_orlopref06_Seal ?_)
  unfold s_orlopref06_Seal
  refine T_ref_Xor 1 (by omega) hk hn ht bk bn bt (by omega) fun vX h1 hX => ?_
  rw [ext0, ext1]
  by_cases hm : key.length = 32 ∧ nonce.length = 12
  case neg =>
    rw [if_neg hm] at hX ⊢
    obtain ⟨rfl, rfl⟩ := hX
    have e1 : ((1 : Int) != 0) = true := rfl
    simp (disch := omega) only [GL, RL, e1, if_true]
    have := k (.slice none 0 0) h1
    rw [if_neg hm, if_neg hm] at this
    exact ⟨h1, .refl _, this ⟨rfl, rfl⟩⟩
  rw [if_pos hm] at hX ⊢
  have lX := xorL_len key nonce 1 t
  have bX : Bytes (xorL key nonce 1 t) := xorL_bytes bt
  have hseal : sealL key nonce b t = xorL key nonce 1 t ++ tagB key nonce b (xorL key nonce 1 t) := rfl
  generalize xorL key nonce 1 t = X at hX lX bX hseal
  simp (disch := omega) only [GL, RL, bne_self_eq_false, Bool.false_eq_true, if_false]
  have lpb := pad16_len b
  have lpX := pad16_len X
  refine T_ref_full (hb.mono hX.cle) (by omega) fun v26 h2 n26 => ?_
  refine T_ref_full (hX.rn.mono n26.cle) (by omega) fun v28 h3 n28 => ?_
  refine aw_appendN u_Sl_uint8 u_Sl_uint8 nfo_uint8 rfl (by omega) n26 n28 (nv_flat _ _) (by omega) fun v29 h4 n29 => ?_
  obtain ⟨ab, cb, rfl, hcb⟩ := hb.shape
  obtain ⟨aX, cX, rfl, hcX⟩ := hX.rn.shape
  simp (disch := omega) only [GL, RL, wu64i]
  refine T_orlopref01_Little b.length 8 (by omega) (by omega) fun v34 h5 n34 => ?_
  refine aw_appendN u_Sl_uint8 u_Sl_uint8 nfo_uint8 rfl (by omega) n29 n34 (nv_flat _ _) (by rw [le_len]; omega) fun v35 h6 n35 => ?_
  refine T_orlopref01_Little X.length 8 (by omega) (by omega) fun v40 h7 n40 => ?_
  refine aw_appendN u_Sl_uint8 u_Sl_uint8 nfo_uint8 rfl (by omega) n35 n40 (nv_flat _ _) (by simp only [le_len]; omega) fun v41 h8 n41 => ?_
  have n41' : Nn h1 t_uint8 .u8 v41 h8 (padL [b, X] ++ (le 8 b.length ++ le 8 X.length)) := by
    unfold Nn
    rw [padL2, nv_app, nv_app, nv_app]
    simp only [List.length_append, le_len] at n41 ⊢
    simpa [Nat.add_assoc] using n41
  clear n26 n28 n29 n34 n35 n40 n41
  have c8 := hX.cle.trans n41'.cle
  refine T_ref_Block 0 (by omega) (hk.mono c8) (hn.mono c8) bk bn hm.1 hm.2 fun v45 h9 n45 => ?_
  have lB := blockL_len key nonce 0
  have bB := blockL_bytes key nonce 0
  have htag : tagB key nonce b X = tagL ((blockL key nonce 0).take 32) (padL [b, X] ++ (le 8 b.length ++ le 8 X.length)) := rfl
  generalize blockL key nonce 0 = B at n45 lB bB htag
  refine q_slRnHi u_Sl_uint8 z_uint8 n45.rn .i64 32 (by omega) fun v46 r46 => ?_
  have bmsg : Bytes (padL [b, X] ++ (le 8 b.length ++ le 8 X.length)) := (padL2_bytes bb bX).append ((le_bytes _ _).append (le_bytes _ _))
  have lp := padL2_len b X 2
  simp only [List.take_succ_cons, List.take_zero] at lp
  refine T_ref_Tag r46 (n41'.rn.mono n45.cle) (bB.take 32) bmsg (by rw [List.length_take]; omega) (by simp only [List.length_append, le_len]; omega) fun v49 h10 n49 => ?_
  rw [← htag] at n49
  rw [ext0, ext1]
  have ltag := tagB_len key nonce b X
  obtain ⟨hb1, m41, mX1⟩ := New.swap hX n41'
  obtain ⟨hb2, m45, mX2⟩ := New.swap mX1 n45
  refine aw_appendN u_Sl_uint8 u_Sl_uint8 nfo_uint8 rfl (by omega) mX2 n49 (nv_flat _ _) (by omega) fun v53 h11 n53 => ?_
  have n53' : Nn hb2 t_uint8 .u8 v53 h11 (sealL key nonce b t) := by
    unfold Nn; rw [hseal, nv_app, List.length_append]; exact n53
  obtain ⟨h0, l0, nf⟩ := n53'.down (m41.le.trans m45.le)
  have := k v53 h0
  rw [if_pos hm, if_pos hm] at this
  exact ⟨h0, l0, this nf⟩

theorem T_ref_Open {vk vn vb vx : Value} {key nonce b x : List Nat} (hk : Rn h .u8 vk key) (hn : Rn h .u8 vn nonce) (hb : Rn h .u8 vb b) (hx : Rn h .u8 vx x) (bk : Bytes key) (bn : Bytes nonce) (bb : Bytes b) (bx : Bytes x)
    (lb : b.length ≤ 1099511627776) (lx : x.length ≤ 1099511627776)
    (k : ∀ v h', (if openC key nonce b x = 0 then Nn h t_uint8 .u8 v h' (openL key nonce b x).2 else v = .slice none 0 0 ∧ h' = h) → K (.tuple #[v, .int .i64 ((openC key nonce b x : Nat) : Int)]) h') :
    Cn P n_orlopref06_Open #[vk, vn, vb, vx] h K := by
  refine Cn_wk (F_orlopref06_Open ?_)
  unfold s_orlopref06_Open
  intro J2
  obtain ⟨ak, ck, rfl, hck⟩ := hk.shape
  obtain ⟨an, cn, rfl, hcn⟩ := hn.shape
  obtain ⟨ax, cx, rfl, hcx⟩ := hx.shape
  have e32 : (((key.length : Nat) : Int) != 32) = decide (key.length ≠ 32) := ne_dec _ 32
  have e12 : (((nonce.length : Nat) : Int) != 12) = decide (nonce.length ≠ 12) := ne_dec _ 12
  simp (disch := omega) only [GL, RL, e32, e12]
  unfold openC at k
  by_cases hm1 : key.length = 32
  case neg =>
    have hm : ¬ (key.length = 32 ∧ nonce.length = 12) := fun q => hm1 q.1
    simp only [if_neg hm] at k
    simp only [hm1, ne_eq, not_false_eq_true, decide_true, Bool.true_eq_false, if_false, if_true]
    exact ⟨h, .refl _, k _ _ (by simp)⟩
  by_cases hm2 : nonce.length = 12
  case neg =>
    have hm : ¬ (key.length = 32 ∧ nonce.length = 12) := fun q => hm2 q.2
    simp only [if_neg hm] at k
    simp only [hm1, hm2, ne_eq, not_true_eq_false, not_false_eq_true, decide_true, decide_false, if_true]
    exact ⟨h, .refl _, k _ _ (by simp)⟩
  have hm : key.length = 32 ∧ nonce.length = 12 := ⟨hm1, hm2⟩
  simp only [if_pos hm] at k
  simp only [hm1, hm2, ne_eq, not_true_eq_false, decide_false, if_true, Bool.false_eq_true, if_false]
  show J2 h
  simp only [J2]
  clear J2
  have e26 : decide (((x.length : Nat) : Int) < 16) = decide (x.length < 16) := lt_dec _ 16
  simp (disch := omega) only [GL, RL, wi64, e26]
  by_cases h16 : x.length < 16
  · simp only [h16, decide_true, if_true]
    have ho : openL key nonce b x = (8, []) := by unfold openL; rw [if_pos h16]
    rw [ho] at k
    exact ⟨h, .refl _, k (.slice none 0 0) h (by simp)⟩
  simp only [h16, decide_false, Bool.false_eq_true, if_false]
  have e16 : ((x.length : Nat) : Int) - 16 = ((x.length - 16 : Nat) : Int) := by omega
  rw [e16]
  refine q_slRnHi u_Sl_uint8 z_uint8 hx .i64 (x.length - 16) (by omega) fun w hw => ?_
  have lw : (x.take (x.length - 16)).length = x.length - 16 := by rw [List.length_take]; omega
  refine T_ref_Xor 1 (by omega) hk hn hw bk bn (bx.take _) (by omega) fun vX h1 nX => ?_
  rw [if_pos hm] at nX ⊢
  rw [ext0, ext1]
  have lX := xorL_len key nonce 1 (x.take (x.length - 16))
  have bX : Bytes (xorL key nonce 1 (x.take (x.length - 16))) := xorL_bytes (bx.take _)
  have c1 := nX.cle
  refine T_ref_Seal (hk.mono c1) (hn.mono c1) (hb.mono c1) nX.rn bk bn bb bX lb (by omega) fun vS h2 nS => ?_
  rw [if_pos hm] at nS ⊢
  rw [ext0, ext1]
  have lS := sealL_len key nonce b (xorL key nonce 1 (x.take (x.length - 16)))
  have eS : sealL key nonce b (xorL key nonce 1 (x.take (x.length - 16))) = x ↔ tagB key nonce b (x.take (x.length - 16)) = x.drop (x.length - 16) := by
    unfold sealL
    rw [xorL_xorL]
    constructor
    · intro e
      have := congrArg (List.drop (x.length - 16)) e
      rw [List.drop_append_of_le_length (by omega), List.drop_of_length_le (by omega)] at this
      simpa using this
    · intro e
      rw [e, List.take_append_drop]
  refine T_orlopref01_Equal nS.rn (hx.mono (c1.trans nS.cle)) (by omega) ?_
  by_cases heq : tagB key nonce b (x.take (x.length - 16)) = x.drop (x.length - 16)
  · have ho : openL key nonce b x = (0, xorL key nonce 1 (x.take (x.length - 16))) := by unfold openL; rw [if_neg h16, if_pos heq]
    rw [ho] at k
    simp (disch := omega) only [GL, RL, eS.2 heq, decide_true, Bool.not_true, Bool.false_eq_true, if_false]
    exact ⟨h1, nS.le, k vX h1 (by simpa using nX)⟩
  · have ho : openL key nonce b x = (7, []) := by unfold openL; rw [if_neg h16, if_neg heq]
    rw [ho] at k
    simp (disch := omega) only [GL, RL, mt eS.1 heq, decide_false, Bool.not_false, if_true]
    exact ⟨h, nX.le.trans nS.le, k (.slice none 0 0) h (by simp)⟩
end
end Go.Proofs.Ytoepmfgahcbmiaa
