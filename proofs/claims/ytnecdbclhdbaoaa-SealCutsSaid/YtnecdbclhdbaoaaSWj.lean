/- What opening comes to. Conditions: each names its own. -/
import Derived.Test.YtnecdbclhdbaoaaSWi
set_option linter.unusedSimpArgs false
set_option linter.unusedVariables false
set_option maxRecDepth 100000
namespace Go.Proofs.Ytnecdbclhdbaoaa
open Go Go.SL Go.Pure

section
variable {h : Hp} {K : Value → Hp → Prop}
/-- What a call of Open tells: the code, and with it the text, or nil. -/
def openC (key nonce b x : List Nat) : Nat := if key.length = 32 ∧ nonce.length = 12 then (openL key nonce b x).1 else 1
theorem T_Open {vk vn vb vx : Value} {key nonce b x : List Nat} (hk : Rn h .u8 vk key) (hn : Rn h .u8 vn nonce) (hb : Rn h .u8 vb b) (hx : Rn h .u8 vx x) (bk : Bytes key) (bn : Bytes nonce) (bb : Bytes b) (bx : Bytes x)
    (lb : b.length ≤ 1099511627776) (lx : x.length ≤ 1099511627776)
    (k : ∀ v h', (if openC key nonce b x = 0 then Nn h t_uint8 .u8 v h' (openL key nonce b x).2 else v = .slice none 0 0 ∧ h' = h) → K (.tuple #[v, .int .i64 ((openC key nonce b x : Nat) : Int)]) h') :
    Cn P n_aead_Open #[vk, vn, vb, vx] h K := by
  refine Cn_wk (F_aead_Open ?_)
  unfold s_aead_Open
  refine T_Xor 1 (by omega) hk hn (rn_nil h .u8) bk bn (by intro y hy; cases hy) (by simp) fun vX h1 hX => ?_
  rw [ext0, ext1]
  unfold openC at k
  by_cases hm : key.length = 32 ∧ nonce.length = 12
  case neg =>
    simp only [if_neg hm] at hX k ⊢
    obtain ⟨rfl, rfl⟩ := hX
    have e1 : ((1 : Int) != 0) = true := rfl
    simp (disch := omega) only [GL, RL, e1, if_true]
    exact ⟨h1, .refl _, k (.slice none 0 0) h1 (by simp)⟩
  simp only [if_pos hm] at hX k ⊢
  have le1 : Hp.le h h1 := New.le hX
  have c1 := hX.cle
  obtain ⟨ax, cx, rfl, hcx⟩ := hx.shape
  have e26 : decide (((x.length : Nat) : Int) - 16 < 0) = decide (x.length < 16) := by rw [decide_eq_decide]; omega
  simp (disch := omega) only [GL, RL, wi64, bne_self_eq_false, Bool.false_eq_true, if_false, e26]
  by_cases h16 : x.length < 16
  · simp only [h16, decide_true, if_true]
    have ho : openL key nonce b x = (8, []) := by unfold openL; rw [if_pos h16]
    rw [ho] at k
    exact ⟨h, le1, k (.slice none 0 0) h (by simp)⟩
  simp only [h16, decide_false, Bool.false_eq_true, if_false]
  have e16 : ((x.length : Nat) : Int) - 16 = ((x.length - 16 : Nat) : Int) := by omega
  rw [e16]
  refine q_slRnHi u_Sl_uint8 z_uint8 (hx.mono c1) .i64 (x.length - 16) (by omega) fun w hw => ?_
  refine T_tag (hk.mono c1) (hn.mono c1) (hb.mono c1) hw bk bn bb (bx.take _) lb (by rw [List.length_take]; omega) hm fun vT h2 hT => ?_
  rw [ext0, ext1]
  have c2 := c1.trans hT.cle
  refine q_slRn u_Sl_uint8 z_uint8 (hx.mono c2) .i64 (x.length - 16) (by omega) fun w2 hw2 => ?_
  have ltag := tagB_len key nonce b (x.take (x.length - 16))
  refine T_word_Equal hT.rn hw2 (tagB_bytes _ _ _ _) (bx.drop _) (by omega) ?_
  have le2 : Hp.le h h2 := le1.trans (New.le hT)
  by_cases heq : tagB key nonce b (x.take (x.length - 16)) = x.drop (x.length - 16)
  · have ho : openL key nonce b x = (0, xorL key nonce 1 (x.take (x.length - 16))) := by unfold openL; rw [if_neg h16, if_pos heq]
    rw [ho] at k
    simp (disch := omega) only [GL, RL, heq, decide_true, Bool.not_true, Bool.false_eq_true, if_false]
    refine q_slRnHi u_Sl_uint8 z_uint8 (hx.mono c2) .i64 (x.length - 16) (by omega) fun w3 hw3 => ?_
    refine T_Xor 1 (by omega) (hk.mono c2) (hn.mono c2) hw3 bk bn (bx.take _) (by rw [List.length_take]; omega) fun v3 h3 n3 => ?_
    simp only [if_pos hm] at n3 ⊢
    rw [ext0, ext1]
    obtain ⟨h0, l0, nf⟩ := n3.down le2
    exact ⟨h0, l0, k v3 h0 (by simpa using nf)⟩
  · have ho : openL key nonce b x = (7, []) := by unfold openL; rw [if_neg h16, if_neg heq]
    rw [ho] at k
    simp (disch := omega) only [GL, RL, heq, decide_false, Bool.not_false, if_true]
    exact ⟨h, le2, k (.slice none 0 0) h (by simp)⟩
end
end Go.Proofs.Ytnecdbclhdbaoaa
