/- What the reference's stream comes to: the same as the program's. Conditions: each names its own. -/
import Derived.Test.YtoepmfgahcbmiaaSXb
set_option linter.unusedSimpArgs false
set_option linter.unusedVariables false
set_option maxRecDepth 100000
set_option maxHeartbeats 2000000
namespace Go.Proofs.Ytoepmfgahcbmiaa
open Go Go.SL Go.Pure

section
variable {h : Hp} {K : Value → Hp → Prop}
theorem T_ref_Xor {vk vn vb : Value} {key nonce b : List Nat} (counter : Nat) (hc : counter < 4294967296) (hk : Rn h .u8 vk key) (hn : Rn h .u8 vn nonce) (hb : Rn h .u8 vb b) (bk : Bytes key) (bn : Bytes nonce) (bb : Bytes b) (hl : b.length ≤ 70368744177664)
    (k : ∀ v h', (if key.length = 32 ∧ nonce.length = 12 then Nn h t_uint8 .u8 v h' (xorL key nonce counter b) else v = .slice none 0 0 ∧ h' = h) → K (.tuple #[v, .int .i64 (if key.length = 32 ∧ nonce.length = 12 then 0 else 1)]) h') : Cn P n_orlopref04_Xor #[vk, vn, .int .u32 counter, vb] h K := by
  refine Cn_wk (F_orlopref04_Xor ?_)
  unfold s_orlopref04_Xor
  intro J2
  obtain ⟨ak, ck, ek, hck⟩ := hk.shape
  obtain ⟨an, cn, en, hcn⟩ := hn.shape
  have kl : ∀ (X : Value → Prop), q P h (Builtin.len_ #[22] 3 #[vk]) X = X (.int .i64 (key.length : Nat)) := fun X => by subst ek; exact q_lenS u_Sl_uint8 ak _ ck
  have nl : ∀ (X : Value → Prop), q P h (Builtin.len_ #[22] 3 #[vn]) X = X (.int .i64 (nonce.length : Nat)) := fun X => by subst en; exact q_lenS u_Sl_uint8 an _ cn
  have e32 : (((key.length : Nat) : Int) != 32) = decide (key.length ≠ 32) := by
    rw [Bool.eq_iff_iff, bne_iff_ne, decide_eq_true_eq]; omega
  have e12 : (((nonce.length : Nat) : Int) != 12) = decide (nonce.length ≠ 12) := by
    rw [Bool.eq_iff_iff, bne_iff_ne, decide_eq_true_eq]; omega
  simp (disch := omega) only [GL, RL, kl, nl, e32, e12]
  by_cases hm1 : key.length = 32
  case neg =>
    have hm : ¬ (key.length = 32 ∧ nonce.length = 12) := fun q => hm1 q.1
    simp only [if_neg hm] at k
    simp only [hm1, ne_eq, not_false_eq_true, decide_true, Bool.true_eq_false, if_false, if_true]
    exact ⟨h, .refl _, k _ _ ⟨rfl, rfl⟩⟩
  by_cases hm2 : nonce.length = 12
  case neg =>
    have hm : ¬ (key.length = 32 ∧ nonce.length = 12) := fun q => hm2 q.2
    simp only [if_neg hm] at k
    simp only [hm1, hm2, ne_eq, not_true_eq_false, not_false_eq_true, decide_true, decide_false, if_true]
    exact ⟨h, .refl _, k _ _ ⟨rfl, rfl⟩⟩
  have hm : key.length = 32 ∧ nonce.length = 12 := ⟨hm1, hm2⟩
  simp only [if_pos hm] at k
  simp only [hm1, hm2, ne_eq, not_true_eq_false, decide_false, if_true, Bool.false_eq_true, if_false]
  show J2 h
  simp only [J2]
  clear J2
  obtain ⟨X, hX⟩ : ∃ X, xorL key nonce counter b = X := ⟨_, rfl⟩
  have lX : X.length = b.length := by rw [← hX, xorL_len]
  rw [hX] at k
  let blk : Nat → List Nat := fun i => blockL key nonce ((counter + i / 64) % 4294967296)
  refine Lp_mk (fun u vs h' => ∃ (i : Nat) (s v : Value) (H : Hp), i + u = b.length ∧ Hp.le h H ∧ Hp.cle h H ∧ New H t_uint8 1 v h' (nv .u8 (X.take i)) i ∧ (i % 64 ≠ 0 → Rn H .u8 s (blk i)) ∧ vs = [s, v, .int .i64 (i : Int)]) b.length
    ⟨0, _, _, h, by omega, .refl _, .refl _, ⟨rfl, .inl ⟨rfl, rfl, rfl⟩⟩, fun q => absurd rfl q, rfl⟩ ?_
  rintro u vs h1 ⟨i, s, v, H, hi, lH, cH, hw, hs, rfl⟩
  obtain ⟨ab, cb, rfl, hcb⟩ := hb.shape
  simp only [GL, RL, lt_dec]
  by_cases hlt : i < b.length
  · simp only [hlt, decide_true, if_true]
    obtain ⟨bb', ob, rfl, hyb⟩ := hb.pos (by omega)
    have em : ((i : Int)).tmod 64 = ((i % 64 : Nat) : Int) := (Int.ofNat_tmod i 64).symm
    have eq64 : ((i : Int)).tdiv 64 = ((i / 64 : Nat) : Int) := (Int.ofNat_tdiv i 64).symm
    have step : ∀ (s : Value) (H : Hp) (h4 : Hp) (KK : Value → Hp → Prop), Hp.le h H → Hp.cle h H → New H t_uint8 1 v h4 (nv .u8 (X.take i)) i → Rn H .u8 s (blk i) →
        (∀ v2 h6, New H t_uint8 1 v2 h6 (nv .u8 (X.take (i + 1))) (i + 1) → KK v2 h6) →
        q P emp (Instr.indexAt 22 (.slice (some ⟨bb', ob, none⟩) b.length cb) (.int .i64 (i : Int))) fun t41 => q P h4 (Instr.loadAt 5 t41) fun t42 => q P emp (binOp .rem 3 (.int .i64 (i : Int)) (Value.int .i64 64)) fun t45 => q P emp (Instr.indexAt 22 s t45) fun t46 => q P h4 (Instr.loadAt 5 t46) fun t47 => q P emp (binOp .xor 5 t42 t47) fun t48 =>
        aw P (Instr.buildSlice 22 1 #[(0, t48)]) (fun t49 h => aw P (Builtin.append_ #[22, 22] 22 #[v, t49]) (fun t50 h => KK t50 h) h) h4 := by
      intro s H h4 KK lH cH hw hs kk
      have lb : (blk i).length = 64 := blockL_len _ _ _
      have bl : Bytes (blk i) := blockL_bytes _ _ _
      obtain ⟨a0, c0, rfl, hc0⟩ := hs.shape
      obtain ⟨bs, os, rfl, hys⟩ := hs.pos (by omega)
      have c1 : h4.cell ⟨bb', ob + i, none⟩ = some (.int .u8 ((b.getD i 0 : Nat) : Int)) := hw.cle _ _ (cH _ _ (hyb _ hlt))
      have c2 : h4.cell ⟨bs, os + i % 64, none⟩ = some (.int .u8 (((blk i).getD (i % 64) 0 : Nat) : Int)) := hw.cle _ _ (hys _ (by rw [lb]; omega))
      have t1 : ((i % 64 : Nat) : Int) < ((blk i).length : Nat) := by rw [lb]; omega
      simp (disch := omega) only [GL, RL, em, c1, c2]
      rw [ixor8_nat _ _ (bb.getD _) (bl.getD _)]
      refine aw_lit (ps := [(0, _)]) u_Sl_uint8 z_uint8 zr_uint8 rfl (by omega) (by intro p hp; rw [List.mem_singleton.1 hp]; exact ⟨rfl, by show _ < 1; omega⟩) fun x h5 hx _ => ?_
      refine aw_appendN u_Sl_uint8 u_Sl_uint8 nfo_uint8 rfl (by omega) hw hx (by intro y hy; simp [fillL] at hy; subst hy; rfl) (by omega) fun v2 h6 hw6 => kk v2 h6 ?_
      have e3 : X.take (i + 1) = X.take i ++ [b.getD i 0 ^^^ (blk i).getD (i % 64) 0] := by rw [← hX, xorL_take _ _ _ _ _ hlt]
      rw [e3, nv_app]
      exact hw6
    have fin : ∀ (s : Value) (H : Hp), Hp.le h H → Hp.cle h H → Rn H .u8 s (blk i) → ∀ v2 h6, New H t_uint8 1 v2 h6 (nv .u8 (X.take (i + 1))) (i + 1) →
        ∃ h0, Hp.le h0 h6 ∧ ∃ m, m < u ∧ ∃ (i_1 : Nat) (s' v : Value) (H : Hp), i_1 + m = b.length ∧ Hp.le h H ∧ Hp.cle h H ∧ New H t_uint8 1 v h0 (nv .u8 (X.take i_1)) i_1 ∧ (i_1 % 64 ≠ 0 → Rn H .u8 s' (blk i_1)) ∧ [s, v2, Value.int .i64 (IntKind.i64.wrap ((i : Int) + 1))] = [s', v, .int .i64 (i_1 : Int)] := by
      intro s H lH cH hs v2 h6 n6
      rw [wi64 (by omega) (by omega)]
      refine ⟨_, .refl _, u - 1, by omega, i + 1, s, v2, H, by omega, lH, cH, n6, fun q => ?_, rfl⟩
      have : blk (i + 1) = blk i := by show blockL key nonce _ = blockL key nonce _; rw [show (i + 1) / 64 = i / 64 by omega]
      rw [this]
      exact hs
    rw [q_rem (hb := by omega), q_eql, em]
    rw [cnd_bool]
    by_cases h0 : i % 64 = 0
    · rw [if_pos (by rw [beq_iff_eq]; omega)]
      rw [q_quo (hb := by omega), eq64, wi64 (by omega) (by omega), q_conv _ u_int u_uint32, wu32, q_add, add32]
      rw [show (counter + i / 64 % 4294967296) % 4294967296 = (counter + i / 64) % 4294967296 by omega]
      refine T_ref_Block _ (Nat.mod_lt _ (by decide)) ((hk.mono cH).mono hw.cle) ((hn.mono cH).mono hw.cle) bk bn hm.1 hm.2 fun s' h4 n4 => ?_
      have hbl : blockL key nonce ((counter + i / 64) % 4294967296) = blk i := rfl
      rw [hbl] at n4
      have lb : (blk i).length = 64 := blockL_len _ _ _
      obtain ⟨rb, crb, frb, hrb, hcrb, rfl, hh4, _⟩ := New.form n4 (by omega)
      have hw4 := hw.add hrb (AObj.row t_uint8 (nv .u8 (blk i)) (crb * 1) (some frb))
      rw [← hh4] at hw4
      have hrbH : H rb = none := hw.noneAt hrb
      have hsR : Rn (H.set rb (AObj.row t_uint8 (nv .u8 (blk i)) (crb * 1) (some frb))) .u8 (.slice (some ⟨rb, 0, none⟩) (blk i).length crb) (blk i) := by
        refine ⟨by rw [nv_len]; omega, _, _, rfl, hcrb, .inr ⟨rb, 0, rfl, fun j x ex => ?_⟩⟩
        rw [cell_row (Hp.set_same ..), Nat.zero_add]
        exact ex
      refine step _ _ _ (fun t50 h => _) (lH.trans (le_fresh hrbH)) (cH.trans (cle_set rb _ hrbH)) hw4 hsR ?_
      exact fin _ _ (lH.trans (le_fresh hrbH)) (cH.trans (cle_set rb _ hrbH)) hsR
    · rw [if_neg (by rw [beq_iff_eq]; omega)]
      refine step _ _ _ (fun t50 h => _) lH cH hw (hs h0) ?_
      exact fin _ _ lH cH (hs h0)
  · simp only [hlt, decide_false, Bool.false_eq_true, if_false]
    rw [List.take_of_length_le (by omega)] at hw
    obtain ⟨h0, l0, hw0⟩ := New.down lH hw
    refine ⟨h0, l0, k _ _ ?_⟩
    unfold Nn
    rw [lX, show b.length = i by omega]
    exact hw0
end
end Go.Proofs.Ytoepmfgahcbmiaa
