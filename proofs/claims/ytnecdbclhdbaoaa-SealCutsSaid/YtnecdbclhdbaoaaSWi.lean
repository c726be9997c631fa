/- What sealing and opening come to. Conditions: each names its own. -/
import Derived.Test.YtnecdbclhdbaoaaSWh
set_option linter.unusedSimpArgs false
set_option linter.unusedVariables false
set_option maxRecDepth 100000
namespace Go.Proofs.Ytnecdbclhdbaoaa
open Go Go.SL Go.Pure

theorem or0 (r s : Nat) : r ||| s = 0 ↔ r = 0 ∧ s = 0 := by
  constructor
  · intro e
    have h1 : r ≤ r ||| s := Nat.left_le_or
    have h2 : s ≤ r ||| s := Nat.right_le_or
    omega
  · rintro ⟨rfl, rfl⟩; rfl
theorem xor0 (x y : Nat) : x ^^^ y = 0 ↔ x = y := by
  constructor
  · intro e
    have : (x ^^^ y) ^^^ y = x := by rw [Nat.xor_assoc, Nat.xor_self, Nat.xor_zero]
    rw [e, Nat.zero_xor] at this
    exact this.symm
  · rintro rfl; exact Nat.xor_self _
theorem pk_slHi {h : Hp} (a : Option Addr) (n c hi : Nat) (h1 : hi ≤ c) : peek P h (Instr.sliceAt t_Sl_uint8 (.slice a n c) none (some (.int .i64 hi)) none) = some (.slice (SL.cut a c 0 1) hi c) := by
  obtain ⟨x, hx, e⟩ := withVal_elim (K := fun x => x = .slice (SL.cut a c 0 1) hi c) ((q_slHi (P := P) (h := h) (K := fun x => x = .slice (SL.cut a c 0 1) hi c) u_Sl_uint8 z_uint8 a n c .i64 hi h1).mpr rfl)
  rw [e] at hx
  exact hx
theorem rn_hi {h : Hp} {a : Option Addr} {c hi : Nat} {l : List Nat} (r : Rn h .u8 (.slice a l.length c) l) (h1 : hi ≤ l.length) : Rn h .u8 (.slice (SL.cut a c 0 1) hi c) (l.take hi) := by
  have := r.cut 0 hi (Nat.zero_le _) h1
  simpa using this
theorem rn_nil (h : Hp) (k : IntKind) : Rn h k (.slice none 0 0) [] := ⟨rfl, none, 0, rfl, Nat.le_refl _, .inl rfl⟩
theorem padL2_len (a b : List Nat) (i : Nat) : (padL ([a, b].take i)).length ≤ a.length + b.length + 30 := by
  have h1 := pad16_len ([] ++ a)
  have h2 := pad16_len (pad16 ([] ++ a) ++ b)
  rw [List.length_append] at h2
  rcases i with _ | _ | i
  · simp [padL]
  · show (pad16 ([] ++ a)).length ≤ _
    simp at h1; simp; omega
  · have : [a, b].take (i + 2) = [a, b] := by simp
    rw [this]
    show (pad16 (pad16 ([] ++ a) ++ b)).length ≤ _
    simp at h1 h2 ⊢; omega
theorem padL2_bytes {a b : List Nat} (ha : Bytes a) (hb : Bytes b) : Bytes (padL [a, b]) := by
  show Bytes (pad16 (pad16 ([] ++ a) ++ b))
  exact pad16_bytes ((pad16_bytes (by simpa using ha)).append hb)

theorem ext0 {h : Hp} {K : Value → Prop} (a b : Value) : q P h (Instr.extract (.tuple #[a, b]) 0) K = K a := q_ext #[a, b] 0 a rfl
theorem ext1 {h : Hp} {K : Value → Prop} (a b : Value) : q P h (Instr.extract (.tuple #[a, b]) 1) K = K b := q_ext #[a, b] 1 b rfl

section
variable {h : Hp} {K : Value → Hp → Prop}
theorem T_word_Equal {v w : Value} {l m : List Nat} (hv : Rn h .u8 v l) (hw : Rn h .u8 w m) (bl : Bytes l) (bm : Bytes m) (hl : l.length ≤ 4611686018427387904) (k : K (.bool (decide (l = m))) h) : Cn P n_word_Equal #[v, w] h K := by
  refine F_word_Equal ?_
  obtain ⟨a, c, rfl, hc⟩ := hv.shape
  obtain ⟨a', c', rfl, hc'⟩ := hw.shape
  unfold s_word_Equal
  simp (disch := omega) only [GL, RL]
  by_cases hlen : l.length = m.length
  · rw [if_neg (by simp [hlen])]
    refine Lp_mk (fun n vs h' => ∃ (i r : Nat), i + n = l.length ∧ h' = h ∧ r < 256 ∧ (r = 0 ↔ ∀ j, j < i → l.getD j 0 = m.getD j 0) ∧ vs = [.int .u8 (r : Int), .int .i64 (i : Int)]) l.length ⟨0, 0, by omega, rfl, by omega, ⟨fun _ j hj => by omega, fun _ => rfl⟩, rfl⟩ ?_
    rintro n vs h2 ⟨i, r, hi, rfl, hr, hs, rfl⟩
    simp (disch := omega) only [GL, RL, lt_dec]
    by_cases hlt : i < l.length
    · obtain ⟨b, o, rfl, hy⟩ := hv.pos (by omega)
      obtain ⟨b', o', rfl, hy'⟩ := hw.pos (by omega)
      simp (disch := omega) only [GL, RL, hlt, decide_true, if_true, hy i hlt, hy' i (by omega), wi64]
      have b1 := bl.getD i
      have b2 := bm.getD i
      have b3 : l.getD i 0 ^^^ m.getD i 0 < 256 := Nat.xor_lt_two_pow (n := 8) b1 b2
      have b4 : r ||| (l.getD i 0 ^^^ m.getD i 0) < 256 := Nat.or_lt_two_pow (n := 8) hr b3
      rw [ixor8_nat _ _ b1 b2, or8 (by omega) (by omega) (by omega) (by omega), Int.toNat_natCast, Int.toNat_natCast]
      refine ⟨_, .refl _, n - 1, by omega, i + 1, _, by omega, rfl, b4, ?_, rfl⟩
      rw [or0, xor0, hs]
      constructor
      · rintro ⟨q, e⟩ j hj
        by_cases hji : j = i
        · rw [hji]; exact e
        · exact q j (by omega)
      · exact fun q => ⟨fun j hj => q j (by omega), q i (by omega)⟩
    · simp (disch := omega) only [GL, RL, hlt, decide_false, Bool.false_eq_true, if_false]
      have e1 : ((r : Int) == 0) = decide (l = m) := by
        rw [Bool.eq_iff_iff, beq_iff_eq, decide_eq_true_eq]
        have : (r : Int) = 0 ↔ r = 0 := by omega
        rw [this, hs]
        constructor
        · intro q
          apply List.ext_getElem hlen
          intro j h1 h2
          have := q j (by omega)
          simpa [h1, h2] using this
        · rintro rfl j _; rfl
      rw [e1]
      exact k
  · rw [if_pos (by simp; omega)]
    have : l ≠ m := by rintro rfl; exact hlen rfl
    simpa [this] using k

theorem T_tag {vk vn vb vh : Value} {key nonce b t : List Nat} (hk : Rn h .u8 vk key) (hn : Rn h .u8 vn nonce) (hb : Rn h .u8 vb b) (ht : Rn h .u8 vh t) (bk : Bytes key) (bn : Bytes nonce) (bb : Bytes b) (bt : Bytes t)
    (lb : b.length ≤ 1099511627776) (lt : t.length ≤ 1099511627776) (hm : key.length = 32 ∧ nonce.length = 12)
    (k : ∀ v h', Nn h t_uint8 .u8 v h' (tagB key nonce b t) → K (.tuple #[v, .int .i64 0]) h') : Cn P n_aead_tag #[vk, vn, vb, vh] h K := by
  refine Cn_wk (F_aead_tag ?_)
  obtain ⟨ab, cb, rfl, hcb⟩ := hb.shape
  obtain ⟨at', ct, rfl, hct⟩ := ht.shape
  unfold s_aead_tag
  refine T_Block 0 (by omega) hk hn bk bn fun vB h1 hB => ?_
  rw [if_pos hm] at hB ⊢
  have lB := blockL_len key nonce 0
  have bB := blockL_bytes key nonce 0
  have htag : tagB key nonce b t = tagL ((blockL key nonce 0).take 32) (padL [b, t] ++ (le 8 b.length ++ le 8 t.length)) := rfl
  generalize blockL key nonce 0 = B at hB lB bB htag
  rw [ext0, ext1]
  simp (disch := omega) only [GL, RL, bne_self_eq_false, Bool.false_eq_true, if_false, wu64i]
  refine T_word_Put64 b.length (by omega) fun v25 h2 n2 => ?_
  refine T_word_Put64 t.length (by omega) fun v29 h3 n3 => ?_
  have n2' : New h1 t_uint8 1 v25 h2 (nv .u8 (le 8 b.length)) 8 := by unfold Nn at n2; rwa [le_len] at n2
  have n3' : New h2 t_uint8 1 v29 h3 (nv .u8 (le 8 t.length)) 8 := by unfold Nn at n3; rwa [le_len] at n3
  refine aw_appendN u_Sl_uint8 u_Sl_uint8 nfo_uint8 rfl (by omega) n2' n3' (nv_flat _ _) (by omega) fun v30 h4 n4 => ?_
  have n4' : Nn h1 t_uint8 .u8 v30 h4 (le 8 b.length ++ le 8 t.length) := by
    unfold Nn; rw [nv_app, List.length_append, le_len, le_len]; exact n4
  obtain ⟨aB, cB, rfl, hcB⟩ := hB.rn.shape
  have hsl : ∀ H : Hp, peek P H (Instr.sliceAt t_Sl_uint8 (.slice aB B.length cB) none (some (Value.int .i64 32)) none) = some (.slice (SL.cut aB cB 0 1) 32 cB) := fun H => pk_slHi aB B.length cB 32 (by omega)
  have hr32 : Rn h1 .u8 (.slice (SL.cut aB cB 0 1) 32 cB) (B.take 32) := rn_hi hB.rn (by omega)
  rw [q_of (hsl _)]
  refine aw_lit (ps := [(0, _), (1, _)]) u_Sl_Sl_uint8 z_Sl_uint8 zr_Sl_uint8 rfl (by omega) (by intro p hp; simp at hp; rcases hp with rfl | rfl <;> exact ⟨rfl, by show _ < 2; omega⟩) fun v35 h5 n5 hx => ?_
  obtain ⟨r5, hr5, rfl, hh5⟩ := hx
  have c45 : Hp.cle h4 h5 := n5.cle
  have c15 : Hp.cle h1 h5 := n4'.cle.trans c45
  have c05 : Hp.cle h h5 := hB.cle.trans c15
  have hparts : Parts h5 (.slice (some ⟨r5, 0, none⟩) 2 2) [b, t] := by
    refine ⟨r5, 0, 2, rfl, Nat.le_refl _, fun i hi => ?_⟩
    have h5r : h5 r5 = some (.row t_Sl_uint8 [.slice ab b.length cb, .slice at' t.length ct] 2 (some (0, 0))) := by rw [hh5, Hp.set_same]; rfl
    have : i = 0 ∨ i = 1 := by simp at hi; omega
    rcases this with rfl | rfl
    · exact ⟨_, by rw [cell_row h5r]; rfl, hb.mono c05⟩
    · exact ⟨_, by rw [cell_row h5r]; rfl, ht.mono c05⟩
  refine ⟨hsl _, ?_⟩
  refine T_padded hparts (fun i => by have := padL2_len b t i; omega) (fun i => by rcases i with _ | _ | i <;> simp <;> omega) (by simp) fun v36 h6 n6 => ?_
  refine ⟨hsl _, ?_⟩
  have lp := padL2_len b t 2
  simp only [List.take_succ_cons, List.take_zero] at lp
  have lle : (le 8 b.length ++ le 8 t.length).length = 16 := by rw [List.length_append, le_len, le_len]
  refine aw_append u_Sl_uint8 u_Sl_uint8 nfo_uint8 rfl (by omega) n6 ((n4'.rn.mono c45).mono n6.cle) (nv_flat _ _) (by rw [lle]; omega) (.refl _) fun v38 h7 n7 => ?_
  have n7' : Nn h5 t_uint8 .u8 v38 h7 (padL [b, t] ++ (le 8 b.length ++ le 8 t.length)) := by
    unfold Nn; rw [nv_app, List.length_append]; exact n7
  refine ⟨hsl _, ?_⟩
  have bmsg : Bytes (padL [b, t] ++ (le 8 b.length ++ le 8 t.length)) := (padL2_bytes bb bt).append ((le_bytes _ _).append (le_bytes _ _))
  refine T_poly_Tag ((hr32.mono c15).mono n7'.cle) n7'.rn (bB.take 32) bmsg (by rw [List.length_take]; omega) (by rw [List.length_append, lle]; omega) fun v h8 n8 => ?_
  rw [← htag] at n8
  rw [ext0, ext1]
  have leF : Hp.le h h7 := (((New.le hB).trans (New.le n4')).trans n5.le).trans (New.le n7')
  obtain ⟨h0, l0, nf⟩ := n8.down leF
  exact ⟨h0, l0, k v h0 nf⟩

theorem T_Seal {vk vn vb vt : Value} {key nonce b t : List Nat} (hk : Rn h .u8 vk key) (hn : Rn h .u8 vn nonce) (hb : Rn h .u8 vb b) (ht : Rn h .u8 vt t) (bk : Bytes key) (bn : Bytes nonce) (bb : Bytes b) (bt : Bytes t)
    (lb : b.length ≤ 1099511627776) (lt : t.length ≤ 1099511627776)
    (k : ∀ v h', (if key.length = 32 ∧ nonce.length = 12 then Nn h t_uint8 .u8 v h' (sealL key nonce b t) else v = .slice none 0 0 ∧ h' = h) → K (.tuple #[v, .int .i64 (if key.length = 32 ∧ nonce.length = 12 then 0 else 1)]) h') :
    Cn P n_aead_Seal #[vk, vn, vb, vt] h K := by
  refine Cn_wk (F_aead_Seal ?_)
  unfold s_aead_Seal
  refine T_Xor 1 (by omega) hk hn ht bk bn bt (by omega) fun vX h1 hX => ?_
  rw [ext0, ext1]
  by_cases hm : key.length = 32 ∧ nonce.length = 12
  case neg =>
    rw [if_neg hm] at hX ⊢
    obtain ⟨rfl, rfl⟩ := hX
    have e1 : ((1 : Int) != 0) = true := rfl
    simp (disch := omega) only [GL, RL, e1, if_true]
    have := k (.slice none 0 0) h1
    rw [if_neg hm, if_neg hm] at this
    exact ⟨h1, .refl _, this ⟨rfl, rfl⟩⟩
  rw [if_pos hm] at hX ⊢
  have lX := xorL_len key nonce 1 t
  have bX : Bytes (xorL key nonce 1 t) := xorL_bytes bt
  have hseal : sealL key nonce b t = xorL key nonce 1 t ++ tagB key nonce b (xorL key nonce 1 t) := rfl
  generalize xorL key nonce 1 t = X at hX lX bX hseal
  simp (disch := omega) only [GL, RL, bne_self_eq_false, Bool.false_eq_true, if_false]
  refine T_tag (hk.mono hX.cle) (hn.mono hX.cle) (hb.mono hX.cle) hX.rn bk bn bb bX lb (by omega) hm fun vT h2 hT => ?_
  rw [ext0, ext1]
  simp (disch := omega) only [GL, RL, bne_self_eq_false, Bool.false_eq_true, if_false]
  have fX : flat vX = true := by obtain ⟨a, c, e, _⟩ := hX.rn.shape; rw [e]; rfl
  have fT : flat vT = true := by obtain ⟨a, c, e, _⟩ := hT.rn.shape; rw [e]; rfl
  refine aw_lit (ps := [(0, _), (1, _)]) u_Sl_Sl_uint8 z_Sl_uint8 zr_Sl_uint8 rfl (by omega) (by intro p hp; simp at hp; exact hp.elim (fun e => by subst e; exact ⟨fX, by show _ < 2; omega⟩) (fun e => by subst e; exact ⟨fT, by show _ < 2; omega⟩)) fun v36 h3 n3 hx => ?_
  obtain ⟨r3, hr3, rfl, hh3⟩ := hx
  have c23 : Hp.cle h2 h3 := n3.cle
  have hparts : Parts h3 (.slice (some ⟨r3, 0, none⟩) 2 2) [X, tagB key nonce b X] := by
    refine ⟨r3, 0, 2, rfl, Nat.le_refl _, fun i hi => ?_⟩
    have h3r : h3 r3 = some (.row t_Sl_uint8 [vX, vT] 2 (some (0, 0))) := by rw [hh3, Hp.set_same]; rfl
    have : i = 0 ∨ i = 1 := by simp at hi; omega
    rcases this with rfl | rfl
    · exact ⟨_, by rw [cell_row h3r]; rfl, (hX.rn.mono hT.cle).mono c23⟩
    · exact ⟨_, by rw [cell_row h3r]; rfl, hT.rn.mono c23⟩
  have hfl : [X, tagB key nonce b X].flatten = sealL key nonce b t := by rw [hseal]; simp
  have ltag := tagB_len key nonce b X
  refine T_Concat hparts (by simp [ltag]; omega) (by simp) fun v h4 n4 => ?_
  rw [hfl] at n4
  have leF : Hp.le h h3 := ((New.le hX).trans (New.le hT)).trans n3.le
  obtain ⟨h0, l0, nf⟩ := n4.down leF
  have := k v h0
  rw [if_pos hm, if_pos hm] at this
  exact ⟨h0, l0, this nf⟩
end
end Go.Proofs.Ytnecdbclhdbaoaa
