/- What CryptOthers comes to. Conditions: each names its own. -/
import Derived.Test.YtnecdbclhdbaoaaSYo
set_option linter.unusedSimpArgs false
set_option linter.unusedVariables false
set_option maxRecDepth 100000
set_option maxHeartbeats 1000000
namespace Go.Proofs.Ytnecdbclhdbaoaa
open Go Go.SL Go.Pure

theorem boxedAsk {key nonce : List Nat} {vb vt : Value} : (Value.agg (askC key nonce vb vt).toArray).cells.toList = askC key nonce vb vt := rfl

section
variable {h : Hp} {K : Value → Hp → Prop}
theorem T_Book2 {R : Hp} {S : List Nat} (w : Own R h S) (k : ∀ p h' S', BookAt R h' p [] [] S' → Own R h' S' → Hp.ext h h' → (∀ b ∈ S', h b = none) → K (.iface t_Pt_crypt_book (.pointer (some ⟨p, 0, none⟩))) h') : Cn P n_crypt_Book #[] h K := by
  refine F_crypt_Book ?_
  unfold s_crypt_Book
  refine aw_makeMap fun r hr => ?_
  rw [bldBook]
  refine aw_box fun p hp => ?_
  rw [q_mkI u_Pt_crypt_book rfl]
  have hpr : p ≠ r := by rintro rfl; rw [Hp.set_same] at hp; cases hp
  have hp0 : h p = none := by rwa [Hp.set_ne _ _ hpr] at hp
  have hE : (Value.agg #[.map (some r), .slice none 0 0]).cells.toList = [.map (some r), .slice none 0 0] := rfl
  have hS : (Value.agg #[.map (some r), .slice none 0 0]).cells.size = 2 := rfl
  rw [hE, hS]
  have kp : ∀ x o, h x = some o → ((h.set r (.obj (.map #[] 0))).set p (.row t_crypt_book [.map (some r), .slice none 0 0] 2 (some (0, 0)))) x = some o := fun x o e => by
    rw [Hp.set_ne _ _ (by rintro rfl; rw [hp0] at e; cases e), Hp.set_ne _ _ (by rintro rfl; rw [hr] at e; cases e)]; exact e
  refine k p _ [p, r] ⟨r, .slice none 0 0, #[], 0, [], Hp.set_same .., ?_, ⟨rfl, (by intro e he; simp at he), List.nodup_nil, (by intro t ht; cases ht), fun t _ => rfl⟩, .inl ⟨rfl, rfl, rfl⟩, rfl, hpr, (by simp), (by simp), (by intro b hb; cases hb)⟩ ⟨fun x o e => kp x o (w.sub x o e), fun b hb => ?_, fun b hb => ?_⟩
    kp fun b hb => ?_
  · rw [Hp.set_ne _ _ (Ne.symm hpr), Hp.set_same]
  · simp only [List.mem_cons, List.not_mem_nil, or_false] at hb
    rcases hb with rfl | rfl
    · exact w.sub.none hp0
    · exact w.sub.none hr
  · simp only [List.mem_cons, List.not_mem_nil, or_false] at hb
    rcases hb with rfl | rfl
    · exact ⟨_, Hp.set_same ..⟩
    · exact ⟨_, by rw [Hp.set_ne _ _ (Ne.symm hpr), Hp.set_same]⟩
  · simp only [List.mem_cons, List.not_mem_nil, or_false] at hb
    rcases hb with rfl | rfl
    · exact hp0
    · exact hr
theorem T_CryptOthers {vb vt : Value} {key nonce b t : List Nat} (x y z : Nat) (hx : x < 256) (hy : y < 256) (hz : z < 256) (lk : key.length = 32) (ln : nonce.length = 12) (bk : Bytes key) (bn : Bytes nonce)
    (hb : Rn h .u8 vb b) (ht : Rn h .u8 vt t) (bb : Bytes b) (bt : Bytes t)
    (k : ∀ h', K (.bool true) h') : Cn P n_orloplaw12_CryptOthers #[.agg (askC key nonce vb vt).toArray, .agg #[.int .u8 (x : Int), .int .u8 (y : Int), .int .u8 (z : Int)]] h K := by
  refine F_orloplaw12_CryptOthers ?_
  unfold s_orloplaw12_CryptOthers
  have hm : may key nonce := ⟨lk, ln⟩
  refine aw_box fun r2 hr2 => ?_
  rw [boxedAsk, show (Value.agg (askC key nonce vb vt).toArray).cells.size = 46 from askC_len lk ln]
  have a2 : Ask12 (h.set r2 (.row t_orloplaw12_Ask (askC key nonce vb vt) 46 (some (0, 0)))) r2 key nonce vb vt := ⟨_, Hp.set_same ..⟩
  have x2 := ext_set (.row t_orloplaw12_Ask (askC key nonce vb vt) 46 (some (0, 0))) hr2
  generalize h.set r2 (.row t_orloplaw12_Ask (askC key nonce vb vt) 46 (some (0, 0))) = M at a2 x2
  refine aw_box fun r3 hr3 => ?_
  have e3 : (M.set r3 (.row t_3_uint8 [.int .u8 (x : Int), .int .u8 (y : Int), .int .u8 (z : Int)] 3 (some (0, 0)))) r3 = _ := Hp.set_same ..
  have x3 := ext_set (.row t_3_uint8 [.int .u8 (x : Int), .int .u8 (y : Int), .int .u8 (z : Int)] 3 (some (0, 0))) hr3
  show Cn P _ _ (M.set r3 (.row t_3_uint8 [.int .u8 (x : Int), .int .u8 (y : Int), .int .u8 (z : Int)] 3 (some (0, 0)))) _
  generalize M.set r3 (.row t_3_uint8 [.int .u8 (x : Int), .int .u8 (y : Int), .int .u8 (z : Int)] 3 (some (0, 0))) = M3 at e3 x3
  refine T_awake12 fun h4 x4 => ?_
  have y4 := x3.trans x4
  replace hb := hb.mono (x2.trans y4).cle
  replace ht := ht.mono (x2.trans y4).cle
  have a4 : Ask12 h4 r2 key nonce vb vt := let ⟨f, e⟩ := a2; ⟨f, y4 _ _ e⟩
  have e4 := x4 _ _ e3
  clear x2 x3 x4 y4 a2 e3
  obtain ⟨_, _, d2, d3⟩ := a4.facts (.refl _) lk ln
  simp -zeta only [GL, RL, Bool.not_true, Bool.false_eq_true, if_false]
  intro J5
  have go : b.length ≤ 300 → t.length ≤ 300 → J5 h4 := by
    intro lb lt
    simp -zeta only [J5]
    clear J5
    have w0 : Own h4 h4 [] := ⟨.refl _, fun b hb => (by cases hb), fun b hb => (by cases hb)⟩
    refine T_Book2 w0 fun p h5 S1 hB1 o1 y1 _ => ?_
    refine T_Book2 (K := _) o1.nil fun p2 h6 S2 hB2 o2 y2 f2 => ?_
    have y6 := y1.trans y2
    have C1 : CrAt h4 h6 (.iface t_Pt_crypt_book (.pointer (some ⟨p, 0, none⟩))) (.book [] []) S1 := CrAt.ext (c := .book [] []) ⟨p, rfl, hB1⟩ o1 (.refl _) y2
    have C2 : CrAt h4 h6 (.iface t_Pt_crypt_book (.pointer (some ⟨p2, 0, none⟩))) (.book [] []) S2 := ⟨p2, rfl, hB2⟩
    have o1' := (Stp.ext0 o1 y2).own
    have dis : ∀ b, b ∈ S2 → b ∉ S1 := fun b hb q => by
      obtain ⟨o, e⟩ := o1.kn b q
      rw [f2 b hb] at e; cases e
    generalize hc1 : (Value.iface t_Pt_crypt_book (.pointer (some ⟨p, 0, none⟩))) = vc at C1
    generalize hc2 : (Value.iface t_Pt_crypt_book (.pointer (some ⟨p2, 0, none⟩))) = vd at C2
    obtain ⟨rk, rn, g2, g3⟩ := a4.facts y6 lk ln
    obtain ⟨qk, qn, _, _⟩ := a4.facts (.refl _) lk ln
    simp -zeta (disch := omega) only [GL, RL, cf0, cf1, cf2, cf3, sl32, sl12, g2, g3]
    rw [q_of (nilSeal C1)]
    have lb' : b.length ≤ 1099511627776 := by omega
    have lt' : t.length ≤ 1099511627776 := by omega
    refine T_crSeal o1' C1 ⟨by simp, by intro s hs; cases hs⟩ qk qn hb ht bk bn bb bt lb' lt' fun v43 R7 h7 S7 s7 C7 hv => ?_
    have es : crSeal (.book [] []) key nonce b t = (0, boxB 0 (t.length + 16), .book [] [⟨key, nonce, b, t⟩]) := by simp only [crSeal, if_pos hm]; rfl
    rw [es] at C7 hv ⊢
    dsimp only at C7 hv
    rw [if_pos rfl] at hv
    obtain ⟨w72, n72, k72⟩ := s7.frame o2 dis
    have C27 := C2.keep s7.ext k72
    have bx : Bytes (boxB 0 (t.length + 16)) := boxB_bytes _ _
    have lx : (boxB 0 (t.length + 16)).length = t.length + 16 := boxB_len _ _
    rw [ext0, ext1]
    obtain ⟨_, _, g72, g73⟩ := a4.facts (s7.ext.trans s7.own.sub) lk ln
    simp -zeta (disch := omega) only [GL, RL, cf0, cf1, cf2, cf3, sl32, sl12, g72, g73]
    rw [q_of (nilOpen C27)]
    refine T_crOpen w72 C27 ⟨by simp, by intro s hs; cases hs⟩ (qk.mono s7.ext.cle) (qn.mono s7.ext.cle) (hb.mono s7.ext.cle) hv bk bn bb bx lb' (by omega) fun v58 R8 h8 s8 C28 _ => ?_
    have eo : crOpen (.book [] []) key nonce b (boxB 0 (t.length + 16)) = (7, []) := by
      simp only [crOpen, if_pos hm]
      unfold bookOpen
      rw [if_neg (by omega)]
      rfl
    rw [eo]
    rw [ext0, ext1]
    obtain ⟨o8, n8, k8⟩ := s8.frame s7.own (fun b hb q => n72 b q hb)
    have C8 := C7.keep s8.ext k8
    have X8 : Hp.ext h4 h8 := (s7.ext.trans s8.ext).trans s8.own.sub
    replace hv := hv.mono s8.ext.cle
    -- key and nonce, turned
    obtain ⟨u0, u1, u2, u3⟩ := a4.facts X8 lk ln
    obtain ⟨ff, ea⟩ := a4
    have ea8 := X8 _ _ ea
    have L32 : ∀ {F : Value → Prop}, q P h8 (Instr.loadAt t_32_uint8 (.pointer (some ⟨r2, 0, none⟩))) F = F (.agg (nv .u8 key).toArray) := fun {F} => q_ldAgg u_32_uint8 rfl (by rw [nv_len, lk]; exact z_32_uint8) fun j y ey => by
      have hi := (List.getElem?_eq_some_iff.1 ey).1
      rw [cell_row ea8, Nat.zero_add, askC, List.append_assoc, List.getElem?_append_left hi]; exact ey
    simp -zeta (disch := omega) only [GL, RL, cf0, L32]
    refine aw_allocL (nv .u8 (List.replicate 32 0)) zr_32u8 rfl fun r11 hr11 => ?_
    refine aw_storeRow (ys := nv .u8 key) (by rw [nv_len, lk]; exact z_32_uint8) (Hp.set_same ..) (by rw [nv_len, nv_len, lk]; rfl) (nv_flat _ _) (fun i _ => by simp) ?_
    rw [Hp.set_set]
    have len32 : (nv .u8 (List.replicate 32 0)).length = 32 := by rw [nv_len]; rfl
    have len12 : (nv .u8 (List.replicate 12 0)).length = 12 := by rw [nv_len]; rfl
    rw [len32]
    have L12 : ∀ {F : Value → Prop}, q P (h8.set r11 (.row t_32_uint8 (nv .u8 key) 32 (some (0, 0)))) (Instr.loadAt t_12_uint8 (.pointer (some ⟨r2, 32, none⟩))) F = F (.agg (nv .u8 nonce).toArray) := fun {F} => q_ldAgg u_12_uint8 rfl (by rw [nv_len, ln]; exact sz_12u8) fun j y ey => by
      have hi := (List.getElem?_eq_some_iff.1 ey).1
      have lk' : (nv .u8 key).length = 32 := by rw [nv_len, lk]
      have hi' : j < 12 := by rwa [nv_len, ln] at hi
      rw [cell_row (ext_set _ hr11 _ _ ea8), askC, List.append_assoc, List.getElem?_append_right (by omega), lk', List.getElem?_append_left (by omega), show 32 + j - 32 = j by omega]; exact ey
    simp -zeta (disch := omega) only [GL, RL, cf1, L12]
    refine aw_allocL (nv .u8 (List.replicate 12 0)) zr_12u8 rfl fun r12 hr12 => ?_
    refine aw_storeRow (ys := nv .u8 nonce) (by rw [nv_len, ln]; exact sz_12u8) (Hp.set_same ..) (by rw [nv_len, nv_len, ln]; rfl) (nv_flat _ _) (fun i _ => by simp) ?_
    rw [Hp.set_set, len12]
    have ne : r11 ≠ r12 := by rintro rfl; rw [Hp.set_same] at hr12; cases hr12
    have hr12' : h8 r12 = none := by rwa [Hp.set_ne _ _ (Ne.symm ne)] at hr12
    obtain ⟨H2, hH2⟩ : ∃ H2, (h8.set r11 (.row t_32_uint8 (nv .u8 key) 32 (some (0, 0)))).set r12 (.row t_12_uint8 (nv .u8 nonce) 12 (some (0, 0))) = H2 := ⟨_, rfl⟩
    have X2 : Hp.ext h8 H2 := by rw [← hH2]; exact (ext_set _ hr11).trans (ext_set _ hr12)
    have m11 : H2 r11 = some (.row t_32_uint8 (nv .u8 key) 32 (some (0, 0))) := by rw [← hH2, Hp.set_ne _ _ ne, Hp.set_same]
    have m12 : H2 r12 = some (.row t_12_uint8 (nv .u8 nonce) 12 (some (0, 0))) := by rw [← hH2, Hp.set_same]
    have m3 : H2 r3 = _ := (X8.trans X2) _ _ e4
    rw [hH2]
    have v11 : H2.cell ⟨r11, 3, none⟩ = some (.int .u8 ((key.getD 3 0 : Nat) : Int)) := by rw [cell_row m11]; exact nv_getD _ _ _ (by omega)
    have v12 : H2.cell ⟨r12, 3, none⟩ = some (.int .u8 ((nonce.getD 3 0 : Nat) : Int)) := by rw [cell_row m12]; exact nv_getD _ _ _ (by omega)
    have v30 : H2.cell ⟨r3, 0, none⟩ = some (.int .u8 (x : Int)) := by rw [cell_row m3]; rfl
    have t3 : Int.toNat 3 = 3 := rfl
    have t2 : Int.toNat 2 = 2 := rfl
    have t1 : Int.toNat 1 = 1 := rfl
    have t0 : Int.toNat 0 = 0 := rfl
    have hk3 := bk.getD 3
    have hn3 := bn.getD 3
    simp -zeta (disch := omega) only [GL, RL, t3, t0, Nat.zero_add, v11, v30, ixor8_nat]
    refine aw_store z_uint8 rfl (put_row m11 (by rw [nv_len, lk]; omega) (by simp) _) ?_
    rw [nv_set]
    have m12b : (H2.set r11 (.row t_32_uint8 (nv .u8 (key.set 3 (key.getD 3 0 ^^^ x))) 32 (some (0, 0)))) r12 = some (.row t_12_uint8 (nv .u8 nonce) 12 (some (0, 0))) := by rw [Hp.set_ne _ _ (Ne.symm ne)]; exact m12
    have n3 : r3 ≠ r11 := by rintro rfl; have := X8 _ _ e4; rw [hr11] at this; cases this
    have n3' : r3 ≠ r12 := by rintro rfl; have := X8 _ _ e4; rw [hr12'] at this; cases this
    have m3b : (H2.set r11 (.row t_32_uint8 (nv .u8 (key.set 3 (key.getD 3 0 ^^^ x))) 32 (some (0, 0)))) r3 = _ := (Hp.set_ne _ _ n3).trans m3
    have v12b : (H2.set r11 (.row t_32_uint8 (nv .u8 (key.set 3 (key.getD 3 0 ^^^ x))) 32 (some (0, 0)))).cell ⟨r12, 3, none⟩ = some (.int .u8 ((nonce.getD 3 0 : Nat) : Int)) := by rw [cell_row m12b]; exact nv_getD _ _ _ (by omega)
    have v31b : (H2.set r11 (.row t_32_uint8 (nv .u8 (key.set 3 (key.getD 3 0 ^^^ x))) 32 (some (0, 0)))).cell ⟨r3, 1, none⟩ = some (.int .u8 (y : Int)) := by rw [cell_row m3b]; rfl
    simp -zeta (disch := omega) only [GL, RL, t1, Nat.zero_add, v12b, v31b, ixor8_nat]
    refine aw_store z_uint8 rfl (put_row m12b (by rw [nv_len, ln]; omega) (by simp) _) ?_
    rw [nv_set]
    have eH : (H2.set r11 (.row t_32_uint8 (nv .u8 (key.set 3 (key.getD 3 0 ^^^ x))) 32 (some (0, 0)))).set r12 (.row t_12_uint8 (nv .u8 (nonce.set 3 (nonce.getD 3 0 ^^^ y))) 12 (some (0, 0))) =
        (h8.set r11 (.row t_32_uint8 (nv .u8 (key.set 3 (key.getD 3 0 ^^^ x))) 32 (some (0, 0)))).set r12 (.row t_12_uint8 (nv .u8 (nonce.set 3 (nonce.getD 3 0 ^^^ y))) 12 (some (0, 0))) := by
      rw [← hH2]
      funext i
      by_cases q1 : i = r12
      · subst q1; rw [Hp.set_same, Hp.set_same]
      · rw [Hp.set_ne _ _ q1, Hp.set_ne _ _ q1]
        by_cases q2 : i = r11
        · subst q2; rw [Hp.set_same, Hp.set_same]
        · rw [Hp.set_ne _ _ q2, Hp.set_ne _ _ q2, Hp.set_ne _ _ q1, Hp.set_ne _ _ q2]
    rw [eH]
    clear eH v31b v12b m3b m12b v30 v12 v11 m12 m11 m3 X2 hH2
    have lk2 : (key.set 3 (key.getD 3 0 ^^^ x)).length = 32 := by rw [List.length_set]; exact lk
    have ln2 : (nonce.set 3 (nonce.getD 3 0 ^^^ y)).length = 12 := by rw [List.length_set]; exact ln
    have bk2 : Bytes (key.set 3 (key.getD 3 0 ^^^ x)) := fun w hw => (List.mem_or_eq_of_mem_set hw).elim (bk w) fun e => by rw [e]; exact Nat.xor_lt_two_pow (n := 8) hk3 hx
    have bn2 : Bytes (nonce.set 3 (nonce.getD 3 0 ^^^ y)) := fun w hw => (List.mem_or_eq_of_mem_set hw).elim (bn w) fun e => by rw [e]; exact Nat.xor_lt_two_pow (n := 8) hn3 hy
    have plain := others_open (b := b) (t := t) x y z hm
    generalize key.set 3 (key.getD 3 0 ^^^ x) = key2 at lk2 bk2 plain ⊢
    generalize nonce.set 3 (nonce.getD 3 0 ^^^ y) = nonce2 at ln2 bn2 plain ⊢
    have sa := Stp.block (.row t_32_uint8 (nv .u8 key2) 32 (some (0, 0))) o8 hr11
    have sb := Stp.block (.row t_12_uint8 (nv .u8 nonce2) 12 (some (0, 0))) sa.own (by rw [Hp.set_ne _ _ (Ne.symm ne)]; exact hr12')
    have st := sa.trans sb
    have xt := (ext_set (.row t_32_uint8 (nv .u8 key2) 32 (some (0, 0))) hr11).trans (ext_set (h := h8.set r11 (.row t_32_uint8 (nv .u8 key2) 32 (some (0, 0)))) (.row t_12_uint8 (nv .u8 nonce2) 12 (some (0, 0))) (by rw [Hp.set_ne _ _ (Ne.symm ne)]; exact hr12'))
    have R11 : ((R8.set r11 (.row t_32_uint8 (nv .u8 key2) 32 (some (0, 0)))).set r12 (.row t_12_uint8 (nv .u8 nonce2) 12 (some (0, 0)))) r11 = some (.row t_32_uint8 (nv .u8 key2) 32 (some (0, 0))) := by rw [Hp.set_ne _ _ ne, Hp.set_same]
    have R12 : ((R8.set r11 (.row t_32_uint8 (nv .u8 key2) 32 (some (0, 0)))).set r12 (.row t_12_uint8 (nv .u8 nonce2) 12 (some (0, 0)))) r12 = some (.row t_12_uint8 (nv .u8 nonce2) 12 (some (0, 0))) := Hp.set_same ..
    have C9 := C8.ext o8 st.ext xt
    clear sa sb
    generalize (R8.set r11 (.row t_32_uint8 (nv .u8 key2) 32 (some (0, 0)))).set r12 (.row t_12_uint8 (nv .u8 nonce2) 12 (some (0, 0))) = R9 at st R11 R12 C9
    generalize (h8.set r11 (.row t_32_uint8 (nv .u8 key2) 32 (some (0, 0)))).set r12 (.row t_12_uint8 (nv .u8 nonce2) 12 (some (0, 0))) = h9 at st xt C9 ⊢
    have rk2 := rn_row 32 R11 lk2
    have rn2 := rn_row 12 R12 ln2
    have X9 := X8.trans xt
    replace hv := hv.mono st.ext.cle
    have ea9 := X9 _ _ ea
    have e39 := X9 _ _ e4
    -- the word beside
    refine aw_lit (ps := []) (n := 0) u_Sl_uint8 z_uint8 zr_uint8 rfl (by omega) (by intro p hp; cases hp) fun v77 h10 n10 _ => ?_
    have g10 : h10.cell ⟨r2, 44, none⟩ = some vb := n10.cle _ _ ((X9.cle _ _ d2))
    simp -zeta (disch := omega) only [GL, RL, g10, cf2]
    refine aw_append u_Sl_uint8 u_Sl_uint8 nfo_uint8 rfl (by omega) n10 (hb.mono (X9.cle.trans n10.cle)) (nv_flat _ _) (by omega) (.refl _) fun v80 h11 n11 => ?_
    have n11' : Nn h9 t_uint8 .u8 v80 h11 b := by unfold Nn; simpa [fillL] using n11
    intro J19
    have tail : ∀ (v13 : Value) (hX : Hp), Nn h9 t_uint8 .u8 v13 hX (if z = 0 then b else b ++ [z]) → Bytes (if z = 0 then b else b ++ [z]) → J19 v13 hX := by
      intro v13 hX nX bX
      simp -zeta only [J19]
      clear J19
      obtain ⟨R10, s10, q10⟩ := Stp.newN st.own nX
      have C10 := C9.ext st.own s10.ext nX.ext
      simp -zeta (disch := omega) only [GL, RL, sl32, sl12z]
      rw [q_of (nilOpen C10)]
      have lb2 : (if z = 0 then b else b ++ [z]).length ≤ 1099511627776 := by
        split
        · omega
        · rw [List.length_append, List.length_singleton]; omega
      refine T_crOpen s10.own C10 ⟨by simp, by intro s hs; simp at hs; rw [hs]; omega⟩ (rk2.mono s10.ext.cle) (rn2.mono s10.ext.cle) q10 (hv.mono s10.ext.cle) bk2 bn2 bX bx lb2 (by omega) fun v98 R11' h12 s12 C12 hv12 => ?_
      rw [plain] at hv12 ⊢
      rw [ext0, ext1]
      have e312 : h12 r3 = _ := s12.own.sub _ _ ((s10.trans s12).ext _ _ (st.ext _ _ (s8.ext _ _ (s7.ext _ _ e4))))
      rw [q_ldRow (ys := [.int .u8 (x : Int), .int .u8 (y : Int), .int .u8 (z : Int)]) u_3_uint8 rfl sz_3u8 e312, q_build3, q_eql3]
      have ht12 : Rn h12 .u8 vt t := ht.mono ((s7.ext.trans s8.ext).trans ((st.trans s10).trans s12).ext |>.trans s12.own.sub).cle
      have c12 : h12.cell ⟨r2, 45, none⟩ = some vt := s12.own.sub.cle _ _ (((s7.ext.trans s8.ext).trans ((st.trans s10).trans s12).ext).cle _ _ d3)
      by_cases hq : x = 0 ∧ y = 0 ∧ z = 0
      · simp only [if_pos hq] at hv12 ⊢
        have r98 : Rn h12 .u8 v98 t := s12.own.rn (by simpa using hv12)
        simp (disch := omega) only [GL, RL, hq, and_self, decide_true, if_true, cf3, c12]
        refine T_orlopref01_Equal r98 ht12 (by omega) ?_
        rw [decide_eq_true rfl]
        exact k _
      · simp only [if_neg hq] at hv12 ⊢
        rw [if_neg (by omega)] at hv12
        subst hv12
        simp (disch := omega) only [GL, RL, hq, decide_false, if_false, Bool.false_eq_true]
        exact k _
    clear_value J19
    have g32 : h11.cell ⟨r3, 2, none⟩ = some (.int .u8 (z : Int)) := by rw [cell_row (n11'.ext _ _ e39)]; rfl
    have ez : decide ((0 : Int) < (z : Int)) = decide (0 < z) := by rw [decide_eq_decide]; omega
    simp -zeta (disch := omega) only [GL, RL, t2, Nat.zero_add, g32, ez]
    by_cases hz0 : 0 < z
    · simp only [hz0, decide_true, if_true, g32, GL, RL, t2, Nat.zero_add]
      refine aw_lit (ps := [(0, _)]) u_Sl_uint8 z_uint8 zr_uint8 rfl (by omega) (by intro p hp; rw [List.mem_singleton.1 hp]; exact ⟨rfl, by show _ < 1; omega⟩) fun v87 h12 n12 _ => ?_
      have n12' : Nn h11 t_uint8 .u8 v87 h12 [z] := n12
      refine aw_appendN u_Sl_uint8 u_Sl_uint8 nfo_uint8 rfl (by omega) n11' n12' (nv_flat _ _) (by simp; omega) fun v88 h13 n13 => ?_
      rw [← nv_app] at n13
      refine tail v88 h13 ?_ ?_
      · rw [if_neg (by omega)]; unfold Nn; simpa using n13
      · rw [if_neg (by omega)]; exact bb.append (by intro w hw; simp at hw; omega)
    · simp only [hz0, decide_false, Bool.false_eq_true, if_false]
      have : z = 0 := by omega
      exact tail v80 h11 (by rw [if_pos this]; exact n11') (by rw [if_pos this]; exact bb)
  clear_value J5
  obtain ⟨ab, cb, rfl, _⟩ := hb.shape
  obtain ⟨at', ct, rfl, _⟩ := ht.shape
  have l1 : decide ((300 : Int) < ((b.length : Nat) : Int)) = decide (300 < b.length) := by rw [decide_eq_decide]; omega
  have l2 : decide ((300 : Int) < ((t.length : Nat) : Int)) = decide (300 < t.length) := by rw [decide_eq_decide]; omega
  simp (disch := omega) only [GL, RL, cf2, cf3, d2, d3, l1, l2]
  by_cases h1 : 300 < b.length
  · simp only [h1, decide_true, Bool.true_eq_false, if_false, if_true]
    exact k _
  simp only [h1, decide_false, if_true]
  by_cases h2 : 300 < t.length
  · simp only [h2, decide_true, if_true]
    exact k _
  simp only [h2, decide_false, Bool.false_eq_true, if_false]
  exact go (by omega) (by omega)
end
end Go.Proofs.Ytnecdbclhdbaoaa
