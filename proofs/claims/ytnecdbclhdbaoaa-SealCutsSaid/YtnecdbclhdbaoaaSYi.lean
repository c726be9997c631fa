/- What sealing a layer and opening one come to. Conditions: each names its own. -/
import Derived.Test.YtnecdbclhdbaoaaSYh
set_option linter.unusedSimpArgs false
set_option linter.unusedVariables false
set_option maxRecDepth 100000
set_option maxHeartbeats 1000000
namespace Go.Proofs.Ytnecdbclhdbaoaa
open Go Go.SL Go.Pure

theorem cr_flat {R h : Hp} {vc : Value} {c : Cr} {S : List Nat} (a : CrAt R h vc c S) : flat vc = true := by obtain ⟨t, v, rfl⟩ := a.shape; rfl
theorem pcs_le {n : Nat} : ∀ {ps : List (List Nat)}, Pcs n ps → ∀ p ∈ ps, p.length ≤ n
  | [], h, _, _ => h.elim
  | [p], h, q, hq => by rw [List.mem_singleton.1 hq]; exact h
  | p :: p2 :: ps, h, q, hq => by
    rcases List.mem_cons.1 hq with rfl | hq
    · exact Nat.le_of_eq h.1
    · exact pcs_le h.2.2 q hq
theorem cut_getD_le {n : Nat} (hn : 0 < n) (b : List Nat) (i : Nat) : ((cutL n b).getD i []).length ≤ n := by
  rw [List.getD_eq_getElem?_getD]
  cases e : (cutL n b)[i]? with
  | none => simp
  | some p => exact pcs_le (cutL_pcs hn b) p (List.mem_of_getElem? e)
theorem cut_bytes {n : Nat} {b : List Nat} (hb : Bytes b) (i : Nat) : Bytes ((cutL n b).getD i []) := by
  rw [List.getD_eq_getElem?_getD]
  cases e : (cutL n b)[i]? with
  | none => intro x hx; cases hx
  | some p =>
    intro x hx
    refine hb x ?_
    rw [← cutL_flat n b]
    exact List.mem_flatten.2 ⟨p, List.mem_of_getElem? e, hx⟩
theorem cut_count {n : Nat} (hn : 0 < n) (b : List Nat) : (cutL n b).length ≤ b.length + 1 := by
  have := pcs_len hn _ (cutL_pcs hn b)
  rwa [cutL_flat] at this
/-- One more text behind each piece. -/
theorem few_goal {n m : Nat} {c : Cr} (f : few n c) (e : n = m) : few m c := e ▸ f

theorem nilSeal {R h : Hp} {vc : Value} {c : Cr} {S : List Nat} (a : CrAt R h vc c S) : peek P emp (nilCk (.func (.method "Seal") #[vc] #[])) = some (.func (.method "Seal") #[vc] #[]) := by
  cases c with
  | real => obtain ⟨rfl, _⟩ := a; kernel_rfl
  | book ts bs => obtain ⟨p, rfl, _⟩ := a; kernel_rfl
theorem nilOpen {R h : Hp} {vc : Value} {c : Cr} {S : List Nat} (a : CrAt R h vc c S) : peek P emp (nilCk (.func (.method "Open") #[vc] #[])) = some (.func (.method "Open") #[vc] #[]) := by
  cases c with
  | real => obtain ⟨rfl, _⟩ := a; kernel_rfl
  | book ts bs => obtain ⟨p, rfl, _⟩ := a; kernel_rfl
theorem pk_ldC {h : Hp} {a : Addr} {v : Value} (e : h.cell a = some v) : peek P h (Instr.loadAt t_crypt_Crypt (.pointer (some a))) = some v := by
  obtain ⟨x, hx, e⟩ := withVal_elim (K := fun x => x = v) ((q_ld (P := P) (h := h) (K := fun x => x = v) u_crypt_Crypt rfl a).mpr (by rw [e]; rfl))
  rw [e] at hx
  exact hx
theorem pk_ldH {h : Hp} {r : Nat} {a b : Value} (e : h r = some (.row t_seal_head [a, b] 2 (some (0, 0)))) : peek P h (Instr.loadAt t_seal_head (.pointer (some ⟨r, 0, none⟩))) = some (.agg #[a, b]) := by
  obtain ⟨x, hx, e⟩ := withVal_elim (K := fun x => x = .agg #[a, b]) ((q_ldRow (P := P) (h := h) (K := fun x => x = .agg #[a, b]) (ys := [a, b]) u_seal_head rfl sz_head e).mpr rfl)
  rw [e] at hx
  exact hx
theorem CrAt.ext {R R' h h' : Hp} {vc : Value} {c : Cr} {S : List Nat} (a : CrAt R h vc c S) (w : Own R h S) (e : Hp.ext R R') (x : Hp.ext h h') : CrAt R' h' vc c S := a.keep e fun b hb => by
  obtain ⟨o, eo⟩ := w.kn b hb
  rw [eo, x _ _ eo]
theorem head_pre (pre : List Nat) (n : Nat) (h : pre.length = 7) : ((headL pre n).take 8).drop 1 = pre := by
  unfold headL
  rw [List.take_append_of_le_length (by simp [h]), List.take_of_length_le (by simp [h])]
  simp

section
variable {h : Hp} {K : Value → Hp → Prop}
theorem T_doSeal {R : Hp} {vc vk vb vx : Value} {key hb ctx : List Nat} {r6 r7 r14 : Nat} (c6 : R r6 = some (.row t_crypt_Crypt [vc] 1 (some (0, 0)))) (c7 : R r7 = some (.row t_Sl_uint8 [vk] 1 (some (0, 0)))) (c14 : R r14 = some (.row t_seal_head [vb, vx] 2 (some (0, 0))))
    (hk : Rn R .u8 vk key) (hb' : Rn R .u8 vb hb) (hx : Rn R .u8 vx ctx) (bk : Bytes key) (bb : Bytes hb) (bx : Bytes ctx) (lb : hb.length = 12) (lx : ctx.length ≤ 1000000000) (total : Nat) (ht : total ≤ 4294967295)
    (i : Nat) (c : Cr) (R1 h1 : Hp) (S1 : List Nat) (pw : Value) (p : List Nat) (KK : Value → Hp → Prop) (hi : i < total) (hf : few 1000000 c) (w : Own R1 h1 S1) (xR : Hp.ext R R1) (hC : CrAt R1 h1 vc c S1) (hp : Rn R1 .u8 pw p) (bp : Bytes p) (lp : p.length ≤ 1099511627776)
    (k : ∀ v R2 h2 S2, Stp R1 h1 R2 h2 S1 S2 → CrAt R2 h2 vc (sealStep key (hb ++ ctx) ((hb.take 8).drop 1) total c i p).2.2 S2 → (if (sealStep key (hb ++ ctx) ((hb.take 8).drop 1) total c i p).1 = 0 then Rn R2 .u8 v (sealStep key (hb ++ ctx) ((hb.take 8).drop 1) total c i p).2.1 else v = .slice none 0 0) → KK (.tuple #[v, .int .i64 (((sealStep key (hb ++ ctx) ((hb.take 8).drop 1) total c i p).1 : Nat) : Int)]) h2) :
    callP P (.func (.func n_seal_head_nonce) #[.agg #[vb, vx]] #[]) [.int .i64 (i : Int), .bool (i + 1 == total)] h1 fun t29 h => callP P (.func (.func n_seal_Seal_1) #[] #[.pointer (some ⟨r6, 0, none⟩), .pointer (some ⟨r7, 0, none⟩), .pointer (some ⟨r14, 0, none⟩)]) [t29, pw] h KK := by
  show Cn P n_seal_head_nonce #[.agg #[vb, vx], .int .i64 (i : Int), .bool (i + 1 == total)] h1 _
  have up : ∀ {v : Value} {l : List Nat}, Rn R .u8 v l → Rn R1 .u8 v l := fun r => r.mono xR.cle
  refine T_nonce i (by omega) (i + 1 == total) (rn_flat hx) (w.rn (up hb')) bb lb fun vn h2 rn => ?_
  obtain ⟨R2, s2, qn⟩ := rn.stp w
  show Cn P n_seal_Seal_1 #[vn, pw, .pointer (some ⟨r6, 0, none⟩), .pointer (some ⟨r7, 0, none⟩), .pointer (some ⟨r14, 0, none⟩)] h2 KK
  refine F_seal_Seal_1 ?_
  unfold s_seal_Seal_1
  have k6 : h2 r6 = _ := s2.own.sub _ _ (s2.ext _ _ (xR _ _ c6))
  have k7 : h2 r7 = _ := s2.own.sub _ _ (s2.ext _ _ (xR _ _ c7))
  have k14 : h2 r14 = _ := s2.own.sub _ _ (s2.ext _ _ (xR _ _ c14))
  have d6 : h2.cell ⟨r6, 0, none⟩ = some vc := by rw [cell_row k6]; rfl
  have d7 : h2.cell ⟨r7, 0, none⟩ = some vk := by rw [cell_row k7]; rfl
  simp (disch := omega) only [GL, RL, d6, d7]
  rw [q_ldRow (ys := [vb, vx]) u_seal_head rfl sz_head k14, q_of (nilSeal hC)]
  refine T_beside (s2.own.rn ((up hb').mono s2.ext.cle)) (s2.own.rn ((up hx).mono s2.ext.cle)) (by omega) (by omega) fun vbs h3 r3 => ?_
  obtain ⟨R3, s3, q3⟩ := r3.stp s2.own
  refine ⟨pk_ld8 (r3.1.cle _ _ d7), pk_ldC (r3.1.cle _ _ d6), ?_⟩
  have l7 : ((hb.take 8).drop 1).length = 7 := by rw [List.length_drop, List.length_take]; omega
  have x3 := (s2.trans s3).ext
  refine T_crSeal s3.own (hC.ext w x3 (rn.1.trans r3.1)) hf ((up hk).mono x3.cle) (qn.mono s3.ext.cle) q3 (hp.mono x3.cle) bk (nonceN_bytes ((bb.take 8).drop 1) _ _) (bb.append bx) bp (by rw [List.length_append]; omega) lp fun v R' h' S' st hC' hv => ?_
  rw [ext0, ext1]
  exact k v R' h' S' ((s2.trans s3).trans st) hC' hv

theorem T_doOpen {R : Hp} {vc vk vb vx : Value} {key hb ctx : List Nat} {r6 r7 r14 : Nat} (c6 : R r6 = some (.row t_crypt_Crypt [vc] 1 (some (0, 0)))) (c7 : R r7 = some (.row t_Sl_uint8 [vk] 1 (some (0, 0)))) (c14 : R r14 = some (.row t_seal_head [vb, vx] 2 (some (0, 0))))
    (hk : Rn R .u8 vk key) (hb' : Rn R .u8 vb hb) (hx : Rn R .u8 vx ctx) (bk : Bytes key) (bb : Bytes hb) (bx : Bytes ctx) (lb : hb.length = 12) (lx : ctx.length ≤ 1000000000) (total : Nat) (ht : total ≤ 4294967295)
    (i : Nat) (c : Cr) (R1 h1 : Hp) (S1 : List Nat) (pw : Value) (p : List Nat) (KK : Value → Hp → Prop) (hi : i < total) (hf : few 1000000 c) (w : Own R1 h1 S1) (xR : Hp.ext R R1) (hC : CrAt R1 h1 vc c S1) (hp : Rn R1 .u8 pw p) (bp : Bytes p) (lp : p.length ≤ 1099511627776)
    (k : ∀ v R2 h2 S2, Stp R1 h1 R2 h2 S1 S2 → CrAt R2 h2 vc (openStep key (hb ++ ctx) ((hb.take 8).drop 1) total c i p).2.2 S2 → (if (openStep key (hb ++ ctx) ((hb.take 8).drop 1) total c i p).1 = 0 then Rn R2 .u8 v (openStep key (hb ++ ctx) ((hb.take 8).drop 1) total c i p).2.1 else v = .slice none 0 0) → KK (.tuple #[v, .int .i64 (((openStep key (hb ++ ctx) ((hb.take 8).drop 1) total c i p).1 : Nat) : Int)]) h2) :
    callP P (.func (.func n_seal_head_nonce) #[.agg #[vb, vx]] #[]) [.int .i64 (i : Int), .bool (i + 1 == total)] h1 fun t29 h => callP P (.func (.func n_seal_Open_1) #[] #[.pointer (some ⟨r6, 0, none⟩), .pointer (some ⟨r7, 0, none⟩), .pointer (some ⟨r14, 0, none⟩)]) [t29, pw] h KK := by
  show Cn P n_seal_head_nonce #[.agg #[vb, vx], .int .i64 (i : Int), .bool (i + 1 == total)] h1 _
  have up : ∀ {v : Value} {l : List Nat}, Rn R .u8 v l → Rn R1 .u8 v l := fun r => r.mono xR.cle
  refine T_nonce i (by omega) (i + 1 == total) (rn_flat hx) (w.rn (up hb')) bb lb fun vn h2 rn => ?_
  obtain ⟨R2, s2, qn⟩ := rn.stp w
  show Cn P n_seal_Open_1 #[vn, pw, .pointer (some ⟨r6, 0, none⟩), .pointer (some ⟨r7, 0, none⟩), .pointer (some ⟨r14, 0, none⟩)] h2 KK
  refine F_seal_Open_1 ?_
  unfold s_seal_Open_1
  have k6 : h2 r6 = _ := s2.own.sub _ _ (s2.ext _ _ (xR _ _ c6))
  have k7 : h2 r7 = _ := s2.own.sub _ _ (s2.ext _ _ (xR _ _ c7))
  have k14 : h2 r14 = _ := s2.own.sub _ _ (s2.ext _ _ (xR _ _ c14))
  have d6 : h2.cell ⟨r6, 0, none⟩ = some vc := by rw [cell_row k6]; rfl
  have d7 : h2.cell ⟨r7, 0, none⟩ = some vk := by rw [cell_row k7]; rfl
  simp (disch := omega) only [GL, RL, d6, d7]
  rw [q_ldRow (ys := [vb, vx]) u_seal_head rfl sz_head k14, q_of (nilOpen hC)]
  refine T_beside (s2.own.rn ((up hb').mono s2.ext.cle)) (s2.own.rn ((up hx).mono s2.ext.cle)) (by omega) (by omega) fun vbs h3 r3 => ?_
  obtain ⟨R3, s3, q3⟩ := r3.stp s2.own
  refine ⟨pk_ld8 (r3.1.cle _ _ d7), pk_ldC (r3.1.cle _ _ d6), ?_⟩
  have x3 := (s2.trans s3).ext
  refine T_crOpen s3.own (hC.ext w x3 (rn.1.trans r3.1)) hf ((up hk).mono x3.cle) (qn.mono s3.ext.cle) q3 (hp.mono x3.cle) bk (nonceN_bytes ((bb.take 8).drop 1) _ _) (bb.append bx) bp (by rw [List.length_append]; omega) lp fun v R' h' st hC' hv => ?_
  rw [ext0, ext1]
  exact k v R' h' S1 ((s2.trans s3).trans st) hC' hv

theorem T_seal_Seal {R : Hp} {S : List Nat} {vc vk vp vx vl : Value} {c : Cr} {key pre ctx layer : List Nat} (size : Int) (w : Own R h S) (hC : CrAt R h vc c S) (hf : few 800000 c)
    (hk : Rn R .u8 vk key) (hp : Rn R .u8 vp pre) (hx : Rn R .u8 vx ctx) (hl : Rn R .u8 vl layer) (bk : Bytes key) (bp : Bytes pre) (bx : Bytes ctx) (bl : Bytes layer) (lx : ctx.length ≤ 1000000000) (ll : layer.length ≤ 100000)
    (k : ∀ v R' h' S', Stp R h R' h' S S' → CrAt R' h' vc (sealS c key pre ctx layer size).2.2 S' → (if (sealS c key pre ctx layer size).1 = 0 then Rn R' .u8 v (sealS c key pre ctx layer size).2.1 else v = .slice none 0 0) → K (.tuple #[v, .int .i64 (((sealS c key pre ctx layer size).1 : Nat) : Int)]) h') :
    Cn P n_seal_Seal #[vc, vk, vp, vx, vl, .int .i64 size] h K := by
  refine F_seal_Seal ?_
  unfold s_seal_Seal
  have fvc := cr_flat hC
  refine aw_box fun r6 hr6 => ?_
  rw [cells_flat fvc]
  have s6 := Stp.block (.row t_crypt_Crypt [vc] 1 (some (0, 0))) w hr6
  have x6 : Hp.ext h (h.set r6 (.row t_crypt_Crypt [vc] 1 (some (0, 0)))) := ext_set _ hr6
  have m6 : (R.set r6 (.row t_crypt_Crypt [vc] 1 (some (0, 0)))) r6 = some (.row t_crypt_Crypt [vc] 1 (some (0, 0))) := Hp.set_same ..
  show aw P (Instr.box t_Sl_uint8 vk) _ (h.set r6 (.row t_crypt_Crypt [vc] 1 (some (0, 0))))
  generalize h.set r6 (.row t_crypt_Crypt [vc] 1 (some (0, 0))) = M6 at s6 x6 ⊢
  generalize R.set r6 (.row t_crypt_Crypt [vc] 1 (some (0, 0))) = R6 at s6 m6
  refine aw_box fun r7 hr7 => ?_
  intro J2
  rw [cells_flat (rn_flat hk)]
  have s7 := Stp.block (.row t_Sl_uint8 [vk] 1 (some (0, 0))) s6.own hr7
  have x7 : Hp.ext M6 (M6.set r7 (.row t_Sl_uint8 [vk] 1 (some (0, 0)))) := ext_set _ hr7
  have m7 : (R6.set r7 (.row t_Sl_uint8 [vk] 1 (some (0, 0)))) r7 = some (.row t_Sl_uint8 [vk] 1 (some (0, 0))) := Hp.set_same ..
  generalize hM7 : M6.set r7 (.row t_Sl_uint8 [vk] 1 (some (0, 0))) = M7 at s7 x7
  generalize R6.set r7 (.row t_Sl_uint8 [vk] 1 (some (0, 0))) = R7 at s7 m7
  have st7 := s6.trans s7
  have xh7 := x6.trans x7
  have m6' := s7.ext _ _ m6
  have d7 : M7.cell ⟨r7, 0, none⟩ = some vk := by rw [cell_row (s7.own.sub _ _ m7)]; rfl
  have bad : ¬ okAsk key pre size → K (.tuple #[.slice none 0 0, .int .i64 1]) M7 := fun hn => by
    have e : sealS c key pre ctx layer size = (1, [], c) := by unfold sealS; rw [if_neg hn]
    rw [e] at k
    exact k _ R7 M7 S st7 (hC.ext w st7.ext xh7) (by simp)
  have p2 : okAsk key pre size → J2 M7 := by
    intro hok
    obtain ⟨n, rfl⟩ : ∃ n : Nat, size = (n : Int) := ⟨size.toNat, by unfold okAsk at hok; omega⟩
    obtain ⟨hk32, hp7, hn1, hn2⟩ := hok
    simp only [J2]
    clear J2
    have up7 : ∀ {v : Value} {l : List Nat}, Rn R .u8 v l → Rn R7 .u8 v l := fun r => r.mono st7.ext.cle
    refine T_newHead n (by omega) (st7.own.rn (up7 hp)) (st7.own.rn (up7 hx)) hp7 fun vb h1 rb => ?_
    obtain ⟨R1, s1, qb⟩ := rb.stp st7.own
    refine aw_allocL nil2 zr_head rfl fun r14 hr14 => ?_
    have fb := rn_flat qb
    have fx := rn_flat hx
    refine aw_storeRow (ys := [vb, vx]) sz_head (Hp.set_same ..) rfl (by intro y hy; simp only [List.mem_cons, List.not_mem_nil, or_false] at hy; rcases hy with rfl | rfl <;> assumption) (fun i _ => by simp) ?_
    rw [Hp.set_set]
    have s14 := Stp.block (.row t_seal_head [vb, vx] 2 (some (0, 0))) s1.own hr14
    have x14 : Hp.ext h1 (h1.set r14 (.row t_seal_head [vb, vx] 2 (some (0, 0)))) := ext_set _ hr14
    have m14 : (R1.set r14 (.row t_seal_head [vb, vx] 2 (some (0, 0)))) r14 = some (.row t_seal_head [vb, vx] 2 (some (0, 0))) := Hp.set_same ..
    show (fun h => _) (h1.set r14 (.row t_seal_head [vb, vx] 2 (some (0, 0))))
    generalize h1.set r14 (.row t_seal_head [vb, vx] 2 (some (0, 0))) = h2 at s14 x14 ⊢
    generalize R1.set r14 (.row t_seal_head [vb, vx] 2 (some (0, 0))) = R2 at s14 m14
    have st2 := (st7.trans s1).trans s14
    have xh2 := (xh7.trans rb.1).trans x14
    have k14 := s14.own.sub _ _ m14
    rw [q_ldRow (ys := [vb, vx]) u_seal_head rfl sz_head k14]
    have up2 : ∀ {v : Value} {l : List Nat}, Rn R .u8 v l → Rn R2 .u8 v l := fun r => r.mono st2.ext.cle
    have C2 : CrAt R2 h2 vc c S := hC.ext w st2.ext xh2
    refine T_pieces st2.own.nil (up2 hl) (by omega) (by omega) (by omega) fun vps R3 h3 s3 hps => ?_
    obtain ⟨o3, _, same3⟩ := s3.frame st2.own (by simp)
    have s3w : Stp R2 h2 R3 h3 S S := s3.wide st2.own (by simp)
    refine ⟨pk_ldH (s3.own.sub _ _ (s3.ext _ _ m14)), ?_⟩
    have lh := headL_len pre n hp7
    have hpre := head_pre pre n hp7
    have cnt := cut_count (n := n) (by omega) layer
    have qb3 := (qb.mono s14.ext.cle).mono s3.ext.cle
    have up3 : ∀ {v : Value} {l : List Nat}, Rn R .u8 v l → Rn R3 .u8 v l := fun r => (up2 r).mono s3.ext.cle
    have up7' : ∀ r o, R7 r = some o → R3 r = some o := fun r o e => s3.ext _ _ (s14.ext _ _ (s1.ext _ _ e))
    refine T_each (sealStep key (headL pre n ++ ctx) pre (cutL n layer).length) (fun R h c S => CrAt R h vc c S) (fun i c => few (800000 + i) c) c o3 hps (by omega) (n + 16) (by
        have : (cutL n layer).length * (n + 16) ≤ 100001 * 65552 := Nat.mul_le_mul (by omega) (by omega)
        omega) (fun R h R' h' st S a e q => a.keep e q) (fun i st hi hin h0 => ?_) (fun i st R1' h1' S1' pw KK hi hin ow xR a hpw kk => ?_) (C2.keep s3.ext same3) (hf.mono (by omega)) fun v R4 h4 S4 s4 C4 hbd hv => ?_
    · show (crSeal _ _ _ _ _).2.1.length ≤ _
      rw [crSeal_len h0]
      have := cut_getD_le (n := n) (by omega) layer i
      omega
    · have := T_doSeal (up7' _ _ m6') (up7' _ _ m7) (s3.ext _ _ m14) (up3 hk) qb3 (up3 hx) bk (headL_bytes bp n) bx lh lx (cutL n layer).length (by omega) i st R1' h1' S1' pw ((cutL n layer).getD i []) KK hi (hin.mono (by omega)) ow xR a hpw (cut_bytes bl i) (by have := cut_getD_le (n := n) (by omega) layer i; omega)
      rw [hpre] at this
      refine this fun v R2' h2' S2' st' a' hv => kk v R2' h2' S2' st' a' ?_ hv
      exact (hin.next _ _ _ _ (by have := cut_getD_le (n := n) (by omega) layer i; omega)).mono (by omega)
    · have es : sealS c key pre ctx layer ((n : Nat) : Int) = if (goL (sealStep key (headL pre n ++ ctx) pre (cutL n layer).length) c 0 (cutL n layer)).1 = 0 then (0, headL pre n ++ (goL (sealStep key (headL pre n ++ ctx) pre (cutL n layer).length) c 0 (cutL n layer)).2.1.flatten, (goL (sealStep key (headL pre n ++ ctx) pre (cutL n layer).length) c 0 (cutL n layer)).2.2) else ((goL (sealStep key (headL pre n ++ ctx) pre (cutL n layer).length) c 0 (cutL n layer)).1, [], (goL (sealStep key (headL pre n ++ ctx) pre (cutL n layer).length) c 0 (cutL n layer)).2.2) := by
        unfold sealS; rw [if_pos ⟨hk32, hp7, hn1, hn2⟩, Int.toNat_natCast]
      rw [es] at k
      have hbd2 : (cutL n layer).length * (n + 16) ≤ 100001 * 65552 := Nat.mul_le_mul (by omega) (by omega)
      generalize goL (sealStep key (headL pre n ++ ctx) pre (cutL n layer).length) c 0 (cutL n layer) = r at k C4 hv hbd
      have st4 := (st2.trans s3w).trans s4
      rw [ext0, ext1]
      by_cases h0 : r.1 = 0
      · simp only [if_pos h0] at k hv
        rw [h0]
        have k14' := s4.own.sub _ _ (s4.ext _ _ (s3.ext _ _ m14))
        have e14 : h4.cell ⟨r14, 0, none⟩ = some vb := by rw [cell_row k14']; rfl
        simp (disch := omega) only [GL, RL, bne_self_eq_false, Bool.false_eq_true, if_false, hf0, e14]
        have qb4 := s4.own.rn (qb3.mono s4.ext.cle)
        have qv4 := s4.own.rn hv
        refine aw_lit (n := 2) (ps := [(0, vb), (1, v)]) u_Sl_Sl_uint8 z_Sl_uint8 zr_Sl_uint8 rfl (by omega) (lit2 _ _ fb (rn_flat qv4)) fun t50 h5 n5 _ => ?_
        have n5' : New h4 t_Sl_uint8 1 t50 h5 [vb, v] 2 := by simpa [fillL] using n5
        have hparts := parts2 n5' qb4 qv4
        have hbd := hbd h0
        have ef : [headL pre n, r.2.1.flatten].flatten = headL pre n ++ r.2.1.flatten := by simp
        refine T_Concat hparts (by rw [ef, List.length_append]; omega) (by simp) fun t51 h6 n6 => ?_
        rw [ef] at n6
        obtain ⟨R6', s6', q6⟩ := (Res.of n5'.ext n6).stp s4.own
        exact k t51 R6' h6 S4 (st4.trans s6') (C4.ext s4.own s6'.ext (n5'.ext.trans n6.ext)) q6
      · simp only [if_neg h0] at k hv
        have e0 : (((r.1 : Nat) : Int) != 0) = true := by rw [bne_iff_ne]; omega
        simp (disch := omega) only [GL, RL, e0, if_true]
        exact k _ R4 h4 S4 st4 C4 rfl
  clear_value J2
  obtain ⟨ak, ck, rfl, hck⟩ := hk.shape
  obtain ⟨ap, cp, rfl, hcp⟩ := hp.shape
  have e32 : (((key.length : Nat) : Int) != 32) = decide (key.length ≠ 32) := ne_dec _ 32
  have e7 : (((pre.length : Nat) : Int) != 7) = decide (pre.length ≠ 7) := ne_dec _ 7
  simp (disch := omega) only [GL, RL, d7, e32, e7]
  by_cases h1 : key.length = 32
  case neg =>
    simp only [h1, ne_eq, not_false_eq_true, decide_true, Bool.true_eq_false, if_false, if_true]
    exact bad fun q => h1 q.1
  by_cases h2 : pre.length = 7
  case neg =>
    simp only [h1, h2, ne_eq, not_true_eq_false, not_false_eq_true, decide_true, decide_false, Bool.true_eq_false, if_false, if_true]
    exact bad fun q => h2 q.2.1
  simp only [h1, h2, ne_eq, not_true_eq_false, decide_false, if_true]
  refine T_maySize size ?_
  by_cases h3 : 1 ≤ size ∧ size ≤ 65536
  · simp only [h3, and_self, decide_true, GL, RL, Bool.not_true, Bool.false_eq_true, if_false]
    exact p2 ⟨h1, h2, h3⟩
  · simp only [h3, decide_false, GL, RL, Bool.not_false, if_true]
    exact bad fun q => h3 q.2.2
end
end Go.Proofs.Ytnecdbclhdbaoaa
