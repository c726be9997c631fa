/- What opening a layer, and the length of one, come to. Conditions: each names its own. -/
import Derived.Test.YtnecdbclhdbaoaaSYi
set_option linter.unusedSimpArgs false
set_option linter.unusedVariables false
set_option maxRecDepth 100000
set_option maxHeartbeats 1000000
namespace Go.Proofs.Ytnecdbclhdbaoaa
open Go Go.SL Go.Pure

theorem goL_cr {f : Cr → Nat → List Nat → Nat × List Nat × Cr} (hf : ∀ c i p, (f c i p).2.2 = c) : ∀ (ps : List (List Nat)) (c : Cr) (i : Nat), (goL f c i ps).2.2 = c
  | [], _, _ => rfl
  | p :: ps, c, i => by
    simp only [goL]
    split
    · rw [hf]; exact goL_cr hf ps c (i + 1)
    · exact hf c i p
theorem openStep_cr (key beside pre : List Nat) (total : Nat) : ∀ c i p, (openStep key beside pre total c i p).2.2 = c := fun _ _ _ => rfl
theorem openL_len (key nonce b x : List Nat) : (openL key nonce b x).2.length ≤ x.length := by
  unfold openL
  split
  · simp
  · split
    · rw [xorL_len, List.length_take]; omega
    · simp
theorem crOpen_len {n : Nat} {c : Cr} (f : few n c) (key nonce b x : List Nat) : (crOpen c key nonce b x).2.length ≤ x.length := by
  unfold crOpen
  split
  · cases c with
    | real => exact openL_len _ _ _ _
    | book ts bs =>
      show (bookOpen bs key nonce b x).2.length ≤ _
      unfold bookOpen
      split
      · simp
      · split
        · simp
        · split
          · rename_i s _ q
            have := congrArg List.length q.2.2.2
            rw [boxB_len] at this
            show s.text.length ≤ _
            omega
          · simp
  · simp
theorem getLast_getD (l : List (List Nat)) : l.getLastD [] = l.getD (l.length - 1) [] := by
  rw [List.getD_eq_getElem?_getD, List.getLastD_eq_getLast?, List.getLast?_eq_getElem?]

section
variable {h : Hp} {K : Value → Hp → Prop}
theorem T_seal_Open {R : Hp} {S : List Nat} {vc vk vx vs : Value} {c : Cr} {key ctx s : List Nat} (w : Own R h S) (hC : CrAt R h vc c S) (hf : few 1000000 c)
    (hk : Rn R .u8 vk key) (hx : Rn R .u8 vx ctx) (hs : Rn R .u8 vs s) (bk : Bytes key) (bx : Bytes ctx) (bs : Bytes s) (lx : ctx.length ≤ 1000000000) (ls : s.length ≤ 1000000)
    (k : ∀ v R' h' S', Stp R h R' h' S S' → CrAt R' h' vc c S' → (if (openS c key ctx s).1 = 0 then Rn R' .u8 v (openS c key ctx s).2 else v = .slice none 0 0) → K (.tuple #[v, .int .i64 (((openS c key ctx s).1 : Nat) : Int)]) h') :
    Cn P n_seal_Open #[vc, vk, vx, vs] h K := by
  refine F_seal_Open ?_
  unfold s_seal_Open
  have fvc := cr_flat hC
  refine aw_box fun r4 hr4 => ?_
  rw [cells_flat fvc]
  have s6 := Stp.block (.row t_crypt_Crypt [vc] 1 (some (0, 0))) w hr4
  have x6 : Hp.ext h (h.set r4 (.row t_crypt_Crypt [vc] 1 (some (0, 0)))) := ext_set _ hr4
  have m6 : (R.set r4 (.row t_crypt_Crypt [vc] 1 (some (0, 0)))) r4 = some (.row t_crypt_Crypt [vc] 1 (some (0, 0))) := Hp.set_same ..
  show aw P (Instr.box t_Sl_uint8 vk) _ (h.set r4 (.row t_crypt_Crypt [vc] 1 (some (0, 0))))
  generalize h.set r4 (.row t_crypt_Crypt [vc] 1 (some (0, 0))) = M6 at s6 x6 ⊢
  generalize R.set r4 (.row t_crypt_Crypt [vc] 1 (some (0, 0))) = R6 at s6 m6
  refine aw_box fun r5 hr5 => ?_
  rw [cells_flat (rn_flat hk)]
  have s7 := Stp.block (.row t_Sl_uint8 [vk] 1 (some (0, 0))) s6.own hr5
  have x7 : Hp.ext M6 (M6.set r5 (.row t_Sl_uint8 [vk] 1 (some (0, 0)))) := ext_set _ hr5
  have m7 : (R6.set r5 (.row t_Sl_uint8 [vk] 1 (some (0, 0)))) r5 = some (.row t_Sl_uint8 [vk] 1 (some (0, 0))) := Hp.set_same ..
  generalize hM7 : M6.set r5 (.row t_Sl_uint8 [vk] 1 (some (0, 0))) = M7 at s7 x7
  generalize R6.set r5 (.row t_Sl_uint8 [vk] 1 (some (0, 0))) = R7 at s7 m7
  have st7 := s6.trans s7
  have xh7 := x6.trans x7
  have m6' := s7.ext _ _ m6
  have d7 : M7.cell ⟨r5, 0, none⟩ = some vk := by rw [cell_row (s7.own.sub _ _ m7)]; rfl
  have C7 : CrAt R7 M7 vc c S := hC.ext w st7.ext xh7
  have up7 : ∀ {v : Value} {l : List Nat}, Rn R .u8 v l → Rn R7 .u8 v l := fun r => r.mono st7.ext.cle
  have e32 : (((key.length : Nat) : Int) != 32) = decide (key.length ≠ 32) := ne_dec _ 32
  obtain ⟨ak, ck, ek, hck⟩ := hk.shape
  have lnk : ∀ {h : Hp} {K : Value → Prop}, q P h (Builtin.len_ #[t_Sl_uint8] t_int #[vk]) K = K (.int .i64 key.length) := fun {h K} => by rw [ek]; exact q_lenS u_Sl_uint8 _ _ _
  simp -zeta (disch := omega) only [GL, RL, d7, lnk, e32]
  by_cases h32 : key.length = 32
  case neg =>
    simp only [h32, ne_eq, not_false_eq_true, decide_true, if_true]
    have e : openS c key ctx s = (1, []) := by unfold openS; rw [if_pos h32]
    rw [e] at k
    exact k _ R7 M7 S st7 C7 (by simp)
  simp -zeta only [h32, ne_eq, not_true_eq_false, decide_false, Bool.false_eq_true, if_false]
  intro J5
  obtain ⟨a5, cs, es, hcs⟩ := hs.shape
  have lns : ∀ {h : Hp} {K : Value → Prop}, q P h (Builtin.len_ #[t_Sl_uint8] t_int #[vs]) K = K (.int .i64 s.length) := fun {h K} => by rw [es]; exact q_lenS u_Sl_uint8 _ _ _
  have e12 : decide (((s.length : Nat) : Int) < 12) = decide (s.length < 12) := lt_dec _ 12
  have bad8 : ∀ R' h', Stp R7 M7 R' h' S S → Hp.ext M7 h' → openS c key ctx s = (8, []) → K (.tuple #[.slice none 0 0, .int .i64 8]) h' := fun R' h' st xt e => by
    rw [e] at k
    exact k _ R' h' S (st7.trans st) (C7.ext st7.own st.ext xt) (by simp)
  have p5 : ¬ (s.length < 12 ∨ s.getD 0 0 ≠ 1) → J5 M7 := by
    intro hn
    have l12 : 12 ≤ s.length := by omega
    simp -zeta only [J5]
    clear J5
    have lt12 : (s.take 12).length = 12 := by rw [List.length_take]; omega
    have hs7 : Rn R7 .u8 (.slice a5 s.length cs) s := es ▸ up7 hs
    have rvb : Rn R7 .u8 (.slice (SL.cut a5 cs 0 1) 12 cs) (s.take 12) := rn_hi hs7 l12
    have r34 : Rn R7 .u8 (.slice (SL.cut a5 cs 12 1) (s.length - 12) (cs - 12)) (s.drop 12) := by
      have := hs7.cut 12 s.length l12 (Nat.le_refl _)
      rwa [List.take_length] at this
    have e34 : ∀ H : Hp, peek P H (Instr.sliceAt t_Sl_uint8 (.slice a5 s.length cs) (some (.int .i64 12)) none none) = some (.slice (SL.cut a5 cs 12 1) (s.length - 12) (cs - 12)) := fun H => by
      obtain ⟨x, hx, e⟩ := withVal_elim (K := fun x => x = .slice (SL.cut a5 cs 12 1) (s.length - 12) (cs - 12)) ((q_slLo (P := P) (h := H) (K := fun x => x = .slice (SL.cut a5 cs 12 1) (s.length - 12) (cs - 12)) u_Sl_uint8 z_uint8 a5 s.length cs .i64 12 l12 (by omega)).mpr rfl)
      rw [e] at hx
      exact hx
    rw [es]
    refine (q_slHi (hi := 12) u_Sl_uint8 z_uint8 _ _ cs .i64 (by omega)).mpr ?_
    obtain ⟨ax, cx, ex, hcx⟩ := hx.shape
    have fx := rn_flat hx
    have bld : ∀ K : Value → Prop, q P M7 (Instr.build t_seal_head #[(0, .slice (SL.cut a5 cs 0 1) 12 cs), (1, vx)]) K = K (.agg #[.slice (SL.cut a5 cs 0 1) 12 cs, vx]) := fun K => by rw [ex]; exact bldHead ..
    rw [bld]
    obtain ⟨vb, hvb⟩ : ∃ vb, Value.slice (SL.cut a5 cs 0 1) 12 cs = vb := ⟨_, rfl⟩
    rw [hvb] at rvb ⊢
    have fb := rn_flat rvb
    refine aw_allocL nil2 zr_head rfl fun r10 hr10 => ?_
    refine aw_storeRow (ys := [vb, vx]) sz_head (Hp.set_same ..) rfl (by intro y hy; simp only [List.mem_cons, List.not_mem_nil, or_false] at hy; rcases hy with rfl | rfl <;> assumption) (fun i _ => by simp) ?_
    rw [Hp.set_set]
    have s14 := Stp.block (.row t_seal_head [vb, vx] 2 (some (0, 0))) s7.own hr10
    have x14 : Hp.ext M7 (M7.set r10 (.row t_seal_head [vb, vx] 2 (some (0, 0)))) := ext_set _ hr10
    have m14 : (R7.set r10 (.row t_seal_head [vb, vx] 2 (some (0, 0)))) r10 = some (.row t_seal_head [vb, vx] 2 (some (0, 0))) := Hp.set_same ..
    generalize M7.set r10 (.row t_seal_head [vb, vx] 2 (some (0, 0))) = h2 at s14 x14 ⊢
    generalize R7.set r10 (.row t_seal_head [vb, vx] 2 (some (0, 0))) = R2 at s14 m14
    have st2 := st7.trans s14
    have C2 : CrAt R2 h2 vc c S := C7.ext st7.own s14.ext x14
    have k14 := s14.own.sub _ _ m14
    have rb2 := rvb.mono s14.ext.cle
    have b12 := bs.take 12
    refine (q_ldRow (ys := [vb, vx]) u_seal_head rfl sz_head k14).mpr ?_
    refine T_head_size fx (s14.own.rn rb2) b12 lt12 fun h3 x3 => ?_
    have o3 := s14.trans (Stp.ext0 s14.own x3)
    generalize hsz : bval ((s.take 12).drop 8) = size
    refine T_maySize _ ?_
    by_cases hms : 1 ≤ ((size : Nat) : Int) ∧ ((size : Nat) : Int) ≤ 65536
    case neg =>
      simp only [hms, decide_false, GL, RL, Bool.not_false, if_true]
      refine bad8 R2 h3 o3 (x14.trans x3) ?_
      unfold openS
      simp only [hsz]
      rw [if_neg (by omega), if_neg hn, if_pos (by omega)]
    have hm' : 1 ≤ size ∧ size ≤ 65536 := by omega
    simp -zeta only [hms, and_self, decide_true, GL, RL, Bool.not_true, Bool.false_eq_true, if_false]
    rw [q_of (e34 h3)]
    have k14' := x3 _ _ k14
    refine (q_ldRow (ys := [vb, vx]) u_seal_head rfl sz_head k14').mpr ?_
    refine T_head_size fx (o3.own.rn rb2) b12 lt12 fun h4 x4 => ?_
    have o4 := o3.trans (Stp.ext0 o3.own x4)
    rw [hsz]
    refine ⟨e34 h4, ?_⟩
    have e16 : ((size : Nat) : Int) + 16 = ((size + 16 : Nat) : Int) := by omega
    simp -zeta (disch := omega) only [GL, RL, wi64, e16]
    have ld : (s.drop 12).length = s.length - 12 := List.length_drop ..
    have x44 := (x14.trans x3).trans x4
    refine T_pieces o4.own.nil (r34.mono s14.ext.cle) (by omega) (by omega) (by omega) fun vps R5 h5 s5 hps => ?_
    have C4 : CrAt R2 h4 vc c S := C7.ext st7.own o4.ext x44
    obtain ⟨o5, _, same5⟩ := s5.frame o4.own (by simp)
    have s5w : Stp R2 h4 R5 h5 S S := s5.wide o4.own (by simp)
    have C5 : CrAt R5 h5 vc c S := C4.keep s5.ext same5
    have cnt := cut_count (n := size + 16) (by omega) (s.drop 12)
    have hne := cutL_ne (size + 16) (s.drop 12)
    have npos : 0 < (cutL (size + 16) (s.drop 12)).length := List.length_pos_iff.2 hne
    have m14' := s5.ext _ _ m14
    have k14'' := o5.sub _ _ m14'
    have st5 := (st7.trans o4).trans s5w
    have eopen : openS c key ctx s = if ((cutL (size + 16) (s.drop 12)).getLastD []).length < 16 ∨ (((cutL (size + 16) (s.drop 12)).getLastD []).length = 16 ∧ 1 < (cutL (size + 16) (s.drop 12)).length) then (8, []) else
        if (goL (openStep key (s.take 12 ++ ctx) ((s.take 8).drop 1) (cutL (size + 16) (s.drop 12)).length) c 0 (cutL (size + 16) (s.drop 12))).1 = 0 then (0, (goL (openStep key (s.take 12 ++ ctx) ((s.take 8).drop 1) (cutL (size + 16) (s.drop 12)).length) c 0 (cutL (size + 16) (s.drop 12))).2.1.flatten)
        else ((goL (openStep key (s.take 12 ++ ctx) ((s.take 8).drop 1) (cutL (size + 16) (s.drop 12)).length) c 0 (cutL (size + 16) (s.drop 12))).1, []) := by
      unfold openS
      simp only [hsz]
      rw [if_neg (by omega), if_neg hn, if_neg (by omega)]
    have bad8' : openS c key ctx s = (8, []) → K (.tuple #[.slice none 0 0, .int .i64 8]) h5 := fun e => by
      rw [e] at k
      exact k _ R5 h5 S st5 C5 (by simp)
    rw [getLast_getD] at eopen
    have bps : ∀ i, Bytes ((cutL (size + 16) (s.drop 12)).getD i []) := fun i => cut_bytes (bs.drop 12) i
    have lps : ∀ i, ((cutL (size + 16) (s.drop 12)).getD i []).length ≤ size + 16 := fun i => cut_getD_le (by omega) _ i
    have e8 : (s.take 12).take 8 = s.take 8 := by rw [List.take_take]; rfl
    generalize hps' : cutL (size + 16) (s.drop 12) = ps at hps cnt hne npos eopen bps lps
    have hps0 := hps
    obtain ⟨bl, ol, cl, rfl, hcl, hpw⟩ := hps
    intro J15
    have p15 : ¬ ((ps.getD (ps.length - 1) []).length < 16 ∨ ((ps.getD (ps.length - 1) []).length = 16 ∧ 1 < ps.length)) → J15 h5 := by
      intro hn2
      rw [if_neg hn2] at eopen
      simp only [J15]
      clear J15
      refine (q_ldRow (ys := [vb, vx]) u_seal_head rfl sz_head k14'').mpr ?_
      have up5 : ∀ {v : Value} {l : List Nat}, Rn R .u8 v l → Rn R5 .u8 v l := fun r => ((up7 r).mono s14.ext.cle).mono s5.ext.cle
      have rb5 := rb2.mono s5.ext.cle
      refine T_each (openStep key (s.take 12 ++ ctx) ((s.take 8).drop 1) ps.length) (fun R h c S => CrAt R h vc c S) (fun i c => few 1000000 c) c o5 hps0 (by omega) (size + 16) (by
          have : ps.length * (size + 16) ≤ 1000001 * 65552 := Nat.mul_le_mul (by omega) (by omega)
          omega) (fun R h R' h' st S a e q => a.keep e q) (fun i st hi hin h0 => ?_) (fun i st R1' h1' S1' pw KK hi hin ow xR a hpw kk => ?_) C5 hf fun v R6 h6 S6 s6' C6 hbd hv => ?_
      · exact Nat.le_trans (crOpen_len hin _ _ _ _) (lps i)
      · have := T_doOpen (s5.ext _ _ (s14.ext _ _ m6')) (s5.ext _ _ (s14.ext _ _ m7)) m14' (up5 hk) rb5 (up5 hx) bk b12 bx lt12 lx ps.length (by omega) i st R1' h1' S1' pw (ps.getD i []) KK hi hin ow xR a hpw (bps i) (by have := lps i; omega)
        rw [e8] at this
        exact this fun v R2' h2' S2' st' a' hv => kk v R2' h2' S2' st' a' hin hv
      · rw [goL_cr (openStep_cr _ _ _ _)] at C6
        generalize goL (openStep key (s.take 12 ++ ctx) ((s.take 8).drop 1) ps.length) c 0 ps = r at eopen hv
        rw [ext0, ext1]
        rw [eopen] at k
        by_cases h0 : r.1 = 0
        · simp only [if_pos h0] at k hv
          rw [h0]
          exact k v R6 h6 S6 (st5.trans s6') C6 hv
        · simp only [if_neg h0] at k hv
          subst hv
          exact k _ R6 h6 S6 (st5.trans s6') C6 rfl
    clear_value J15
    obtain ⟨pw, hcw, rw'⟩ := hpw (ps.length - 1) (by omega)
    obtain ⟨apw, cpw, rfl, hcpw⟩ := rw'.shape
    have c1 := s5.own.sub.cle _ _ hcw
    have ei : ((ps.length : Nat) : Int) - 1 = ((ps.length - 1 : Nat) : Int) := by omega
    have e16' : decide ((((ps.getD (ps.length - 1) []).length : Nat) : Int) < 16) = decide ((ps.getD (ps.length - 1) []).length < 16) := lt_dec _ 16
    have e17 : ((((ps.getD (ps.length - 1) []).length : Nat) : Int) == 16) = decide ((ps.getD (ps.length - 1) []).length = 16) := by rw [Bool.eq_iff_iff, beq_iff_eq, decide_eq_true_eq]; omega
    have e18 : decide ((1 : Int) < ((ps.length : Nat) : Int)) = decide (1 < ps.length) := lt_dec 1 _
    simp (disch := omega) only [GL, RL, wi64, ei, c1, e16', e17, e18]
    by_cases q1 : (ps.getD (ps.length - 1) []).length < 16
    · simp only [q1, decide_true, Bool.true_eq_false, if_false, if_true]
      exact bad8' (by rw [eopen, if_pos (.inl q1)])
    simp only [q1, decide_false, if_true]
    by_cases q2 : (ps.getD (ps.length - 1) []).length = 16
    · simp only [q2, decide_true, if_true]
      by_cases q3 : 1 < ps.length
      · simp only [q3, decide_true, if_true]
        exact bad8' (by rw [eopen, if_pos (.inr ⟨q2, q3⟩)])
      · simp only [q3, decide_false, Bool.false_eq_true, if_false]
        exact p15 (by omega)
    · simp only [q2, decide_false, Bool.false_eq_true, if_false]
      exact p15 (by omega)
  clear_value J5
  simp (disch := omega) only [GL, RL, lns, e12]
  by_cases l12 : s.length < 12
  · simp only [l12, decide_true, Bool.true_eq_false, if_false, if_true]
    refine bad8 _ _ (.refl st7.own) (.refl _) ?_
    unfold openS
    rw [if_neg (by omega), if_pos (.inl l12)]
  simp only [l12, decide_false, if_true]
  obtain ⟨bs', os, hys, hyc⟩ := (es ▸ hs : Rn R .u8 (.slice a5 s.length cs) s).pos (by omega)
  have c0 := st7.own.sub.cle _ _ (st7.ext.cle _ _ (hyc 0 (by omega)))
  rw [es, hys]
  have e1 : (((s.getD 0 0 : Nat) : Int) != 1) = decide (s.getD 0 0 ≠ 1) := ne_dec _ 1
  simp (disch := omega) only [GL, RL, Int.reduceToNat, c0, e1]
  by_cases h1 : s.getD 0 0 = 1
  · simp only [h1, ne_eq, not_true_eq_false, decide_false, Bool.false_eq_true, if_false]
    exact p5 (by omega)
  · simp only [h1, ne_eq, not_false_eq_true, decide_true, if_true]
    refine bad8 _ _ (.refl st7.own) (.refl _) ?_
    unfold openS
    rw [if_neg (by omega), if_pos (.inr h1)]

theorem T_seal_Length (n size : Int) (k : K (.int .i64 (lengthS n size)) h) : Cn P n_seal_Length #[.int .i64 n, .int .i64 size] h K := by
  refine F_seal_Length ?_
  unfold s_seal_Length
  intro J2
  have bad : (n < 0 ∨ 2147483647 < n ∨ ¬ (1 ≤ size ∧ size ≤ 65536)) → K (.int .i64 0) h := fun q => by
    unfold lengthS at k; rwa [if_pos q] at k
  have good : ¬ (n < 0 ∨ 2147483647 < n ∨ ¬ (1 ≤ size ∧ size ≤ 65536)) → J2 h := fun hq => by
    unfold lengthS at k
    rw [if_neg hq] at k
    simp only [J2]
    clear J2
    have hd : (n + size - 1).tdiv size = (n + size - 1) / size := Int.tdiv_eq_ediv_of_nonneg (by omega)
    have hb1 : (n + size - 1) / size ≤ n + size - 1 := Int.ediv_le_self _ (by omega)
    have hb0 : 0 ≤ (n + size - 1) / size := Int.ediv_nonneg (by omega) (by omega)
    have hmax : ∀ (x : Int) (K : Value → Prop), q P h (Builtin.max_ #[t_int, t_int] t_int #[.int .i64 1, .int .i64 x]) K = K (.int .i64 (max 1 x)) := fun x K => q_of (by
      simp [Builtin.max_, Builtin.max2, pk_pure]
      omega) K
    generalize hz : (n + size - 1) / size = z at hd hb1 hb0 k
    simp (disch := omega) only [GL, RL, wi64, hd, hmax]
    exact k
  clear_value J2
  simp (disch := omega) only [GL, RL]
  by_cases h1 : n < 0
  · simp only [h1, decide_true, Bool.true_eq_false, if_false, if_true]
    exact bad (.inl h1)
  simp only [h1, decide_false, if_true]
  by_cases h2 : 2147483647 < n
  · simp only [h2, decide_true, Bool.true_eq_false, if_false, if_true]
    exact bad (.inr (.inl h2))
  simp only [h2, decide_false, if_true]
  refine T_maySize size ?_
  by_cases h3 : 1 ≤ size ∧ size ≤ 65536
  · simp only [h3, and_self, decide_true, GL, RL, Bool.not_true, Bool.false_eq_true, if_false]
    exact good (by omega)
  · simp only [h3, decide_false, GL, RL, Bool.not_false, if_true]
    exact bad (.inr (.inr h3))
end
end Go.Proofs.Ytnecdbclhdbaoaa
