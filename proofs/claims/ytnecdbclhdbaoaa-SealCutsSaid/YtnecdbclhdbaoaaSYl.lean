/- What the statements of two sizes, and of two layers of one length, come to. Conditions: each names its own. -/
import Derived.Test.YtnecdbclhdbaoaaSYk
set_option linter.unusedSimpArgs false
set_option linter.unusedVariables false
set_option maxRecDepth 100000
set_option maxHeartbeats 1000000
namespace Go.Proofs.Ytnecdbclhdbaoaa
open Go Go.SL Go.Pure

theorem lengthS_le (n size : Int) (h0 : 0 ≤ n) : lengthS n size ≤ 28 + 17 * n := by
  by_cases hq : n < 0 ∨ 2147483647 < n ∨ ¬ (1 ≤ size ∧ size ≤ 65536)
  · unfold lengthS; rw [if_pos hq]; omega
  · rw [lengthS_eq n size (by omega) (by omega) (by omega) (by omega)]
    have : n / size ≤ n := Int.ediv_le_self _ h0
    split <;> omega
theorem sealS_le {c : Cr} {key pre ctx layer : List Nat} {size : Int} (hm : much c + layer.length + 1 < 18446744073709551616) (hl : layer.length ≤ 2147483647) : (sealS c key pre ctx layer size).2.1.length ≤ 28 + 17 * layer.length := by
  by_cases hok : okAsk key pre size
  · have h1 := sealS_len (c := c) (ctx := ctx) (layer := layer) (sealS_ok hok) hm hl
    have h2 := lengthS_le (layer.length : Int) size (by omega)
    omega
  · rw [sealS_bad hok]; simp
theorem cutF_map (n : Nat) : ∀ (f : Nat) (a b : List Nat), a.length = b.length → (cutF n f a).map List.length = (cutF n f b).map List.length
  | 0, a, b, h => by simp [cutF, h]
  | f + 1, a, b, h => by
    simp only [cutF, h]
    split
    · simp only [List.map_cons, List.length_take, h]
      rw [cutF_map n f (a.drop n) (b.drop n) (by simp [h])]
    · simp [h]
theorem cutL_map (n : Nat) (a b : List Nat) (h : a.length = b.length) : (cutL n a).map List.length = (cutL n b).map List.length := by
  unfold cutL; rw [h]; exact cutF_map n _ a b h
theorem goL_blind (key beside pre : List Nat) (total : Nat) : ∀ (ps qs : List (List Nat)) (ts : List (List Nat)) (bs bs' : List Box) (i : Nat), ps.map List.length = qs.map List.length → bs.length = bs'.length →
    (goL (sealStep key beside pre total) (.book ts bs) i ps).1 = (goL (sealStep key beside pre total) (.book ts bs') i qs).1 ∧ (goL (sealStep key beside pre total) (.book ts bs) i ps).2.1 = (goL (sealStep key beside pre total) (.book ts bs') i qs).2.1
  | [], [], _, _, _, _, _, _ => ⟨rfl, rfl⟩
  | [], _ :: _, _, _, _, _, h, _ => by simp at h
  | _ :: _, [], _, _, _, _, h, _ => by simp at h
  | p :: ps, q :: qs, ts, bs, bs', i, h, hb => by
    simp only [List.map_cons, List.cons.injEq] at h
    by_cases hm : may key (nonceN pre i (i + 1 == total))
    · have e1 : sealStep key beside pre total (.book ts bs) i p = (0, boxB bs.length (p.length + 16), .book ts (bs ++ [⟨key, nonceN pre i (i + 1 == total), beside, p⟩])) := by simp only [sealStep, crSeal, if_pos hm]
      have e2 : sealStep key beside pre total (.book ts bs') i q = (0, boxB bs'.length (q.length + 16), .book ts (bs' ++ [⟨key, nonceN pre i (i + 1 == total), beside, q⟩])) := by simp only [sealStep, crSeal, if_pos hm]
      obtain ⟨g1, g2⟩ := goL_blind key beside pre total ps qs ts (bs ++ [⟨key, nonceN pre i (i + 1 == total), beside, p⟩]) (bs' ++ [⟨key, nonceN pre i (i + 1 == total), beside, q⟩]) (i + 1) h.2 (by simp [hb])
      simp only [goL, e1, e2, if_true, g1, g2, h.1, hb, and_self]
    · have e1 : sealStep key beside pre total (.book ts bs) i p = (1, [], .book ts bs) := by simp only [sealStep, crSeal, if_neg hm]
      have e2 : sealStep key beside pre total (.book ts bs') i q = (1, [], .book ts bs') := by simp only [sealStep, crSeal, if_neg hm]
      simp only [goL, e1, e2]
      simp
theorem sealS_blind (key pre ctx layer other : List Nat) (size : Int) (h : layer.length = other.length) : (sealS (.book [] []) key pre ctx layer size).2.1 = (sealS (.book [] []) key pre ctx other size).2.1 := by
  by_cases hok : okAsk key pre size
  · have e1 := sealS_ok (c := .book [] []) (ctx := ctx) (layer := layer) hok
    have e2 := sealS_ok (c := .book [] []) (ctx := ctx) (layer := other) hok
    unfold sealS at e1 e2 ⊢
    simp only [if_pos hok] at e1 e2 ⊢
    have hmap := cutL_map size.toNat layer other h
    have hlen : (cutL size.toNat layer).length = (cutL size.toNat other).length := by have := congrArg List.length hmap; simpa using this
    obtain ⟨g1, g2⟩ := goL_blind key (headL pre size.toNat ++ ctx) pre (cutL size.toNat layer).length (cutL size.toNat layer) (cutL size.toNat other) [] [] [] 0 hmap rfl
    rw [hlen] at g1 g2 e1
    rw [hlen]
    rw [g1, g2]
    by_cases g0 : (goL (sealStep key (headL pre size.toNat ++ ctx) pre (cutL size.toNat other).length) (.book [] []) 0 (cutL size.toNat other)).1 = 0
    · simp only [if_pos g0]
    · simp only [if_neg g0]
  · rw [sealS_bad hok, sealS_bad hok]

theorem goL_real (key beside pre : List Nat) (total : Nat) : ∀ (ps : List (List Nat)) (i : Nat), (goL (sealStep key beside pre total) .real i ps).2.2 = .real
  | [], _ => rfl
  | p :: ps, i => by
    have e : (sealStep key beside pre total .real i p).2.2 = .real := by
      unfold sealStep crSeal
      dsimp only
      split <;> rfl
    simp only [goL]
    split
    · rw [e]; exact goL_real key beside pre total ps (i + 1)
    · exact e
theorem sealS_real (key pre ctx layer : List Nat) (size : Int) : (sealS .real key pre ctx layer size).2.2 = .real := by
  unfold sealS
  split
  · dsimp only; split <;> exact goL_real _ _ _ _ _ _
  · rfl

section
variable {h : Hp} {K : Value → Hp → Prop}
theorem T_SealSizes {vk vp vx vl : Value} {key pre ctx layer : List Nat} {size : Int} (other : Nat) (ho : other < 65536) (hk : Rn h .u8 vk key) (hp : Rn h .u8 vp pre) (hx : Rn h .u8 vx ctx) (hl : Rn h .u8 vl layer) (bk : Bytes key) (bp : Bytes pre) (bx : Bytes ctx) (bl : Bytes layer) (hs : -9223372036854775808 ≤ size ∧ size ≤ 9223372036854775807)
    (k : ∀ h', K (.bool true) h') : Cn P n_orloplaw17_SealSizes #[.agg #[vk, vp, vx, vl, .int .i64 size], .int .u16 other] h K := by
  refine F_orloplaw17_SealSizes ?_
  unfold s_orloplaw17_SealSizes
  refine aw_box fun r hr => ?_
  have w0 : Own h h [] := ⟨.refl _, fun b hb => (by cases hb), fun b hb => (by cases hb)⟩
  have s0 := Stp.block (.row t_orloplaw17_Ask (Value.agg #[vk, vp, vx, vl, .int .i64 size]).cells.toList (Value.agg #[vk, vp, vx, vl, .int .i64 size]).cells.size (some (0, 0))) w0 hr
  have ha : Ask17 (h.set r (.row t_orloplaw17_Ask (Value.agg #[vk, vp, vx, vl, .int .i64 size]).cells.toList (Value.agg #[vk, vp, vx, vl, .int .i64 size]).cells.size (some (0, 0)))) r vk vp vx vl size := Hp.set_same ..
  generalize h.set r (.row t_orloplaw17_Ask (Value.agg #[vk, vp, vx, vl, .int .i64 size]).cells.toList (Value.agg #[vk, vp, vx, vl, .int .i64 size]).cells.size (some (0, 0))) = M at s0 ha
  refine T_awake17 fun h1 x1 => ?_
  have o1 := (Stp.ext0 s0.own x1).own
  replace hk := hk.mono s0.ext.cle
  replace hp := hp.mono s0.ext.cle
  replace hx := hx.mono s0.ext.cle
  replace hl := hl.mono s0.ext.cle
  clear x1 s0 w0
  have en : (1 : Int) + (other : Int) = ((1 + other : Nat) : Int) := by omega
  simp -zeta (disch := omega) only [GL, RL, Bool.not_true, Bool.false_eq_true, if_false, wi64, en]
  obtain ⟨c0, c1, c2, c3, c4⟩ := ha.cells o1.sub
  intro J6
  obtain ⟨al, cl, el, hcl⟩ := hl.shape
  have lnl : ∀ {h : Hp} {K : Value → Prop}, q P h (Builtin.len_ #[t_Sl_uint8] t_int #[vl]) K = K (.int .i64 layer.length) := fun {h K} => by rw [el]; exact q_lenS u_Sl_uint8 _ _ _
  have good : small17 ctx layer size → layer.length ≤ 1000 → okAsk key pre size → ∀ h2, Hp.ext h1 h2 → J6 h2 := by
    intro hsm hl1 hok h2 x2
    have o2 := (Stp.ext0 o1 x2).own
    have hok2 : okAsk key pre ((1 + other : Nat) : Int) := ⟨hok.1, hok.2.1, by omega, by omega⟩
    simp only [J6]
    clear J6
    refine T_Real ?_
    obtain ⟨c0, c1, c2, c3, c4⟩ := ha.cells o2.sub
    simp (disch := omega) only [af0, af1, af2, af3, af4, GL, RL, c0, c1, c2, c3, c4]
    have CR : CrAt M h2 (.iface t_crypt_actual (.agg #[])) .real [] := ⟨rfl, rfl⟩
    have lc : ctx.length ≤ 300 := hsm.1
    refine T_seal_Seal size o2 CR trivial hk hp hx hl bk bp bx bl (by omega) (by omega) fun v3 R3 h3 S3 s3 C3 hv3 => ?_
    have e3 := sealS_ok (c := .real) (ctx := ctx) (layer := layer) hok
    have r3 := sealS_real key pre ctx layer size
    obtain ⟨eo3, _⟩ := seal_open (c2 := .real) e3 (by rw [r3]; trivial) (by simp [much]; omega)
    have l3 := sealS_le (c := .real) (key := key) (pre := pre) (ctx := ctx) (layer := layer) (size := size) (by simp [much]; omega) (by omega)
    have b3 : Bytes (sealS .real key pre ctx layer size).2.1 := sealS_bytes bp bl
    rw [r3] at C3
    rw [if_pos e3] at hv3
    rw [e3, ext0, ext1]
    generalize (sealS .real key pre ctx layer size).2.1 = X at hv3 eo3 l3 b3
    obtain ⟨c0, c1, c2, c3, c4⟩ := ha.cells (s3.ext.trans s3.own.sub)
    simp (disch := omega) only [af0, af1, af2, af3, af4, GL, RL, c0, c1, c2, c3, c4]
    have up3 := s3.ext.cle
    refine T_seal_Seal ((1 + other : Nat) : Int) s3.own C3 trivial (hk.mono up3) (hp.mono up3) (hx.mono up3) (hl.mono up3) bk bp bx bl (by omega) (by omega) fun v4 R4 h4 S4 s4 C4 hv4 => ?_
    have e4 := sealS_ok (c := .real) (ctx := ctx) (layer := layer) hok2
    have r4 := sealS_real key pre ctx layer ((1 + other : Nat) : Int)
    obtain ⟨eo4, _⟩ := seal_open (c2 := .real) e4 (by rw [r4]; trivial) (by simp [much]; omega)
    have l4 := sealS_le (c := .real) (key := key) (pre := pre) (ctx := ctx) (layer := layer) (size := ((1 + other : Nat) : Int)) (by simp [much]; omega) (by omega)
    have ll4 := sealS_len (c := .real) (key := key) (pre := pre) (ctx := ctx) (layer := layer) (size := ((1 + other : Nat) : Int)) e4 (by simp [much]; omega) (by omega)
    have b4 : Bytes (sealS .real key pre ctx layer ((1 + other : Nat) : Int)).2.1 := sealS_bytes bp bl
    rw [r4] at C4
    rw [if_pos e4] at hv4
    rw [e4, ext0, ext1]
    generalize (sealS .real key pre ctx layer ((1 + other : Nat) : Int)).2.1 = Y at hv4 eo4 l4 b4 ll4
    obtain ⟨c0, c1, c2, c3, c4⟩ := ha.cells ((s3.trans s4).ext.trans s4.own.sub)
    simp (disch := omega) only [af0, af1, af2, af3, af4, GL, RL, c0, c1, c2, c3, c4]
    have up4 := (s3.trans s4).ext.cle
    refine T_seal_Open s4.own C4 trivial (hk.mono up4) (hx.mono up4) (hv3.mono s4.ext.cle) bk bx b3 (by omega) (by omega) fun v5 R5 h5 S5 s5 C5 hv5 => ?_
    rw [eo3, if_pos rfl] at hv5
    rw [eo3, ext0, ext1]
    obtain ⟨c0, c1, c2, c3, c4⟩ := ha.cells (((s3.trans s4).trans s5).ext.trans s5.own.sub)
    simp (disch := omega) only [af0, af1, af2, af3, af4, GL, RL, c0, c1, c2, c3, c4]
    have up5 := ((s3.trans s4).trans s5).ext.cle
    refine T_seal_Open s5.own C5 trivial (hk.mono up5) (hx.mono up5) (hv4.mono s5.ext.cle) bk bx b4 (by omega) (by omega) fun v6 R6 h6 S6 s6 C6 hv6 => ?_
    rw [eo4, if_pos rfl] at hv6
    rw [eo4, ext0, ext1]
    have z0 : ((((0 : Nat) : Int)) == 0) = true := rfl
    obtain ⟨c0, c1, c2, c3, c4⟩ := ha.cells ((((s3.trans s4).trans s5).trans s6).ext.trans s6.own.sub)
    simp (disch := omega) only [af0, af1, af2, af3, af4, GL, RL, c0, c1, c2, c3, c4, z0, if_true]
    have up6 := (((s3.trans s4).trans s5).trans s6).ext.cle
    have rl6 : Rn h6 .u8 vl layer := s6.own.rn (hl.mono up6)
    refine T_orlopref01_Equal (s6.own.rn ((show Rn R5 .u8 v5 layer from hv5).mono s6.ext.cle)) rl6 (by omega) ?_
    simp (disch := omega) only [af3, GL, RL, c3, decide_true, if_true]
    refine T_orlopref01_Equal (s6.own.rn (show Rn R6 .u8 v6 layer from hv6)) rl6 (by omega) ?_
    obtain ⟨a4, cc4, ea4, _⟩ := hv4.shape
    have ln4 : ∀ {h : Hp} {K : Value → Prop}, q P h (Builtin.len_ #[t_Sl_uint8] t_int #[v4]) K = K (.int .i64 Y.length) := fun {h K} => by rw [ea4]; exact q_lenS u_Sl_uint8 _ _ _
    simp (disch := omega) only [af3, GL, RL, c3, decide_true, if_true, ln4, lnl]
    refine T_seal_Length _ _ ?_
    simp (disch := omega) only [GL, RL, ll4, beq_self_eq_true]
    exact k _
  clear_value J6
  rw [ha.load o1.sub]
  refine T_small17 (o1.rn hx) (o1.rn hl) hs fun h2 x2 => ?_
  have o2 := (Stp.ext0 o1 x2).own
  by_cases hsm : small17 ctx layer size
  case neg =>
    simp only [hsm, decide_false, GL, RL, Bool.not_false, Bool.true_eq_false, if_false, if_true]
    exact k _
  obtain ⟨c0, c1, c2, c3, c4⟩ := ha.cells o2.sub
  have e1000 : decide ((1000 : Int) < ((layer.length : Nat) : Int)) = decide (1000 < layer.length) := lt_dec 1000 _
  have hlt : layer.length ≤ 1500 := hsm.2.1
  have hdq : (layer.length : Int).tdiv ((1 + other : Nat) : Int) ≤ layer.length := by
    rw [Int.tdiv_eq_ediv_of_nonneg (by omega)]
    exact Int.ediv_le_self _ (by omega)
  have hdq0 : 0 ≤ (layer.length : Int).tdiv ((1 + other : Nat) : Int) := by
    rw [Int.tdiv_eq_ediv_of_nonneg (by omega)]
    exact Int.ediv_nonneg (by omega) (by omega)
  simp (disch := omega) only [hsm, decide_true, GL, RL, Bool.not_true, if_true, af3, c3, lnl, e1000]
  by_cases g1 : 1000 < layer.length
  · simp only [g1, decide_true, Bool.true_eq_false, if_false, if_true]
    exact k _
  simp (disch := omega) only [g1, decide_false, if_true, GL, RL, wi64, af0, af1, af4, c0, c1, c4]
  obtain ⟨ak, ck, ek, hck⟩ := hk.shape
  obtain ⟨ap, cp, ep, hcp⟩ := hp.shape
  have lnk : ∀ {h : Hp} {K : Value → Prop}, q P h (Builtin.len_ #[t_Sl_uint8] t_int #[vk]) K = K (.int .i64 key.length) := fun {h K} => by rw [ek]; exact q_lenS u_Sl_uint8 _ _ _
  have lnp : ∀ {h : Hp} {K : Value → Prop}, q P h (Builtin.len_ #[t_Sl_uint8] t_int #[vp]) K = K (.int .i64 pre.length) := fun {h K} => by rw [ep]; exact q_lenS u_Sl_uint8 _ _ _
  have e32 : (((key.length : Nat) : Int) != 32) = decide (key.length ≠ 32) := ne_dec _ 32
  have e7 : (((pre.length : Nat) : Int) != 7) = decide (pre.length ≠ 7) := ne_dec _ 7
  simp only [lnk, lnp, GL, RL, e32, e7]
  by_cases g2 : 60 < (layer.length : Int).tdiv ((1 + other : Nat) : Int)
  · simp only [g2, decide_true, Bool.true_eq_false, if_false, if_true]
    exact k _
  simp only [g2, decide_false, if_true]
  by_cases g3 : key.length = 32
  case neg =>
    simp only [g3, ne_eq, not_false_eq_true, decide_true, Bool.true_eq_false, if_false, if_true]
    exact k _
  simp only [g3, ne_eq, not_true_eq_false, decide_false, if_true]
  by_cases g4 : pre.length = 7
  case neg =>
    simp only [g4, ne_eq, not_false_eq_true, decide_true, Bool.true_eq_false, if_false, if_true]
    exact k _
  simp only [g4, ne_eq, not_true_eq_false, decide_false, if_true]
  by_cases g5 : size < 1
  · simp only [g5, decide_true, Bool.true_eq_false, if_false, if_true]
    exact k _
  simp only [g5, decide_false, if_true]
  by_cases g6 : 65536 < size
  · simp only [g6, decide_true, if_true]
    exact k _
  simp only [g6, decide_false, Bool.false_eq_true, if_false]
  exact good hsm (by omega) ⟨g3, g4, by omega, by omega⟩ h2 x2

theorem fill_step (len i x : Nat) (h : i < len) : (List.replicate i x ++ List.replicate (len - i) 0).set i x = List.replicate (i + 1) x ++ List.replicate (len - (i + 1)) 0 := by
  obtain ⟨d, hd⟩ : ∃ d, len - i = d + 1 := ⟨len - i - 1, by omega⟩
  rw [hd, List.set_append_right _ _ (by simp), List.length_replicate, Nat.sub_self, List.replicate_succ, List.set_cons_zero, List.replicate_succ', List.append_assoc, show len - (i + 1) = d by omega]
  rfl
theorem T_SealBlind {vk vp vx vl : Value} {key pre ctx layer : List Nat} {size : Int} (x : Nat) (hx8 : x < 256) (hk : Rn h .u8 vk key) (hp : Rn h .u8 vp pre) (hx : Rn h .u8 vx ctx) (hl : Rn h .u8 vl layer) (bk : Bytes key) (bp : Bytes pre) (bx : Bytes ctx) (bl : Bytes layer) (hs : -9223372036854775808 ≤ size ∧ size ≤ 9223372036854775807)
    (k : ∀ h', K (.bool true) h') : Cn P n_orloplaw17_SealBlind #[.agg #[vk, vp, vx, vl, .int .i64 size], .int .u8 x] h K := by
  refine F_orloplaw17_SealBlind ?_
  unfold s_orloplaw17_SealBlind
  refine aw_box fun r hr => ?_
  have w0 : Own h h [] := ⟨.refl _, fun b hb => (by cases hb), fun b hb => (by cases hb)⟩
  have s0 := Stp.block (.row t_orloplaw17_Ask (Value.agg #[vk, vp, vx, vl, .int .i64 size]).cells.toList (Value.agg #[vk, vp, vx, vl, .int .i64 size]).cells.size (some (0, 0))) w0 hr
  have ha : Ask17 (h.set r (.row t_orloplaw17_Ask (Value.agg #[vk, vp, vx, vl, .int .i64 size]).cells.toList (Value.agg #[vk, vp, vx, vl, .int .i64 size]).cells.size (some (0, 0)))) r vk vp vx vl size := Hp.set_same ..
  generalize h.set r (.row t_orloplaw17_Ask (Value.agg #[vk, vp, vx, vl, .int .i64 size]).cells.toList (Value.agg #[vk, vp, vx, vl, .int .i64 size]).cells.size (some (0, 0))) = M at s0 ha
  refine T_awake17 fun h1 x1 => ?_
  have o1 := (Stp.ext0 s0.own x1).own
  replace hk := hk.mono s0.ext.cle
  replace hp := hp.mono s0.ext.cle
  replace hx := hx.mono s0.ext.cle
  replace hl := hl.mono s0.ext.cle
  clear x1 s0 w0
  simp -zeta (disch := omega) only [GL, RL, Bool.not_true, Bool.false_eq_true, if_false]
  rw [ha.load o1.sub]
  refine T_small17 (o1.rn hx) (o1.rn hl) hs fun h2 x2 => ?_
  have o2 := (Stp.ext0 o1 x2).own
  by_cases hsm : small17 ctx layer size
  case neg =>
    simp only [hsm, decide_false, GL, RL, Bool.not_false, Bool.true_eq_false, if_false, if_true]
    exact k _
  have lc : ctx.length ≤ 300 := hsm.1
  have ll : layer.length ≤ 1500 := hsm.2.1
  obtain ⟨c0, c1, c2, c3, c4⟩ := ha.cells o2.sub
  obtain ⟨al, cl, el, hcl⟩ := hl.shape
  have lnl : ∀ {h : Hp} {K : Value → Prop}, q P h (Builtin.len_ #[t_Sl_uint8] t_int #[vl]) K = K (.int .i64 layer.length) := fun {h K} => by rw [el]; exact q_lenS u_Sl_uint8 _ _ _
  simp (disch := omega) only [hsm, decide_true, GL, RL, Bool.not_true, Bool.false_eq_true, if_false, af3, c3, lnl]
  refine aw_make (n := layer.length) (c := layer.length) u_Sl_uint8 nfo_uint8 rfl (Nat.le_refl _) (by omega) (by omega) fun t21 h3 n3 => ?_
  rw [replicate_nv] at n3
  have rest : ∀ h4, Nn h2 t_uint8 .u8 t21 h4 (List.replicate layer.length x) → ∀ KK : Hp → Prop, (∀ R4 : Hp, Stp M h2 R4 h4 [] [] → Rn R4 .u8 t21 (List.replicate layer.length x) → KK h4) → KK h4 := fun h4 n4 KK kk => by
    obtain ⟨R4, s4, q4⟩ := Stp.newN o2 n4
    exact kk R4 s4 q4
  refine Lp_mk (fun u vs h' => ∃ i : Nat, i + u = layer.length ∧ New h2 t_uint8 1 t21 h' (nv .u8 (List.replicate i x ++ List.replicate (layer.length - i) 0)) layer.length ∧ vs = [.int .i64 (i : Int)]) layer.length ⟨0, by omega, by simpa using n3, rfl⟩ ?_
  clear n3
  rintro u vs h4 ⟨i, hi, n4, rfl⟩
  obtain ⟨a21, c21, e21⟩ : ∃ a c, t21 = .slice a layer.length c := by
    obtain ⟨_, a, c, e, _⟩ := n4.rds
    exact ⟨a, c, e⟩
  have ln21 : ∀ {h : Hp} {K : Value → Prop}, q P h (Builtin.len_ #[t_Sl_uint8] t_int #[t21]) K = K (.int .i64 layer.length) := fun {h K} => by rw [e21]; exact q_lenS u_Sl_uint8 _ _ _
  simp (disch := omega) only [ln21, GL, RL, lt_dec]
  by_cases hlt : i < layer.length
  · simp only [hlt, decide_true, if_true]
    obtain ⟨bb, cb, fb, _, _, hv, _, _⟩ := n4.form (by omega)
    subst hv
    simp (disch := omega) only [GL, RL, wi64]
    refine aw_storeN z_uint8 n4 hlt rfl fun h5 n5 => ?_
    rw [nv_set, fill_step _ _ _ hlt] at n5
    exact ⟨h5, .refl _, u - 1, by omega, i + 1, by omega, n5, rfl⟩
  obtain rfl : i = layer.length := by omega
  simp only [hlt, decide_false, Bool.false_eq_true, if_false]
  have n4' : Nn h2 t_uint8 .u8 t21 h4 (List.replicate layer.length x) := by
    unfold Nn
    rw [List.length_replicate]
    simpa using n4
  obtain ⟨R4, s4, q4⟩ := Stp.newN o2 n4'
  have lo : (List.replicate layer.length x).length = layer.length := List.length_replicate ..
  have bo : Bytes (List.replicate layer.length x) := by intro y hy; rw [List.mem_replicate] at hy; omega
  generalize List.replicate layer.length x = other at q4 lo bo
  have up4 := s4.ext.cle
  obtain ⟨c0, c1, c2, c3, c4⟩ := ha.cells (s4.ext.trans s4.own.sub)
  simp (disch := omega) only [af0, af1, af2, af3, af4, GL, RL, c0, c1, c2, c3, c4]
  -- with a book, the layer
  refine T_Book s4.own fun p5 h5 S5 B5 o5 s5 _ => ?_
  obtain ⟨d0, d1, d2, d3, d4⟩ := ha.cells (s4.ext.trans s5.own.sub)
  refine ⟨pk_ldI d4, pf4 r, pk_ld8 d3, pf3 r, pk_ld8 d2, pf2 r, pk_ld8 d1, pf1 r, pk_ld8 d0, pf0 r, ?_⟩
  have C5 : CrAt R4 h5 (.iface t_Pt_crypt_book (.pointer (some ⟨p5, 0, none⟩))) (.book [] []) S5 := ⟨p5, rfl, B5⟩
  have fw : few 800000 (.book [] []) := ⟨by simp, by intro s hs; cases hs⟩
  refine T_seal_Seal size o5 C5 fw (hk.mono up4) (hp.mono up4) (hx.mono up4) (hl.mono up4) bk bp bx bl (by omega) (by omega) fun v6 R6 h6 S6 s6 C6 hv6 => ?_
  rw [ext0, ext1]
  have l6 := sealS_le (c := .book [] []) (key := key) (pre := pre) (ctx := ctx) (layer := layer) (size := size) (by simp [much]; omega) (by omega)
  have o6 : Own R6 h6 [] := s6.own.nil
  have e46 := s4.ext.trans s6.ext
  have up6 := e46.cle
  obtain ⟨c0, c1, c2, c3, c4⟩ := ha.cells (e46.trans s6.own.sub)
  simp (disch := omega) only [af0, af1, af2, af3, af4, GL, RL, c0, c1, c2, c3, c4]
  -- with a book, the other
  refine T_Book o6 fun p7 h7 S7 B7 o7 s7 _ => ?_
  obtain ⟨d0, d1, d2, d3, d4⟩ := ha.cells (e46.trans s7.own.sub)
  refine ⟨pk_ldI d4, pf4 r, pk_ld8 d2, pf2 r, pk_ld8 d1, pf1 r, pk_ld8 d0, pf0 r, ?_⟩
  have C7 : CrAt R6 h7 (.iface t_Pt_crypt_book (.pointer (some ⟨p7, 0, none⟩))) (.book [] []) S7 := ⟨p7, rfl, B7⟩
  refine T_seal_Seal size o7 C7 fw (hk.mono up6) (hp.mono up6) (hx.mono up6) (q4.mono s6.ext.cle) bk bp bx bo (by omega) (by omega) fun v8 R8 h8 S8 s8 C8 hv8 => ?_
  rw [ext0, ext1]
  have o8 : Own R8 h8 [] := s8.own.nil
  have e48 := e46.trans s8.ext
  have up8 := e48.cle
  obtain ⟨c0, c1, c2, c3, c4⟩ := ha.cells (e48.trans s8.own.sub)
  simp (disch := omega) only [af0, af1, af2, af3, af4, GL, RL, c0, c1, c2, c3, c4]
  -- with the real crypt, the other
  refine T_Real ?_
  refine ⟨pk_ldI c4, pf4 r, pk_ld8 c2, pf2 r, pk_ld8 c1, pf1 r, pk_ld8 c0, pf0 r, ?_⟩
  have C9 : CrAt R8 h8 (.iface t_crypt_actual (.agg #[])) .real [] := ⟨rfl, rfl⟩
  refine T_seal_Seal size o8 C9 trivial (hk.mono up8) (hp.mono up8) (hx.mono up8) ((q4.mono s6.ext.cle).mono s8.ext.cle) bk bp bx bo (by omega) (by omega) fun v9 R9 h9 S9 s9 C10 hv9 => ?_
  rw [ext0, ext1]
  have hbl := sealS_blind key pre ctx layer other size lo.symm
  by_cases hok : okAsk key pre size
  · have e1 := sealS_ok (c := .book [] []) (ctx := ctx) (layer := layer) hok
    have e2 := sealS_ok (c := .book [] []) (ctx := ctx) (layer := other) hok
    have e3 := sealS_ok (c := .real) (ctx := ctx) (layer := other) hok
    have g1 := sealS_len (c := .book [] []) (ctx := ctx) (layer := layer) e1 (by simp [much]; omega) (by omega)
    have g3 := sealS_len (c := .real) (ctx := ctx) (layer := other) e3 (by simp [much]; omega) (by omega)
    rw [if_pos e1] at hv6
    rw [if_pos e2, ← hbl] at hv8
    rw [if_pos e3] at hv9
    rw [e1, e2, e3]
    generalize (sealS (.book [] []) key pre ctx layer size).2.1 = X at hv6 hv8 l6 g1
    generalize (sealS .real key pre ctx other size).2.1 = Z at hv9 g3
    have r6 : Rn h9 .u8 v6 X := s9.own.rn ((hv6.mono s8.ext.cle).mono s9.ext.cle)
    have r8 : Rn h9 .u8 v8 X := s9.own.rn (hv8.mono s9.ext.cle)
    simp (disch := omega) only [GL, RL, beq_self_eq_true, if_true]
    refine T_orlopref01_Equal r6 r8 (by omega) ?_
    obtain ⟨a6, cc6, rfl, _⟩ := hv6.shape
    obtain ⟨a9, cc9, rfl, _⟩ := hv9.shape
    have ez : (((Z.length : Nat) : Int) == ((X.length : Nat) : Int)) = true := by rw [g1, g3, lo, beq_self_eq_true]
    simp (disch := omega) only [GL, RL, decide_true, if_true, ez]
    exact k _
  · rw [sealS_bad hok] at hv6 hv8 hv9
    simp only [Nat.one_ne_zero, if_false] at hv6 hv8 hv9
    subst hv6 hv8 hv9
    rw [sealS_bad hok, sealS_bad hok, sealS_bad hok]
    simp (disch := omega) only [GL, RL, beq_self_eq_true, if_true]
    refine T_orlopref01_Equal (rn_nil _ _) (rn_nil _ _) (by simp) ?_
    simp (disch := omega) only [GL, RL, decide_true, if_true, beq_self_eq_true]
    exact k _
end
end Go.Proofs.Ytnecdbclhdbaoaa
