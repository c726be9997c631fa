/- What CryptBlind comes to. Conditions: each names its own. -/
import Derived.Test.YtnecdbclhdbaoaaSYs
set_option linter.unusedSimpArgs false
set_option linter.unusedVariables false
set_option maxRecDepth 100000
set_option maxHeartbeats 1000000
namespace Go.Proofs.Ytnecdbclhdbaoaa
open Go Go.SL Go.Pure

section
variable {h : Hp} {K : Value → Hp → Prop}
theorem T_CryptBlind {vl vo : Value} {asks : List AskV} {no : Nat} (A : AsksAt h vl asks) (O : RowsAt h vo no) (k : ∀ h', K (.bool true) h') : Cn P n_orloplaw12_CryptBlind #[vl, vo] h K := by
  refine F_orloplaw12_CryptBlind ?_
  unfold s_orloplaw12_CryptBlind
  refine T_awake12 fun h4 x4 => ?_
  replace A := A.mono x4.cle
  replace O := O.mono x4.cle
  clear x4
  have w0 : Own h4 h4 [] := ⟨.refl _, fun b hb => (by cases hb), fun b hb => (by cases hb)⟩
  simp -zeta only [GL, RL, Bool.not_true, Bool.false_eq_true, if_false]
  refine T_Book2 w0 fun pa h5 SA0 hA0 oA0 y1 _ => ?_
  refine T_Book2 oA0.nil fun pb h6 SB0 hB0 oB0 y2 f2 => ?_
  have hA1 : BookAt h4 h6 pa [] [] SA0 := hA0.stp (T := []) (T' := []) oA0 (.refl _) y2
  have oA1 := (Stp.ext0 oA0 y2).own
  have dis0 : ∀ b, b ∈ SB0 → b ∉ SA0 := fun b hb q => by
    obtain ⟨o, e⟩ := oA0.kn b q
    rw [f2 b hb] at e; cases e
  obtain ⟨al, cl, el, hcl⟩ := A.shape
  have lnl : ∀ {h : Hp} {K : Value → Prop}, q P h (Builtin.len_ #[t_Sl_orloplaw12_Ask] t_int #[vl]) K = K (.int .i64 asks.length) := fun {h K} => by rw [el]; exact q_lenS u_Sl_orloplaw12_Ask _ _ _
  obtain ⟨ao, co, eo, hco, hO⟩ := O
  have lno : ∀ {h : Hp} {K : Value → Prop}, q P h (Builtin.len_ #[t_Sl_Sl_uint8] t_int #[vo]) K = K (.int .i64 no) := fun {h K} => by rw [eo]; exact q_lenS u_Sl_Sl_uint8 _ _ _
  refine Lp_mk (fun m vs h2 => ∃ (i : Nat) (R : Hp) (ts : List (List Nat)) (bs bs' : List Box) (SA SB : List Nat), i + m = 30 ∧ i ≤ asks.length ∧ Hp.ext h4 R ∧ Own R h2 SA ∧ Own R h2 SB ∧ (∀ x, x ∈ SB → x ∉ SA) ∧ BookAt R h2 pa ts bs SA ∧ BookAt R h2 pb [] bs' SB ∧
    bs.length = i ∧ bs'.length = i ∧ few i (.book ts bs) ∧ few i (.book [] bs') ∧ ts.length ≤ 2 * i ∧ vs = [.bool false, .int .i64 (i : Int)]) 30
    ⟨0, h4, [], [], [], SA0, SB0, by omega, by omega, .refl _, oA1, oB0, dis0, hA1, hB0, rfl, rfl, ⟨Nat.le_refl _, fun s hs => by cases hs⟩, ⟨Nat.le_refl _, fun s hs => by cases hs⟩, by simp, rfl⟩ ?_
  rintro m vs h2 ⟨i, R2, ts, bs, bs', SA, SB, him, hia, xR, oA2, oB2, dis2, hA2, hB2, la, lb, fa, fb, lts, rfl⟩
  have e30 : decide (((i : Nat) : Int) < 30) = decide (i < 30) := by rw [decide_eq_decide]; omega
  simp -zeta (disch := omega) only [GL, RL, lt_dec, lnl, e30]
  intro J10
  by_cases h1 : i < asks.length
  case neg =>
    simp -zeta only [h1, decide_false, Bool.false_eq_true, if_false]
    exact k _
  by_cases h30 : i < 30
  case neg =>
    simp -zeta only [h1, h30, decide_true, decide_false, Bool.false_eq_true, if_false, if_true]
    exact k _
  simp -zeta only [h1, h30, decide_true, if_true]
  simp -zeta only [J10]
  clear J10
  obtain ⟨x, ex⟩ : ∃ x, asks[i]? = some x := ⟨_, List.getElem?_eq_getElem h1⟩
  have okx : AskV.ok R2 x := (A.1 i x ex).mono xR.cle
  refine aw_askAt oA2 (A.mono xR.cle) ex fun r R3 h3 s3 x3 a3 => ?_
  have oA3 : Own R3 h3 SA := s3.own
  obtain ⟨oB3, dis3, kB3⟩ := s3.frame oB2 dis2
  have hA3 : BookAt R3 h3 pa ts bs SA := hA2.stp (T := []) (T' := []) oA2 s3.ext x3
  have hB3 : BookAt R3 h3 pb [] bs' SB := hB2.keep s3.ext kB3
  obtain ⟨rk, rn, g2, g3⟩ := a3.facts s3.own.sub okx.lk okx.ln
  obtain ⟨qk, qn, _, _⟩ := a3.facts (.refl _) okx.lk okx.ln
  have okx3 : AskV.ok R3 x := okx.mono s3.ext.cle
  have x3R := xR.trans s3.ext
  obtain ⟨ab, cb, eb, _⟩ := okx.rb.shape
  obtain ⟨at', ct, et, _⟩ := okx.rt.shape
  have lnb : ∀ {h : Hp} {K : Value → Prop}, q P h (Builtin.len_ #[t_Sl_uint8] t_int #[x.vb]) K = K (.int .i64 x.b.length) := fun {h K} => by rw [eb]; exact q_lenS u_Sl_uint8 _ _ _
  have lnt : ∀ {h : Hp} {K : Value → Prop}, q P h (Builtin.len_ #[t_Sl_uint8] t_int #[x.vt]) K = K (.int .i64 x.t.length) := fun {h K} => by rw [et]; exact q_lenS u_Sl_uint8 _ _ _
  intro J14
  have go : x.b.length ≤ 300 → x.t.length ≤ 300 → J14 (.bool false) h3 := by
    intro lb3 lt3
    simp -zeta only [J14]
    clear J14
    simp -zeta (disch := omega) only [GL, RL, cf0, cf1, cf2, cf3, sl32, sl12, g2, g3, lnt]
    refine aw_make (n := x.t.length) (c := x.t.length) u_Sl_uint8 nfo_uint8 rfl (Nat.le_refl _) (by omega) (by omega) fun t46 h5 n5 => ?_
    rw [replicate_nv] at n5
    have ln46 : ∀ {h : Hp} {K : Value → Prop}, q P h (Builtin.len_ #[t_Sl_uint8] t_int #[t46]) K = K (.int .i64 x.t.length) := fun {h K} => by
      obtain ⟨_, a, c, e, _⟩ := n5.rds
      rw [e]; exact q_lenS u_Sl_uint8 _ _ _
    intro J20
    have back : ∀ (h' : Hp) (l : List Nat), l.length = x.t.length → Bytes l → New h3 t_uint8 1 t46 h' (nv .u8 l) x.t.length → J20 h' := by
      intro h6 l ll bl n6
      simp -zeta only [J20]
      clear J20
      have n6' : Nn h3 t_uint8 .u8 t46 h6 l := by unfold Nn; rw [ll]; exact n6
      obtain ⟨R6, s6, q6⟩ := Stp.newN oA3 n6'
      obtain ⟨oB6, dis6, kB6⟩ := s6.frame oB3 dis3
      have CA6 : CrAt R6 h6 (.iface t_Pt_crypt_book (.pointer (some ⟨pa, 0, none⟩))) (.book ts bs) SA := ⟨pa, rfl, hA3.stp (T := []) (T' := []) oA3 s6.ext n6'.ext⟩
      have CB6 : CrAt R6 h6 (.iface t_Pt_crypt_book (.pointer (some ⟨pb, 0, none⟩))) (.book [] bs') SB := ⟨pb, rfl, hB3.keep s6.ext kB6⟩
      have okx6 : AskV.ok R6 x := okx3.mono s6.ext.cle
      have hm : may x.key x.nonce := ⟨okx.lk, okx.ln⟩
      obtain ⟨_, _, g62, g63⟩ := a3.facts (s6.ext.trans s6.own.sub) okx.lk okx.ln
      simp -zeta (disch := omega) only [GL, RL, cf0, cf1, cf2, cf3, sl32, sl12, g62, g63]
      rw [q_of (nilSeal CA6)]
      refine T_crSeal s6.own CA6 (fa.mono (by omega)) (qk.mono s6.ext.cle) (qn.mono s6.ext.cle) okx6.rb okx6.rt okx.bk okx.bn okx.bb okx.bt (by omega) (by omega) fun v92 R7 h7 S7 s7 C7 hv => ?_
      have es : crSeal (.book ts bs) x.key x.nonce x.b x.t = (0, boxB bs.length (x.t.length + 16), .book ts (bs ++ [⟨x.key, x.nonce, x.b, x.t⟩])) := by simp only [crSeal, if_pos hm]
      have fa' := fa.next x.key x.nonce x.b x.t (by omega)
      rw [es] at C7 hv fa' ⊢
      dsimp only at C7 hv fa'
      rw [if_pos rfl] at hv
      rw [ext0, ext1]
      obtain ⟨oB7, dis7, kB7⟩ := s7.frame oB6 dis6
      have CB7 := CB6.keep s7.ext kB7
      have e37 := s6.ext.trans s7.ext
      obtain ⟨_, _, g72, g73⟩ := a3.facts (e37.trans s7.own.sub) okx.lk okx.ln
      simp -zeta (disch := omega) only [GL, RL, cf0, cf1, cf2, cf3, sl32, sl12, g72, g73]
      rw [q_of (nilSeal CB7)]
      refine T_crSeal oB7 CB7 (fb.mono (by omega)) (qk.mono e37.cle) (qn.mono e37.cle) (okx6.rb.mono s7.ext.cle) (q6.mono s7.ext.cle) okx.bk okx.bn okx.bb bl (by omega) (by omega) fun v107 R8 h8 S8 s8 C8 hw => ?_
      have es' : crSeal (.book [] bs') x.key x.nonce x.b l = (0, boxB bs'.length (l.length + 16), .book [] (bs' ++ [⟨x.key, x.nonce, x.b, l⟩])) := by simp only [crSeal, if_pos hm]
      have fb' := fb.next x.key x.nonce x.b l (by omega)
      rw [es'] at C8 hw fb' ⊢
      dsimp only at C8 hw fb'
      rw [if_pos rfl, ll, lb, ← la] at hw
      rw [ext0, ext1]
      obtain ⟨oA8, disA8, kA8⟩ := s8.frame s7.own fun b hb q => dis7 b q hb
      have hA8 := (C7.keep s8.ext kA8).book
      have hB8 := C8.book
      replace hv := hv.mono s8.ext.cle
      have e38 := e37.trans s8.ext
      have rt8 : Rn R8 .u8 x.vt x.t := okx3.rt.mono e38.cle
      have q8 : Rn R8 .u8 t46 l := q6.mono (s7.ext.trans s8.ext).cle
      intro J28
      have last : J28 (.bool false) h8 := by
        simp -zeta only [J28]
        clear J28
        obtain ⟨_, _, g82, g83⟩ := a3.facts (e38.trans s8.own.sub) okx.lk okx.ln
        simp -zeta (disch := omega) only [GL, RL, cf0, cf1, cf2, cf3, sl32, sl12, g82, g83]
        refine aw_method (g := n_crypt_book_Sum) (r := .pointer (some ⟨pa, 0, none⟩)) (by kernel_rfl) ?_
        show Cn P n_crypt_book_Sum #[.pointer (some ⟨pa, 0, none⟩), x.vt] h8 _
        refine T_book_Sum oA8 hA8 (by omega) rt8 okx.bt fun v121 R9 h9 s9 hA9 q9 => ?_
        obtain ⟨oB9, dis9, kB9⟩ := s9.frame s8.own fun b hb q => disA8 b q hb
        have hB9 := hB8.keep s9.ext kB9
        have e39 := e38.trans s9.ext
        obtain ⟨_, _, _, g93⟩ := a3.facts (e39.trans s9.own.sub) okx.lk okx.ln
        refine ⟨pk_ld8 g93, pcf3 r, ?_⟩
        refine aw_method (g := n_crypt_book_Sum) (r := .pointer (some ⟨pa, 0, none⟩)) (by kernel_rfl) ?_
        show Cn P n_crypt_book_Sum #[.pointer (some ⟨pa, 0, none⟩), t46] h9 _
        have lt1 := textsOf_len ts x.t
        refine T_book_Sum s9.own hA9 (by omega) (q8.mono s9.ext.cle) bl fun v124 R10 h10 s10 hA10 q10 => ?_
        obtain ⟨oB10, dis10, kB10⟩ := s10.frame oB9 dis9
        have hB10 := hB9.keep s10.ext kB10
        have e310 := e39.trans s10.ext
        obtain ⟨_, _, _, g103⟩ := a3.facts (e310.trans s10.own.sub) okx.lk okx.ln
        refine ⟨pk_ld8 g103, pcf3 r, ?_⟩
        have n1 := numOf_le ts x.t
        have n2 := numOf_le (textsOf ts x.t) l
        have lt2 := textsOf_len (textsOf ts x.t) l
        have same : (sumB (numOf ts x.t) = sumB (numOf (textsOf ts x.t) l)) ↔ x.t = l := (sumB_inj (by omega) (by omega)).trans (numOf_eq ts x.t l)
        refine T_orlopref01_Equal (s10.own.rn (q9.mono s10.ext.cle)) (s10.own.rn q10) (by simp [sumB, bg_len]) ?_
        refine ⟨pk_ld8 g103, pcf3 r, ?_⟩
        refine T_orlopref01_Equal (s10.own.rn (rt8.mono (s9.ext.trans s10.ext).cle)) (s10.own.rn (q8.mono (s9.ext.trans s10.ext).cle)) (by omega) ?_
        rw [decide_eq_decide.2 same, q_neqB]
        have e1 : ((i : Nat) : Int) + 1 = ((i + 1 : Nat) : Int) := by omega
        simp -zeta (disch := omega) only [GL, RL, wi64, e1, Bool.false_eq_true, if_false]
        refine ⟨h10, .refl _, m - 1, by omega, i + 1, R10, _, _, _, S7, S8, by omega, by omega, x3R.trans e310, s10.own, oB10, dis10, hA10, hB10, by rw [List.length_append, la]; rfl, by rw [List.length_append, lb]; rfl, fa', fb', by omega, rfl⟩
      clear_value J28
      have z0 : ((((0 : Nat) : Int)) != ((0 : Nat) : Int)) = false := rfl
      simp -zeta (disch := omega) only [GL, RL, z0, if_true]
      refine T_orlopref01_Equal (s8.own.rn hv) (s8.own.rn hw) (by rw [boxB_len]; omega) ?_
      simp -zeta (disch := omega) only [GL, RL, decide_true, Bool.not_true, Bool.false_eq_true, if_false]
      exact last
    clear_value J20
    -- the other text is taken
    refine Lp_mk (fun m' vs' h' => ∃ (j : Nat) (l : List Nat), j + m' = x.t.length ∧ l.length = x.t.length ∧ Bytes l ∧ New h3 t_uint8 1 t46 h' (nv .u8 l) x.t.length ∧ vs' = [.int .i64 (j : Int)]) x.t.length
      ⟨0, List.replicate x.t.length 0, by omega, by simp, (by intro y hy; rw [List.mem_replicate] at hy; omega), n5, rfl⟩ ?_
    rintro m' vs' h6 ⟨j, l, hj, ll, bl, n6, rfl⟩
    intro J23
    simp -zeta (disch := omega) only [GL, RL, lt_dec, ln46, lno]
    by_cases hlt : j < x.t.length
    case neg =>
      simp -zeta only [hlt, decide_false, Bool.false_eq_true, if_false]
      exact back h6 l ll bl n6
    by_cases hio : i < no
    case neg =>
      simp -zeta only [hlt, hio, decide_true, decide_false, Bool.false_eq_true, if_false, if_true]
      exact back h6 l ll bl n6
    simp -zeta only [hlt, hio, decide_true, if_true]
    rcases hO with h0 | ⟨bo, oo, rfl, hcO⟩
    · omega
    obtain ⟨yo, lo, cyo, ryo, byo⟩ := hcO i hio
    have xh : Hp.ext h4 h6 := (x3R.trans s3.own.sub).trans n6.ext
    have cyo6 := xh.cle _ _ cyo
    have ryo6 := ryo.mono xh.cle
    obtain ⟨ay, cy, ey, hcy⟩ := ryo6.shape
    subst eo
    simp -zeta (disch := omega) only [GL, RL, cyo6]
    rw [ey]
    simp -zeta (disch := omega) only [GL, RL, lt_dec]
    by_cases hjl : j < lo.length
    case neg =>
      simp -zeta only [hjl, decide_false, Bool.false_eq_true, if_false]
      exact back h6 l ll bl n6
    simp -zeta only [hjl, decide_true, if_true]
    simp -zeta only [J23]
    clear J23
    rw [ey] at ryo6 cyo6
    obtain ⟨by', oy, rfl, hyv⟩ := ryo6.pos (by omega)
    obtain ⟨b46, c46, f46, hb46, hc46, rfl, _, hf46⟩ := n6.form (by omega)
    have e1 : ((j : Nat) : Int) + 1 = ((j + 1 : Nat) : Int) := by omega
    simp -zeta (disch := omega) only [GL, RL, cyo6, hyv j hjl, wi64, e1]
    refine aw_storeN z_uint8 n6 (by omega) rfl fun h7 n7 => ?_
    rw [nv_set] at n7
    exact ⟨h7, .refl _, m' - 1, by omega, j + 1, _, by omega, by rw [List.length_set]; exact ll, fun w hw => (List.mem_or_eq_of_mem_set hw).elim (bl w) fun e => by rw [e]; exact byo.getD j, n7, rfl⟩
  clear_value J14
  have l1 : decide ((300 : Int) < ((x.b.length : Nat) : Int)) = decide (300 < x.b.length) := by rw [decide_eq_decide]; omega
  have l2 : decide ((300 : Int) < ((x.t.length : Nat) : Int)) = decide (300 < x.t.length) := by rw [decide_eq_decide]; omega
  simp (disch := omega) only [GL, RL, cf2, cf3, g2, g3, lnb, lnt, l1, l2]
  by_cases q1 : 300 < x.b.length
  · simp only [q1, decide_true, Bool.true_eq_false, if_false, if_true]
    exact k _
  simp only [q1, decide_false, if_true]
  by_cases q2 : 300 < x.t.length
  · simp only [q2, decide_true, if_true]
    exact k _
  simp only [q2, decide_false, Bool.false_eq_true, if_false]
  exact go (by omega) (by omega)
end
end Go.Proofs.Ytnecdbclhdbaoaa
