/- What CryptBack comes to. Conditions: each names its own. -/
import Derived.Test.YtnecdbclhdbaoaaSYq
set_option linter.unusedSimpArgs false
set_option linter.unusedVariables false
set_option maxRecDepth 100000
set_option maxHeartbeats 1000000
namespace Go.Proofs.Ytnecdbclhdbaoaa
open Go Go.SL Go.Pure

/-- A box, told so far: it lies in the row, and is opened by whatever has sealed more since. -/
def Told (R : Hp) (c : Cr) (x : AskV) (y : Value) : Prop :=
  ∃ X, Rn R .u8 y X ∧ Bytes X ∧ X.length = x.t.length + 16 ∧ x.b.length ≤ 300 ∧ x.t.length ≤ 300 ∧ ∀ c2, Later c c2 → crOpen c2 x.key x.nonce x.b X = (0, x.t)
theorem Told.mono {R R' : Hp} {c c' : Cr} {x : AskV} {y : Value} (t : Told R c x y) (e : Hp.ext R R') (l : Later c c') : Told R' c' x y := by
  obtain ⟨X, h1, h2, h3, h4, h5, h6⟩ := t
  exact ⟨X, h1.mono e.cle, h2, h3, h4, h5, fun c2 l2 => h6 c2 (l.trans l2)⟩
theorem few_much {n : Nat} {c : Cr} (f : few n c) : much c ≤ n := by
  cases c with
  | real => exact Nat.zero_le _
  | book ts bs => exact f.1

section
variable {h : Hp} {K : Value → Hp → Prop}
theorem T_CryptBack {vl : Value} {asks : List AskV} (ideal : Bool) (A : AsksAt h vl asks) (k : ∀ h', K (.bool true) h') : Cn P n_orloplaw12_CryptBack #[.bool ideal, vl] h K := by
  refine F_orloplaw12_CryptBack ?_
  unfold s_orloplaw12_CryptBack
  refine T_awake12 fun h4 x4 => ?_
  replace A := A.mono x4.cle
  clear x4
  have w0 : Own h4 h4 [] := ⟨.refl _, fun b hb => (by cases hb), fun b hb => (by cases hb)⟩
  simp -zeta only [GL, RL, Bool.not_true, Bool.false_eq_true, if_false]
  refine T_of12 ideal w0 fun vc h5 S0 C0 o0 s0 _ => ?_
  obtain ⟨al, cl, el, hcl⟩ := A.shape
  have lnl : ∀ {h : Hp} {K : Value → Prop}, q P h (Builtin.len_ #[t_Sl_orloplaw12_Ask] t_int #[vl]) K = K (.int .i64 asks.length) := fun {h K} => by rw [el]; exact q_lenS u_Sl_orloplaw12_Ask _ _ _
  have cm : ∀ (x : AskV), AskV.ok h4 x → may x.key x.nonce := fun x o => ⟨o.lk, o.ln⟩
  intro J7
  -- what is opened
  have second : ∀ (n : Nat) (R h' : Hp) (c : Cr) (S So : List Nat) (v : Value) (ws : List Value), n ≤ asks.length → n ≤ 30 → Hp.ext h4 R → Own R h' (S ++ So) → CrAt R h' vc c S → few n c → OutAt t_Sl_uint8 1 h' v ws n So → (∀ x, x ∈ So → x ∉ S) →
      (∀ j x, j < n → asks[j]? = some x → ∃ y, ws[j]? = some y ∧ Told R c x y) → J7 (.bool false) v h' := by
    intro n R h' c S So v ws hn hn30 xR ow C fc O dj told
    simp -zeta only [J7]
    clear J7
    refine Lp_mk (fun m vs h2 => ∃ (j : Nat) (R2 : Hp), j + m = n ∧ Hp.ext R R2 ∧ Own R2 h2 (S ++ So) ∧ CrAt R2 h2 vc c S ∧ OutAt t_Sl_uint8 1 h2 v ws n So ∧ vs = [.bool false, .int .i64 (j : Int)]) n ⟨0, R, by omega, .refl _, ow, C, O, rfl⟩ ?_
    rintro m vs h2 ⟨j, R2, hj, e2, o2, C2, O2, rfl⟩
    obtain ⟨_, av, cv, ev, hcv, hws⟩ := O2.rds
    have lnw : ∀ {h : Hp} {K : Value → Prop}, q P h (Builtin.len_ #[t_Sl_Sl_uint8] t_int #[v]) K = K (.int .i64 n) := fun {h K} => by rw [ev]; exact q_lenS u_Sl_Sl_uint8 _ _ _
    simp -zeta (disch := omega) only [GL, RL, lt_dec, lnw]
    by_cases hlt : j < n
    case neg =>
      simp -zeta only [hlt, decide_false, Bool.false_eq_true, if_false]
      exact k _
    simp -zeta only [hlt, decide_true, if_true]
    obtain ⟨x, ex⟩ : ∃ x, asks[j]? = some x := ⟨_, List.getElem?_eq_getElem (by omega)⟩
    obtain ⟨y, ey, tl⟩ := told j x hlt ex
    have okx : AskV.ok R2 x := (A.1 j x ex).mono (xR.trans e2).cle
    refine aw_askAt o2 (A.mono (xR.trans e2).cle) ex fun r R3 h3 s3 x3 a3 => ?_
    have oS3 : Own R3 h3 S := s3.own.sub' fun z hz => List.mem_append_left _ hz
    have oO3 : Own R3 h3 So := s3.own.sub' fun z hz => List.mem_append_right _ hz
    obtain ⟨rk, rn, g2, g3⟩ := a3.facts s3.own.sub okx.lk okx.ln
    obtain ⟨qk, qn, _, _⟩ := a3.facts (.refl _) okx.lk okx.ln
    have e23 := e2.trans s3.ext
    rcases hws with h0 | ⟨bw, bo, rfl, hcw⟩
    · omega
    have cw : h3.cell ⟨bw, bo + j, none⟩ = some y := x3.cle _ _ (hcw j y ey)
    subst ev
    have O3 : OutAt t_Sl_uint8 1 h3 (.slice (some ⟨bw, bo, none⟩) n cv) ws n So := O2.keep fun b hb => by
      obtain ⟨o, e⟩ := o2.kn b (List.mem_append_right _ hb)
      rw [e, x3 _ _ e]
    have C3 : CrAt R3 h3 vc c S := C2.ext (o2.sub' fun z hz => List.mem_append_left _ hz) s3.ext x3
    simp -zeta (disch := omega) only [GL, RL, cf0, cf1, cf2, cf3, sl32, sl12, g2, g3, cw]
    rw [q_of (nilOpen C3)]
    obtain ⟨X, rX, bX, lX, lb, lt, op⟩ := tl
    have okx3 : AskV.ok R3 x := okx.mono s3.ext.cle
    refine T_crOpen oS3 C3 (fc.mono (by omega)) qk qn okx3.rb (rX.mono e23.cle) okx.bk okx.bn okx.bb bX (by omega) (by omega) fun v99 R4 h6 s4 C4 hv => ?_
    rw [op c (.refl _)] at hv ⊢
    rw [if_pos rfl] at hv
    have hv : Rn R4 .u8 v99 x.t := hv
    rw [ext0, ext1]
    obtain ⟨oO4, _, kO4⟩ := s4.frame oO3 dj
    have g3' : h6.cell ⟨r, 45, none⟩ = some x.vt := (a3.facts (s4.ext.trans s4.own.sub) okx.lk okx.ln).2.2.2
    have z0 : ((((0 : Nat) : Int)) != 0) = false := rfl
    simp -zeta (disch := omega) only [GL, RL, z0, cf3, g3', if_true]
    refine T_orlopref01_Equal (s4.own.rn hv) (s4.own.rn (okx3.rt.mono s4.ext.cle)) (by omega) ?_
    have ej : ((j : Nat) : Int) + 1 = ((j + 1 : Nat) : Int) := by omega
    simp -zeta (disch := omega) only [GL, RL, decide_true, Bool.not_true, Bool.false_eq_true, if_false, wi64, ej]
    exact ⟨h6, .refl _, m - 1, by omega, j + 1, R4, by omega, e23.trans s4.ext, (s4.own).app oO4, C4, O3.keep kO4, rfl⟩
  clear_value J7
  have f0 : few 0 (if ideal then (.book [] [] : Cr) else .real) := by
    cases ideal
    · trivial
    · exact ⟨Nat.le_refl _, fun s hs => by cases hs⟩
  generalize (if ideal then (.book [] [] : Cr) else .real) = c0 at C0 f0
  refine Lp_mk (fun m vs h2 => ∃ (i : Nat) (R : Hp) (c : Cr) (S So : List Nat) (v : Value) (ws : List Value), i + m = 30 ∧ i ≤ asks.length ∧ Hp.ext h4 R ∧ Own R h2 (S ++ So) ∧ CrAt R h2 vc c S ∧ few i c ∧ OutAt t_Sl_uint8 1 h2 v ws i So ∧ (∀ x, x ∈ So → x ∉ S) ∧
    (∀ j x, j < i → asks[j]? = some x → ∃ y, ws[j]? = some y ∧ Told R c x y) ∧ vs = [.bool false, v, .int .i64 (i : Int)]) 30
    ⟨0, h4, c0, S0, [], .slice none 0 0, [], by omega, by omega, .refl _, by simpa using o0, C0, f0, .inl ⟨rfl, rfl, rfl, rfl⟩, by simp, fun j x hj => by omega, rfl⟩ ?_
  rintro m vs h2 ⟨i, R2, c, S, So, v, ws, him, hia, xR, o2, C2, fc, O2, dj, told, rfl⟩
  have e30 : decide (((i : Nat) : Int) < 30) = decide (i < 30) := by rw [decide_eq_decide]; omega
  simp -zeta (disch := omega) only [GL, RL, lt_dec, lnl, e30]
  intro J10
  by_cases h1 : i < asks.length
  case neg =>
    simp -zeta only [h1, decide_false, Bool.false_eq_true, if_false]
    exact second i R2 h2 c S So v ws hia (by omega) xR o2 C2 fc O2 dj told
  by_cases h30 : i < 30
  case neg =>
    simp -zeta only [h1, h30, decide_true, decide_false, Bool.false_eq_true, if_false, if_true]
    exact second i R2 h2 c S So v ws hia (by omega) xR o2 C2 fc O2 dj told
  simp -zeta only [h1, h30, decide_true, if_true]
  simp -zeta only [J10]
  clear J10
  obtain ⟨x, ex⟩ : ∃ x, asks[i]? = some x := ⟨_, List.getElem?_eq_getElem h1⟩
  have okx : AskV.ok R2 x := (A.1 i x ex).mono xR.cle
  refine aw_askAt o2 (A.mono xR.cle) ex fun r R3 h3 s3 x3 a3 => ?_
  have oS3 : Own R3 h3 S := s3.own.sub' fun z hz => List.mem_append_left _ hz
  have oO3 : Own R3 h3 So := s3.own.sub' fun z hz => List.mem_append_right _ hz
  obtain ⟨rk, rn, g2, g3⟩ := a3.facts s3.own.sub okx.lk okx.ln
  obtain ⟨qk, qn, _, _⟩ := a3.facts (.refl _) okx.lk okx.ln
  have okx3 : AskV.ok R3 x := okx.mono s3.ext.cle
  have O3 : OutAt t_Sl_uint8 1 h3 v ws i So := O2.keep fun b hb => by
    obtain ⟨o, e⟩ := o2.kn b (List.mem_append_right _ hb)
    rw [e, x3 _ _ e]
  have C3 : CrAt R3 h3 vc c S := C2.ext (o2.sub' fun z hz => List.mem_append_left _ hz) s3.ext x3
  obtain ⟨ab, cb, eb, _⟩ := okx.rb.shape
  obtain ⟨at', ct, et, _⟩ := okx.rt.shape
  have lnb : ∀ {h : Hp} {K : Value → Prop}, q P h (Builtin.len_ #[t_Sl_uint8] t_int #[x.vb]) K = K (.int .i64 x.b.length) := fun {h K} => by rw [eb]; exact q_lenS u_Sl_uint8 _ _ _
  have lnt : ∀ {h : Hp} {K : Value → Prop}, q P h (Builtin.len_ #[t_Sl_uint8] t_int #[x.vt]) K = K (.int .i64 x.t.length) := fun {h K} => by rw [et]; exact q_lenS u_Sl_uint8 _ _ _
  intro J14
  have go : x.b.length ≤ 300 → x.t.length ≤ 300 → J14 (.bool false) h3 := by
    intro lb lt
    simp -zeta only [J14]
    clear J14
    simp -zeta (disch := omega) only [GL, RL, cf0, cf1, cf2, cf3, sl32, sl12, g2, g3]
    rw [q_of (nilSeal C3)]
    have hm : may x.key x.nonce := ⟨okx.lk, okx.ln⟩
    refine T_crSeal oS3 C3 (fc.mono (by omega)) qk qn okx3.rb okx3.rt okx.bk okx.bn okx.bb okx.bt (by omega) (by omega) fun v56 R4 h6 S4 s4 C4 hv => ?_
    have h0 : (crSeal c x.key x.nonce x.b x.t).1 = 0 := by cases c <;> simp only [crSeal, if_pos hm]
    have lX := crSeal_len h0
    have bX := crSeal_bytes (c := c) (key := x.key) (nonce := x.nonce) (b := x.b) okx.bt
    have op : ∀ c2, Later (crSeal c x.key x.nonce x.b x.t).2.2 c2 → crOpen c2 x.key x.nonce x.b (crSeal c x.key x.nonce x.b x.t).2.1 = (0, x.t) := fun c2 l => crSeal_open h0 l (by have := few_much fc; omega)
    have lat := seal_later c x.key x.nonce x.b x.t
    have fn : few (i + 1) (crSeal c x.key x.nonce x.b x.t).2.2 := fc.next _ _ _ _ (by omega)
    rw [if_pos h0] at hv
    rw [h0]
    generalize (crSeal c x.key x.nonce x.b x.t).2.1 = X at hv lX bX op
    generalize (crSeal c x.key x.nonce x.b x.t).2.2 = c' at C4 op lat fn
    rw [ext0, ext1]
    obtain ⟨oO4, dj4, kO4⟩ := s4.frame oO3 dj
    have O4 := O3.keep kO4
    have g3' : h6.cell ⟨r, 45, none⟩ = some x.vt := (a3.facts (s4.ext.trans s4.own.sub) okx.lk okx.ln).2.2.2
    have z0 : ((((0 : Nat) : Int)) != 0) = false := rfl
    have ey : flat v56 = true := rn_flat hv
    obtain ⟨ay, cy, rfl, _⟩ := hv.shape
    have eq16 : (((X.length : Nat) : Int) != ((x.t.length : Nat) : Int) + 16) = false := by rw [bne_eq_false_iff_eq]; omega
    simp -zeta (disch := omega) only [GL, RL, z0, cf3, g3', lnt, if_true, wi64, eq16, Bool.false_eq_true, if_false]
    generalize Value.slice ay X.length cy = y at hv ey
    refine aw_lit (n := 1) (ps := [(0, y)]) u_Sl_Sl_uint8 z_Sl_uint8 zr_Sl_uint8 rfl (by omega) (by intro p hp; rw [List.mem_singleton.1 hp]; exact ⟨ey, by show _ < 1; omega⟩) fun w h7 n7 _ => ?_
    have n7' : New h6 t_Sl_uint8 1 w h7 [y] 1 := n7
    obtain ⟨R5, s5, q5⟩ := Stp.new (s4.own.app oO4) n7'
    have O5 : OutAt t_Sl_uint8 1 h7 v ws i So := O4.keep fun b hb => by
      obtain ⟨o, e⟩ := oO4.kn b hb
      rw [e, n7'.ext _ _ e]
    refine aw_appendO u_Sl_Sl_uint8 u_Sl_Sl_uint8 nfo_Sl_uint8 rfl (by omega) O5 n7'.rds (by intro z hz; rw [List.mem_singleton.1 hz]; exact ey) (by omega) fun v' h8 So' O8 kp8 fr8 => ?_
    have oO5 : Own R5 h7 So := s5.own.sub' fun z hz => List.mem_append_right _ hz
    have oS5 : Own R5 h7 S4 := s5.own.sub' fun z hz => List.mem_append_left _ hz
    have s8 := OutAt.step oO5 O8 kp8 fr8
    obtain ⟨oS8, dj8, kS8⟩ := s8.frame oS5 fun b hb q => dj4 b q hb
    have C8 := (C4.ext s4.own s5.ext n7'.ext).keep (.refl _) kS8
    have e1 : ((i : Nat) : Int) + 1 = ((i + 1 : Nat) : Int) := by omega
    have lws : ws.length = i := by
      have := O2.rds.1
      omega
    simp -zeta (disch := omega) only [GL, RL, wi64, e1]
    refine ⟨h8, .refl _, m - 1, by omega, i + 1, R5, c', S4, So', v', ws ++ [y], by omega, by omega, ((xR.trans s3.ext).trans s4.ext).trans s5.ext, oS8.app s8.own, C8, fn, O8, fun b hb q => dj8 b q hb, ?_, rfl⟩
    intro j z hj ez
    by_cases hji : j < i
    · obtain ⟨y', ey', tl⟩ := told j z hji ez
      exact ⟨y', by rw [List.getElem?_append_left (by omega)]; exact ey', tl.mono ((s3.ext.trans s4.ext).trans s5.ext) lat⟩
    · obtain rfl : j = i := by omega
      rw [ex] at ez
      cases ez
      exact ⟨y, by rw [List.getElem?_append_right (by omega), lws, Nat.sub_self]; rfl, X, hv.mono s5.ext.cle, bX, lX, lb, lt, op⟩
  clear_value J14
  have l1 : decide ((300 : Int) < ((x.b.length : Nat) : Int)) = decide (300 < x.b.length) := by rw [decide_eq_decide]; omega
  have l2 : decide ((300 : Int) < ((x.t.length : Nat) : Int)) = decide (300 < x.t.length) := by rw [decide_eq_decide]; omega
  simp (disch := omega) only [GL, RL, cf2, cf3, g2, g3, lnb, lnt, l1, l2]
  by_cases q1 : 300 < x.b.length
  · simp only [q1, decide_true, Bool.true_eq_false, if_false, if_true]
    exact k _
  simp only [q1, decide_false, if_true]
  by_cases q2 : 300 < x.t.length
  · simp only [q2, decide_true, if_true]
    exact k _
  simp only [q2, decide_false, Bool.false_eq_true, if_false]
  exact go (by omega) (by omega)
end
end Go.Proofs.Ytnecdbclhdbaoaa
