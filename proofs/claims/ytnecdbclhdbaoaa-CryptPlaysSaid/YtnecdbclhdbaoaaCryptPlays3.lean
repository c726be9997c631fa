/- cryptPlays_holds cryptPlays proved lifted over: part 3 of its proof; each part's own remarks stand with its declarations. Conditions: each lemma names its own. -/
import Derived.Test.YtnecdbclhdbaoaaCryptPlays2
set_option linter.unusedSimpArgs false
set_option linter.unusedVariables false
set_option linter.unusedSimpArgs false
set_option linter.unusedVariables false
set_option maxRecDepth 100000
set_option maxHeartbeats 1000000
namespace Go.Proofs.Ytnecdbclhdbaoaa
open Go Go.SL Go.Pure
theorem pk_ld8 {h : Hp} {a : Addr} {v : Value} (e : h.cell a = some v) : peek P h (Instr.loadAt t_Sl_uint8 (.pointer (some a))) = some v := by
  obtain ⟨x, hx, e⟩ := withVal_elim (K := fun x => x = v) ((q_ld (P := P) (h := h) (K := fun x => x = v) u_Sl_uint8 rfl a).mpr (by rw [e]; rfl))
  rw [e] at hx
  exact hx
/-- Bytes that were made on the way from h to h'. -/
def Res (h : Hp) (v : Value) (h' : Hp) (l : List Nat) : Prop :=
  Hp.ext h h' ∧ ((∀ R, Rn R .u8 v l) ∨ ∃ b o, h b = none ∧ h' b = some o ∧ ∀ R : Hp, R b = some o → Rn R .u8 v l)
theorem Res.of {h H h' : Hp} {t : Nat} {v : Value} {l : List Nat} (x : Hp.ext h H) (n : Nn H t .u8 v h' l) : Res h v h' l := by
  refine ⟨x.trans n.ext, ?_⟩
  rcases n.2 with ⟨rfl, h0, rfl⟩ | ⟨b, c, f, hb, hc, rfl, rfl, hf⟩
  · left
    intro R
    obtain rfl := List.eq_nil_of_length_eq_zero h0
    exact rn_nil _ _
  · right
    refine ⟨b, _, x.none hb, Hp.set_same .., fun R e => ⟨by rw [nv_len]; omega, _, c, rfl, hc, .inr ⟨b, 0, rfl, fun i y ey => by rw [cell_row e, Nat.zero_add]; exact ey⟩⟩⟩
theorem Res.rn {h : Hp} {v : Value} {h' : Hp} {l : List Nat} (r : Res h v h' l) : Rn h' .u8 v l := by
  rcases r.2 with q | ⟨b, o, _, e, q⟩
  · exact q h'
  · exact q h' e
theorem Res.up {h0 h : Hp} {v : Value} {h' : Hp} {l : List Nat} (x : Hp.ext h0 h) (r : Res h v h' l) : Res h0 v h' l := by
  refine ⟨x.trans r.1, r.2.imp id fun ⟨b, o, hb, e, q⟩ => ⟨b, o, x.none hb, e, q⟩⟩
theorem Res.stp {R h : Hp} {S : List Nat} {v : Value} {h' : Hp} {l : List Nat} (w : Own R h S) (r : Res h v h' l) : ∃ R', Stp R h R' h' S S ∧ Rn R' .u8 v l := by
  obtain ⟨x, q | ⟨b, o, hb, e, q⟩⟩ := r
  · exact ⟨R, ⟨.refl _, fun y oy _ ey => x y oy ey, fun y oy n _ => n, fun y oy _ _ r => r, ⟨fun y oy ey => x y oy (w.sub y oy ey), w.dis, fun y hy => let ⟨oy, ey⟩ := w.kn y hy; ⟨oy, x y oy ey⟩⟩⟩, q R⟩
  · have hR : R b = none := w.sub.none hb
    refine ⟨R.set b o, ⟨ext_set _ hR, fun y oy _ ey => x y oy ey, fun y oy n _ => n, fun y oy _ ey r => ?_, ⟨fun y oy ey => ?_, fun y hy => ?_, fun y hy => ?_⟩⟩, q _ (Hp.set_same ..)⟩
    · rw [Hp.set_ne _ _ (by rintro rfl; rw [hb] at ey; cases ey)]; exact r
    · by_cases hyb : y = b
      · subst hyb; rw [Hp.set_same] at ey; rw [← ey]; exact e
      · rw [Hp.set_ne _ _ hyb] at ey; exact x y oy (w.sub y oy ey)
    · obtain ⟨oy, ey⟩ := w.kn y hy
      rw [Hp.set_ne _ _ (by rintro rfl; rw [hb] at ey; cases ey)]; exact w.dis y hy
    · obtain ⟨oy, ey⟩ := w.kn y hy
      exact ⟨oy, x y oy ey⟩
/-- A step that only makes blocks that nobody asks for. -/
theorem Stp.ext0 {R h : Hp} {S : List Nat} {h' : Hp} (w : Own R h S) (x : Hp.ext h h') : Stp R h R h' S S :=
  ⟨.refl _, fun y oy _ ey => x y oy ey, fun y oy n _ => n, fun y oy _ _ r => r, ⟨fun y oy ey => x y oy (w.sub y oy ey), w.dis, fun y hy => let ⟨oy, ey⟩ := w.kn y hy; ⟨oy, x y oy ey⟩⟩⟩
section
variable {h : Hp} {K : Value → Hp → Prop}
end
end Go.Proofs.Ytnecdbclhdbaoaa
set_option linter.unusedSimpArgs false
set_option linter.unusedVariables false
set_option maxRecDepth 100000
set_option maxHeartbeats 1000000
namespace Go.Proofs.Ytnecdbclhdbaoaa
open Go Go.SL Go.Pure
theorem Own.sub' {R h : Hp} {S T : List Nat} (w : Own R h S) (m : ∀ x, x ∈ T → x ∈ S) : Own R h T := ⟨w.sub, fun b hb => w.dis b (m b hb), fun b hb => w.kn b (m b hb)⟩
theorem Own.app {R h : Hp} {S T : List Nat} (w : Own R h S) (v : Own R h T) : Own R h (S ++ T) := ⟨w.sub, fun b hb => (List.mem_append.1 hb).elim (w.dis b) (v.dis b), fun b hb => (List.mem_append.1 hb).elim (w.kn b) (v.kn b)⟩
/-- Less is owned behind a step. -/
theorem Stp.drop {R h R' h' : Hp} {S S' T' : List Nat} (a : Stp R h R' h' S S') (m : ∀ x, x ∈ T' → x ∈ S') : Stp R h R' h' S T' :=
  ⟨a.ext, a.keep, fun b o n e q => a.frS b o n e (m b q), a.frR, a.own.sub' m⟩
/-- A row that grows is owned. -/
theorem OutAt.step {t s n' : Nat} {R h h' : Hp} {v' : Value} {xs' : List Value} {So So' : List Nat} (w : Own R h So) (o' : OutAt t s h' v' xs' n' So') (kp : ∀ x o, x ∉ So → h x = some o → h' x = some o) (fr : ∀ x o, x ∉ So → h x = some o → x ∉ So') :
    Stp R h R h' So So' := by
  refine ⟨.refl _, kp, fr, fun x o _ _ r => r, ⟨fun x o e => ?_, fun x hx => ?_, fun x hx => ?_⟩⟩
  · refine kp x o (fun hx => ?_) (w.sub x o e)
    rw [w.dis x hx] at e; cases e
  · cases e : R x with
    | none => rfl
    | some o =>
      refine absurd hx (fr x o (fun hx => ?_) (w.sub x o e))
      rw [w.dis x hx] at e; cases e
  · rcases o' with ⟨_, _, _, rfl⟩ | ⟨b, c, f, hb, _, _, _, rfl, _⟩
    · cases hx
    · rw [List.mem_singleton.1 hx]; exact ⟨_, hb⟩
section
variable {h : Hp} {K : Value → Hp → Prop}
end
end Go.Proofs.Ytnecdbclhdbaoaa
set_option linter.unusedSimpArgs false
set_option linter.unusedVariables false
set_option maxRecDepth 100000
set_option maxHeartbeats 1000000
namespace Go.Proofs.Ytnecdbclhdbaoaa
open Go Go.SL Go.Pure
theorem nilSeal {R h : Hp} {vc : Value} {c : Cr} {S : List Nat} (a : CrAt R h vc c S) : peek P emp (nilCk (.func (.method "Seal") #[vc] #[])) = some (.func (.method "Seal") #[vc] #[]) := by
  cases c with
  | real => obtain ⟨rfl, _⟩ := a; kernel_rfl
  | book ts bs => obtain ⟨p, rfl, _⟩ := a; kernel_rfl
theorem nilOpen {R h : Hp} {vc : Value} {c : Cr} {S : List Nat} (a : CrAt R h vc c S) : peek P emp (nilCk (.func (.method "Open") #[vc] #[])) = some (.func (.method "Open") #[vc] #[]) := by
  cases c with
  | real => obtain ⟨rfl, _⟩ := a; kernel_rfl
  | book ts bs => obtain ⟨p, rfl, _⟩ := a; kernel_rfl
theorem CrAt.ext {R R' h h' : Hp} {vc : Value} {c : Cr} {S : List Nat} (a : CrAt R h vc c S) (w : Own R h S) (e : Hp.ext R R') (x : Hp.ext h h') : CrAt R' h' vc c S := a.keep e fun b hb => by
  obtain ⟨o, eo⟩ := w.kn b hb
  rw [eo, x _ _ eo]
section
variable {h : Hp} {K : Value → Hp → Prop}
end
end Go.Proofs.Ytnecdbclhdbaoaa
set_option linter.unusedSimpArgs false
set_option linter.unusedVariables false
set_option maxRecDepth 100000
set_option maxHeartbeats 1000000
namespace Go.Proofs.Ytnecdbclhdbaoaa
open Go Go.SL Go.Pure
theorem openL_len (key nonce b x : List Nat) : (openL key nonce b x).2.length ≤ x.length := by
  unfold openL
  split
  · simp
  · split
    · rw [xorL_len, List.length_take]; omega
    · simp
theorem crOpen_len {n : Nat} {c : Cr} (f : few n c) (key nonce b x : List Nat) : (crOpen c key nonce b x).2.length ≤ x.length := by
  unfold crOpen
  split
  · cases c with
    | real => exact openL_len _ _ _ _
    | book ts bs =>
      show (bookOpen bs key nonce b x).2.length ≤ _
      unfold bookOpen
      split
      · simp
      · split
        · simp
        · split
          · rename_i s _ q
            have := congrArg List.length q.2.2.2
            rw [boxB_len] at this
            show s.text.length ≤ _
            omega
          · simp
  · simp
section
variable {h : Hp} {K : Value → Hp → Prop}
end
end Go.Proofs.Ytnecdbclhdbaoaa
set_option linter.unusedSimpArgs false
set_option linter.unusedVariables false
set_option maxRecDepth 100000
namespace Go.Pure
/-- A crypt that has sealed more since. -/
def Later (c c' : Cr) : Prop :=
  match c, c' with
  | .real, .real => True
  | .book _ bs, .book _ bs' => bs <+: bs'
  | _, _ => False
theorem Later.refl (c : Cr) : Later c c := by cases c <;> simp [Later]
theorem Later.trans {a b c : Cr} (x : Later a b) (y : Later b c) : Later a c := by
  cases a <;> cases b <;> cases c <;> simp only [Later] at * <;> first | trivial | exact x.elim | exact y.elim | exact x.trans y
/-- How much was sealed. -/
def much (c : Cr) : Nat := match c with
  | .real => 0
  | .book _ bs => bs.length
theorem crSeal_open {c c2 : Cr} {key nonce b t : List Nat} (h0 : (crSeal c key nonce b t).1 = 0) (hl : Later (crSeal c key nonce b t).2.2 c2) (hm : much c < 18446744073709551616) : crOpen c2 key nonce b (crSeal c key nonce b t).2.1 = (0, t) := by
  cases c with
  | real =>
    unfold crSeal at h0 hl ⊢
    dsimp only at h0 hl ⊢
    by_cases hmay : may key nonce
    · rw [if_pos hmay] at hl ⊢
      cases c2 with
      | real => unfold crOpen; rw [if_pos hmay]; exact open_seal _ _ _ _
      | book _ _ => exact hl.elim
    · rw [if_neg hmay] at h0; cases h0
  | book ts bs =>
    unfold crSeal at h0 hl ⊢
    dsimp only at h0 hl ⊢
    by_cases hmay : may key nonce
    · rw [if_pos hmay] at hl ⊢
      cases c2 with
      | real => exact hl.elim
      | book ts2 bs2 =>
        unfold crOpen; rw [if_pos hmay]
        show bookOpen bs2 key nonce b (boxB bs.length (t.length + 16)) = _
        unfold bookOpen
        have hm : bs.length < 18446744073709551616 := hm
        have p8 : (256 : Nat) ^ 8 = 18446744073709551616 := rfl
        rw [if_neg (by rw [boxB_len]; omega), boxB_take8 _ _ (by omega), bval_bg, p8, Nat.mod_eq_of_lt hm]
        have hl' : bs ++ [(⟨key, nonce, b, t⟩ : Box)] <+: bs2 := hl
        obtain ⟨z, hz⟩ := hl'
        have : bs2[bs.length]? = some ⟨key, nonce, b, t⟩ := by rw [← hz]; simp
        rw [this]
        simp
    · rw [if_neg hmay] at h0; cases h0
end Go.Pure
set_option linter.unusedSimpArgs false
set_option linter.unusedVariables false
set_option maxRecDepth 100000
set_option maxHeartbeats 1000000
namespace Go.Proofs.Ytnecdbclhdbaoaa
open Go Go.SL Go.Pure
/-- A box that holds an ask. -/
def Ask17 (R : Hp) (r : Nat) (vk vp vx vl : Value) (size : Int) : Prop := R r = some (.row t_orloplaw17_Ask [vk, vp, vx, vl, .int .i64 size] 5 (some (0, 0)))
theorem Ask17.cells {R h : Hp} {r : Nat} {vk vp vx vl : Value} {size : Int} (a : Ask17 R r vk vp vx vl size) (x : Hp.ext R h) :
    h.cell ⟨r, 0, none⟩ = some vk ∧ h.cell ⟨r, 1, none⟩ = some vp ∧ h.cell ⟨r, 2, none⟩ = some vx ∧ h.cell ⟨r, 3, none⟩ = some vl ∧ h.cell ⟨r, 4, none⟩ = some (.int .i64 size) := by
  have e := x _ _ a
  exact ⟨by rw [cell_row e]; rfl, by rw [cell_row e]; rfl, by rw [cell_row e]; rfl, by rw [cell_row e]; rfl, by rw [cell_row e]; rfl⟩
theorem sz_ask17 : sz P t_orloplaw17_Ask = some 5 := by kernel_rfl
theorem Ask17.load {R h : Hp} {r : Nat} {vk vp vx vl : Value} {size : Int} (a : Ask17 R r vk vp vx vl size) (x : Hp.ext R h) {K : Value → Prop} : q P h (Instr.loadAt t_orloplaw17_Ask (.pointer (some ⟨r, 0, none⟩))) K = K (.agg #[vk, vp, vx, vl, .int .i64 size]) :=
  q_ldRow (ys := [vk, vp, vx, vl, .int .i64 size]) u_orloplaw17_Ask rfl sz_ask17 (x _ _ a)
def small17 (ctx layer : List Nat) (size : Int) : Prop := ctx.length ≤ 300 ∧ layer.length ≤ 1500 ∧ (size < 1 ∨ (layer.length : Int).tdiv size ≤ 60)
instance (ctx layer : List Nat) (size : Int) : Decidable (small17 ctx layer size) := by unfold small17; infer_instance
def k32 : List Nat := List.replicate 32 0
theorem k32_b : Bytes k32 := fun x hx => by rw [k32, List.mem_replicate] at hx; omega
theorem q_eqlNilI {h : Hp} {K : Value → Prop} (x y : Operand) (t : Nat) (v : Value) : q P h (eqop .eql t_crypt_Crypt x y (.iface t v) .nilIface) K = K (.bool false) := q_of (by
  unfold eqop
  rw [peek_bind]
  have : peek P h (eqGuard .eql t_crypt_Crypt x y (.iface t v) .nilIface) = some () := by rfl
  rw [this, Option.bind_some]
  show peek P h (Sem.bind (Op.equal t_crypt_Crypt (.iface t v) .nilIface) _) = _
  rw [peek_bind]
  have : peek P h (Op.equal t_crypt_Crypt (.iface t v) .nilIface) = some false := by
    show peek P h (Sem.bind (underlying t_crypt_Crypt) _) = _
    rw [peek_bind, pk_und u_crypt_Crypt]
    rfl
  rw [this]
  rfl) K
section
variable {h : Hp} {K : Value → Hp → Prop}
end
end Go.Proofs.Ytnecdbclhdbaoaa
set_option linter.unusedSimpArgs false
set_option linter.unusedVariables false
set_option maxRecDepth 100000
set_option maxHeartbeats 1000000
namespace Go.Proofs.Ytnecdbclhdbaoaa
open Go Go.SL Go.Pure
section
variable {h : Hp} {K : Value → Hp → Prop}
theorem T_ref_Back {v : Value} {l : List Nat} (hv : Rn h .u8 v l) (bl : Bytes l) (ll : l.length ≤ 1099511627776) (k : ∀ r h', Nn h t_uint8 .u8 r h' l.reverse → K r h') : Cn P n_orlopref01_Back #[v] h K := by
  refine F_orlopref01_Back ?_
  unfold s_orlopref01_Back
  obtain ⟨a, c, rfl, hc⟩ := hv.shape
  simp (disch := omega) only [GL, RL, wi64]
  refine Lp_mk (fun m vs h' => ∃ (j : Nat) (vo : Value), j + m = l.length ∧ Nn h t_uint8 .u8 vo h' (l.reverse.take j) ∧ vs = [vo, .int .i64 ((l.length : Int) - 1 - (j : Int))]) l.length ⟨0, .slice none 0 0, by omega, Nn.nil .., by simp⟩ ?_
  rintro m vs h1 ⟨j, vo, hj, nO, rfl⟩
  have eg : decide ((0 : Int) ≤ (l.length : Int) - 1 - (j : Int)) = decide (j < l.length) := by rw [decide_eq_decide]; omega
  simp (disch := omega) only [GL, RL, eg]
  by_cases hlt : j < l.length
  · obtain ⟨b, o, rfl, hy⟩ := hv.pos (by omega)
    have ei : (l.length : Int) - 1 - (j : Int) = ((l.length - 1 - j : Nat) : Int) := by omega
    have cy : h1.cell ⟨b, o + (l.length - 1 - j), none⟩ = some (.int .u8 ((l.getD (l.length - 1 - j) 0 : Nat) : Int)) := nO.cle _ _ (hy _ (by omega))
    have es : ((l.length - 1 - j : Nat) : Int) - 1 = (l.length : Int) - 1 - ((j + 1 : Nat) : Int) := by omega
    simp (disch := omega) only [GL, RL, hlt, decide_true, if_true, ei, cy, wi64, es]
    refine aw_lit (ps := [(0, _)]) u_Sl_uint8 z_uint8 zr_uint8 rfl (by omega) (by intro p hp; rw [List.mem_singleton.1 hp]; exact ⟨rfl, by show _ < 1; omega⟩) fun w h2 n2 _ => ?_
    have n2' : Nn h1 t_uint8 .u8 w h2 [l.getD (l.length - 1 - j) 0] := n2
    refine aw_appendN u_Sl_uint8 u_Sl_uint8 nfo_uint8 rfl (by omega) nO n2' (nv_flat _ _) (by simp; omega) fun vo' h3 n3 => ?_
    rw [← nv_app] at n3
    refine ⟨h3, .refl _, m - 1, by omega, j + 1, vo', by omega, ?_, rfl⟩
    have e : l.reverse.take (j + 1) = l.reverse.take j ++ [l.getD (l.length - 1 - j) 0] := by
      rw [List.take_succ_eq_append_getElem (by rw [List.length_reverse]; exact hlt), List.getElem_reverse]
      simp [List.getD_eq_getElem?_getD, show l.length - 1 - j < l.length by omega]
    rw [e]
    unfold Nn
    rw [List.length_append]
    exact n3
  · simp only [hlt, decide_false, Bool.false_eq_true, if_false]
    rw [List.take_of_length_le (by rw [List.length_reverse]; omega)] at nO
    exact k _ _ nO
theorem T_ref_big12 (n : Nat) (hn : n < 9223372036854775808) (k : ∀ r h', Nn h t_uint8 .u8 r h' (bg 8 n) → K r h') : Cn P n_orlopref12_big #[.int .i64 (n : Int)] h K := by
  refine Cn_wk (F_orlopref12_big ?_)
  unfold s_orlopref12_big
  simp (disch := omega) only [GL, RL, wu64i]
  refine T_orlopref01_Little n 8 (by omega) (by omega) fun v h1 n1 => ?_
  refine T_ref_Back n1.rn (le_bytes 8 n) (by rw [le_len]; omega) fun r h2 n2 => ?_
  obtain ⟨h0, l0, n0⟩ := Nn.down n1.le n2
  exact ⟨h0, l0, k r h0 n0⟩
theorem T_ref_GetBig {v : Value} {l : List Nat} (n : Nat) (hn : n ≤ 8) (hv : Rn h .u8 v l) (bl : Bytes l) (hl : n ≤ l.length) (k : K (.int .u64 ((bval (l.take n) : Nat) : Int)) h) : Cn P n_orlopref01_GetBig #[v, .int .i64 (n : Int)] h K := by
  refine F_orlopref01_GetBig ?_
  unfold s_orlopref01_GetBig
  refine Lp_mk (fun m vs h' => ∃ i : Nat, i + m = n ∧ h' = h ∧ vs = [.int .u64 ((bval (l.take i) : Nat) : Int), .int .i64 (i : Int)]) n ⟨0, by omega, rfl, rfl⟩ ?_
  rintro m vs h1 ⟨i, hi, rfl, rfl⟩
  simp (disch := omega) only [GL, RL, lt_dec]
  by_cases hlt : i < n
  · simp only [hlt, decide_true, if_true]
    obtain ⟨a, c, rfl, hc⟩ := hv.shape
    obtain ⟨b, o, rfl, hy⟩ := hv.pos (by omega)
    have hil : i < l.length := by omega
    have h2 := bval_take_lt bl i
    have h3 := bl.getD i
    have h4 : 256 ^ (i + 1) ≤ 256 ^ 8 := Nat.pow_le_pow_right (by decide) (by omega)
    have h5 : bval (l.take i) * 256 + l.getD i 0 < 256 ^ (i + 1) := by rw [Nat.pow_succ]; omega
    have p8 : (256 : Nat) ^ 8 = 18446744073709551616 := rfl
    rw [p8] at h4
    have e1 : ((bval (l.take i) : Nat) : Int) * 256 = ((bval (l.take i) * 256 : Nat) : Int) := by omega
    have e2 : ((bval (l.take i) * 256 : Nat) : Int) + ((l.getD i 0 : Nat) : Int) = ((bval (l.take i) * 256 + l.getD i 0 : Nat) : Int) := by omega
    have e3 : ((i : Nat) : Int) + 1 = ((i + 1 : Nat) : Int) := by omega
    simp (disch := omega) only [GL, RL, wi64, wu64i, lt_dec, e1, hil, decide_true, if_true, hy i hil, e2, e3]
    exact ⟨_, .refl _, m - 1, by omega, i + 1, by omega, rfl, by rw [bval_take_succ l i hil]⟩
  · simp only [hlt, decide_false, Bool.false_eq_true, if_false]
    obtain rfl : i = n := by omega
    exact k
end
end Go.Proofs.Ytnecdbclhdbaoaa
set_option linter.unusedSimpArgs false
set_option linter.unusedVariables false
set_option maxRecDepth 100000
set_option maxHeartbeats 4000000
namespace Go.Proofs.Ytnecdbclhdbaoaa
open Go Go.SL Go.Pure
theorem pk_q3 {h : Hp} {m : Sem Value} {v : Value} (e : ∀ K : Value → Prop, q P h m K = K v) : peek P h m = some v := by
  obtain ⟨x, hx, e2⟩ := withVal_elim (K := fun x => x = v) ((e fun x => x = v).mpr rfl)
  rw [e2] at hx
  exact hx
theorem pk_ld32 {h : Hp} {a : Addr} {v : Value} (e : h.cell a = some v) : peek P h (Instr.loadAt t_uint32 (.pointer (some a))) = some v := pk_q3 fun K => (q_ld u_uint32 rfl a).trans (by rw [e]; rfl)
section
variable {h : Hp} {K : Value → Hp → Prop}
theorem T_ref_ror (x n : Nat) (hx : x < 4294967296) (hn : 0 < n) (hn2 : n < 32) (k : K (.int .u32 ((rotr x n : Nat) : Int)) h) : Cn P n_orlopref02_ror #[.int .u32 x, .int .i64 (n : Int)] h K := by
  refine F_orlopref02_ror ?_
  unfold s_orlopref02_ror
  have e32 : (32 : Int) - (n : Int) = ((32 - n : Nat) : Int) := by omega
  simp (disch := omega) only [GL, RL, wu64i, wi64, e32]
  have e1 : min (32 - n) IntKind.u32.bits = 32 - n := by simp only [IntKind.bits]; omega
  have e2 : min n IntKind.u32.bits = n := by simp only [IntKind.bits]; omega
  have h1 : x / 2 ^ n ≤ x := Nat.div_le_self _ _
  have h2 := m32 (x * 2 ^ (32 - n))
  have h3 := rotr_eq x n (by omega)
  rw [e1, e2, mulp, fdivp, wu32]
  generalize x / 2 ^ n = y at h1 h3 ⊢
  generalize x * 2 ^ (32 - n) % 4294967296 = z at h2 h3 ⊢
  rw [or32 (by omega) (by omega) (by omega) (by omega), Int.toNat_natCast, Int.toNat_natCast, h3]
  exact k
theorem T_ref_Words {vb : Value} {b : List Nat} {F : List Value → Hp → Prop} (hb : Rn h .u8 vb b) (bb : Bytes b) (lb : b.length = 64)
    (k : ∀ v h', Nn h t_uint32 .u32 v h' (schL b) → F [v, .int .i64 64] h') :
    Lp [(Value.slice none 0 0), (Value.int .i64 0)] h fun nx5 vs5 h =>
q P h (binOp .lss t_int (vs5.getD 1 undef) (Value.int .i64 16)) fun t24 => cnd t24 (q P h (binOp .mul t_int (Value.int .i64 4) (vs5.getD 1 undef)) fun t30 => q P h (Instr.sliceAt t_Sl_uint8 vb (some t30) none none) fun t31 => Cn P n_orlopref01_GetBig #[t31, (Value.int .i64 4)] h fun t32 h => q P h (convert t_uint64 t_uint32 t32) fun t33 => aw P (Instr.buildSlice t_Sl_uint32 1 #[(0, t33)]) (fun t34 h => aw P (Builtin.append_ #[t_Sl_uint32, t_Sl_uint32] t_Sl_uint32 #[(vs5.getD 0 undef), t34]) (fun t35 h => q P h (binOp .add t_int (vs5.getD 1 undef) (Value.int .i64 1)) fun t26 => nx5 [t35, t26] h) h) h) (
Lp [(vs5.getD 0 undef), (Value.int .i64 16)] h fun nx11 vs11 h =>
q P h (binOp .lss t_int (vs11.getD 1 undef) (Value.int .i64 64)) fun t37 => cnd t37 (q P emp (binOp .sub t_int (vs11.getD 1 undef) (Value.int .i64 15)) fun t42 => q P emp (Instr.indexAt t_Sl_uint32 (vs11.getD 0 undef) t42) fun t43 => q P h (Instr.loadAt t_uint32 t43) fun t44 => q P emp (binOp .sub t_int (vs11.getD 1 undef) (Value.int .i64 15)) fun t48 => q P emp (Instr.indexAt t_Sl_uint32 (vs11.getD 0 undef) t48) fun t49 => q P h (Instr.loadAt t_uint32 t49) fun t50 => q P emp (binOp .sub t_int (vs11.getD 1 undef) (Value.int .i64 15)) fun t55 => q P emp (Instr.indexAt t_Sl_uint32 (vs11.getD 0 undef) t55) fun t56 => q P h (Instr.loadAt t_uint32 t56) fun t57 => q P emp (binOp .shr t_uint32 t57 (Value.int .u64 3)) fun t58 => Cn P n_orlopref02_ror #[t44, (Value.int .i64 7)] h fun t45 h => peek P h (Instr.loadAt t_uint32 t56) = some t57 ∧ peek P h (Instr.loadAt t_uint32 t49) = some t50 ∧ Cn P n_orlopref02_ror #[t50, (Value.int .i64 18)] h fun t51 h => peek P h (Instr.loadAt t_uint32 t56) = some t57 ∧ q P emp (binOp .xor t_uint32 t45 t51) fun t52 => q P emp (binOp .xor t_uint32 t52 t58) fun t59 => q P emp (binOp .sub t_int (vs11.getD 1 undef) (Value.int .i64 2)) fun t62 => q P emp (Instr.indexAt t_Sl_uint32 (vs11.getD 0 undef) t62) fun t63 => q P h (Instr.loadAt t_uint32 t63) fun t64 => q P emp (binOp .sub t_int (vs11.getD 1 undef) (Value.int .i64 2)) fun t68 => q P emp (Instr.indexAt t_Sl_uint32 (vs11.getD 0 undef) t68) fun t69 => q P h (Instr.loadAt t_uint32 t69) fun t70 => q P emp (binOp .sub t_int (vs11.getD 1 undef) (Value.int .i64 2)) fun t75 => q P emp (Instr.indexAt t_Sl_uint32 (vs11.getD 0 undef) t75) fun t76 => q P h (Instr.loadAt t_uint32 t76) fun t77 => q P emp (binOp .shr t_uint32 t77 (Value.int .u64 10)) fun t78 => Cn P n_orlopref02_ror #[t64, (Value.int .i64 17)] h fun t65 h => peek P h (Instr.loadAt t_uint32 t76) = some t77 ∧ peek P h (Instr.loadAt t_uint32 t69) = some t70 ∧ Cn P n_orlopref02_ror #[t70, (Value.int .i64 19)] h fun t71 h => peek P h (Instr.loadAt t_uint32 t76) = some t77 ∧ q P emp (binOp .xor t_uint32 t65 t71) fun t72 => q P emp (binOp .xor t_uint32 t72 t78) fun t79 => q P emp (binOp .sub t_int (vs11.getD 1 undef) (Value.int .i64 16)) fun t83 => q P emp (Instr.indexAt t_Sl_uint32 (vs11.getD 0 undef) t83) fun t84 => q P h (Instr.loadAt t_uint32 t84) fun t85 => q P emp (binOp .add t_uint32 t85 t59) fun t87 => q P emp (binOp .sub t_int (vs11.getD 1 undef) (Value.int .i64 7)) fun t90 => q P emp (Instr.indexAt t_Sl_uint32 (vs11.getD 0 undef) t90) fun t91 => q P h (Instr.loadAt t_uint32 t91) fun t92 => q P emp (binOp .add t_uint32 t87 t92) fun t93 => q P emp (binOp .add t_uint32 t93 t79) fun t95 => aw P (Instr.buildSlice t_Sl_uint32 1 #[(0, t95)]) (fun t96 h => aw P (Builtin.append_ #[t_Sl_uint32, t_Sl_uint32] t_Sl_uint32 #[(vs11.getD 0 undef), t96]) (fun t97 h => q P h (binOp .add t_int (vs11.getD 1 undef) (Value.int .i64 1)) fun t39 => nx11 [t97, t39] h) h) h) (F vs11 h)) := by
  refine Lp_mk (fun m vs h' => ∃ (i : Nat) (vo : Value), i + m = 16 ∧ Nn h t_uint32 .u32 vo h' (bwords b i) ∧ vs = [vo, .int .i64 (i : Int)]) 16 ⟨0, _, rfl, Nn.nil .., rfl⟩ ?_
  rintro m vs h1 ⟨i, vo, hi, nO, rfl⟩
  have e16 : decide ((i : Int) < 16) = decide (i < 16) := lt_dec i 16
  have e4 : (4 * (i : Int)) = ((4 * i : Nat) : Int) := by push_cast; rfl
  have lw := bwords_len b i
  simp (disch := omega) only [GL, RL, wi64, e16, e4]
  by_cases hlt : i < 16
  · simp only [hlt, decide_true, if_true]
    refine q_slRn u_Sl_uint8 z_uint8 (hb.mono nO.cle) .i64 (4 * i) (by omega) fun w' hw' => ?_
    refine T_ref_GetBig 4 (by omega) hw' (bb.drop _) (by rw [List.length_drop]; omega) ?_
    have hx := bval4_lt bb (4 * i)
    simp (disch := omega) only [GL, RL, wu32i]
    refine aw_lit (ps := [(0, _)]) u_Sl_uint32 z_uint32 zr_uint32 rfl (by omega) (by intro p hp; rw [List.mem_singleton.1 hp]; exact ⟨rfl, by show _ < 1; omega⟩) fun w h2 n2 _ => ?_
    have n2' : Nn h1 t_uint32 .u32 w h2 [bval ((b.drop (4 * i)).take 4)] := n2
    refine aw_appendN u_Sl_uint32 u_Sl_uint32 nfo_uint32 rfl (by omega) nO n2' (nv_flat _ _) (by simp; omega) fun vo' h3 n3 => ?_
    rw [← nv_app] at n3
    refine ⟨h3, .refl _, m - 1, by omega, i + 1, vo', by omega, ?_, rfl⟩
    unfold Nn
    rw [bwords, List.length_append]
    exact n3
  obtain rfl : i = 16 := by omega
  simp only [hlt, decide_false, Bool.false_eq_true, if_false]
  have lw0 : (bwords b 16).length = 16 := bwords_len b 16
  have ww0 : W32 (bwords b 16) := bwords_w bb 16
  have hsch : schL b = schF (bwords b 16) 48 := rfl
  rw [hsch] at k
  clear hsch
  generalize bwords b 16 = w0 at lw0 ww0 k nO
  refine Lp_mk (fun m vs h' => ∃ (n : Nat) (vo : Value), n + m = 48 ∧ Nn h t_uint32 .u32 vo h' (schF w0 n) ∧ vs = [vo, .int .i64 ((16 + n : Nat) : Int)]) 48 ⟨0, _, rfl, nO, rfl⟩ ?_
  clear nO
  rintro m vs h2 ⟨n, vo, hn, nO, rfl⟩
  have ls : (schF w0 n).length = 16 + n := by rw [schF_len, lw0]
  have ws := schF_w ww0 n
  have e64 : decide ((((16 + n : Nat)) : Int) < 64) = decide (16 + n < 64) := lt_dec (16 + n) 64
  have e15 : ((16 + n : Nat) : Int) - 15 = ((n + 1 : Nat) : Int) := by omega
  have e2 : ((16 + n : Nat) : Int) - 2 = ((n + 14 : Nat) : Int) := by omega
  have e16' : ((16 + n : Nat) : Int) - 16 = ((n : Nat) : Int) := by omega
  have e7 : ((16 + n : Nat) : Int) - 7 = ((n + 9 : Nat) : Int) := by omega
  by_cases hlt2 : 16 + n < 64
  case neg =>
    simp (disch := omega) only [GL, RL, e64, hlt2, decide_false, Bool.false_eq_true, if_false]
    have hn48 : n = 48 := by omega
    subst hn48
    exact k _ _ nO
  obtain ⟨bo, co, fo, hbo, hco, hvo, hho, hfo⟩ := nO.form (by omega)
  subst hvo
  have row : h2 bo = some (.row t_uint32 (nv .u32 (schF w0 n)) (co * 1) (some fo)) := by rw [hho]; exact Hp.set_same ..
  have cell : ∀ j, j < 16 + n → h2.cell ⟨bo, j, none⟩ = some (.int .u32 (((schF w0 n).getD j 0 : Nat) : Int)) := fun j hj => by
    rw [cell_row row, nv_getD _ _ _ (by omega)]
  have hx := ws.getD (n + 1)
  have hy := ws.getD (n + 14)
  have es : schStep (schF w0 n) = ((((schF w0 n).getD n 0 + sgS0 ((schF w0 n).getD (n + 1) 0)) % 4294967296 + (schF w0 n).getD (n + 9) 0) % 4294967296 + sgS1 ((schF w0 n).getD (n + 14) 0)) % 4294967296 := by
    unfold schStep
    rw [ls, show 16 + n - 16 = n by omega, show 16 + n - 15 = n + 1 by omega, show 16 + n - 7 = n + 9 by omega, show 16 + n - 2 = n + 14 by omega]
  have cX := cell (n + 1) (by omega)
  have cY := cell (n + 14) (by omega)
  have c0 := cell n (by omega)
  have c9 := cell (n + 9) (by omega)
  have esucc : schF w0 (n + 1) = schF w0 n ++ [schStep (schF w0 n)] := rfl
  generalize hX : (schF w0 n).getD (n + 1) 0 = X at hx es cX
  generalize hY : (schF w0 n).getD (n + 14) 0 = Y at hy es cY
  have sh3 : ((X : Int).fdiv (2 ^ min (Int.toNat 3) IntKind.u32.bits)) = ((X / 2 ^ 3 : Nat) : Int) := fdivp X 3
  have sh10 : ((Y : Int).fdiv (2 ^ min (Int.toNat 10) IntKind.u32.bits)) = ((Y / 2 ^ 10 : Nat) : Int) := fdivp Y 10
  have gX : Nat → (schF w0 n).length = 16 + n := fun _ => ls
  simp (disch := omega) only [GL, RL, wi64, e64, hlt2, decide_true, if_true, ls, e15, e2, cX, sh3]
  refine T_ref_ror X 7 hx (by omega) (by omega) ⟨pk_ld32 cX, pk_ld32 cX, ?_⟩
  refine T_ref_ror X 18 hx (by omega) (by omega) ⟨pk_ld32 cX, ?_⟩
  simp (disch := omega) only [GL, RL, wi64, e2, cY, sh10]
  rw [xor32N (rotr_lt _ _ hx) (rotr_lt _ _ hx), xor32N (x32 (rotr_lt _ _ hx) (rotr_lt _ _ hx)) (Nat.lt_of_le_of_lt (Nat.div_le_self _ _) hx)]
  refine T_ref_ror Y 17 hy (by omega) (by omega) ⟨pk_ld32 cY, pk_ld32 cY, ?_⟩
  refine T_ref_ror Y 19 hy (by omega) (by omega) ⟨pk_ld32 cY, ?_⟩
  simp (disch := omega) only [GL, RL, wi64, e16', e7, c0, c9]
  rw [xor32N (rotr_lt _ _ hy) (rotr_lt _ _ hy), xor32N (x32 (rotr_lt _ _ hy) (rotr_lt _ _ hy)) (Nat.lt_of_le_of_lt (Nat.div_le_self _ _) hy)]
  simp only [add32]
  have eS : ((((schF w0 n).getD n 0 + (rotr X 7 ^^^ rotr X 18 ^^^ X / 2 ^ 3)) % 4294967296 + (schF w0 n).getD (n + 9) 0) % 4294967296 + (rotr Y 17 ^^^ rotr Y 19 ^^^ Y / 2 ^ 10)) % 4294967296 = schStep (schF w0 n) := by
    rw [es]; rfl
  rw [eS]
  refine aw_lit (ps := [(0, _)]) u_Sl_uint32 z_uint32 zr_uint32 rfl (by omega) (by intro p hp; rw [List.mem_singleton.1 hp]; exact ⟨rfl, by show _ < 1; omega⟩) fun w h3 n3 _ => ?_
  have n3' : Nn h2 t_uint32 .u32 w h3 [schStep (schF w0 n)] := n3
  have nO' : New h t_uint32 1 (.slice (some ⟨bo, 0, none⟩) (16 + n) co) h2 (nv .u32 (schF w0 n)) (16 + n) := by rw [← ls]; exact nO
  refine aw_appendN u_Sl_uint32 u_Sl_uint32 nfo_uint32 rfl (by omega) nO' n3' (nv_flat _ _) (by simp; omega) fun vo' h4 n4 => ?_
  rw [← nv_app] at n4
  refine ⟨h4, .refl _, m - 1, by omega, n + 1, vo', by omega, ?_, by rw [show ((16 + n : Nat) : Int) + 1 = ((16 + (n + 1) : Nat) : Int) by omega]⟩
  unfold Nn
  rw [esucc, List.length_append, ls]
  exact n4
end
end Go.Proofs.Ytnecdbclhdbaoaa
set_option linter.unusedSimpArgs false
set_option linter.unusedVariables false
set_option maxRecDepth 100000
set_option maxHeartbeats 4000000
namespace Go.Proofs.Ytnecdbclhdbaoaa
open Go Go.SL Go.Pure
section
variable {h : Hp} {K : Value → Hp → Prop}
theorem T_ref_K (k : ∀ v h', Nn h t_uint32 .u32 v h' shaK → K v h') : Cn P n_orlopref02_K #[] h K := by
  refine F_orlopref02_K ?_
  unfold s_orlopref02_K
  refine aw_lit u_Sl_uint32 z_uint32 zr_uint32 rfl (by omega) (by decide +kernel) fun v h' n _ => ?_
  exact k v h' n
theorem T_ref_H (k : ∀ v h', Nn h t_uint32 .u32 v h' shaH → K v h') : Cn P n_orlopref02_H #[] h K := by
  refine F_orlopref02_H ?_
  unfold s_orlopref02_H
  refine aw_lit u_Sl_uint32 z_uint32 zr_uint32 rfl (by omega) (by decide +kernel) fun v h' n _ => ?_
  exact k v h' n
theorem aw_lit8 (a b c d e f g z : Nat) (k : ∀ v h', Nn h t_uint32 .u32 v h' [a, b, c, d, e, f, g, z] → K v h') :
    aw P (Instr.buildSlice t_Sl_uint32 8 #[(0, .int .u32 (a : Int)), (1, .int .u32 (b : Int)), (2, .int .u32 (c : Int)), (3, .int .u32 (d : Int)), (4, .int .u32 (e : Int)), (5, .int .u32 (f : Int)), (6, .int .u32 (g : Int)), (7, .int .u32 (z : Int))]) K h := by
  refine aw_lit (ps := [(0, .int .u32 (a : Int)), (1, .int .u32 (b : Int)), (2, .int .u32 (c : Int)), (3, .int .u32 (d : Int)), (4, .int .u32 (e : Int)), (5, .int .u32 (f : Int)), (6, .int .u32 (g : Int)), (7, .int .u32 (z : Int))]) u_Sl_uint32 z_uint32 zr_uint32 rfl (by omega) ?_ fun v h' n _ => ?_
  · intro p hp
    simp only [List.mem_cons, List.not_mem_nil, or_false] at hp
    rcases hp with rfl | rfl | rfl | rfl | rfl | rfl | rfl | rfl <;> exact ⟨rfl, by simp⟩
  · exact k v h' n
theorem addS8 (s V : List Nat) : addS s V 8 = [(s.getD 0 0 + V.getD 0 0) % 4294967296, (s.getD 1 0 + V.getD 1 0) % 4294967296, (s.getD 2 0 + V.getD 2 0) % 4294967296, (s.getD 3 0 + V.getD 3 0) % 4294967296, (s.getD 4 0 + V.getD 4 0) % 4294967296, (s.getD 5 0 + V.getD 5 0) % 4294967296, (s.getD 6 0 + V.getD 6 0) % 4294967296, (s.getD 7 0 + V.getD 7 0) % 4294967296] := rfl
theorem list8 {l : List Nat} (h : l.length = 8) : ∃ a b c d e f g z, l = [a, b, c, d, e, f, g, z] := by
  match l, h with
  | [a, b, c, d, e, f, g, z], _ => exact ⟨a, b, c, d, e, f, g, z, rfl⟩
theorem T_ref_Work {vs vk vb : Value} {s b : List Nat} (hs : Rn h .u32 vs s) (hk : Rn h .u32 vk shaK) (hb : Rn h .u8 vb b) (ws : W32 s) (ls : s.length = 8) (bb : Bytes b) (lb : b.length = 64)
    (k : ∀ v h', Nn h t_uint32 .u32 v h' (workL shaK s b) → K v h') : Cn P n_orlopref02_Work #[vs, vk, vb] h K := by
  refine Cn_wk (F_orlopref02_Work ?_)
  unfold s_orlopref02_Work
  refine T_ref_Words hb bb lb fun vw h1 nW => ?_
  have lW := schL_len b
  have wW := schL_w bb
  unfold workL at k
  generalize schL b = W at lW wW k nW
  obtain ⟨bw, cw, fw, hbw, hcw, rfl, hhw, hfw⟩ := nW.form (by omega)
  have row : h1 bw = some (.row t_uint32 (nv .u32 W) (cw * 1) (some fw)) := by rw [hhw]; exact Hp.set_same ..
  obtain ⟨as0, cs, rfl, hcs⟩ := hs.shape
  obtain ⟨bs, os, rfl, cS⟩ := (hs.mono nW.cle).pos (by omega)
  obtain ⟨ak0, ck, rfl, hck⟩ := hk.shape
  obtain ⟨bk, ok, rfl, cK⟩ := (hk.mono nW.cle).pos (by rw [shaK_len]; omega)
  have cS0 := cS 0 (by omega)
  have cS1 := cS 1 (by omega)
  have cS2 := cS 2 (by omega)
  have cS3 := cS 3 (by omega)
  have cS4 := cS 4 (by omega)
  have cS5 := cS 5 (by omega)
  have cS6 := cS 6 (by omega)
  have cS7 := cS 7 (by omega)
  rw [Nat.add_zero] at cS0
  have n8 : ∀ j : Nat, j < 8 → ((j : Nat) : Int) < ((s.length : Nat) : Int) := fun j hj => by omega
  simp (disch := omega) only [GL, RL, Int.reduceToNat, Nat.add_zero, cS0, cS1, cS2, cS3, cS4, cS5, cS6, cS7]
  refine Lp_mk (fun m vs h' => ∃ (i : Nat), i + m = 64 ∧ h' = h1 ∧ vs = [.int .u32 (((rnds shaK W s i).getD 7 0 : Nat) : Int), .int .u32 (((rnds shaK W s i).getD 6 0 : Nat) : Int), .int .u32 (((rnds shaK W s i).getD 5 0 : Nat) : Int), .int .u32 (((rnds shaK W s i).getD 4 0 : Nat) : Int), .int .u32 (((rnds shaK W s i).getD 3 0 : Nat) : Int), .int .u32 (((rnds shaK W s i).getD 2 0 : Nat) : Int), .int .u32 (((rnds shaK W s i).getD 1 0 : Nat) : Int), .int .u32 (((rnds shaK W s i).getD 0 0 : Nat) : Int), .int .i64 (i : Int)]) 64 ⟨0, rfl, rfl, rfl⟩ ?_
  rintro m vs h2 ⟨i, hi, rfl, rfl⟩
  have wr := rnds_w (K := shaK) (w := W) ws i
  have lr := rnds_len (K := shaK) (w := W) ls i
  have ern : rnds shaK W s (i + 1) = rnd (shaK.getD i 0) (W.getD i 0) (rnds shaK W s i) := rfl
  have e64 : decide ((i : Int) < 64) = decide (i < 64) := lt_dec i 64
  by_cases hlt : i < 64
  · clear k
    generalize rnds shaK W s i = S at wr lr ern ⊢
    obtain ⟨a, b, c, d, e, f, g, z, rfl⟩ := list8 lr
    have ha : a < 4294967296 := wr.getD 0
    have hb : b < 4294967296 := wr.getD 1
    have hc : c < 4294967296 := wr.getD 2
    have hd : d < 4294967296 := wr.getD 3
    have he : e < 4294967296 := wr.getD 4
    have hf : f < 4294967296 := wr.getD 5
    have hg : g < 4294967296 := wr.getD 6
    have hz : z < 4294967296 := wr.getD 7
    have hwi := wW.getD i
    have hki := shaK_w.getD i
    have cw' : h2.cell ⟨bw, i, none⟩ = some (.int .u32 ((W.getD i 0 : Nat) : Int)) := by rw [cell_row row, nv_getD _ _ _ (by omega)]
    have ck' := cK i (by rw [shaK_len]; exact hlt)
    have lk64 : shaK.length = 64 := shaK_len
    generalize W.getD i 0 = wq at hwi cw' ern
    generalize shaK.getD i 0 = kq at hki ck' ern
    have ernd : rnd kq wq [a, b, c, d, e, f, g, z] = [(t1S kq wq e f g z + t2S a b c) % 4294967296, a, b, c, (d + t1S kq wq e f g z) % 4294967296, e, f, g] := rfl
    rw [ernd] at ern
    simp (disch := omega) only [GL, RL, e64, hlt, decide_true, if_true, q_xorU, ck', cw', List.getD_cons_zero, List.getD_cons_succ]
    refine T_ref_ror e 6 he (by omega) (by omega) ⟨pk_ld32 cw', pk_ld32 ck', ?_⟩
    refine T_ref_ror e 11 he (by omega) (by omega) ⟨pk_ld32 cw', pk_ld32 ck', ?_⟩
    simp (disch := omega) only [GL, RL]
    refine T_ref_ror e 25 he (by omega) (by omega) ⟨pk_ld32 cw', pk_ld32 ck', ?_⟩
    simp (disch := omega) only [GL, RL]
    rw [xor32N (rotr_lt e 6 he) (rotr_lt e 11 he), xor32N (x32 (rotr_lt e 6 he) (rotr_lt e 11 he)) (rotr_lt e 25 he), and32N he hf, xor32N (by decide) he, and32N (x32 (by decide) he) hg, xor32N (a32 he) (a32 (x32 (by decide) he))]
    simp only [add32]
    have e1 : ((((z + (rotr e 6 ^^^ rotr e 11 ^^^ rotr e 25)) % 4294967296 + (e &&& f ^^^ (4294967295 ^^^ e) &&& g)) % 4294967296 + kq) % 4294967296 + wq) % 4294967296 = t1S kq wq e f g z := rfl
    rw [e1]
    have ht : t1S kq wq e f g z < 4294967296 := m32 _
    generalize t1S kq wq e f g z = T at ht ern ⊢
    refine T_ref_ror a 2 ha (by omega) (by omega) ?_
    refine T_ref_ror a 13 ha (by omega) (by omega) ?_
    simp (disch := omega) only [GL, RL]
    refine T_ref_ror a 22 ha (by omega) (by omega) ?_
    simp (disch := omega) only [GL, RL]
    rw [xor32N (rotr_lt a 2 ha) (rotr_lt a 13 ha), xor32N (x32 (rotr_lt a 2 ha) (rotr_lt a 13 ha)) (rotr_lt a 22 ha), and32N ha hb, and32N ha hc, and32N hb hc, xor32N (a32 ha) (a32 ha), xor32N (x32 (a32 ha) (a32 ha)) (a32 hb)]
    simp only [add32]
    have e2 : ((rotr a 2 ^^^ rotr a 13 ^^^ rotr a 22) + (a &&& b ^^^ a &&& c ^^^ b &&& c)) % 4294967296 = t2S a b c := rfl
    rw [e2, wi64 (by omega) (by omega)]
    generalize t2S a b c = U at ern ⊢
    refine ⟨h2, .refl _, m - 1, by omega, i + 1, by omega, rfl, ?_⟩
    rw [ern]
    simp only [List.getD_cons_zero, List.getD_cons_succ]
    rw [inc]
  obtain rfl : i = 64 := by omega
  simp (disch := omega) only [GL, RL, e64, hlt, decide_false, Bool.false_eq_true, if_false, Int.reduceToNat, Nat.add_zero, cS0, cS1, cS2, cS3, cS4, cS5, cS6, cS7, add32]
  generalize rnds shaK W s 64 = V at wr lr k ⊢
  rw [addS8] at k
  refine aw_lit8 _ _ _ _ _ _ _ _ fun v h' n => ?_
  obtain ⟨h0, l0, n0⟩ := Nn.down nW.le n
  exact ⟨h0, l0, k _ _ n0⟩
theorem T_ref_Pad {v : Value} {b : List Nat} (hv : Rn h .u8 v b) (lb : b.length ≤ 1099511627776) (k : ∀ r h', Nn h t_uint8 .u8 r h' (padS b) → K r h') : Cn P n_orlopref02_Pad #[v] h K := by
  refine F_orlopref02_Pad ?_
  unfold s_orlopref02_Pad
  refine aw_lit (ps := []) (n := 0) u_Sl_uint8 z_uint8 zr_uint8 rfl (by omega) (by intro p hp; cases hp) fun v4 h1 n1 _ => ?_
  refine aw_append u_Sl_uint8 u_Sl_uint8 nfo_uint8 rfl (by omega) n1 (hv.mono n1.cle) (nv_flat _ _) (by omega) (.refl _) fun v6 h2 n2 => ?_
  have n2' : Nn h t_uint8 .u8 v6 h2 b := by unfold Nn; simpa [fillL] using n2
  refine aw_lit (ps := [(0, _)]) u_Sl_uint8 z_uint8 zr_uint8 rfl (by omega) (by intro p hp; rw [List.mem_singleton.1 hp]; exact ⟨rfl, by show _ < 1; omega⟩) fun v7 h3 n3 _ => ?_
  have n3' : Nn h2 t_uint8 .u8 v7 h3 [128] := n3
  refine aw_appendN u_Sl_uint8 u_Sl_uint8 nfo_uint8 rfl (by omega) n2' n3' (nv_flat _ _) (by simp; omega) fun v8 h4 n4 => ?_
  rw [← nv_app] at n4
  have n4' : Nn h t_uint8 .u8 v8 h4 (b ++ ([128] ++ List.replicate 0 0)) := by unfold Nn; rw [List.length_append]; exact n4
  obtain ⟨np, hnp⟩ : ∃ np, (119 - b.length % 64) % 64 = np := ⟨_, rfl⟩
  refine Lp_mk (fun m vs h' => ∃ (i : Nat) (vo : Value), i + m = np ∧ Nn h t_uint8 .u8 vo h' (b ++ ([128] ++ List.replicate i 0)) ∧ vs = [vo]) np ⟨0, _, by omega, n4', rfl⟩ ?_
  rintro m vs h5 ⟨i, vo, hi, nO, rfl⟩
  have hnp64 : np < 64 := by rw [← hnp]; exact Nat.mod_lt _ (by decide)
  obtain ⟨ao, co, eo, hco⟩ := nO.rn.shape
  have lO : (b ++ ([128] ++ List.replicate i 0)).length = b.length + 1 + i := by simp; omega
  have lno : ∀ {h : Hp} {K : Value → Prop}, q P h (Builtin.len_ #[t_Sl_uint8] t_int #[vo]) K = K (.int .i64 ((b.length + 1 + i : Nat) : Int)) := fun {h K} => by rw [eo, lO]; exact q_lenS u_Sl_uint8 _ _ _
  obtain ⟨av, cv, ev, hcv⟩ := hv.shape
  have lnv : ∀ {h : Hp} {K : Value → Prop}, q P h (Builtin.len_ #[t_Sl_uint8] t_int #[v]) K = K (.int .i64 ((b.length : Nat) : Int)) := fun {h K} => by rw [ev]; exact q_lenS u_Sl_uint8 _ _ _
  have em : ((b.length + 1 + i : Nat) : Int).tmod 64 = (((b.length + 1 + i) % 64 : Nat) : Int) := by rw [Int.tmod_eq_emod_of_nonneg (by omega)]; exact (Int.natCast_emod _ 64).symm
  have e56 : ((((b.length + 1 + i) % 64 : Nat) : Int) != 56) = decide (i < np) := by
    have h1 : ((((b.length + 1 + i) % 64 : Nat) : Int) != 56) = decide ((b.length + 1 + i) % 64 ≠ 56) := ne_dec _ 56
    rw [h1, decide_eq_decide]; omega
  simp (disch := omega) only [GL, RL, lno, lnv, em, e56]
  by_cases hlt : i < np
  · simp only [hlt, decide_true, if_true]
    refine aw_lit (ps := [(0, _)]) u_Sl_uint8 z_uint8 zr_uint8 rfl (by omega) (by intro p hp; rw [List.mem_singleton.1 hp]; exact ⟨rfl, by show _ < 1; omega⟩) fun w h6 n6 _ => ?_
    have n6' : Nn h5 t_uint8 .u8 w h6 [0] := n6
    refine aw_appendN u_Sl_uint8 u_Sl_uint8 nfo_uint8 rfl (by omega) nO n6' (nv_flat _ _) (by rw [lO]; simp; omega) fun vo' h7 n7 => ?_
    rw [← nv_app] at n7
    refine ⟨h7, .refl _, m - 1, by omega, i + 1, vo', by omega, ?_, rfl⟩
    have e : b ++ ([128] ++ List.replicate (i + 1) 0) = (b ++ ([128] ++ List.replicate i 0)) ++ [0] := by
      rw [List.replicate_succ', List.append_assoc, List.append_assoc]
    rw [e]
    unfold Nn
    rw [List.length_append]
    exact n7
  simp only [hlt, decide_false, Bool.false_eq_true, if_false]
  obtain rfl : i = np := by omega
  have e8 : (8 : Int) * (b.length : Int) = ((8 * b.length : Nat) : Int) := by omega
  simp (disch := omega) only [GL, RL, wu64i, e8]
  refine T_orlopref01_Little (8 * b.length) 8 (by omega) (by omega) fun v21 h6 n6 => ?_
  refine T_ref_Back n6.rn (le_bytes 8 _) (by rw [le_len]; omega) fun v22 h7 n7 => ?_
  have n7' : Nn h6 t_uint8 .u8 v22 h7 (bg 8 (8 * b.length)) := n7
  obtain ⟨b6, c6, f6, hb6, _, _, hh6, _⟩ := n6.form (by rw [le_len]; omega)
  obtain ⟨b7, c7, f7, hb7, _, _, hh7, _⟩ := n7'.form (by rw [bg_len]; omega)
  have nA := New.add nO hb6 (.row t_uint8 (nv .u8 (le 8 (8 * b.length))) (c6 * 1) (some f6))
  rw [← hh6] at nA
  have nB := New.add nA hb7 (.row t_uint8 (nv .u8 (bg 8 (8 * b.length))) (c7 * 1) (some f7))
  rw [← hh7] at nB
  refine aw_append u_Sl_uint8 u_Sl_uint8 nfo_uint8 rfl (by omega) nB n7'.rn (nv_flat _ _) (by rw [lO, bg_len]; omega) ((le_fresh (nO.ext.none hb6)).trans (le_fresh (nA.ext.none hb7))) fun vo' h9 n9 => ?_
  refine k _ _ ?_
  rw [← nv_app] at n9
  unfold Nn padS padE
  rw [hnp, List.length_append]
  exact n9
end
end Go.Proofs.Ytnecdbclhdbaoaa
set_option linter.unusedSimpArgs false
set_option linter.unusedVariables false
set_option maxRecDepth 100000
set_option maxHeartbeats 4000000
namespace Go.Proofs.Ytnecdbclhdbaoaa
open Go Go.SL Go.Pure
theorem del_cle (h : Hp) (p : Nat) (X : AObj) : Hp.cle (h.del p) (h.set p X) := fun a v e => by
  unfold Hp.cell at e ⊢
  by_cases q : a.block = p
  · rw [q, Hp.del_same] at e
    split at e
    · cases e
    · cases e
  · rw [Hp.del_ne _ q] at e
    rw [Hp.set_ne _ _ q]
    exact e
theorem row_rn {h : Hp} {p : Nat} {st wt : List Nat} {many all : Nat} (ls : st.length = 8) (lw : wt.length = 64) (e : HashRow h p st wt many all) : Rn h .u8 (.slice (some ⟨p, 72, none⟩) 64 64) wt :=
  ⟨by rw [nv_len]; omega, _, 64, by rw [lw], by omega, .inr ⟨p, 72, rfl, fun j x ex => by
    have hj : j < wt.length := by have := (List.getElem?_eq_some_iff.1 ex).1; rwa [nv_len] at this
    rw [nv_getD _ _ _ hj] at ex
    rw [cell_row e, hashC_wt ls lw j (by omega)]
    exact ex⟩⟩
section
variable {h : Hp} {K : Value → Hp → Prop}
theorem T_shaNew (k : ∀ p, h p = none → K (.pointer (some ⟨p, 0, none⟩)) (h.set p (.row t_sha_Hash (hashC shaH (List.replicate 64 0) 0 0) 138 (some (0, 0))))) : Cn P n_sha_New #[] h K := by
  refine F_sha_New ?_
  unfold s_sha_New
  refine T_beginning ?_
  refine T_constants ?_
  rw [bldNew]
  refine aw_box fun p hp => ?_
  have e : (Value.agg (hashC shaH (List.replicate 64 0) 0 0).toArray).cells.size = 138 := by
    show (hashC shaH (List.replicate 64 0) 0 0).toArray.size = 138
    rw [List.size_toArray, hashC_len rfl (by rw [List.length_replicate])]
  rw [e]
  exact k p hp
theorem T_shaAdd {p : Nat} {v : Value} {st wt M b : List Nat} {many all : Nat} (hb : HashRow h p st wt many all) (hs : Hst M st wt many) (bw : Bytes wt) (hv : Rn (h.del p) .u8 v b) (bb : Bytes b) (lb : b.length ≤ 1099511627776) (la : all < 18446744073709551616)
    (k : ∀ st' wt' many', Hst (M ++ b) st' wt' many' → Bytes wt' → K (.tuple #[]) (h.set p (.row t_sha_Hash (hashC st' wt' many' ((all + b.length) % 18446744073709551616)) 138 (some (0, 0))))) :
    Cn P n_sha_Hash_Add #[.pointer (some ⟨p, 0, none⟩), v] h K := by
  refine F_sha_Hash_Add ?_
  unfold s_sha_Hash_Add
  have ls := hs.len
  have lw := hs.2.2.1
  obtain ⟨a0, c0, rfl, hc0⟩ := hv.shape
  have c137 : h.cell ⟨p, 137, none⟩ = some (.int .u64 (all : Int)) := by rw [cell_row hb]; exact hashC_137 ls lw
  have ea : ((all : Int) + (b.length : Int)) = ((all + b.length : Nat) : Int) := by omega
  simp (disch := omega) only [GL, RL, ht4, c137, wu64i, ea, wu64]
  refine aw_store z_uint64 rfl (put_row hb (by rw [hashC_len ls lw]; omega) (by simp) _) ?_
  rw [hashC_set137 ls lw]
  generalize (all + b.length) % 18446744073709551616 = all' at k ⊢
  refine Lp_mk (fun m vs h' => ∃ (i : Nat) (st wt : List Nat) (many : Nat) (v' : Value), m = b.length - i ∧ i ≤ b.length ∧ h' = h.set p (.row t_sha_Hash (hashC st wt many all') 138 (some (0, 0))) ∧ Hst (M ++ b.take i) st wt many ∧ Bytes wt ∧ Rn (h.del p) .u8 v' (b.drop i) ∧ vs = [v']) b.length
    ⟨0, st, wt, many, _, rfl, by omega, rfl, by simpa using hs, bw, by simpa using hv, rfl⟩ ?_
  clear hs bw ls lw c137 hb
  rintro m vs h' ⟨i, st, wt, many, v', rfl, hi, rfl, hs, bw, hr, rfl⟩
  have ls := hs.len
  have ws := hs.w
  have lw := hs.2.2.1
  have hm := hs.many_lt
  obtain ⟨a1, c1, rfl, hc1⟩ := hr.shape
  have ld : (b.drop i).length = b.length - i := List.length_drop ..
  have e0 : decide ((0 : Int) < (((b.drop i).length : Nat) : Int)) = decide (i < b.length) := by rw [decide_eq_decide, ld]; omega
  simp (disch := omega) only [GL, RL, e0]
  by_cases hlt : i < b.length
  case neg =>
    simp only [hlt, decide_false, Bool.false_eq_true, if_false]
    rw [List.take_of_length_le (by omega)] at hs
    exact k _ _ _ hs bw
  simp only [hlt, decide_true, if_true]
  have q136 : ∀ st wt many, st.length = 8 → wt.length = 64 → (h.set p (.row t_sha_Hash (hashC st wt many all') 138 (some (0, 0)))).cell ⟨p, 136, none⟩ = some (.int .i64 (many : Int)) := fun st wt many ls lw => by
    rw [cell_row (Hp.set_same ..)]; exact hashC_136 ls lw
  have q1 := q136 st wt many ls lw
  simp (disch := omega) only [GL, RL, ht2, ht3, q1]
  rw [q_slArrLo (n := 64) (s := 1) u_64_uint8 z_uint8 _ _ many (by omega), if_neg (by omega)]
  simp only [add_off, Nat.mul_one]
  obtain ⟨c, hcc⟩ : ∃ c, (b.drop i).take (64 - many) = c := ⟨_, rfl⟩
  have lc : c.length = min (64 - many) (b.length - i) := by rw [← hcc, List.length_take, ld]
  have hr' := hr.mono (del_cle h p (.row t_sha_Hash (hashC st wt many all') 138 (some (0, 0))))
  refine aw_copyMinG (xs := hashC st wt many all') (f := (0, 0)) (n := (b.drop i).length) (ys := nv .u8 (b.drop i)) u_Sl_uint8 z_uint8 (Hp.set_same ..) hr' (nv_flat _ _) (by rw [hashC_len ls lw]; omega) (fun j _ => by simp) ?_
  rw [nv_take, hcc, hashC_put ls lw (by omega), Hp.set_set]
  have en : Nat.min (b.drop i).length (64 - many) = c.length := by rw [lc, ld]; exact Nat.min_comm _ _
  rw [en]
  obtain ⟨wt', hwt'⟩ : ∃ wt', wt.take many ++ c ++ wt.drop (many + c.length) = wt' := ⟨_, rfl⟩
  have bc : Bytes c := by rw [← hcc]; exact (bb.drop _).take _
  have bw' : Bytes wt' := by rw [← hwt']; exact ((bw.take _).append bc).append (bw.drop _)
  have lw' : wt'.length = 64 := by rw [← hwt', List.length_append, List.length_append, List.length_take, List.length_drop]; omega
  have etk : b.take (i + c.length) = b.take i ++ c := by
    have h1 := List.take_append_drop i b
    have h2 : c = (b.drop i).take c.length := by
      rcases Nat.le_total (64 - many) (b.drop i).length with q | q
      · rw [show c.length = 64 - many by omega]; exact hcc.symm
      · rw [show c.length = (b.drop i).length by omega, List.take_length, ← hcc, List.take_of_length_le q]
    conv => lhs; rw [← h1]
    have l1 : (b.take i).length = i := by rw [List.length_take]; omega
    rw [List.take_append, List.take_of_length_le (by omega), l1, Nat.add_sub_cancel_left, ← h2]
  have q2 := q136 st wt' many ls lw'
  have es : ((many : Int) + (c.length : Int)) = ((many + c.length : Nat) : Int) := by omega
  rw [hwt']
  simp (disch := omega) only [GL, RL, ht3, q2, es, wi64]
  refine aw_store z_int rfl (put_row (Hp.set_same ..) (by rw [hashC_len ls lw']; omega) (by simp) _) ?_
  rw [Hp.set_set, hashC_set136 ls lw']
  rw [q_slLo (lo := c.length) u_Sl_uint8 z_uint8 a1 (b.drop i).length c1 .i64 (by omega) (by omega)]
  have hr2 : Rn (h.del p) .u8 (.slice (SL.cut a1 c1 c.length 1) ((b.drop i).length - c.length) (c1 - c.length)) (b.drop (i + c.length)) := by
    have := hr.cut c.length (b.drop i).length (by omega) (Nat.le_refl _)
    rwa [List.take_length, List.drop_drop] at this
  have q3 := q136 st wt' (many + c.length) ls lw'
  have e64 : ((((many + c.length : Nat) : Int)) == 64) = decide (many + c.length = 64) := by rw [Bool.eq_iff_iff, beq_iff_eq, decide_eq_true_eq]; omega
  simp (disch := omega) only [GL, RL, ht3, q3, e64]
  have c0' : 0 < c.length := by omega
  by_cases hf : many + c.length = 64
  · simp (disch := omega) only [hf, decide_true, if_true, GL, RL, ht2, s64]
    have hR : HashRow (h.set p (.row t_sha_Hash (hashC st wt' 64 all') 138 (some (0, 0)))) p st wt' 64 all' := Hp.set_same ..
    refine T_shaBlock hR ws ls lw' (row_rn ls lw' hR) bw' lw' ?_
    have lwk := workL_len shaK st wt'
    refine aw_store z_int rfl (put_row (Hp.set_same ..) (by rw [hashC_len lwk lw']; omega) (by simp) _) ?_
    have e136 := hashC_set136 (many := 64) (all := all') lwk lw' 0
    rw [Hp.set_set, Hp.set_set]
    refine ⟨_, .refl _, b.length - (i + c.length), by omega, i + c.length, workL shaK st wt', wt', 0, _, rfl, by omega, by rw [← e136]; rfl, ?_, bw', hr2, rfl⟩
    have := hs.full c hf
    rw [hwt', List.append_assoc, ← etk] at this
    exact this
  · simp (disch := omega) only [hf, decide_false, Bool.false_eq_true, if_false]
    refine ⟨_, .refl _, b.length - (i + c.length), by omega, i + c.length, st, wt', many + c.length, _, rfl, by omega, rfl, ?_, bw', hr2, rfl⟩
    have := hs.part c (by omega)
    rw [hwt', List.append_assoc, ← etk] at this
    exact this
theorem T_shaSum {p : Nat} {st wt M : List Nat} {many : Nat} (hb : HashRow h p st wt many M.length) (hs : Hst M st wt many) (bw : Bytes wt) (lM : M.length ≤ 1099511627776)
    (k : ∀ r h', Nn h t_uint8 .u8 r h' (shaL M) → K r h') : Cn P n_sha_Hash_Sum #[.pointer (some ⟨p, 0, none⟩)] h K := by
  refine Cn_wk (F_sha_Hash_Sum ?_)
  unfold s_sha_Hash_Sum
  have ls := hs.len
  have lw := hs.2.2.1
  have hm := hs.many_lt
  have lC := hashC_len (many := many) (all := M.length) ls lw
  refine (q_nil _).mpr ?_
  rw [q_ldRow (ys := hashC st wt many M.length) u_sha_Hash rfl (by rw [lC]; exact sz_hash) hb]
  refine aw_allocL zHash zr_hash rfl fun r3 hr3 => ?_
  have flC : ∀ y ∈ hashC st wt many M.length, flat y = true := by
    intro y hy
    rcases List.mem_append.1 hy with q | q
    · exact nv_flat _ _ y q
    rcases List.mem_append.1 q with q | q
    · exact nv_flat _ _ y q
    rcases List.mem_append.1 q with q | q
    · exact nv_flat _ _ y q
    · simp only [List.mem_cons, List.not_mem_nil, or_false] at q
      rcases q with rfl | rfl <;> rfl
  refine aw_storeRow (ys := hashC st wt many M.length) (by rw [lC]; exact sz_hash) (Hp.set_same ..) (by rw [lC, zHash_len]) flC (fun i _ => by simp) ?_
  rw [Hp.set_set, zHash_len]
  have n3 : p ≠ r3 := by rintro rfl; rw [HashRow, hr3] at hb; cases hb
  have hb3 : HashRow (h.set r3 (.row t_sha_Hash (hashC st wt many M.length) 138 (some (0, 0)))) p st wt many M.length := by rw [HashRow, Hp.set_ne _ _ n3]; exact hb
  have c136 : (h.set r3 (.row t_sha_Hash (hashC st wt many M.length) 138 (some (0, 0)))).cell ⟨p, 136, none⟩ = some (.int .i64 (many : Int)) := by rw [cell_row hb3]; exact hashC_136 ls lw
  have e119 : (119 : Int) - (many : Int) = ((119 - many : Nat) : Int) := by omega
  have em : ((119 - many : Nat) : Int).tmod 64 = (((119 - many) % 64 : Nat) : Int) := by rw [Int.tmod_eq_emod_of_nonneg (by omega)]; exact (Int.natCast_emod _ 64).symm
  have e1 : (1 : Int) + (((119 - many) % 64 : Nat) : Int) = ((1 + (119 - many) % 64 : Nat) : Int) := by omega
  have hlt64 : (119 - many) % 64 < 64 := Nat.mod_lt _ (by omega)
  simp (disch := omega) only [GL, RL, ht3, c136, e119, wi64, em, e1]
  obtain ⟨np, hnp⟩ : ∃ np, (119 - many) % 64 = np := ⟨_, rfl⟩
  rw [hnp] at hlt64 ⊢
  refine aw_make (n := 1 + np) (c := 1 + np) u_Sl_uint8 nfo_uint8 rfl (Nat.le_refl _) (by omega) (by omega) fun t18 h4 n4 => ?_
  obtain ⟨bb, cb, fb, hbb, _, rfl, _, _⟩ := n4.form (by omega)
  rw [replicate_nv] at n4
  simp (disch := omega) only [GL, RL, Int.toNat_zero]
  refine aw_storeN (i := 0) z_uint8 n4 (by omega) rfl fun h5 n5 => ?_
  have epad : (List.replicate (1 + np) 0).set 0 128 = padE M.length := by
    rw [Nat.add_comm, List.replicate_succ, List.set_cons_zero]
    unfold padE
    rw [← hs.2.1]
    have : (119 - many) % 64 = np := hnp
    have e : (119 - M.length % 64) % 64 = np := by rw [← hs.2.1]; exact this
    rw [← hnp]; rfl
  have h128 : (128 : Int) = ((128 : Nat) : Int) := rfl
  rw [h128, nv_set, epad] at n5
  have lpad : (padE M.length).length = 1 + np := by
    rw [← epad, List.length_set, List.length_replicate]
  have n5' : Nn (h.set r3 (.row t_sha_Hash (hashC st wt many M.length) 138 (some (0, 0)))) t_uint8 .u8 (.slice (some ⟨bb, 0, none⟩) (1 + np) cb) h5 (padE M.length) := by unfold Nn; rw [lpad]; exact n5
  have x5 := n5'.ext
  have nb3 : bb ≠ r3 := by rintro rfl; rw [Hp.set_same] at hbb; cases hbb
  have hb5 : HashRow h5 r3 st wt many M.length := x5 _ _ (Hp.set_same ..)
  have hp5 : HashRow h5 p st wt many M.length := x5 _ _ hb3
  have rn5 : Rn (h5.del r3) .u8 (.slice (some ⟨bb, 0, none⟩) (1 + np) cb) (padE M.length) := by
    obtain ⟨e1, a, c, e2, e3, e4⟩ := n5'.rn
    refine ⟨e1, a, c, e2, e3, ?_⟩
    rcases e4 with e4 | ⟨b', o', ea, e4⟩
    · exact .inl e4
    · refine .inr ⟨b', o', ea, fun j x ex => ?_⟩
      have := e4 j x ex
      simp only [Value.slice.injEq] at e2
      rw [← e2.1] at ea
      simp only [Option.some.injEq, Addr.mk.injEq] at ea
      unfold Hp.cell at this ⊢
      rw [Hp.del_ne _ (by show b' ≠ r3; rw [← ea.1]; exact nb3)]
      exact this
  refine T_shaAdd hb5 hs bw rn5 (padE_bytes _) (by omega) (by omega) fun st1 wt1 many1 hs1 bw1 => ?_
  have c137 : (h5.set r3 (.row t_sha_Hash (hashC st1 wt1 many1 ((M.length + (padE M.length).length) % 18446744073709551616)) 138 (some (0, 0)))).cell ⟨p, 137, none⟩ = some (.int .u64 ((M.length : Nat) : Int)) := by
    unfold Hp.cell
    rw [Hp.set_ne _ _ n3, hp5]
    exact hashC_137 ls lw
  have e8 : (8 : Int) * (M.length : Int) = ((8 * M.length : Nat) : Int) := by omega
  simp (disch := omega) only [GL, RL, ht4, c137, e8, wu64i]
  have lh5 : Hp.le h h5 := (le_fresh hr3).trans x5.le
  have le5 : ∀ X, Hp.le h (h5.set r3 X) := fun X b o e => by
    have : b ≠ r3 := by rintro rfl; rw [hr3] at e; cases e
    rw [Hp.set_ne _ _ this]
    exact lh5 b o e
  obtain ⟨all1, hall1⟩ : ∃ a, (M.length + (padE M.length).length) % 18446744073709551616 = a := ⟨_, rfl⟩
  have hal : all1 < 18446744073709551616 := by rw [← hall1]; exact Nat.mod_lt _ (by decide)
  rw [hall1]
  have hb6 : HashRow (h5.set r3 (.row t_sha_Hash (hashC st1 wt1 many1 all1) 138 (some (0, 0)))) r3 st1 wt1 many1 all1 := Hp.set_same ..
  have le6 := le5 (.row t_sha_Hash (hashC st1 wt1 many1 all1) 138 (some (0, 0)))
  have none6 : (h5.set r3 (.row t_sha_Hash (hashC st1 wt1 many1 all1) 138 (some (0, 0)))) r3 ≠ none := by rw [Hp.set_same]; simp
  generalize h5.set r3 (.row t_sha_Hash (hashC st1 wt1 many1 all1) 138 (some (0, 0))) = h6 at hb6 le6 none6 ⊢
  refine T_word_Big64 (8 * M.length) (by omega) fun t28 h7 n7 => ?_
  have hb7 : HashRow h7 r3 st1 wt1 many1 all1 := n7.ext _ _ hb6
  obtain ⟨b7, c7, f7, hb7n, _, e7, hh7, _⟩ := n7.form (by rw [bg_len]; omega)
  have nb7 : b7 ≠ r3 := by rintro rfl; exact none6 hb7n
  have rn7 : Rn (h7.del r3) .u8 t28 (bg 8 (8 * M.length)) := by
    obtain ⟨e1, a, c, e2, e3, e4⟩ := n7.rn
    refine ⟨e1, a, c, e2, e3, ?_⟩
    rcases e4 with e4 | ⟨b', o', ea, e4⟩
    · exact .inl e4
    · refine .inr ⟨b', o', ea, fun j x ex => ?_⟩
      have := e4 j x ex
      rw [e2] at e7
      simp only [Value.slice.injEq] at e7
      rw [ea] at e7
      simp only [Option.some.injEq, Addr.mk.injEq] at e7
      unfold Hp.cell at this ⊢
      rw [Hp.del_ne _ (by show b' ≠ r3; rw [e7.1.1]; exact nb7)]
      exact this
  refine T_shaAdd hb7 hs1 bw1 rn7 (bg_bytes _ _) (by rw [bg_len]; omega) hal fun st2 wt2 many2 hs2 bw2 => ?_
  have le7 : Hp.le h (h7.set r3 (.row t_sha_Hash (hashC st2 wt2 many2 ((all1 + (bg 8 (8 * M.length)).length) % 18446744073709551616)) 138 (some (0, 0)))) := fun b o e => by
    have : b ≠ r3 := by rintro rfl; rw [hr3] at e; cases e
    rw [Hp.set_ne _ _ this]
    exact (le6.trans n7.ext.le) b o e
  have hrow : HashRow (h7.set r3 (.row t_sha_Hash (hashC st2 wt2 many2 ((all1 + (bg 8 (8 * M.length)).length) % 18446744073709551616)) 138 (some (0, 0)))) r3 st2 wt2 many2 ((all1 + (bg 8 (8 * M.length)).length) % 18446744073709551616) := Hp.set_same ..
  generalize h7.set r3 (.row t_sha_Hash (hashC st2 wt2 many2 ((all1 + (bg 8 (8 * M.length)).length) % 18446744073709551616)) 138 (some (0, 0))) = h8 at le7 hrow ⊢
  have ls2 := hs2.len
  have ws2 := hs2.w
  have lnS : (nv .u32 st2).length = 8 := by rw [nv_len, ls2]
  have hsha : shaL M = outS st2 8 := by
    have e : st2 = foldB shaK shaH (padS M) ((padS M).length / 64) := by
      have := hs2.1
      unfold padS
      exact this
    rw [e]; rfl
  rw [hsha] at k
  simp (disch := omega) only [GL, RL, ht0]
  rw [q_ldAgg (ys := nv .u32 st2) u_8_uint32 rfl (by rw [lnS]; exact z_8_uint32) fun j x e => by
    rw [cell_row hrow, Nat.zero_add, hashC, List.getElem?_append_left (List.getElem?_eq_some_iff.1 e).1]; exact e]
  refine Lp_mk (fun m vs h' => ∃ (i : Nat) (vo : Value), i + m = 8 ∧ Nn h8 t_uint8 .u8 vo h' (outS st2 i) ∧ vs = [vo, .int .i64 (i : Int)]) 8 ⟨0, .slice none 0 0, rfl, Nn.nil .., rfl⟩ ?_
  rintro m vs h9 ⟨i, vo, hi, nO, rfl⟩
  have e8' : decide ((i : Int) < 8) = decide (i < 8) := lt_dec i 8
  simp (disch := omega) only [GL, RL, e8']
  by_cases hlt : i < 8
  · simp only [hlt, decide_true, if_true]
    have idx : ∀ {H : Hp} {K : Value → Prop}, q P H (Instr.index t_8_uint32 (.agg (nv .u32 st2).toArray) (.int .i64 (i : Int))) K = K (.int .u32 ((st2.getD i 0 : Nat) : Int)) := fun {H K} => by
      match st2, ls2, i, hlt with
      | [a, b, c, d, e, f, g, z], _, i, hlt =>
        have : i = 0 ∨ i = 1 ∨ i = 2 ∨ i = 3 ∨ i = 4 ∨ i = 5 ∨ i = 6 ∨ i = 7 := by omega
        rcases this with rfl | rfl | rfl | rfl | rfl | rfl | rfl | rfl <;> exact q_of (by kernel_rfl) K
    rw [idx]
    have hw := ws2.getD i
    refine T_word_Big32 _ hw fun r hA nA => ?_
    have lo := outS_len st2 i
    refine aw_appendN u_Sl_uint8 u_Sl_uint8 nfo_uint8 rfl (by omega) nO nA (nv_flat _ _) (by rw [lo, bg_len]; omega) fun vo' hB nB => ?_
    simp (disch := omega) only [GL, RL, wi64]
    refine ⟨hB, .refl _, m - 1, by omega, i + 1, vo', by omega, ?_, rfl⟩
    rw [← nv_app] at nB
    unfold Nn
    rw [outS, List.length_append]
    exact nB
  simp only [hlt, decide_false, Bool.false_eq_true, if_false]
  obtain rfl : i = 8 := by omega
  obtain ⟨h0, l0, n0⟩ := Nn.down le7 nO
  exact ⟨h0, l0, k _ _ n0⟩
theorem T_shaOf {v : Value} {b : List Nat} (hv : Rn h .u8 v b) (bb : Bytes b) (lb : b.length ≤ 1099511627776) (k : ∀ r h', Nn h t_uint8 .u8 r h' (shaL b) → K r h') : Cn P n_sha_Of #[v] h K := by
  refine Cn_wk (F_sha_Of ?_)
  unfold s_sha_Of
  refine T_shaNew fun p hp => ?_
  have hR : HashRow (h.set p (.row t_sha_Hash (hashC shaH (List.replicate 64 0) 0 0) 138 (some (0, 0)))) p shaH (List.replicate 64 0) 0 0 := Hp.set_same ..
  have hd : Hp.cle h ((h.set p (.row t_sha_Hash (hashC shaH (List.replicate 64 0) 0 0) 138 (some (0, 0)))).del p) := fun a x e => by
    unfold Hp.cell at e ⊢
    by_cases q : a.block = p
    · rw [q, hp] at e
      split at e <;> cases e
    · rw [Hp.del_ne _ q, Hp.set_ne _ _ q]; exact e
  refine T_shaAdd hR Hst.nil (by intro x hx; rw [(List.mem_replicate.1 hx).2]; decide) (hv.mono hd) bb lb (by decide) fun st wt many hs bw => ?_
  rw [Hp.set_set, List.nil_append] at *
  have e0 : (0 + b.length) % 18446744073709551616 = b.length := by omega
  rw [e0]
  refine T_shaSum (M := b) (Hp.set_same ..) hs bw lb fun r h' n => ?_
  obtain ⟨h0, l0, n0⟩ := Nn.down (le_fresh hp) n
  exact ⟨h0, l0, k _ _ n0⟩
end
end Go.Proofs.Ytnecdbclhdbaoaa
set_option linter.unusedSimpArgs false
set_option linter.unusedVariables false
set_option maxRecDepth 100000
set_option maxHeartbeats 4000000
namespace Go.Proofs.Ytnecdbclhdbaoaa
open Go Go.SL Go.Pure
section
variable {h : Hp} {K : Value → Hp → Prop}
theorem T_ref_shaOf {v : Value} {b : List Nat} (hv : Rn h .u8 v b) (bb : Bytes b) (lb : b.length ≤ 1099511627776) (k : ∀ r h', Nn h t_uint8 .u8 r h' (shaL b) → K r h') : Cn P n_orlopref02_Of #[v] h K := by
  refine Cn_wk (F_orlopref02_Of ?_)
  unfold s_orlopref02_Of
  refine T_ref_Pad hv lb fun v10 h1 n1 => ?_
  refine T_ref_H fun v11 h2 n2 => ?_
  refine T_ref_K fun v12 h3 n3 => ?_
  have lp := padS_len b
  have bp := padS_bytes bb
  have lp2 : (padS b).length ≤ b.length + 200 := by
    unfold padS padE
    rw [List.length_append, List.length_append, List.length_append, List.length_replicate, bg_len, List.length_singleton]
    have := Nat.mod_lt (119 - b.length % 64) (show 64 > 0 by omega)
    omega
  unfold shaL at k
  generalize padS b = p at n1 lp bp lp2 k
  have r10 : Rn h3 .u8 v10 p := n1.rn.mono (n2.cle.trans n3.cle)
  have r12 : Rn h3 .u32 v12 shaK := n3.rn
  have le03 : Hp.le h h3 := (n1.le.trans n2.le).trans n3.le
  refine Lp_mk (fun m vs h' => ∃ (n : Nat) (w : Value), n + m = p.length / 64 ∧ Hp.ext h3 h' ∧ Rn h' .u32 w (foldB shaK shaH p n) ∧ vs = [w, .int .i64 ((64 * n : Nat) : Int)]) (p.length / 64) ⟨0, v11, by omega, .refl _, n2.rn.mono n3.cle, rfl⟩ ?_
  rintro m vs h4 ⟨n, w, hn, x4, rw4, rfl⟩
  obtain ⟨a10, c10, rfl, hc10⟩ := r10.shape
  have ell : decide (((64 * n : Nat) : Int) < ((p.length : Nat) : Int)) = decide (n < p.length / 64) := by rw [decide_eq_decide]; omega
  have e64 : ((64 * n : Nat) : Int) + 64 = ((64 * n + 64 : Nat) : Int) := by omega
  simp (disch := omega) only [GL, RL, ell, wi64, e64]
  by_cases hlt : n < p.length / 64
  · simp only [hlt, decide_true, if_true]
    refine q_slRnLH u_Sl_uint8 z_uint8 (r10.mono x4.cle) .i64 .i64 (64 * n) (64 * n + 64) (by omega) (by omega) fun w' hw' => ?_
    have ebl : (p.take (64 * n + 64)).drop (64 * n) = (p.drop (64 * n)).take 64 := by rw [List.drop_take, show 64 * n + 64 - 64 * n = 64 by omega]
    rw [ebl] at hw'
    have ef : foldB shaK shaH p (n + 1) = workL shaK (foldB shaK shaH p n) ((p.drop (64 * n)).take 64) := rfl
    have wf := foldB_w (K := shaK) (b := p) shaH_w n
    have lf := foldB_len (K := shaK) (b := p) shaH_len n
    refine T_ref_Work rw4 (r12.mono x4.cle) hw' wf lf ((bp.drop _).take _) (by rw [List.length_take, List.length_drop]; omega) fun w5 h5 n5 => ?_
    rw [← ef] at n5
    exact ⟨h5, .refl _, m - 1, by omega, n + 1, w5, by omega, x4.trans n5.ext, n5.rn, by rw [show 64 * (n + 1) = 64 * n + 64 by omega]⟩
  simp only [hlt, decide_false, Bool.false_eq_true, if_false]
  obtain rfl : n = p.length / 64 := by omega
  have ls2 := foldB_len (K := shaK) (b := p) shaH_len (p.length / 64)
  have ws2 := foldB_w (K := shaK) (b := p) shaH_w (p.length / 64)
  generalize foldB shaK shaH p (p.length / 64) = st at rw4 k ls2 ws2
  obtain ⟨aw0, cw, rfl, hcw⟩ := rw4.shape
  obtain ⟨bw, ow, rfl, cW⟩ := rw4.pos (by omega)
  refine Lp_mk (fun m vs h' => ∃ (i : Nat) (vo : Value), i + m = 8 ∧ Nn h4 t_uint8 .u8 vo h' (outS st i) ∧ vs = [vo, .int .i64 (i : Int)]) 8 ⟨0, .slice none 0 0, rfl, Nn.nil .., rfl⟩ ?_
  rintro m vs h9 ⟨i, vo, hi, nO, rfl⟩
  have e8' : decide ((i : Int) < 8) = decide (i < 8) := lt_dec i 8
  by_cases hlt8 : i < 8
  · have cI := nO.cle _ _ (cW i (by omega))
    have hw := ws2.getD i
    simp (disch := omega) only [GL, RL, e8', hlt8, decide_true, if_true, cI, wu64i]
    refine T_orlopref01_Little (st.getD i 0) 4 (by omega) (by omega) fun v37 hA nA => ?_
    refine T_ref_Back nA.rn (le_bytes 4 _) (by rw [le_len]; omega) fun v38 hB nB => ?_
    have nB' : Nn hA t_uint8 .u8 v38 hB (bg 4 (st.getD i 0)) := nB
    obtain ⟨bA, cA, fA, hbA, _, _, hhA, _⟩ := nA.form (by rw [le_len]; omega)
    obtain ⟨bB, cB, fB, hbB, _, _, hhB, _⟩ := nB'.form (by rw [bg_len]; omega)
    have oA := New.add nO hbA (.row t_uint8 (nv .u8 (le 4 (st.getD i 0))) (cA * 1) (some fA))
    rw [← hhA] at oA
    have oB := New.add oA hbB (.row t_uint8 (nv .u8 (bg 4 (st.getD i 0))) (cB * 1) (some fB))
    rw [← hhB] at oB
    have lo := outS_len st i
    refine aw_append u_Sl_uint8 u_Sl_uint8 nfo_uint8 rfl (by omega) oB nB'.rn (nv_flat _ _) (by rw [lo, bg_len]; omega) ((le_fresh (nO.ext.none hbA)).trans (le_fresh (oA.ext.none hbB))) fun vo' hC nC => ?_
    rw [wi64 (by omega) (by omega)]
    refine ⟨hC, .refl _, m - 1, by omega, i + 1, vo', by omega, ?_, rfl⟩
    rw [← nv_app] at nC
    unfold Nn
    rw [outS, List.length_append]
    exact nC
  simp (disch := omega) only [GL, RL, e8', hlt8, decide_false, Bool.false_eq_true, if_false]
  obtain rfl : i = 8 := by omega
  obtain ⟨h0, l0, n0⟩ := Nn.down (le03.trans x4.le) nO
  exact ⟨h0, l0, k _ _ n0⟩
end
end Go.Proofs.Ytnecdbclhdbaoaa
set_option linter.unusedSimpArgs false
set_option linter.unusedVariables false
set_option maxRecDepth 100000
set_option maxHeartbeats 2000000
namespace Go.Proofs.Ytnecdbclhdbaoaa
open Go Go.SL Go.Pure
section
variable {h : Hp} {K : Value → Hp → Prop}
theorem T_ref_Block {vk vn : Value} {key nonce : List Nat} (counter : Nat) (hc : counter < 4294967296) (hk : Rn h .u8 vk key) (hn : Rn h .u8 vn nonce) (bk : Bytes key) (bn : Bytes nonce) (lk : key.length = 32) (ln : nonce.length = 12)
    (k : ∀ v h', Nn h t_uint8 .u8 v h' (blockL key nonce counter) → K v h') : Cn P n_orlopref04_Block #[vk, vn, .int .u32 counter] h K := by
  refine Cn_wk (F_orlopref04_Block ?_)
  unfold s_orlopref04_Block
  refine aw_lit (ps := [(0, _), (1, _), (2, _), (3, _)]) u_Sl_uint32 z_uint32 zr_uint32 rfl (by omega) (by intro p hp; simp at hp; rcases hp with rfl | rfl | rfl | rfl <;> exact ⟨rfl, by show _ < 4; omega⟩) fun v19 h1 n1 _ => ?_
  have n1' : New h t_uint32 1 v19 h1 (nv .u32 (consts ++ words key 0)) (consts ++ words key 0).length := n1
  refine Lp_mk (fun u vs h' => ∃ (i : Nat) (v : Value), i + u = 8 ∧ New h t_uint32 1 v h' (nv .u32 (consts ++ words key i)) (consts ++ words key i).length ∧ vs = [v, .int .i64 (i : Int)]) 8 ⟨0, v19, rfl, n1', rfl⟩ ?_
  clear n1 n1'
  rintro u vs h2 ⟨i, v, hi, hw, rfl⟩
  have e4 : (4 : Int) * (i : Int) = ((4 * i : Nat) : Int) := by omega
  have e8 : decide ((i : Int) < 8) = decide (i < 8) := lt_dec i 8
  simp (disch := omega) only [GL, RL, wi64, e8, e4]
  by_cases hlt : i < 8
  · simp only [hlt, decide_true, if_true]
    have := @T_ref_words h v
    refine T_ref_words i (hk.mono hw.cle) bk (by omega) (by omega) hw (by rw [List.length_append, words_len]; simp [consts]; omega) fun v' h' hw' => ?_
    refine ⟨_, .refl _, u - 1, by omega, i + 1, v', by omega, ?_, rfl⟩
    rw [words_succ, ← List.append_assoc]
    exact hw'
  obtain rfl : i = 8 := by omega
  simp only [hlt, decide_false, Bool.false_eq_true, if_false]
  refine aw_lit (ps := [(0, _)]) u_Sl_uint32 z_uint32 zr_uint32 rfl (by omega) (by intro p hp; rw [List.mem_singleton.1 hp]; exact ⟨rfl, by show _ < 1; omega⟩) fun x h4 hx' _ => ?_
  refine aw_appendN u_Sl_uint32 u_Sl_uint32 nfo_uint32 rfl (by omega) hw hx' (by intro y hy; simp [fillL] at hy; subst hy; rfl) (by rw [List.length_append, words_len]; simp [consts]) fun v36 h5 hw5 => ?_
  have hw5' : New h t_uint32 1 v36 h5 (nv .u32 (consts ++ words key 8 ++ [counter] ++ words nonce 0)) (consts ++ words key 8 ++ [counter] ++ words nonce 0).length := by
    rw [show words nonce 0 = [] from rfl, List.append_nil, nv_app, List.length_append]
    exact hw5
  refine Lp_mk (fun u vs h' => ∃ (i : Nat) (v : Value), i + u = 3 ∧ New h t_uint32 1 v h' (nv .u32 (consts ++ words key 8 ++ [counter] ++ words nonce i)) (consts ++ words key 8 ++ [counter] ++ words nonce i).length ∧ vs = [v, .int .i64 (i : Int)]) 3 ⟨0, v36, rfl, hw5', rfl⟩ ?_
  clear hw5 hw5' hw hlt
  rintro u vs h6 ⟨i, v, hi, hw, rfl⟩
  have e4 : (4 : Int) * (i : Int) = ((4 * i : Nat) : Int) := by omega
  simp (disch := omega) only [GL, RL, wi64, lt_dec3, e4]
  by_cases hlt : i < 3
  · simp only [hlt, decide_true, if_true]
    refine T_ref_words i (hn.mono hw.cle) bn (by omega) (by omega) hw (by simp [consts, words_len]; omega) fun v' h' hw' => ?_
    refine ⟨_, .refl _, u - 1, by omega, i + 1, v', by omega, ?_, rfl⟩
    rw [words_succ, ← List.append_assoc]
    exact hw'
  obtain rfl : i = 3 := by omega
  simp only [hlt, decide_false, Bool.false_eq_true, if_false]
  have hBB : consts ++ words key 8 ++ [counter] ++ words nonce 3 = beginL key nonce counter := rfl
  rw [hBB] at hw
  obtain ⟨B, hB⟩ : ∃ B, beginL key nonce counter = B := ⟨_, rfl⟩
  have lB : B.length = 16 := by rw [← hB, beginL_len]
  have wB : W32 B := by rw [← hB]; exact beginL_w bk bn hc
  rw [hB] at hw
  refine aw_lit (ps := []) (n := 0) u_Sl_uint32 z_uint32 zr_uint32 rfl (by omega) (by intro p hp; cases hp) fun v50 h7 n7 _ => ?_
  refine aw_append u_Sl_uint32 u_Sl_uint32 nfo_uint32 rfl (by omega) n7 (hw.rds.mono n7.cle) (nv_flat _ _) (by omega) (.refl _) fun v52 h8 n8 => ?_
  have n8' : New h6 t_uint32 1 v52 h8 (nv .u32 B) 16 := by rw [← lB]; simpa [fillL] using n8
  rw [lB] at hw
  obtain ⟨bx, cx, fx, hbx, hcx, rfl, hh6, hfx⟩ := hw.form (by omega)
  obtain ⟨bs, cs, fs, hbs, hcs, rfl, hh8, hfs⟩ := n8'.form (by omega)
  have hxs : bx ≠ bs := by rintro rfl; rw [hh6, Hp.set_same] at hbs; cases hbs
  obtain ⟨M, hM⟩ : ∃ M : List Nat → Hp, ∀ S, h6.set bs (.row t_uint32 (nv .u32 S) (cs * 1) (some fs)) = M S := ⟨_, fun S => rfl⟩
  have Ms : ∀ S, M S bs = some (.row t_uint32 (nv .u32 S) (cs * 1) (some fs)) := fun S => by rw [← hM, Hp.set_same]
  have Mx : ∀ S, M S bx = some (.row t_uint32 (nv .u32 B) (cx * 1) (some fx)) := fun S => by rw [← hM, Hp.set_ne _ _ hxs, hh6, Hp.set_same]
  have Mset : ∀ S S', (M S).set bs (.row t_uint32 (nv .u32 S') (cs * 1) (some fs)) = M S' := fun S S' => by rw [← hM, ← hM, Hp.set_set]
  have leM : ∀ S, Hp.le h (M S) := fun S => by rw [← hM]; exact hw.le.trans (le_fresh hbs)
  have hfs' : ∀ i, i < 16 → ¬ (fs.1 ≤ i ∧ i < fs.2) := fun i hi => hfs i (by omega)
  rw [hh8, hM]
  clear hh8 hM n8 n8' n7 hw hlt
  -- four stores
  have four : ∀ (S : List Nat) (a b c d : Nat) (t93 t94 t95 t96 : Nat) (K' : Hp → Prop), S.length = 16 → a < 16 → b < 16 → c < 16 → d < 16 → K' (M ((((S.set a t93).set b t94).set c t95).set d t96)) →
      aw P (Instr.storeAt t_uint32 (.pointer (some ⟨bs, a, none⟩)) (.int .u32 (t93 : Int))) (fun _ h => aw P (Instr.storeAt t_uint32 (.pointer (some ⟨bs, b, none⟩)) (.int .u32 (t94 : Int))) (fun _ h => aw P (Instr.storeAt t_uint32 (.pointer (some ⟨bs, c, none⟩)) (.int .u32 (t95 : Int))) (fun _ h =>
        aw P (Instr.storeAt t_uint32 (.pointer (some ⟨bs, d, none⟩)) (.int .u32 (t96 : Int))) (fun _ h => K' h) h) h) h) (M S) := by
    intro S a b c d t93 t94 t95 t96 K' lS ha hb hc hd q
    refine storeN z_uint32 (Ms _) (by omega) (hfs' a ha) ?_
    rw [Mset]
    refine storeN z_uint32 (Ms _) (by rw [List.length_set]; omega) (hfs' b hb) ?_
    rw [Mset]
    refine storeN z_uint32 (Ms _) (by rw [List.length_set, List.length_set]; omega) (hfs' c hc) ?_
    rw [Mset]
    refine storeN z_uint32 (Ms _) (by rw [List.length_set, List.length_set, List.length_set]; omega) (hfs' d hd) ?_
    rw [Mset]
    exact q
  refine Lp_mk (fun m vs h' => ∃ i : Nat, i + m = 10 ∧ h' = M (rounds i B) ∧ vs = [.int .i64 (i : Int)]) 10 ⟨0, rfl, rfl, rfl⟩ ?_
  rintro m vs h' ⟨i, hi, rfl, rfl⟩
  have lR : (rounds i B).length = 16 := by rw [rounds_len, lB]
  have wR : W32 (rounds i B) := rounds_w i wB
  have e10 : decide ((i : Int) < 10) = decide (i < 10) := lt_dec i 10
  simp (disch := omega) only [GL, RL, wi64, e10]
  by_cases hlt : i < 10
  · simp only [hlt, decide_true, if_true]
    obtain ⟨R, hR⟩ : ∃ R, rounds i B = R := ⟨_, rfl⟩
    rw [hR] at lR wR ⊢
    have lS : ∀ j, ((quads.take j).foldl stepL R).length = 16 := fun j => by rw [foldStep_len, lR]
    have wS : ∀ j, W32 ((quads.take j).foldl stepL R) := fun j => foldStep_w _ wR
    refine Lp_mk (fun m' vs h' => ∃ j : Nat, j + m' = 4 ∧ h' = M ((quads.take j).foldl stepL R) ∧ vs = [.int .i64 (j : Int)]) 4 ⟨0, rfl, rfl, rfl⟩ ?_
    rintro m' vs h' ⟨j, hj, rfl, rfl⟩
    simp (disch := omega) only [GL, RL, wi64, lt_dec4]
    by_cases hlt2 : j < 4
    · have hq := quads_get j (by omega)
      rw [if_pos hlt2] at hq
      have hst := quads_step R j (by omega) _ hq
      have lSj := lS j
      have wSj := wS j
      obtain ⟨S, hS⟩ : ∃ S, (quads.take j).foldl stepL R = S := ⟨_, rfl⟩
      rw [hS] at hst lSj wSj ⊢
      have t1 : ((4 : Int) + (j : Int)).toNat = 4 + j := by omega
      have t2 : ((8 : Int) + (j : Int)).toNat = 8 + j := by omega
      have t3 : ((12 : Int) + (j : Int)).toNat = 12 + j := by omega
      have c0 := cellN (i := j) (Ms S) (by omega)
      have c1 := cellN (i := 4 + j) (Ms S) (by omega)
      have c2 := cellN (i := 8 + j) (Ms S) (by omega)
      have c3 := cellN (i := 12 + j) (Ms S) (by omega)
      simp (disch := omega) only [GL, RL, wi64, hlt2, decide_true, if_true, t1, t2, t3, c0, c1, c2, c3]
      refine T_ref_quarter _ _ _ _ (wSj.getD _) (wSj.getD _) (wSj.getD _) (wSj.getD _) ?_
      simp (disch := omega) only [GL, RL, wi64, t1, t2, t3, e4_0, e4_1, e4_2, e4_3]
      refine four S j (4 + j) (8 + j) (12 + j) _ _ _ _ _ lSj (by omega) (by omega) (by omega) (by omega) ?_
      refine ⟨_, .refl _, m' - 1, by omega, j + 1, by omega, ?_, rfl⟩
      rw [hst, stepL]
      dsimp only
      rw [quarter_eq S _ _ _ _ (by omega) (by omega) (by omega) (by omega) (by omega) (by omega) (by omega) (by omega) (by omega) (by omega)]
      rfl
    obtain rfl : j = 4 := by omega
    simp only [hlt2, decide_false, Bool.false_eq_true, if_false]
    refine Lp_mk (fun m' vs h' => ∃ j : Nat, j + m' = 4 ∧ h' = M ((quads.take (j + 4)).foldl stepL R) ∧ vs = [.int .i64 (j : Int)]) 4 ⟨0, rfl, rfl, rfl⟩ ?_
    rintro m' vs h' ⟨j, hj, rfl, rfl⟩
    simp (disch := omega) only [GL, RL, wi64, lt_dec4]
    by_cases hlt3 : j < 4
    · have hq := quads_get (j + 4) (by omega)
      rw [if_neg (by omega), Nat.add_sub_cancel] at hq
      have hst := quads_step R (j + 4) (by omega) _ hq
      have lSj := lS (j + 4)
      have wSj := wS (j + 4)
      obtain ⟨S, hS⟩ : ∃ S, (quads.take (j + 4)).foldl stepL R = S := ⟨_, rfl⟩
      rw [hS] at hst lSj wSj ⊢
      have r1 : ((j : Int) + 1).tmod 4 = (((j + 1) % 4 : Nat) : Int) := (Int.ofNat_tmod (j + 1) 4).symm
      have r2 : ((j : Int) + 2).tmod 4 = (((j + 2) % 4 : Nat) : Int) := (Int.ofNat_tmod (j + 2) 4).symm
      have r3 : ((j : Int) + 3).tmod 4 = (((j + 3) % 4 : Nat) : Int) := (Int.ofNat_tmod (j + 3) 4).symm
      have t1 : ((4 : Int) + (((j + 1) % 4 : Nat) : Int)).toNat = 4 + (j + 1) % 4 := by omega
      have t2 : ((8 : Int) + (((j + 2) % 4 : Nat) : Int)).toNat = 8 + (j + 2) % 4 := by omega
      have t3 : ((12 : Int) + (((j + 3) % 4 : Nat) : Int)).toNat = 12 + (j + 3) % 4 := by omega
      have c0 := cellN (i := j) (Ms S) (by omega)
      have c1 := cellN (i := 4 + (j + 1) % 4) (Ms S) (by omega)
      have c2 := cellN (i := 8 + (j + 2) % 4) (Ms S) (by omega)
      have c3 := cellN (i := 12 + (j + 3) % 4) (Ms S) (by omega)
      simp (disch := omega) only [GL, RL, wi64, hlt3, decide_true, if_true, r1, r2, r3, t1, t2, t3, c0, c1, c2, c3]
      refine T_ref_quarter _ _ _ _ (wSj.getD _) (wSj.getD _) (wSj.getD _) (wSj.getD _) ?_
      simp (disch := omega) only [GL, RL, wi64, t1, t2, t3, e4_0, e4_1, e4_2, e4_3]
      refine four S j (4 + (j + 1) % 4) (8 + (j + 2) % 4) (12 + (j + 3) % 4) _ _ _ _ _ lSj (by omega) (by omega) (by omega) (by omega) ?_
      refine ⟨_, .refl _, m' - 1, by omega, j + 1, by omega, ?_, rfl⟩
      rw [show j + 1 + 4 = j + 4 + 1 by omega, hst, stepL]
      dsimp only
      rw [quarter_eq S _ _ _ _ (by omega) (by omega) (by omega) (by omega) (by omega) (by omega) (by omega) (by omega) (by omega) (by omega)]
      rfl
    obtain rfl : j = 4 := by omega
    simp only [hlt3, decide_false, Bool.false_eq_true, if_false]
    refine ⟨_, .refl _, m - 1, by omega, i + 1, by omega, ?_, rfl⟩
    rw [rounds, hR]
    rfl
  obtain rfl : i = 10 := by omega
  simp only [hlt, decide_false, Bool.false_eq_true, if_false]
  obtain ⟨R, hR⟩ : ∃ R, rounds 10 B = R := ⟨_, rfl⟩
  rw [hR] at lR wR ⊢
  refine Lp_mk (fun m' vs h' => ∃ (j : Nat) (v : Value), j + m' = 16 ∧ New (M R) t_uint8 1 v h' (nv .u8 (outL R B j)) (4 * j) ∧ vs = [v, .int .i64 (j : Int)]) 16 ⟨0, .slice none 0 0, rfl, ⟨rfl, .inl ⟨rfl, rfl, rfl⟩⟩, rfl⟩ ?_
  rintro m' vs h3 ⟨j, v, hj, hw, rfl⟩
  have e16 : decide ((j : Int) < 16) = decide (j < 16) := lt_dec j 16
  simp (disch := omega) only [GL, RL, wi64, e16]
  by_cases hlt2 : j < 16
  · have c1 : h3.cell ⟨bs, j, none⟩ = some (.int .u32 ((R.getD j 0 : Nat) : Int)) := hw.cle _ _ (cellN (Ms R) (by omega))
    have c2 : h3.cell ⟨bx, j, none⟩ = some (.int .u32 ((B.getD j 0 : Nat) : Int)) := hw.cle _ _ (cellN (Mx R) (by omega))
    have hm := Nat.mod_lt (R.getD j 0 + B.getD j 0) (show 4294967296 > 0 by decide)
    simp (disch := omega) only [GL, RL, wi64, hlt2, decide_true, if_true, c1, c2, add32, wu64i]
    refine T_orlopref01_Little _ 4 (by omega) (by omega) fun r' h4 hp => ?_
    have hp' : New h3 t_uint8 1 r' h4 (nv .u8 (le 4 ((R.getD j 0 + B.getD j 0) % 4294967296))) 4 := by
      unfold Nn at hp; rw [le_len] at hp; exact hp
    refine aw_appendN u_Sl_uint8 u_Sl_uint8 nfo_uint8 rfl (by omega) hw hp' (nv_flat _ _) (by omega) fun v' h5 hw5 => ?_
    refine ⟨_, .refl _, m' - 1, by omega, j + 1, v', by omega, ?_, rfl⟩
    rw [out_step, nv_app]
    exact hw5
  · obtain rfl : j = 16 := by omega
    simp only [hlt2, decide_false, Bool.false_eq_true, if_false]
    have hfin : outL R B 16 = blockL key nonce counter := by unfold blockL; rw [hB, hR]
    rw [hfin] at hw
    obtain ⟨h0, l0, hw0⟩ := New.down (leM R) hw
    refine ⟨h0, l0, k _ _ ?_⟩
    unfold Nn
    rw [blockL_len]
    exact hw0
end
end Go.Proofs.Ytnecdbclhdbaoaa
set_option linter.unusedSimpArgs false
set_option linter.unusedVariables false
set_option maxRecDepth 100000
set_option maxHeartbeats 2000000
namespace Go.Proofs.Ytnecdbclhdbaoaa
open Go Go.SL Go.Pure
section
variable {h : Hp} {K : Value → Hp → Prop}
theorem T_ref_Xor {vk vn vb : Value} {key nonce b : List Nat} (counter : Nat) (hc : counter < 4294967296) (hk : Rn h .u8 vk key) (hn : Rn h .u8 vn nonce) (hb : Rn h .u8 vb b) (bk : Bytes key) (bn : Bytes nonce) (bb : Bytes b) (hl : b.length ≤ 70368744177664)
    (k : ∀ v h', (if key.length = 32 ∧ nonce.length = 12 then Nn h t_uint8 .u8 v h' (xorL key nonce counter b) else v = .slice none 0 0 ∧ h' = h) → K (.tuple #[v, .int .i64 (if key.length = 32 ∧ nonce.length = 12 then 0 else 1)]) h') : Cn P n_orlopref04_Xor #[vk, vn, .int .u32 counter, vb] h K := by
  refine Cn_wk (F_orlopref04_Xor ?_)
  unfold s_orlopref04_Xor
  intro J2
  obtain ⟨ak, ck, ek, hck⟩ := hk.shape
  obtain ⟨an, cn, en, hcn⟩ := hn.shape
  have kl : ∀ (X : Value → Prop), q P h (Builtin.len_ #[t_Sl_uint8] t_int #[vk]) X = X (.int .i64 (key.length : Nat)) := fun X => by subst ek; exact q_lenS u_Sl_uint8 ak _ ck
  have nl : ∀ (X : Value → Prop), q P h (Builtin.len_ #[t_Sl_uint8] t_int #[vn]) X = X (.int .i64 (nonce.length : Nat)) := fun X => by subst en; exact q_lenS u_Sl_uint8 an _ cn
  have e32 : (((key.length : Nat) : Int) != 32) = decide (key.length ≠ 32) := by
    rw [Bool.eq_iff_iff, bne_iff_ne, decide_eq_true_eq]; omega
  have e12 : (((nonce.length : Nat) : Int) != 12) = decide (nonce.length ≠ 12) := by
    rw [Bool.eq_iff_iff, bne_iff_ne, decide_eq_true_eq]; omega
  simp (disch := omega) only [GL, RL, kl, nl, e32, e12]
  by_cases hm1 : key.length = 32
  case neg =>
    have hm : ¬ (key.length = 32 ∧ nonce.length = 12) := fun q => hm1 q.1
    simp only [if_neg hm] at k
    simp only [hm1, ne_eq, not_false_eq_true, decide_true, Bool.true_eq_false, if_false, if_true]
    exact ⟨h, .refl _, k _ _ ⟨rfl, rfl⟩⟩
  by_cases hm2 : nonce.length = 12
  case neg =>
    have hm : ¬ (key.length = 32 ∧ nonce.length = 12) := fun q => hm2 q.2
    simp only [if_neg hm] at k
    simp only [hm1, hm2, ne_eq, not_true_eq_false, not_false_eq_true, decide_true, decide_false, if_true]
    exact ⟨h, .refl _, k _ _ ⟨rfl, rfl⟩⟩
  have hm : key.length = 32 ∧ nonce.length = 12 := ⟨hm1, hm2⟩
  simp only [if_pos hm] at k
  simp only [hm1, hm2, ne_eq, not_true_eq_false, decide_false, if_true, Bool.false_eq_true, if_false]
  show J2 h
  simp only [J2]
  clear J2
  obtain ⟨X, hX⟩ : ∃ X, xorL key nonce counter b = X := ⟨_, rfl⟩
  have lX : X.length = b.length := by rw [← hX, xorL_len]
  rw [hX] at k
  let blk : Nat → List Nat := fun i => blockL key nonce ((counter + i / 64) % 4294967296)
  refine Lp_mk (fun u vs h' => ∃ (i : Nat) (s v : Value) (H : Hp), i + u = b.length ∧ Hp.le h H ∧ Hp.cle h H ∧ New H t_uint8 1 v h' (nv .u8 (X.take i)) i ∧ (i % 64 ≠ 0 → Rn H .u8 s (blk i)) ∧ vs = [s, v, .int .i64 (i : Int)]) b.length
    ⟨0, _, _, h, by omega, .refl _, .refl _, ⟨rfl, .inl ⟨rfl, rfl, rfl⟩⟩, fun q => absurd rfl q, rfl⟩ ?_
  rintro u vs h1 ⟨i, s, v, H, hi, lH, cH, hw, hs, rfl⟩
  obtain ⟨ab, cb, rfl, hcb⟩ := hb.shape
  simp only [GL, RL, lt_dec]
  by_cases hlt : i < b.length
  · simp only [hlt, decide_true, if_true]
    obtain ⟨bb', ob, rfl, hyb⟩ := hb.pos (by omega)
    have em : ((i : Int)).tmod 64 = ((i % 64 : Nat) : Int) := (Int.ofNat_tmod i 64).symm
    have eq64 : ((i : Int)).tdiv 64 = ((i / 64 : Nat) : Int) := (Int.ofNat_tdiv i 64).symm
    have step : ∀ (s : Value) (H : Hp) (h4 : Hp) (KK : Value → Hp → Prop), Hp.le h H → Hp.cle h H → New H t_uint8 1 v h4 (nv .u8 (X.take i)) i → Rn H .u8 s (blk i) →
        (∀ v2 h6, New H t_uint8 1 v2 h6 (nv .u8 (X.take (i + 1))) (i + 1) → KK v2 h6) →
        q P emp (Instr.indexAt t_Sl_uint8 (.slice (some ⟨bb', ob, none⟩) b.length cb) (.int .i64 (i : Int))) fun t41 => q P h4 (Instr.loadAt t_uint8 t41) fun t42 => q P emp (binOp .rem t_int (.int .i64 (i : Int)) (Value.int .i64 64)) fun t45 => q P emp (Instr.indexAt t_Sl_uint8 s t45) fun t46 => q P h4 (Instr.loadAt t_uint8 t46) fun t47 => q P emp (binOp .xor t_uint8 t42 t47) fun t48 =>
        aw P (Instr.buildSlice t_Sl_uint8 1 #[(0, t48)]) (fun t49 h => aw P (Builtin.append_ #[t_Sl_uint8, t_Sl_uint8] t_Sl_uint8 #[v, t49]) (fun t50 h => KK t50 h) h) h4 := by
      intro s H h4 KK lH cH hw hs kk
      have lb : (blk i).length = 64 := blockL_len _ _ _
      have bl : Bytes (blk i) := blockL_bytes _ _ _
      obtain ⟨a0, c0, rfl, hc0⟩ := hs.shape
      obtain ⟨bs, os, rfl, hys⟩ := hs.pos (by omega)
      have c1 : h4.cell ⟨bb', ob + i, none⟩ = some (.int .u8 ((b.getD i 0 : Nat) : Int)) := hw.cle _ _ (cH _ _ (hyb _ hlt))
      have c2 : h4.cell ⟨bs, os + i % 64, none⟩ = some (.int .u8 (((blk i).getD (i % 64) 0 : Nat) : Int)) := hw.cle _ _ (hys _ (by rw [lb]; omega))
      have t1 : ((i % 64 : Nat) : Int) < ((blk i).length : Nat) := by rw [lb]; omega
      simp (disch := omega) only [GL, RL, em, c1, c2]
      rw [ixor8_nat _ _ (bb.getD _) (bl.getD _)]
      refine aw_lit (ps := [(0, _)]) u_Sl_uint8 z_uint8 zr_uint8 rfl (by omega) (by intro p hp; rw [List.mem_singleton.1 hp]; exact ⟨rfl, by show _ < 1; omega⟩) fun x h5 hx _ => ?_
      refine aw_appendN u_Sl_uint8 u_Sl_uint8 nfo_uint8 rfl (by omega) hw hx (by intro y hy; simp [fillL] at hy; subst hy; rfl) (by omega) fun v2 h6 hw6 => kk v2 h6 ?_
      have e3 : X.take (i + 1) = X.take i ++ [b.getD i 0 ^^^ (blk i).getD (i % 64) 0] := by rw [← hX, xorL_take _ _ _ _ _ hlt]
      rw [e3, nv_app]
      exact hw6
    have fin : ∀ (s : Value) (H : Hp), Hp.le h H → Hp.cle h H → Rn H .u8 s (blk i) → ∀ v2 h6, New H t_uint8 1 v2 h6 (nv .u8 (X.take (i + 1))) (i + 1) →
        ∃ h0, Hp.le h0 h6 ∧ ∃ m, m < u ∧ ∃ (i_1 : Nat) (s' v : Value) (H : Hp), i_1 + m = b.length ∧ Hp.le h H ∧ Hp.cle h H ∧ New H t_uint8 1 v h0 (nv .u8 (X.take i_1)) i_1 ∧ (i_1 % 64 ≠ 0 → Rn H .u8 s' (blk i_1)) ∧ [s, v2, Value.int .i64 (IntKind.i64.wrap ((i : Int) + 1))] = [s', v, .int .i64 (i_1 : Int)] := by
      intro s H lH cH hs v2 h6 n6
      rw [wi64 (by omega) (by omega)]
      refine ⟨_, .refl _, u - 1, by omega, i + 1, s, v2, H, by omega, lH, cH, n6, fun q => ?_, rfl⟩
      have : blk (i + 1) = blk i := by show blockL key nonce _ = blockL key nonce _; rw [show (i + 1) / 64 = i / 64 by omega]
      rw [this]
      exact hs
    rw [q_rem (hb := by omega), q_eql, em]
    rw [cnd_bool]
    by_cases h0 : i % 64 = 0
    · rw [if_pos (by rw [beq_iff_eq]; omega)]
      rw [q_quo (hb := by omega), eq64, wi64 (by omega) (by omega), q_conv _ u_int u_uint32, wu32, q_add, add32]
      rw [show (counter + i / 64 % 4294967296) % 4294967296 = (counter + i / 64) % 4294967296 by omega]
      refine T_ref_Block _ (Nat.mod_lt _ (by decide)) ((hk.mono cH).mono hw.cle) ((hn.mono cH).mono hw.cle) bk bn hm.1 hm.2 fun s' h4 n4 => ?_
      have hbl : blockL key nonce ((counter + i / 64) % 4294967296) = blk i := rfl
      rw [hbl] at n4
      have lb : (blk i).length = 64 := blockL_len _ _ _
      obtain ⟨rb, crb, frb, hrb, hcrb, rfl, hh4, _⟩ := New.form n4 (by omega)
      have hw4 := hw.add hrb (AObj.row t_uint8 (nv .u8 (blk i)) (crb * 1) (some frb))
      rw [← hh4] at hw4
      have hrbH : H rb = none := hw.noneAt hrb
      have hsR : Rn (H.set rb (AObj.row t_uint8 (nv .u8 (blk i)) (crb * 1) (some frb))) .u8 (.slice (some ⟨rb, 0, none⟩) (blk i).length crb) (blk i) := by
        refine ⟨by rw [nv_len]; omega, _, _, rfl, hcrb, .inr ⟨rb, 0, rfl, fun j x ex => ?_⟩⟩
        rw [cell_row (Hp.set_same ..), Nat.zero_add]
        exact ex
      refine step _ _ _ (fun t50 h => _) (lH.trans (le_fresh hrbH)) (cH.trans (cle_set rb _ hrbH)) hw4 hsR ?_
      exact fin _ _ (lH.trans (le_fresh hrbH)) (cH.trans (cle_set rb _ hrbH)) hsR
    · rw [if_neg (by rw [beq_iff_eq]; omega)]
      refine step _ _ _ (fun t50 h => _) lH cH hw (hs h0) ?_
      exact fin _ _ lH cH (hs h0)
  · simp only [hlt, decide_false, Bool.false_eq_true, if_false]
    rw [List.take_of_length_le (by omega)] at hw
    obtain ⟨h0, l0, hw0⟩ := New.down lH hw
    refine ⟨h0, l0, k _ _ ?_⟩
    unfold Nn
    rw [lX, show b.length = i by omega]
    exact hw0
end
end Go.Proofs.Ytnecdbclhdbaoaa
set_option linter.unusedSimpArgs false
set_option linter.unusedVariables false
set_option maxRecDepth 100000
namespace Go.Proofs.Ytnecdbclhdbaoaa
open Go Go.SL Go.Pure
section
variable {h : Hp} {K : Value → Hp → Prop}
theorem T_ref_full {v : Value} {O : List Nat} (hv : Rn h .u8 v O) (lO : O.length ≤ 70368744177664) (k : ∀ r h', Nn h t_uint8 .u8 r h' (pad16 O) → K r h') : Cn P n_orlopref06_full #[v] h K := by
  refine F_orlopref06_full ?_
  unfold s_orlopref06_full
  refine aw_lit (ps := []) (n := 0) u_Sl_uint8 z_uint8 zr_uint8 rfl (by omega) (by intro p hp; cases hp) fun v1 h1 n1 _ => ?_
  refine aw_append u_Sl_uint8 u_Sl_uint8 nfo_uint8 rfl (by omega) n1 (hv.mono n1.cle) (nv_flat _ _) (by omega) (.refl _) fun v3 h3 n3 => ?_
  have hw3 : New h t_uint8 1 v3 h3 (nv .u8 O) O.length := by simpa [fillL] using n3
  refine Lp_mk (fun u' vs h' => ∃ (j : Nat) (v : Value), j + u' = need16 O.length ∧ New h t_uint8 1 v h' (nv .u8 (O ++ List.replicate j 0)) (O.length + j) ∧ vs = [v]) (need16 O.length) ⟨0, v3, by omega, by simpa using hw3, rfl⟩ ?_
  clear hw3 n3 n1
  rintro u' vs h' ⟨j, v4, hj, hw, rfl⟩
  have hn16 : need16 O.length < 16 := Nat.mod_lt _ (by decide)
  obtain ⟨a4, c4, rfl⟩ : ∃ a c, v4 = .slice a (O.length + j) c := by
    obtain ⟨_, a, c, e, _⟩ := hw.rds
    exact ⟨a, c, e⟩
  have e1 : decide ((0 : Int) < ((O.length + j : Nat) : Int).tmod 16) = decide ((O.length + j) % 16 ≠ 0) := by
    have : ((O.length + j : Nat) : Int).tmod 16 = (((O.length + j) % 16 : Nat) : Int) := (Int.ofNat_tmod _ 16).symm
    rw [this, decide_eq_decide]; omega
  simp (disch := omega) only [GL, RL, wi64, e1]
  by_cases hz : (O.length + j) % 16 ≠ 0
  · simp (disch := omega) only [hz, decide_true, if_true, not_false_eq_true, ne_eq]
    refine aw_lit (ps := [(0, _)]) u_Sl_uint8 z_uint8 zr_uint8 rfl (by omega) (by intro p hp; rw [List.mem_singleton.1 hp]; exact ⟨rfl, by omega⟩) fun x h4 hx _ => ?_
    refine aw_appendN u_Sl_uint8 u_Sl_uint8 nfo_uint8 rfl (by omega) hw hx (by intro y hy; simp [fillL] at hy; subst hy; rfl) (by omega) fun v5 h5 hw5 => ?_
    have hlt2 : j < need16 O.length := by unfold need16 at hj ⊢; omega
    refine ⟨_, .refl _, u' - 1, by omega, j + 1, v5, by omega, ?_, rfl⟩
    rw [List.replicate_succ', ← List.append_assoc, nv_app]
    exact hw5
  · have hje : j = need16 O.length := by
      simp only [ne_eq, Decidable.not_not] at hz
      unfold need16 at hj ⊢; omega
    simp (disch := omega) only [hz, decide_false, Bool.false_eq_true, if_false, not_true_eq_false, ne_eq]
    refine k _ _ ?_
    unfold Nn pad16
    rw [← hje, List.length_append, List.length_replicate]
    exact hw
end
end Go.Proofs.Ytnecdbclhdbaoaa
set_option linter.unusedSimpArgs false
set_option linter.unusedVariables false
set_option maxRecDepth 100000
set_option maxHeartbeats 2000000
namespace Go.Proofs.Ytnecdbclhdbaoaa
open Go Go.SL Go.Pure
def sumT (a b : List Nat) (i : Nat) : Nat := leval (a.take i) + leval (b.take i)
theorem sumT_succ (a b : List Nat) (i : Nat) : sumT a b (i + 1) = sumT a b i + 256 ^ i * (a.getD i 0 + b.getD i 0) := by
  unfold sumT
  rw [leval_take_succ, leval_take_succ, Nat.mul_add]
  omega
theorem leval_split (a : List Nat) (i : Nat) : leval a = leval (a.take i) + 256 ^ i * leval (a.drop i) := by
  by_cases hi : i ≤ a.length
  · conv => lhs; rw [← List.take_append_drop i a, leval_append, List.length_take, Nat.min_eq_left hi]
  · rw [List.take_of_length_le (by omega), List.drop_of_length_le (by omega)]
    simp [leval]
theorem sumT_digit (a b : List Nat) (i : Nat) : (leval a + leval b) / 256 ^ i % 256 = sumT a b (i + 1) / 256 ^ i % 256 := by
  have e : leval a + leval b = sumT a b (i + 1) + 256 ^ i * (256 * (leval (a.drop (i + 1)) + leval (b.drop (i + 1)))) := by
    rw [leval_split a (i + 1), leval_split b (i + 1), sumT, Nat.pow_succ, Nat.mul_add 256, Nat.mul_add, ← Nat.mul_assoc, ← Nat.mul_assoc]
    omega
  rw [e, Nat.add_mul_div_left _ _ (Nat.pow_pos (by decide)), Nat.add_mul_mod_self_left]
theorem sumT_carry (a b : List Nat) (i : Nat) : sumT a b i / 256 ^ i + (a.getD i 0 + b.getD i 0) = sumT a b (i + 1) / 256 ^ i := by
  rw [sumT_succ, Nat.add_mul_div_left _ _ (Nat.pow_pos (by decide))]
theorem sumT_next (a b : List Nat) (i : Nat) : sumT a b (i + 1) / 256 ^ i / 256 = sumT a b (i + 1) / 256 ^ (i + 1) := by
  rw [Nat.div_div_eq_div_mul, Nat.pow_succ]
theorem sumT_lt {a b : List Nat} (ha : Bytes a) (hb : Bytes b) (i : Nat) : sumT a b i / 256 ^ i < 2 := by
  rw [Nat.div_lt_iff_lt_mul (Nat.pow_pos (by decide))]
  have := leval_take_lt a ha i
  have := leval_take_lt b hb i
  unfold sumT
  omega
section
variable {h : Hp} {K : Value → Hp → Prop}
theorem T_ref_add {va vb : Value} {a b : List Nat} (n : Nat) (hn0 : 0 < n) (hn : n ≤ 1000) (ha : Rn h .i64 va a) (hb : Rn h .i64 vb b) (ba : Bytes a) (bb : Bytes b) (k : ∀ r h', Nn h t_int .i64 r h' (le n (leval a + leval b)) → K r h') :
    Cn P n_orlopref05_add #[va, vb, .int .i64 n] h K := by
  refine F_orlopref05_add ?_
  unfold s_orlopref05_add
  refine aw_make (n := n) (c := n) u_Sl_int nfo_int rfl (Nat.le_refl n) (by omega) (by omega) fun r h1 hw => ?_
  obtain ⟨b0, c0, f, hb0, hc0, rfl, _, _⟩ := hw.form hn0
  rw [replicate_nv] at hw
  obtain ⟨aa, ca, rfl, hca⟩ := ha.shape
  obtain ⟨ab, cb, rfl, hcb⟩ := hb.shape
  refine Lp_mk (fun u vs h' => ∃ i : Nat, i + u = n ∧ New h t_int 1 (.slice (some ⟨b0, 0, none⟩) n c0) h' (nv .i64 ((le n (leval a + leval b)).take i ++ List.replicate (n - i) 0)) n ∧ vs = [.int .i64 ((sumT a b i / 256 ^ i : Nat) : Int), .int .i64 (i : Int)]) n
    ⟨0, by omega, by simpa using hw, by simp [sumT, leval]⟩ ?_
  clear hw
  rintro u vs h2 ⟨i, hi, hw, rfl⟩
  simp (disch := omega) only [GL, RL, wi64, lt_dec]
  by_cases hlt : i < n
  · have hcl := sumT_lt ba bb i
    have hx := ba.getD i
    have hy := bb.getD i
    have hdig := sumT_digit a b i
    have hcar := sumT_carry a b i
    have hnx := sumT_next a b i
    have hst := le_step n (leval a + leval b) i hlt
    obtain ⟨c, hc⟩ : ∃ c, sumT a b i / 256 ^ i = c := ⟨_, rfl⟩
    rw [hc] at hcl hcar ⊢
    have fin : ∀ v : Nat, v = c + (a.getD i 0 + b.getD i 0) → q P h2 (binOp .rem t_int (.int .i64 (v : Int)) (Value.int .i64 256)) fun t40 => q P h2 (Instr.indexAt t_Sl_int (.slice (some ⟨b0, 0, none⟩) n c0) (.int .i64 (i : Int))) fun t41 => aw P (Instr.storeAt t_int t41 t40) (fun _ h_1 => q P h_1 (binOp .quo t_int (.int .i64 (v : Int)) (Value.int .i64 256)) fun t43 =>
        ∃ h0, Hp.le h0 h_1 ∧ ∃ m, m < u ∧ ∃ i_1 : Nat, i_1 + m = n ∧ New h t_int 1 (.slice (some ⟨b0, 0, none⟩) n c0) h0 (nv .i64 ((le n (leval a + leval b)).take i_1 ++ List.replicate (n - i_1) 0)) n ∧ [t43, Value.int .i64 ((i : Int) + 1)] = [.int .i64 ((sumT a b i_1 / 256 ^ i_1 : Nat) : Int), .int .i64 (i_1 : Int)]) h2 := by
      rintro v rfl
      rw [hcar]
      obtain ⟨V, hV⟩ : ∃ V, sumT a b (i + 1) / 256 ^ i = V := ⟨_, rfl⟩
      have hVl : V < 1000 := by rw [← hV, ← hcar]; omega
      rw [hV] at hdig hnx ⊢
      have e1 : ((V : Nat) : Int).tmod 256 = ((V % 256 : Nat) : Int) := (Int.ofNat_tmod V 256).symm
      have e2 : ((V : Nat) : Int).tdiv 256 = ((V / 256 : Nat) : Int) := (Int.ofNat_tdiv V 256).symm
      simp (disch := omega) only [GL, RL, e1, e2, wi64]
      refine aw_storeN z_int hw hlt rfl fun h3 hw3 => ?_
      rw [nv_set, ← hdig, hst] at hw3
      refine ⟨_, .refl _, u - 1, by omega, i + 1, by omega, hw3, ?_⟩
      rw [hnx]
      rfl
    have zA : ¬ i < a.length → a.getD i 0 = 0 := fun q => by simp [List.getElem?_eq_none (show a.length ≤ i by omega)]
    have zB : ¬ i < b.length → b.getD i 0 = 0 := fun q => by simp [List.getElem?_eq_none (show b.length ≤ i by omega)]
    simp only [hlt, decide_true, if_true]
    by_cases hia : i < a.length
    · obtain ⟨b1, o1, rfl, hy1⟩ := ha.pos (by omega)
      have c1 := hw.cle _ _ (hy1 i hia)
      by_cases hib : i < b.length
      · obtain ⟨b2, o2, rfl, hy2⟩ := hb.pos (by omega)
        have c2 := hw.cle _ _ (hy2 i hib)
        simp (disch := omega) only [GL, RL, wi64, lt_dec, hia, hib, decide_true, if_true, c1, c2]
        have := fin _ rfl
        simp (disch := omega) only [GL, RL, wi64] at this
        have e : ((c + (a.getD i 0 + b.getD i 0) : Nat) : Int) = (c : Int) + ((a.getD i 0 : Nat) : Int) + ((b.getD i 0 : Nat) : Int) := by push_cast; omega
        rw [e] at this
        exact this
      · simp (disch := omega) only [GL, RL, wi64, lt_dec, hia, hib, decide_true, decide_false, Bool.false_eq_true, if_false, if_true, c1]
        have := fin _ rfl
        simp (disch := omega) only [GL, RL, wi64] at this
        have e : ((c + (a.getD i 0 + b.getD i 0) : Nat) : Int) = (c : Int) + ((a.getD i 0 : Nat) : Int) := by rw [zB hib]; push_cast; omega
        rw [e] at this
        exact this
    · by_cases hib : i < b.length
      · obtain ⟨b2, o2, rfl, hy2⟩ := hb.pos (by omega)
        have c2 := hw.cle _ _ (hy2 i hib)
        simp (disch := omega) only [GL, RL, wi64, lt_dec, hia, hib, decide_true, decide_false, Bool.false_eq_true, if_false, if_true, c2]
        have := fin _ rfl
        simp (disch := omega) only [GL, RL, wi64] at this
        have e : ((c + (a.getD i 0 + b.getD i 0) : Nat) : Int) = (c : Int) + ((b.getD i 0 : Nat) : Int) := by rw [zA hia]; push_cast; omega
        rw [e] at this
        exact this
      · simp (disch := omega) only [GL, RL, wi64, lt_dec, hia, hib, decide_false, Bool.false_eq_true, if_false]
        have := fin _ rfl
        simp (disch := omega) only [GL, RL, wi64] at this
        have e : ((c + (a.getD i 0 + b.getD i 0) : Nat) : Int) = (c : Int) := by rw [zA hia, zB hib]; rfl
        rw [e] at this
        exact this
  · obtain rfl : i = n := by omega
    simp only [hlt, decide_false, Bool.false_eq_true, if_false]
    rw [List.take_of_length_le (by rw [le_len]; omega), Nat.sub_self, List.replicate_zero, List.append_nil] at hw
    refine k _ _ ?_
    unfold Nn
    rw [le_len]
    exact hw
end
end Go.Proofs.Ytnecdbclhdbaoaa
set_option linter.unusedSimpArgs false
set_option linter.unusedVariables false
set_option maxRecDepth 100000
set_option maxHeartbeats 2000000
namespace Go.Proofs.Ytnecdbclhdbaoaa
open Go Go.SL Go.Pure
theorem leval_at (a : List Nat) (j : Nat) : leval a = leval (a.take j) + 256 ^ j * (a.getD j 0 + 256 * leval (a.drop (j + 1))) := by
  rw [leval_split a (j + 1), leval_take_succ, Nat.pow_succ, Nat.mul_add, ← Nat.mul_assoc]
  omega
theorem less_at {a b : List Nat} (ha : Bytes a) (hb : Bytes b) (j : Nat) (he : a.drop (j + 1) = b.drop (j + 1)) (hne : a.getD j 0 ≠ b.getD j 0) : (leval a < leval b) ↔ a.getD j 0 < b.getD j 0 := by
  rw [leval_at a j, leval_at b j, he]
  have h1 := leval_take_lt a ha j
  have h2 := leval_take_lt b hb j
  have hp : 0 < 256 ^ j := Nat.pow_pos (by decide)
  generalize 256 ^ j = M at h1 h2 hp ⊢
  generalize leval (b.drop (j + 1)) = D
  generalize a.getD j 0 = x at hne ⊢
  generalize b.getD j 0 = y at hne ⊢
  constructor
  · intro q
    rcases Nat.lt_or_ge x y with h | h
    · exact h
    · exfalso
      have hxy : y + 1 ≤ x := by omega
      have : M * (y + 1 + 256 * D) ≤ M * (x + 256 * D) := Nat.mul_le_mul_left M (by omega)
      have e : M * (y + 1 + 256 * D) = M * (y + 256 * D) + M := by rw [show y + 1 + 256 * D = (y + 256 * D) + 1 by omega, Nat.mul_add, Nat.mul_one]
      omega
  · intro q
    have : M * (x + 1 + 256 * D) ≤ M * (y + 256 * D) := Nat.mul_le_mul_left M (by omega)
    have e : M * (x + 1 + 256 * D) = M * (x + 256 * D) + M := by rw [show x + 1 + 256 * D = (x + 256 * D) + 1 by omega, Nat.mul_add, Nat.mul_one]
    omega
section
variable {h : Hp} {K : Value → Hp → Prop}
theorem T_ref_less {va vb : Value} {a b : List Nat} (ha : Rn h .i64 va a) (hb : Rn h .i64 vb b) (ba : Bytes a) (bb : Bytes b) (la : a.length = 17) (lb : b.length = 17) (k : K (.bool (decide (leval a < leval b))) h) : Cn P n_orlopref05_less #[va, vb] h K := by
  refine F_orlopref05_less ?_
  unfold s_orlopref05_less
  obtain ⟨aa, ca, rfl, hca⟩ := ha.shape
  obtain ⟨ab, cb, rfl, hcb⟩ := hb.shape
  obtain ⟨b1, o1, rfl, hy1⟩ := ha.pos (by omega)
  obtain ⟨b2, o2, rfl, hy2⟩ := hb.pos (by omega)
  refine Lp_mk (fun u vs h' => ∃ i : Nat, i = u ∧ i ≤ 17 ∧ h' = h ∧ a.drop i = b.drop i ∧ vs = [.bool false, .int .i64 ((i : Int) - 1)]) 17 ⟨17, rfl, by omega, rfl, by rw [List.drop_of_length_le (by omega), List.drop_of_length_le (by omega)], rfl⟩ ?_
  rintro u vs h2 ⟨i, rfl, hi, rfl, hd, rfl⟩
  by_cases h0 : i = 0
  · subst h0
    simp only [List.drop_zero] at hd
    subst hd
    have e : decide ((0 : Int) ≤ ((0 : Nat) : Int) - 1) = false := rfl
    simp (disch := omega) only [GL, RL, e, Bool.false_eq_true, if_false]
    simpa using k
  · obtain ⟨j, rfl⟩ : ∃ j, i = j + 1 := ⟨i - 1, by omega⟩
    have e0 : ((j + 1 : Nat) : Int) - 1 = (j : Int) := by omega
    have e1 : decide ((0 : Int) ≤ (j : Int)) = true := decide_eq_true (by omega)
    have c1 := hy1 j (by omega)
    have c2 := hy2 j (by omega)
    rw [e0]
    simp (disch := omega) only [GL, RL, e1, if_true, c1, c2, ne_dec, lt_dec]
    by_cases hne : a.getD j 0 ≠ b.getD j 0
    · have hl := less_at ba bb j hd hne
      simp only [hne, ne_eq, not_false_eq_true, decide_true, if_true]
      have : decide (leval a < leval b) = decide (a.getD j 0 < b.getD j 0) := by rw [decide_eq_decide]; exact hl
      rw [this] at k
      exact k
    · have he : a.getD j 0 = b.getD j 0 := by simpa using hne
      simp only [hne, ne_eq, not_true_eq_false, decide_false, Bool.false_eq_true, if_false]
      simp (disch := omega) only [GL, RL, wi64]
      refine ⟨_, .refl _, j, by omega, j, rfl, by omega, rfl, ?_, rfl⟩
      have q1 := List.drop_eq_getElem_cons (l := a) (i := j) (by omega)
      have q2 := List.drop_eq_getElem_cons (l := b) (i := j) (by omega)
      rw [q1, q2, hd]
      simp [List.getD_eq_getElem?_getD, show j < a.length by omega, show j < b.length by omega] at he
      rw [he]
end
end Go.Proofs.Ytnecdbclhdbaoaa
set_option linter.unusedSimpArgs false
set_option linter.unusedVariables false
set_option maxRecDepth 100000
set_option maxHeartbeats 2000000
namespace Go.Proofs.Ytnecdbclhdbaoaa
open Go Go.SL Go.Pure
def primeL : List Nat := 251 :: (List.replicate 15 255 ++ [3])
theorem primeL_len : primeL.length = 17 := rfl
theorem primeL_bytes : Bytes primeL := by intro x hx; simp [primeL, List.mem_replicate] at hx; omega
theorem primeL_val : leval primeL = 2 ^ 130 - 5 := by decide
section
variable {h : Hp} {K : Value → Hp → Prop}
theorem T_ref_prime (k : ∀ r h', Nn h t_int .i64 r h' primeL → K r h') : Cn P n_orlopref05_prime #[] h K := by
  refine F_orlopref05_prime ?_
  unfold s_orlopref05_prime
  refine aw_make (n := 17) (c := 17) u_Sl_int nfo_int rfl (by omega) (by omega) (by omega) fun r h1 hw => ?_
  obtain ⟨b0, c0, f, hb0, hc0, rfl, _, _⟩ := hw.form (by omega)
  rw [replicate_nv] at hw
  refine Lp_mk (fun u vs h' => ∃ i : Nat, i + u = 16 ∧ New h t_int 1 (.slice (some ⟨b0, 0, none⟩) 17 c0) h' (nv .i64 (List.replicate i 255 ++ List.replicate (17 - i) 0)) 17 ∧ vs = [.int .i64 (i : Int)]) 16 ⟨0, rfl, by simpa using hw, rfl⟩ ?_
  clear hw
  rintro u vs h2 ⟨i, hi, hw, rfl⟩
  have e16 : decide ((i : Int) < 16) = decide (i < 16) := lt_dec i 16
  simp (disch := omega) only [GL, RL, wi64, e16]
  by_cases hlt : i < 16
  · simp only [hlt, decide_true, if_true]
    refine aw_storeN z_int hw (by omega) rfl fun h3 hw3 => ?_
    have e : (nv .i64 (List.replicate i 255 ++ List.replicate (17 - i) 0)).set i (.int .i64 255) = nv .i64 (List.replicate (i + 1) 255 ++ List.replicate (17 - (i + 1)) 0) := by
      have := nv_set .i64 (List.replicate i 255 ++ List.replicate (17 - i) 0) i 255
      refine this.trans (congrArg _ ?_)
      obtain ⟨d, hd⟩ : ∃ d, 17 - i = d + 1 := ⟨16 - i, by omega⟩
      rw [hd, List.set_append_right _ _ (by simp), List.length_replicate, Nat.sub_self, List.replicate_succ, List.set_cons_zero, List.replicate_succ', List.append_assoc, show 17 - (i + 1) = d by omega]
      rfl
    rw [e] at hw3
    exact ⟨_, .refl _, u - 1, by omega, i + 1, by omega, hw3, rfl⟩
  · obtain rfl : i = 16 := by omega
    simp only [hlt, decide_false, Bool.false_eq_true, if_false]
    refine aw_storeN (i := 0) z_int hw (by omega) rfl fun h3 hw3 => ?_
    refine aw_storeN (i := 16) z_int hw3 (by omega) rfl fun h4 hw4 => ?_
    exact k _ _ hw4
end
end Go.Proofs.Ytnecdbclhdbaoaa
set_option linter.unusedSimpArgs false
set_option linter.unusedVariables false
set_option maxRecDepth 100000
set_option maxHeartbeats 2000000
namespace Go.Proofs.Ytnecdbclhdbaoaa
open Go Go.SL Go.Pure
theorem le_leval {l : List Nat} (h : Bytes l) : le l.length (leval l) = l := by
  induction l with
  | nil => rfl
  | cons x l ih =>
    have hx := h x (List.mem_cons_self ..)
    have e1 : leval (x :: l) % 256 = x := by simp only [leval]; omega
    have e2 : leval (x :: l) / 256 = leval l := by simp only [leval]; omega
    simp only [List.length_cons, le, e1, e2, ih fun y hy => h y (List.mem_cons_of_mem _ hy)]
theorem leval_set (l : List Nat) (i x : Nat) (hi : i < l.length) : leval (l.set i x) + 256 ^ i * l.getD i 0 = leval l + 256 ^ i * x := by
  induction l generalizing i with
  | nil => simp at hi
  | cons y l ih =>
    cases i with
    | zero => simp [leval]; omega
    | succ i =>
      have := ih i (by simpa using hi)
      simp only [List.set_cons_succ, leval, List.getD_cons_succ, Nat.pow_succ]
      have e1 : 256 ^ i * 256 * l.getD i 0 = 256 * (256 ^ i * l.getD i 0) := by rw [Nat.mul_comm (256 ^ i) 256, Nat.mul_assoc]
      have e2 : 256 ^ i * 256 * x = 256 * (256 ^ i * x) := by rw [Nat.mul_comm (256 ^ i) 256, Nat.mul_assoc]
      rw [e1, e2]
      omega
/-- What is carried along in a product. -/
def Mul (a b : List Nat) (i k c : Nat) (o : List Nat) : Prop :=
  o.length = 36 ∧ Bytes o ∧ c < 256 ∧ leval o + 256 ^ (i + k) * c = leval (a.take i) * leval b + 256 ^ i * (a.getD i 0 * leval (b.take k))
theorem Mul.bound {a b o : List Nat} {i k c : Nat} (m : Mul a b i k c o) (ha : Bytes a) (hb : Bytes b) (hc : 0 < c) : k ≤ b.length := by
  obtain ⟨_, _, _, e⟩ := m
  rcases Nat.lt_or_ge b.length k with h | h
  · exfalso
    have h1 := leval_take_lt a ha i
    have h2 := leval_lt b hb
    have h3 := leval_take_lt b hb k
    have h4 := ha.getD i
    have h5 : leval (b.take k) = leval b := by rw [List.take_of_length_le (by omega)]
    rw [h5] at e
    -- the right side is below 256 ^ (i + 1 + b.length)
    have e1 : leval (a.take i) * leval b + 256 ^ i * (a.getD i 0 * leval b) = (leval (a.take i) + 256 ^ i * a.getD i 0) * leval b := by rw [Nat.add_mul, Nat.mul_assoc]
    have e2 : leval (a.take i) + 256 ^ i * a.getD i 0 = leval (a.take (i + 1)) := (leval_take_succ a i).symm
    have h6 := leval_take_lt a ha (i + 1)
    have h7 : leval (a.take (i + 1)) * leval b < 256 ^ (i + 1) * 256 ^ b.length := Nat.mul_lt_mul_of_lt_of_lt h6 h2
    rw [e1, e2] at e
    rw [← Nat.pow_add] at h7
    have h8 : 256 ^ (i + 1 + b.length) ≤ 256 ^ (i + k) := Nat.pow_le_pow_right (by decide) (by omega)
    have h9 : 256 ^ (i + k) ≤ 256 ^ (i + k) * c := Nat.le_mul_of_pos_right _ hc
    omega
  · exact h
theorem Mul.step {a b o : List Nat} {i k c : Nat} (m : Mul a b i k c o) (ha : Bytes a) (hb : Bytes b) (hk : i + k < 36) (v : Nat) (hv : v = o.getD (i + k) 0 + c + a.getD i 0 * b.getD k 0) : Mul a b i (k + 1) (v / 256) (o.set (i + k) (v % 256)) := by
  obtain ⟨lo, bo, hc, e⟩ := m
  have h1 := bo.getD (i + k)
  have h2 := ha.getD i
  have h3 := hb.getD k
  have h4 : a.getD i 0 * b.getD k 0 ≤ 255 * 255 := Nat.mul_le_mul (by omega) (by omega)
  refine ⟨by rw [List.length_set]; exact lo, bo.set _ (Nat.mod_lt _ (by decide)), by omega, ?_⟩
  have hs := leval_set o (i + k) (v % 256) (by omega)
  have ht := leval_take_succ b k
  rw [ht]
  have p1 : 256 ^ (i + (k + 1)) = 256 ^ (i + k) * 256 := by rw [← Nat.add_assoc, Nat.pow_succ]
  have p2 : 256 ^ i * (a.getD i 0 * (leval (b.take k) + 256 ^ k * b.getD k 0)) = 256 ^ i * (a.getD i 0 * leval (b.take k)) + 256 ^ (i + k) * (a.getD i 0 * b.getD k 0) := by
    rw [Nat.mul_add, Nat.mul_add, Nat.pow_add]
    congr 1
    rw [Nat.mul_left_comm (a.getD i 0), ← Nat.mul_assoc]
  rw [p1, p2, Nat.mul_assoc]
  have p3 : 256 ^ (i + k) * (256 * (v / 256)) + 256 ^ (i + k) * (v % 256) = 256 ^ (i + k) * v := by rw [← Nat.mul_add, Nat.div_add_mod]
  have p4 : 256 ^ (i + k) * v = 256 ^ (i + k) * o.getD (i + k) 0 + 256 ^ (i + k) * c + 256 ^ (i + k) * (a.getD i 0 * b.getD k 0) := by rw [hv, Nat.mul_add, Nat.mul_add]
  omega
end Go.Proofs.Ytnecdbclhdbaoaa
set_option linter.unusedSimpArgs false
set_option linter.unusedVariables false
set_option maxRecDepth 100000
set_option maxHeartbeats 2000000
namespace Go.Proofs.Ytnecdbclhdbaoaa
open Go Go.SL Go.Pure
section
variable {h : Hp} {K : Value → Hp → Prop}
theorem T_ref_times {va vb : Value} {a b : List Nat} (ha : Rn h .i64 va a) (hb : Rn h .i64 vb b) (ba : Bytes a) (bb : Bytes b) (hl : a.length + b.length ≤ 36) (k : ∀ r h', Nn h t_int .i64 r h' (le 36 (leval a * leval b)) → K r h') :
    Cn P n_orlopref05_times #[va, vb] h K := by
  refine F_orlopref05_times ?_
  unfold s_orlopref05_times
  refine aw_make (n := 36) (c := 36) u_Sl_int nfo_int rfl (by omega) (by omega) (by omega) fun r h1 hw => ?_
  obtain ⟨b0, c0, f, hb0, hc0, rfl, _, _⟩ := hw.form (by omega)
  rw [replicate_nv] at hw
  obtain ⟨aa, ca, rfl, hca⟩ := ha.shape
  obtain ⟨ab, cb, rfl, hcb⟩ := hb.shape
  have z0 : ∀ n : Nat, leval (List.replicate n 0) = 0 := fun n => by
    induction n with
    | zero => rfl
    | succ n ih => simp [List.replicate_succ, leval, ih]
  refine Lp_mk (fun u vs h' => ∃ (i : Nat) (o : List Nat), i + u = a.length ∧ New h t_int 1 (.slice (some ⟨b0, 0, none⟩) 36 c0) h' (nv .i64 o) 36 ∧ Bytes o ∧ leval o = leval (a.take i) * leval b ∧ vs = [.int .i64 (i : Int)]) a.length
    ⟨0, List.replicate 36 0, by omega, hw, by intro x hx; rw [List.mem_replicate] at hx; omega, by rw [z0]; simp [leval], rfl⟩ ?_
  clear hw
  rintro u vs h2 ⟨i, o, hi, hw, bo, ho, rfl⟩
  have lo : o.length = 36 := by have := hw.1; rw [nv_len] at this; omega
  simp (disch := omega) only [GL, RL, wi64, lt_dec]
  by_cases hlt : i < a.length
  · simp only [hlt, decide_true, if_true]
    obtain ⟨b1, o1, rfl, hy1⟩ := ha.pos (by omega)
    refine Lp_mk (fun u' vs h' => ∃ (j c : Nat) (o : List Nat), j + u' = 36 ∧ i + j ≤ 36 ∧ New h t_int 1 (.slice (some ⟨b0, 0, none⟩) 36 c0) h' (nv .i64 o) 36 ∧ Mul a b i j c o ∧ vs = [.int .i64 (c : Int), .int .i64 (j : Int)]) 36
      ⟨0, 0, o, rfl, by omega, hw, ⟨lo, bo, by omega, by simp [ho, leval]⟩, rfl⟩ ?_
    clear hw bo ho lo
    rintro u' vs h3 ⟨j, c, o, hj, hij, hw, hm, rfl⟩
    have lo := hm.1
    have bo := hm.2.1
    have hc := hm.2.2.1
    have egt : decide ((0 : Int) < (c : Int)) = decide (0 < c) := lt_dec 0 c
    have eij : (i : Int) + (j : Int) = ((i + j : Nat) : Int) := by omega
    have h1 := bo.getD (i + j)
    have h4 : a.getD i 0 * b.getD j 0 ≤ 255 * 255 := Nat.mul_le_mul (by have := ba.getD i; omega) (by have := bb.getD j; omega)
    obtain ⟨V, hV⟩ : ∃ V, o.getD (i + j) 0 + c + a.getD i 0 * b.getD j 0 = V := ⟨_, rfl⟩
    have e1 : ((V : Nat) : Int).tmod 256 = ((V % 256 : Nat) : Int) := (Int.ofNat_tmod V 256).symm
    have e2 : ((V : Nat) : Int).tdiv 256 = ((V / 256 : Nat) : Int) := (Int.ofNat_tdiv V 256).symm
    have fin : i + j < 36 → aw P (Instr.storeAt t_int (.pointer (some ⟨b0, i + j, none⟩)) (.int .i64 ((V % 256 : Nat) : Int))) (fun _ h_1 => ∃ h0, Hp.le h0 h_1 ∧ ∃ m, m < u' ∧ ∃ (j_1 c : Nat) (o : List Nat), j_1 + m = 36 ∧ i + j_1 ≤ 36 ∧
        New h t_int 1 (.slice (some ⟨b0, 0, none⟩) 36 c0) h0 (nv .i64 o) 36 ∧ Mul a b i j_1 c o ∧ [Value.int .i64 ((V / 256 : Nat) : Int), Value.int .i64 ((j : Int) + 1)] = [.int .i64 (c : Int), .int .i64 (j_1 : Int)]) h3 := by
      intro hlt36
      refine aw_storeN z_int hw hlt36 rfl fun h4 hw4 => ?_
      rw [nv_set] at hw4
      exact ⟨_, .refl _, u' - 1, by omega, j + 1, V / 256, _, by omega, by omega, hw4, hm.step ba bb hlt36 V hV.symm, rfl⟩
    have zB : ¬ j < b.length → b.getD j 0 = 0 := fun q => by simp [List.getElem?_eq_none (show b.length ≤ j by omega)]
    obtain ⟨bw, cw, fw, hbw, _, hvw, hhw, _⟩ := hw.form (by omega)
    simp only [Value.slice.injEq, Option.some.injEq, Addr.mk.injEq] at hvw
    obtain ⟨⟨rfl, _⟩, _, rfl⟩ := hvw
    have co : i + j < 36 → h3.cell ⟨b0, i + j, none⟩ = some (.int .i64 ((o.getD (i + j) 0 : Nat) : Int)) := fun q => cellN (by rw [hhw]; exact Hp.set_same ..) (by omega)
    by_cases hjb : j < b.length
    · obtain ⟨b2, o2, rfl, hy2⟩ := hb.pos (by omega)
      have hlt36 : i + j < 36 := by omega
      have c1 := hw.cle _ _ (hy1 i hlt)
      have c2 := hw.cle _ _ (hy2 j hjb)
      have c3 := co hlt36
      have ev : ((o.getD (i + j) 0 : Nat) : Int) + (c : Int) + ((a.getD i 0 * b.getD j 0 : Nat) : Int) = (V : Int) := by rw [← hV]; push_cast; omega
      have em : ((a.getD i 0 : Nat) : Int) * ((b.getD j 0 : Nat) : Int) = ((a.getD i 0 * b.getD j 0 : Nat) : Int) := by push_cast; rfl
      simp (disch := omega) only [GL, RL, wi64, lt_dec, egt, eij, hjb, decide_true, Bool.true_eq_false, if_false, if_true, c1, c2, c3, em, ev, e1, e2]
      exact fin hlt36
    · have hz := zB hjb
      have eV : V = o.getD (i + j) 0 + c := by rw [← hV, hz, Nat.mul_zero, Nat.add_zero]
      by_cases hc0 : 0 < c
      · have hk := hm.bound ba bb hc0
        have hlt36 : i + j < 36 := by omega
        have c3 := co hlt36
        have ev : ((o.getD (i + j) 0 : Nat) : Int) + (c : Int) = (V : Int) := by rw [eV]; push_cast; rfl
        simp (disch := omega) only [GL, RL, wi64, lt_dec, egt, eij, hjb, hc0, decide_true, decide_false, Bool.false_eq_true, if_false, if_true, c3, ev, e1, e2]
        exact fin hlt36
      · simp (disch := omega) only [GL, RL, wi64, lt_dec, egt, eij, hjb, hc0, decide_false, Bool.false_eq_true, if_false, if_true]
        refine ⟨_, .refl _, u - 1, by omega, i + 1, o, by omega, hw, bo, ?_, rfl⟩
        have := hm.2.2.2
        rw [show c = 0 by omega, Nat.mul_zero, Nat.add_zero, List.take_of_length_le (l := b) (i := j) (by omega)] at this
        rw [this, leval_take_succ, Nat.add_mul, Nat.mul_assoc]
  · obtain rfl : i = a.length := by omega
    simp only [hlt, decide_false, Bool.false_eq_true, if_false]
    rw [List.take_length] at ho
    have := le_leval bo
    rw [lo, ho] at this
    refine k _ _ ?_
    unfold Nn
    rw [le_len, this]
    exact hw
end
end Go.Proofs.Ytnecdbclhdbaoaa
set_option linter.unusedSimpArgs false
set_option linter.unusedVariables false
namespace Go.Pure
abbrev PP : Nat := 1361129467683753853853498429727072845819
/-- The number that limbs are. -/
def lval : List Nat → Nat
  | [] => 0
  | x :: l => x + 67108864 * lval l
/-- What is less by a multiple. -/
def Red (a b : Nat) : Prop := ∃ q, a = b + PP * q
theorem Red.refl (a : Nat) : Red a a := ⟨0, rfl⟩
theorem Red.of {a b : Nat} (e : a = b) : Red a b := ⟨0, e⟩
theorem Red.trans {a b c : Nat} (x : Red a b) (y : Red b c) : Red a c := by
  obtain ⟨q, rfl⟩ := x
  obtain ⟨r, rfl⟩ := y
  exact ⟨r + q, by rw [Nat.mul_add]; omega⟩
theorem Red.mod {a b : Nat} (x : Red a b) : a % PP = b % PP := by
  obtain ⟨q, rfl⟩ := x
  exact Nat.add_mul_mod_self_left b PP q
theorem Red.add {a b : Nat} (x : Red a b) (c : Nat) : Red (a + c) (b + c) := by
  obtain ⟨q, rfl⟩ := x
  exact ⟨q, by omega⟩
theorem Red.addL {a b : Nat} (c : Nat) (x : Red a b) : Red (c + a) (c + b) := by
  obtain ⟨q, rfl⟩ := x
  exact ⟨q, by omega⟩
theorem lval_set (l : List Nat) (i x : Nat) (hi : i < l.length) : lval (l.set i x) + 67108864 ^ i * l.getD i 0 = lval l + 67108864 ^ i * x := by
  induction l generalizing i with
  | nil => simp at hi
  | cons y l ih =>
    cases i with
    | zero => simp [lval]; omega
    | succ i =>
      have := ih i (by simpa using hi)
      simp only [List.set_cons_succ, lval, List.getD_cons_succ, Nat.pow_succ]
      have e1 : 67108864 ^ i * 67108864 * l.getD i 0 = 67108864 * (67108864 ^ i * l.getD i 0) := by rw [Nat.mul_comm (67108864 ^ i) 67108864, Nat.mul_assoc]
      have e2 : 67108864 ^ i * 67108864 * x = 67108864 * (67108864 ^ i * x) := by rw [Nat.mul_comm (67108864 ^ i) 67108864, Nat.mul_assoc]
      rw [e1, e2]
      omega
theorem getD_setI (l : List Nat) (i j x : Nat) (hi : i < l.length) : (l.set i x).getD j 0 = if j = i then x else l.getD j 0 := by
  simp only [List.getD_eq_getElem?_getD, List.getElem?_set]
  by_cases e : i = j
  · subst e; simp [hi]
  · simp [e, Ne.symm e]
theorem list5 {l : List Nat} (h : l.length = 5) : ∃ a b c d e, l = [a, b, c, d, e] := by
  match l, h with
  | [a, b, c, d, e], _ => exact ⟨a, b, c, d, e, rfl⟩
theorem lval5 {l : List Nat} (h : l.length = 5) : lval l = l.getD 0 0 + 67108864 * l.getD 1 0 + 4503599627370496 * l.getD 2 0 + 302231454903657293676544 * l.getD 3 0 + 20282409603651670423947251286016 * l.getD 4 0 := by
  obtain ⟨a, b, c, d, e, rfl⟩ := list5 h
  simp [lval]; omega
/-- Limbs below a bound. -/
def Lim (B : Nat) (l : List Nat) : Prop := ∀ i, l.getD i 0 < B
theorem Lim.mono {B B' : Nat} {l : List Nat} (h : Lim B l) (hb : B ≤ B') : Lim B' l := fun i => Nat.lt_of_lt_of_le (h i) hb
theorem Lim.set {B : Nat} {l : List Nat} (h : Lim B l) (i : Nat) {x : Nat} (hx : x < B) : Lim B (l.set i x) := by
  intro j
  rcases Nat.lt_or_ge i l.length with hi | hi
  · rw [getD_setI l i j x hi]
    split
    · exact hx
    · exact h j
  · rw [List.set_eq_of_length_le hi]; exact h j
/-! ### Sums -/
theorem addN_spec (S M : List Nat) (hS : S.length = 5) {B C : Nat} (bS : Lim B S) (bM : Lim C M) (hBC : B + C ≤ 18446744073709551616) (hC : 0 < C) (i : Nat) (hi : i ≤ 5) :
    (∀ j, (addN S M i).getD j 0 = if j < i then S.getD j 0 + M.getD j 0 else S.getD j 0) := by
  induction i with
  | zero => intro j; simp [addN]
  | succ i ih =>
    intro j
    have ih := ih (by omega)
    have h1 := bS i
    have h2 := bM i
    have e0 : (addN S M i).getD i 0 = S.getD i 0 := by rw [ih i, if_neg (by omega)]
    rw [addN, getD_setI _ _ _ _ (by rw [addN_len]; omega), e0, Nat.mod_eq_of_lt (show S.getD i 0 + M.getD i 0 < 18446744073709551616 by omega)]
    by_cases e : j = i
    · subst e; rw [if_pos rfl, if_pos (by omega)]
    · rw [if_neg e, ih j]
      by_cases e2 : j < i
      · rw [if_pos e2, if_pos (by omega)]
      · rw [if_neg e2, if_neg (by omega)]
theorem addL_spec (S M : List Nat) (hS : S.length = 5) (hM : M.length = 5) {B C : Nat} (bS : Lim B S) (bM : Lim C M) (hBC : B + C ≤ 18446744073709551616) (hC : 0 < C) :
    lval (addL S M) = lval S + lval M ∧ Lim (B + C) (addL S M) := by
  have h := addN_spec S M hS bS bM hBC hC 5 (by omega)
  refine ⟨?_, fun j => ?_⟩
  · rw [lval5 (show (addL S M).length = 5 by rw [addL, addN_len, hS]), lval5 hS, lval5 hM]
    have e := fun j => h j
    unfold addL
    simp only [e]
    simp only [Nat.reduceLT, if_true]
    omega
  · unfold addL
    rw [h j]
    have h1 := bS j
    have h2 := bM j
    split <;> omega
/-! ### Carrying -/
theorem carryN_spec (S : List Nat) (hS : S.length = 5) {B : Nat} (bS : Lim B S) (hB : B ≤ 9223372036854775808) (i : Nat) (hi : i ≤ 5) :
    lval (carryN S i).2 + 67108864 ^ i * (carryN S i).1 = lval S ∧ (∀ j, i ≤ j → (carryN S i).2.getD j 0 = S.getD j 0) ∧ (∀ j, j < i → (carryN S i).2.getD j 0 < 67108864) ∧
      ((carryN S i).1 ≤ B / 33554432) ∧ (B ≤ 134217728 → (carryN S i).1 ≤ (if B ≤ 134217727 then 1 else 2)) := by
  induction i with
  | zero => exact ⟨by simp [carryN], fun _ _ => rfl, fun j hj => by omega, by simp [carryN], fun _ => by simp [carryN]⟩
  | succ i ih =>
    obtain ⟨h1, h2, h3, h4, h5⟩ := ih (by omega)
    have e2 := h2 i (Nat.le_refl _)
    have b2 := bS i
    have hlen : i < (carryN S i).2.length := by rw [carryN_len]; omega
    have hx : (carryN S i).2.getD i 0 + (carryN S i).1 < 18446744073709551616 := by rw [e2]; omega
    have hs := lval_set (carryN S i).2 i (((carryN S i).2.getD i 0 + (carryN S i).1) % 67108864) hlen
    simp only [carryN, Nat.mod_eq_of_lt hx]
    refine ⟨?_, fun j hj => ?_, fun j hj => ?_, ?_, fun hb => ?_⟩
    · rw [Nat.pow_succ, Nat.mul_assoc]
      have hd := Nat.div_add_mod ((carryN S i).2.getD i 0 + (carryN S i).1) 67108864
      have : 67108864 ^ i * (67108864 * (((carryN S i).2.getD i 0 + (carryN S i).1) / 67108864)) + 67108864 ^ i * (((carryN S i).2.getD i 0 + (carryN S i).1) % 67108864) =
          67108864 ^ i * (carryN S i).2.getD i 0 + 67108864 ^ i * (carryN S i).1 := by rw [← Nat.mul_add, hd, Nat.mul_add]
      omega
    · rw [getD_setI _ _ _ _ hlen, if_neg (by omega), h2 j (by omega)]
    · rw [getD_setI _ _ _ _ hlen]
      split
      · exact Nat.mod_lt _ (by decide)
      · exact h3 j (by omega)
    · rw [e2]; omega
    · have h5 := h5 hb
      rw [e2]
      split at h5
      · rename_i hle; rw [if_pos hle]; omega
      · rename_i hle; rw [if_neg hle]; omega
theorem carryL_spec (S : List Nat) (hS : S.length = 5) {B : Nat} (bS : Lim B S) (hB : B ≤ 9223372036854775808) :
    Red (lval S) (lval (carryL S)) ∧ Lim 67108864 ((carryL S).set 1 0) ∧ (carryL S).getD 1 0 < 67108864 + (B / 6710886 + 67108865) / 67108864 ∧
      (B ≤ 134217727 → (carryL S).getD 1 0 ≤ 67108864 ∧ (Lim 67108864 (S.set 1 0) → S.getD 1 0 ≤ 67108864 → Lim 67108864 (carryL S))) := by
  obtain ⟨h1, h2, h3, h4, h5⟩ := carryN_spec S hS bS hB 5 (by omega)
  have hT : (carryN S 5).2.length = 5 := by rw [carryN_len, hS]
  have eL : carryL S = carryE (carryN S 5).1 (carryN S 5).2 := rfl
  -- with no carry at all
  have hz : Lim 67108864 (S.set 1 0) → S.getD 1 0 ≤ 67108864 → (carryN S 5).1 = 0 ∧ (carryN S 5).2 = S ∧ Lim 67108864 S ∨ (carryN S 5).2.getD 1 0 = 0 := by
    intro hl h1'
    rcases Nat.lt_or_ge (S.getD 1 0) 67108864 with q | q
    · left
      have hS' : Lim 67108864 S := fun j => by
        have := hl j
        rw [getD_setI _ _ _ _ (by omega)] at this
        split at this
        · rename_i e; subst e; exact q
        · exact this
      have key : ∀ i, i ≤ 5 → carryN S i = (0, S) := by
        intro i hi
        induction i with
        | zero => rfl
        | succ i ih =>
          have := hS' i
          simp only [carryN, ih (by omega), Nat.add_zero, Nat.mod_eq_of_lt (show S.getD i 0 < 18446744073709551616 by omega), Nat.mod_eq_of_lt this, Nat.div_eq_of_lt this]
          congr 1
          apply List.ext_getElem?
          intro j
          rw [List.getElem?_set]
          split
          · rename_i e; subst e
            rw [if_pos (by omega)]
            simp [List.getElem?_eq_getElem (show i < S.length by omega)]
          · rfl
      rw [key 5 (by omega)]
      exact ⟨rfl, rfl, hS'⟩
    · right
      have e1 : S.getD 1 0 = 67108864 := by omega
      have h0 := hl 0
      rw [getD_setI _ _ _ _ (by omega), if_neg (by omega)] at h0
      have c0 : carryN S 1 = (0, S.set 0 (S.getD 0 0)) := by
        simp only [carryN, Nat.add_zero, Nat.mod_eq_of_lt (show S.getD 0 0 < 18446744073709551616 by omega), Nat.mod_eq_of_lt h0, Nat.div_eq_of_lt h0]
      have c1 : (carryN S 2).2.getD 1 0 = 0 := by
        show ((carryN S 1).2.set 1 _).getD 1 0 = 0
        rw [c0]
        simp only
        rw [getD_setI _ _ _ _ (by rw [List.length_set]; omega), if_pos rfl, getD_setI _ _ _ _ (by omega), if_neg (by omega), e1]
      have keep : ∀ i, 2 ≤ i → i ≤ 5 → (carryN S i).2.getD 1 0 = 0 := by
        intro i h2 h5
        induction i with
        | zero => omega
        | succ i ih =>
          rcases Nat.lt_or_ge i 2 with q | q
          · obtain rfl : i = 1 := by omega
            exact c1
          · simp only [carryN]
            rw [getD_setI _ _ _ _ (by rw [carryN_len]; omega), if_neg (by omega), ih q (by omega)]
      exact keep 5 (by omega) (by omega)
  have l5 := h3
  generalize carryN S 5 = U at h1 h2 h3 h4 h5 hT eL hz l5
  obtain ⟨c, T⟩ := U
  simp only at h1 h2 h3 h4 h5 hT eL hz l5
  obtain ⟨t0, t1, t2, t3, t4, rfl⟩ := list5 hT
  have b0 : t0 < 67108864 := h3 0 (by omega)
  have b1 : t1 < 67108864 := h3 1 (by omega)
  have b2 : t2 < 67108864 := h3 2 (by omega)
  have b3 : t3 < 67108864 := h3 3 (by omega)
  have b4 : t4 < 67108864 := h3 4 (by omega)
  have m1 : 5 * c % 18446744073709551616 = 5 * c := Nat.mod_eq_of_lt (by omega)
  have m2 : (t0 + 5 * c) % 18446744073709551616 = t0 + 5 * c := Nat.mod_eq_of_lt (by omega)
  have m3 : (t1 + (t0 + 5 * c) / 67108864) % 18446744073709551616 = t1 + (t0 + 5 * c) / 67108864 := Nat.mod_eq_of_lt (by omega)
  have eE : carryL S = [(t0 + 5 * c) % 67108864, t1 + (t0 + 5 * c) / 67108864, t2, t3, t4] := by
    rw [eL]
    simp [carryE, m1, m2, m3]
  rw [eE]
  refine ⟨⟨c, ?_⟩, fun j => ?_, ?_, fun hb => ⟨?_, fun hl h1' => ?_⟩⟩
  · rw [← h1]
    simp only [lval, PP]
    have : 67108864 ^ 5 * c = 1361129467683753853853498429727072845824 * c := by rw [show (67108864 : Nat) ^ 5 = 1361129467683753853853498429727072845824 from rfl]
    rw [this]
    omega
  · rw [getD_setI _ _ _ _ (by simp)]
    have : (t0 + 5 * c) % 67108864 < 67108864 := Nat.mod_lt _ (by decide)
    match j with
    | 0 => simpa using this
    | 1 => simp
    | 2 => simpa using b2
    | 3 => simpa using b3
    | 4 => simpa using b4
    | j + 5 => simp
  · show t1 + (t0 + 5 * c) / 67108864 < _
    omega
  · show t1 + (t0 + 5 * c) / 67108864 ≤ _
    have := h5 (by omega)
    rw [if_pos hb] at this
    omega
  · have hc := h5 (by omega)
    rw [if_pos hb] at hc
    have : (t0 + 5 * c) % 67108864 < 67108864 := Nat.mod_lt _ (by decide)
    have t1' : t1 + (t0 + 5 * c) / 67108864 < 67108864 := by
      rcases hz hl h1' with ⟨rfl, _, _⟩ | e
      · omega
      · have : t1 = 0 := e
        omega
    intro j
    match j with
    | 0 => simpa using this
    | 1 => simpa using t1'
    | 2 => simpa using b2
    | 3 => simpa using b3
    | 4 => simpa using b4
    | j + 5 => simp
end Go.Pure
set_option linter.unusedSimpArgs false
set_option linter.unusedVariables false
namespace Go.Pure
/-! ### Products -/
theorem tval_spec (i k : Nat) (S R : List Nat) {B C : Nat} (bS : Lim B S) (bR : Lim C R) (hBC : B * C * 5 ≤ 18446744073709551616) (hB : 0 < B) (hC : 0 < C) :
    tval i k S R = (if 5 ≤ i + k then S.getD i 0 * R.getD k 0 * 5 else S.getD i 0 * R.getD k 0) ∧ tval i k S R < B * C * 5 := by
  have h1 := bS i
  have h2 := bR k
  have h3 : S.getD i 0 * R.getD k 0 < B * C := Nat.mul_lt_mul_of_lt_of_lt h1 h2
  unfold tval
  have m1 : S.getD i 0 * R.getD k 0 % 18446744073709551616 = S.getD i 0 * R.getD k 0 := Nat.mod_eq_of_lt (by omega)
  rw [m1]
  split
  · rw [Nat.mod_eq_of_lt (by omega)]
    exact ⟨rfl, by omega⟩
  · exact ⟨rfl, by omega⟩
theorem pow26_5 (n : Nat) : 67108864 ^ (n + 5) = 67108864 ^ n * (PP + 5) := by rw [Nat.pow_add]
theorem tin_spec (S R : List Nat) (i : Nat) (hi : i < 5) (O : List Nat) (hO : O.length = 5) {B C D : Nat} (bS : Lim B S) (bR : Lim C R) (hBC : B * C * 5 ≤ 18446744073709551616) (hB : 0 < B) (hC : 0 < C) (bO : Lim D O) (k : Nat) (hk : k ≤ 5)
    (hD : D + 5 * (B * C * 5) ≤ 18446744073709551616) :
    Red (lval O + 67108864 ^ i * (S.getD i 0 * lval (R.take k))) (lval (tin S R i O k)) ∧ Lim (D + k * (B * C * 5)) (tin S R i O k) := by
  have take_succ : ∀ (l : List Nat) (i : Nat), lval (l.take (i + 1)) = lval (l.take i) + 67108864 ^ i * l.getD i 0 := by
    intro l
    induction l with
    | nil => intro i; simp [lval]
    | cons x l ih =>
      intro i
      cases i with
      | zero => simp [lval]
      | succ i =>
        simp only [List.take_succ_cons, lval, List.getD_cons_succ, Nat.pow_succ]
        rw [ih i, Nat.mul_comm (67108864 ^ i) 67108864, Nat.mul_assoc]
        omega
  induction k with
  | zero => exact ⟨⟨0, by simp [tin, lval]⟩, by simpa [tin] using bO⟩
  | succ k ih =>
    obtain ⟨h1, h2⟩ := ih (by omega)
    obtain ⟨e1, b1⟩ := tval_spec i k S R bS bR hBC hB hC
    have hm : (i + k) % 5 < 5 := Nat.mod_lt _ (by decide)
    have hlen : (i + k) % 5 < (tin S R i O k).length := by rw [tin_len]; omega
    have hx := h2 ((i + k) % 5)
    have hkm : k * (B * C * 5) ≤ 4 * (B * C * 5) := Nat.mul_le_mul_right _ (by omega)
    have e2 : (k + 1) * (B * C * 5) = k * (B * C * 5) + B * C * 5 := Nat.succ_mul _ _
    have hw : (tin S R i O k).getD ((i + k) % 5) 0 + tval i k S R < 18446744073709551616 := by omega
    simp only [tin, Nat.mod_eq_of_lt hw]
    refine ⟨?_, fun j => ?_⟩
    · have hs := lval_set (tin S R i O k) ((i + k) % 5) ((tin S R i O k).getD ((i + k) % 5) 0 + tval i k S R) hlen
      rw [Nat.mul_add] at hs
      have hl : lval ((tin S R i O k).set ((i + k) % 5) ((tin S R i O k).getD ((i + k) % 5) 0 + tval i k S R)) = lval (tin S R i O k) + 67108864 ^ ((i + k) % 5) * tval i k S R := by omega
      rw [hl, take_succ, Nat.mul_add, Nat.mul_add, ← Nat.add_assoc]
      have e3 : 67108864 ^ i * (S.getD i 0 * (67108864 ^ k * R.getD k 0)) = 67108864 ^ (i + k) * (S.getD i 0 * R.getD k 0) := by
        rw [Nat.pow_add, Nat.mul_left_comm (S.getD i 0), Nat.mul_assoc]
      rw [e3]
      refine (h1.add _).trans ?_
      refine Red.addL _ ?_
      rw [e1]
      split
      · rename_i hge
        have e4 : i + k = (i + k) % 5 + 5 := by omega
        generalize (i + k) % 5 = n at e4 ⊢
        rw [e4, pow26_5]
        refine ⟨67108864 ^ n * (S.getD i 0 * R.getD k 0), ?_⟩
        rw [Nat.mul_add, Nat.add_mul, Nat.add_comm]
        congr 1
        · rw [Nat.mul_comm (S.getD i 0 * R.getD k 0) 5]; simp only [Nat.mul_assoc]
        · rw [Nat.mul_comm (67108864 ^ n) PP, Nat.mul_assoc]
      · rw [Nat.mod_eq_of_lt (show i + k < 5 by omega)]
        exact Red.refl _
    · rw [getD_setI _ _ _ _ hlen, e2]
      split
      · omega
      · have := h2 j; omega
theorem lval_take (l : List Nat) (i : Nat) : lval (l.take (i + 1)) = lval (l.take i) + 67108864 ^ i * l.getD i 0 := by
  induction l generalizing i with
  | nil => simp [lval]
  | cons x l ih =>
    cases i with
    | zero => simp [lval]
    | succ i =>
      simp only [List.take_succ_cons, lval, List.getD_cons_succ, Nat.pow_succ]
      rw [ih i, Nat.mul_comm (67108864 ^ i) 67108864, Nat.mul_assoc]
      omega
theorem tout_spec (S R : List Nat) (hS : S.length = 5) (hR : R.length = 5) {B C : Nat} (bS : Lim B S) (bR : Lim C R) (hBC : 26 * (B * C * 5) ≤ 18446744073709551616) (hB : 0 < B) (hC : 0 < C) (i : Nat) (hi : i ≤ 5) :
    Red (lval (S.take i) * lval R) (lval (tout S R i)) ∧ Lim (1 + 5 * i * (B * C * 5)) (tout S R i) := by
  induction i with
  | zero =>
    refine ⟨⟨0, ?_⟩, fun j => ?_⟩
    · simp [lval, tout, zero5]
    · match j with
      | 0 | 1 | 2 | 3 | 4 => simp [tout, zero5]
      | j + 5 => simp [tout, zero5]
  | succ i ih =>
    obtain ⟨h1, h2⟩ := ih (by omega)
    have hp : 0 < B * C * 5 := Nat.mul_pos (Nat.mul_pos hB hC) (by decide)
    have e0 : 5 * i * (B * C * 5) ≤ 20 * (B * C * 5) := Nat.mul_le_mul_right _ (by omega)
    obtain ⟨g1, g2⟩ := tin_spec S R i (by omega) (tout S R i) (tout_len S R i) bS bR (by omega) hB hC h2 5 (by omega) (by omega)
    have et : R.take 5 = R := List.take_of_length_le (by omega)
    rw [et] at g1
    have e2 : 5 * (i + 1) * (B * C * 5) = 5 * i * (B * C * 5) + 5 * (B * C * 5) := by rw [Nat.mul_add, Nat.add_mul]
    refine ⟨?_, by rw [e2, ← Nat.add_assoc]; exact g2⟩
    rw [lval_take, Nat.add_mul, Nat.mul_assoc]
    exact (h1.add _).trans g1
theorem timesL_spec (S R : List Nat) (hS : S.length = 5) (hR : R.length = 5) (bS : Lim 268435456 S) (bR : Lim 67108864 R) :
    Red (lval S * lval R) (lval (timesL S R)) ∧ Lim 67125248 (timesL S R) := by
  obtain ⟨h1, h2⟩ := tout_spec S R hS hR bS bR (by omega) (by omega) (by omega) 5 (by omega)
  rw [List.take_of_length_le (by omega)] at h1
  have h3 : Lim 2251799813685248001 (tout S R 5) := h2.mono (by omega)
  obtain ⟨g1, g2, g3, _⟩ := carryL_spec (tout S R 5) (tout_len S R 5) h3 (by omega)
  refine ⟨h1.trans g1, fun j => ?_⟩
  show (carryL (tout S R 5)).getD j 0 < _
  by_cases e : j = 1
  · subst e; omega
  · have := g2 j
    rw [getD_setI _ _ _ _ (by rw [carryL_len, tout_len]; omega), if_neg e] at this
    omega
/-! ### What is left -/
theorem redN_spec (T : List Nat) (hT : T.length = 5) (bT : Lim 67108864 T) (i : Nat) (hi : i ≤ 4) :
    lval (redN T i) = lval T + 5 ∧ (∀ j, j < i → (redN T i).getD j 0 < 67108864) ∧ (∀ j, i < j → (redN T i).getD j 0 = T.getD j 0) ∧ (redN T i).getD i 0 < 67108864 + 5 := by
  induction i with
  | zero =>
    have h0 := bT 0
    have m : (T.getD 0 0 + 5) % 18446744073709551616 = T.getD 0 0 + 5 := Nat.mod_eq_of_lt (by omega)
    have hs := lval_set T 0 (T.getD 0 0 + 5) (by omega)
    simp only [redN, m]
    refine ⟨by simp only [Nat.pow_zero, Nat.one_mul] at hs; omega, fun j hj => by omega, fun j hj => ?_, ?_⟩
    · rw [getD_setI _ _ _ _ (by omega), if_neg (by omega)]
    · rw [getD_setI _ _ _ _ (by omega), if_pos rfl]; omega
  | succ i ih =>
    obtain ⟨h1, h2, h3, h4⟩ := ih (by omega)
    have e1 := h3 (i + 1) (by omega)
    have b1 := bT (i + 1)
    have l1 : i + 1 < (redN T i).length := by rw [redN_len]; omega
    have m : ((redN T i).getD (i + 1) 0 + (redN T i).getD i 0 / 67108864) % 18446744073709551616 = (redN T i).getD (i + 1) 0 + (redN T i).getD i 0 / 67108864 := Nat.mod_eq_of_lt (by omega)
    have hs := lval_set (redN T i) (i + 1) ((redN T i).getD (i + 1) 0 + (redN T i).getD i 0 / 67108864) l1
    have g1 : ((redN T i).set (i + 1) ((redN T i).getD (i + 1) 0 + (redN T i).getD i 0 / 67108864)).getD i 0 = (redN T i).getD i 0 := by rw [getD_setI _ _ _ _ l1, if_neg (by omega)]
    have hs2 := lval_set ((redN T i).set (i + 1) ((redN T i).getD (i + 1) 0 + (redN T i).getD i 0 / 67108864)) i ((redN T i).getD i 0 % 67108864) (by rw [List.length_set]; omega)
    simp only [redN, m, g1]
    rw [g1] at hs2
    refine ⟨?_, fun j hj => ?_, fun j hj => ?_, ?_⟩
    · have hd := Nat.div_add_mod ((redN T i).getD i 0) 67108864
      rw [Nat.mul_add, Nat.pow_succ, Nat.mul_assoc, Nat.mul_assoc] at hs
      have : 67108864 ^ i * (67108864 * ((redN T i).getD i 0 / 67108864)) + 67108864 ^ i * ((redN T i).getD i 0 % 67108864) = 67108864 ^ i * (redN T i).getD i 0 := by rw [← Nat.mul_add, hd]
      omega
    · rw [getD_setI _ _ _ _ (by rw [List.length_set]; omega)]
      split
      · exact Nat.mod_lt _ (by decide)
      · rw [getD_setI _ _ _ _ l1, if_neg (by omega)]; exact h2 j (by omega)
    · rw [getD_setI _ _ _ _ (by rw [List.length_set]; omega), if_neg (by omega), getD_setI _ _ _ _ l1, if_neg (by omega)]; exact h3 j (by omega)
    · rw [getD_setI _ _ _ _ (by rw [List.length_set]; omega), if_neg (by omega), getD_setI _ _ _ _ l1, if_pos rfl]; omega
theorem lval_lt5 {T : List Nat} (hT : T.length = 5) (bT : Lim 67108864 T) : lval T < PP + 5 := by
  rw [lval5 hT]
  have h0 := bT 0
  have h1 := bT 1
  have h2 := bT 2
  have h3 := bT 3
  have h4 := bT 4
  simp only [PP]
  omega
theorem reduceL_spec (S : List Nat) (hS : S.length = 5) (bS : Lim 67125248 S) : lval (reduceL S) = lval S % PP ∧ Lim 67108864 (reduceL S) := by
  obtain ⟨a1, a2, a3, a4⟩ := carryL_spec S hS bS (by omega)
  have a4 := (a4 (by omega)).1
  have lA : (carryL S).length = 5 := by rw [carryL_len, hS]
  have bA : Lim 67108865 (carryL S) := fun j => by
    by_cases e : j = 1
    · subst e; omega
    · have := a2 j
      rw [getD_setI _ _ _ _ (by omega), if_neg e] at this
      omega
  obtain ⟨b1, b2, b3, b4⟩ := carryL_spec (carryL S) lA bA (by omega)
  have bB := (b4 (by omega)).2 a2 a4
  have lB : (carryL (carryL S)).length = 5 := by rw [carryL_len, lA]
  have hm := (a1.trans b1).mod
  unfold reduceL
  generalize carryL (carryL S) = T at bB lB hm
  obtain ⟨c1, c2, c3, c4⟩ := redN_spec T lB bB 4 (by omega)
  have hlt := lval_lt5 lB bB
  have lM : (redN T 4).length = 5 := by rw [redN_len, lB]
  unfold redE
  generalize redN T 4 = M at c1 c2 c3 c4 lM
  have d0 := c2 0 (by omega)
  have d1 := c2 1 (by omega)
  have d2 := c2 2 (by omega)
  have d3 := c2 3 (by omega)
  have e5 := lval5 lM
  have hs := lval_set M 4 (M.getD 4 0 % 67108864) (by omega)
  simp only [PP] at *
  split
  · rename_i hne
    have h4 : M.getD 4 0 / 67108864 = 1 := by omega
    have p4 : (67108864 : Nat) ^ 4 = 20282409603651670423947251286016 := rfl
    rw [p4] at hs
    refine ⟨?_, fun j => ?_⟩
    · rw [hm]
      have : lval T % 1361129467683753853853498429727072845819 = lval T - 1361129467683753853853498429727072845819 := by
        have h1 : 1361129467683753853853498429727072845819 ≤ lval T := by omega
        rw [Nat.mod_eq_sub_mod h1, Nat.mod_eq_of_lt (by omega)]
      rw [this]
      omega
    · rw [getD_setI _ _ _ _ (by omega)]
      split
      · exact Nat.mod_lt _ (by decide)
      · match j with
        | 0 => exact d0
        | 1 => exact d1
        | 2 => exact d2
        | 3 => exact d3
        | 4 => omega
        | j + 5 => simp [List.getElem?_eq_none (show M.length ≤ j + 5 by omega)]
  · rename_i hz
    refine ⟨?_, bB⟩
    rw [hm, Nat.mod_eq_of_lt]
    omega
end Go.Pure
set_option linter.unusedSimpArgs false
set_option linter.unusedVariables false
set_option maxRecDepth 100000
namespace Go.Pure
theorem leval_take8 (l : List Nat) (h : Bytes l) : leval (l.take 8) = leval l % 18446744073709551616 := by
  have e : leval l = leval (l.take 8) + 256 ^ (l.take 8).length * leval (l.drop 8) := by rw [← leval_append, List.take_append_drop]
  have h8 := leval_take_lt l h 8
  rcases Nat.lt_or_ge l.length 8 with q | q
  · rw [List.take_of_length_le (by omega)] at h8 ⊢
    exact (Nat.mod_eq_of_lt h8).symm
  · rw [List.length_take, Nat.min_eq_left q] at e
    have p8 : (256 : Nat) ^ 8 = 18446744073709551616 := rfl
    rw [p8] at e h8
    omega
theorem leval_drop (l : List Nat) (h : Bytes l) (n : Nat) : leval (l.drop n) = leval l / 256 ^ n := by
  rcases Nat.lt_or_ge l.length n with q | q
  · have := leval_lt l h
    have hp : 256 ^ l.length ≤ 256 ^ n := Nat.pow_le_pow_right (by decide) (by omega)
    rw [List.drop_of_length_le (by omega), Nat.div_eq_of_lt (by omega)]
    rfl
  · have e : leval l = leval (l.take n) + 256 ^ (l.take n).length * leval (l.drop n) := by rw [← leval_append, List.take_append_drop]
    rw [List.length_take, Nat.min_eq_left q] at e
    have hn := leval_take_lt l h n
    rw [e, Nat.add_mul_div_left _ _ (Nat.pow_pos (by decide)), Nat.div_eq_of_lt hn, Nat.zero_add]
theorem loadI_spec (b : List Nat) (h : Bytes b) (i : Nat) (hi : i < 5) (hv : leval b < PP + 5) (hl : b.length ≤ 17) : loadI b i = leval b / 67108864 ^ i % 67108864 := by
  unfold loadI
  have hb := leval_lt b h
  have hd : leval (b.drop (min (26 * i / 8) b.length)) = leval b / 256 ^ (26 * i / 8) := by
    rcases Nat.lt_or_ge b.length (26 * i / 8) with q | q
    · have hp : 256 ^ b.length ≤ 256 ^ (26 * i / 8) := Nat.pow_le_pow_right (by decide) (by omega)
      rw [Nat.min_eq_right (by omega), List.drop_of_length_le (Nat.le_refl _), Nat.div_eq_of_lt (by omega)]
      rfl
    · rw [Nat.min_eq_left q, leval_drop b h]
  rw [leval_take8 _ (h.drop _), hd]
  generalize leval b = V at hv ⊢
  have : i = 0 ∨ i = 1 ∨ i = 2 ∨ i = 3 ∨ i = 4 := by omega
  rcases this with rfl | rfl | rfl | rfl | rfl <;> simp only [PP] at hv <;> simp <;> omega
theorem loadL_spec (b : List Nat) (h : Bytes b) (hv : leval b < PP + 5) (hl : b.length ≤ 17) : lval (loadL b) = leval b ∧ Lim 67108864 (loadL b) := by
  have e : loadL b = [loadI b 0, loadI b 1, loadI b 2, loadI b 3, loadI b 4] := rfl
  refine ⟨?_, fun j => ?_⟩
  · rw [e, loadI_spec b h 0 (by omega) hv hl, loadI_spec b h 1 (by omega) hv hl, loadI_spec b h 2 (by omega) hv hl, loadI_spec b h 3 (by omega) hv hl, loadI_spec b h 4 (by omega) hv hl]
    generalize leval b = V at hv
    simp only [lval, PP] at *
    simp
    omega
  · rw [e]
    match j with
    | 0 => exact loadI_lt b 0
    | 1 => exact loadI_lt b 1
    | 2 => exact loadI_lt b 2
    | 3 => exact loadI_lt b 3
    | 4 => exact loadI_lt b 4
    | j + 5 => simp
theorem le_append (a b v : Nat) : le (a + b) v = le a v ++ le b (v / 256 ^ a) := by
  induction a generalizing v with
  | zero => simp [le]
  | succ a ih =>
    rw [show a + 1 + b = (a + b) + 1 by omega]
    simp only [le, List.cons_append, ih]
    rw [Nat.div_div_eq_div_mul, Nat.pow_succ, Nat.mul_comm 256]
theorem le_mod (n v : Nat) : le n (v % 256 ^ n) = le n v := by
  induction n generalizing v with
  | zero => rfl
  | succ n ih =>
    have hp : 0 < 256 ^ n := Nat.pow_pos (by decide)
    have e1 : v % 256 ^ (n + 1) % 256 = v % 256 := by
      rw [Nat.pow_succ, Nat.mul_comm, Nat.mod_mul, Nat.add_mul_mod_self_left, Nat.mod_mod]
    have e2 : v % 256 ^ (n + 1) / 256 = v / 256 % 256 ^ n := by
      rw [Nat.pow_succ, Nat.mul_comm, Nat.mod_mul, Nat.add_mul_div_left _ _ (by decide), Nat.div_eq_of_lt (Nat.mod_lt _ (by decide)), Nat.zero_add]
    simp only [le, e1, e2, ih]
theorem le_congr {n v u : Nat} (e : v % 256 ^ n = u % 256 ^ n) : le n v = le n u := by rw [← le_mod n v, e, le_mod]
theorem lowL_spec (S : List Nat) (hS : S.length = 5) (bS : Lim 67108864 S) : lowL S = lval S % 18446744073709551616 := by
  rw [lval5 hS]
  unfold lowL
  have h0 := bS 0
  have h1 := bS 1
  have h2 := bS 2
  generalize S.getD 0 0 = a at *
  generalize S.getD 1 0 = b at *
  generalize S.getD 2 0 = c at *
  generalize S.getD 3 0 = d at *
  generalize S.getD 4 0 = e at *
  have m1 : b * 2 ^ 26 % 18446744073709551616 = b * 2 ^ 26 := Nat.mod_eq_of_lt (by omega)
  have m2 : c * 2 ^ 52 % 18446744073709551616 = (c % 4096) * 2 ^ 52 := Nat.mul_mod_mul_right (2 ^ 52) c 4096
  rw [m1, or_add a b 26 (by omega), m2, or_add _ _ 52 (by omega)]
  omega
theorem highL_spec (S : List Nat) (hS : S.length = 5) (bS : Lim 67108864 S) : highL S = lval S / 18446744073709551616 % 18446744073709551616 := by
  rw [lval5 hS]
  unfold highL
  have h0 := bS 0
  have h1 := bS 1
  have h2 := bS 2
  have h3 := bS 3
  generalize S.getD 0 0 = a at *
  generalize S.getD 1 0 = b at *
  generalize S.getD 2 0 = c at *
  generalize S.getD 3 0 = d at *
  generalize S.getD 4 0 = e at *
  have m1 : d * 2 ^ 14 % 18446744073709551616 = d * 2 ^ 14 := Nat.mod_eq_of_lt (by omega)
  have m2 : e * 2 ^ 40 % 18446744073709551616 = (e % 16777216) * 2 ^ 40 := Nat.mul_mod_mul_right (2 ^ 40) e 16777216
  rw [m1, or_add (c / 2 ^ 12) d 14 (by omega), m2, or_add _ _ 40 (by omega)]
  omega
theorem bytesL_spec (S s : List Nat) (hS : S.length = 5) (bS : Lim 67108864 S) (hs : s.length = 16) (bs : Bytes s) : bytesL S s = le 16 (lval S + leval s) := by
  unfold bytesL
  simp only [lowL_spec S hS bS, highL_spec S hS bS]
  have e8 : leval ((s.drop 8).take 8) = leval (s.drop 8) := by rw [List.take_of_length_le (by rw [List.length_drop]; omega)]
  have es : leval s = leval (s.take 8) + 256 ^ (s.take 8).length * leval (s.drop 8) := by rw [← leval_append, List.take_append_drop]
  rw [List.length_take, Nat.min_eq_left (by omega)] at es
  have h1 := leval_take_lt s bs 8
  have h2 := leval_lt _ (bs.drop 8)
  rw [List.length_drop, hs] at h2
  rw [e8, es]
  generalize leval (s.take 8) = a at *
  generalize leval (s.drop 8) = b at *
  generalize lval S = V
  have p8 : (256 : Nat) ^ 8 = 18446744073709551616 := rfl
  have p88 : (256 : Nat) ^ (16 - 8) = 18446744073709551616 := rfl
  rw [p8] at h1 ⊢
  rw [p88] at h2
  rw [show (16 : Nat) = 8 + 8 from rfl, le_append]
  congr 1
  · refine le_congr ?_
    rw [p8]
    omega
  · refine le_congr ?_
    rw [p8]
    split <;> omega
/-! ### The key's first half -/
def clampR (key : List Nat) : List Nat := (List.range 16).map fun i => if i % 4 = 3 then key.getD i 0 % 16 else if 0 < i ∧ i % 4 = 0 then key.getD i 0 / 4 * 4 else key.getD i 0
theorem and15 : ∀ x, x < 256 → x &&& 15 = x % 16 := by decide
theorem and252 : ∀ x, x < 256 → x &&& 252 = x / 4 * 4 := by decide
theorem list16 {l : List Nat} (h : l.length = 16) : ∃ a b c d e f g i j k m n o p q r, l = [a, b, c, d, e, f, g, i, j, k, m, n, o, p, q, r] := by
  match l, h with
  | [a, b, c, d, e, f, g, i, j, k, m, n, o, p, q, r], _ => exact ⟨a, b, c, d, e, f, g, i, j, k, m, n, o, p, q, r, rfl⟩
theorem clamp_eq (key : List Nat) (h : Bytes key) (hl : 16 ≤ key.length) : clampL (key.take 16) = clampR key := by
  have hg : ∀ i, i < 16 → key.getD i 0 = (key.take 16).getD i 0 := fun i hi => by
    rw [List.getD_eq_getElem?_getD, List.getD_eq_getElem?_getD, List.getElem?_take, if_pos hi]
  have hb : Bytes (key.take 16) := h.take 16
  have eR : clampR key = clampR (key.take 16) := by
    unfold clampR
    apply List.map_congr_left
    intro i hi
    rw [List.mem_range] at hi
    rw [hg i hi]
  rw [eR]
  obtain ⟨a, b, c, d, e, f, g, i, j, k, m, n, o, p, q, r, hk⟩ := list16 (l := key.take 16) (by rw [List.length_take]; omega)
  rw [hk] at hb ⊢
  have bx : ∀ x ∈ [a, b, c, d, e, f, g, i, j, k, m, n, o, p, q, r], x < 256 := hb
  simp only [List.mem_cons, List.not_mem_nil, or_false, forall_eq_or_imp, forall_eq] at bx
  obtain ⟨b0, b1, b2, b3, b4, b5, b6, b7, b8, b9, b10, b11, b12, b13, b14, b15⟩ := bx
  simp [clampL, clampN, clampR, List.range, List.range.loop, and15, and252, b3, b4, b7, b8, b11, b12, b15]
theorem clampL_bytes' {k : List Nat} (h : Bytes k) : Bytes (clampL k) := clampN_bytes 252 _ (clampN_bytes 15 _ h)
/-! ### The tag -/
def accR (r : Nat) (m : List Nat) : Nat → Nat
  | 0 => 0
  | i + 1 => (accR r m i + leval (chunk m i ++ [1])) * r % PP
theorem accR_lt (r : Nat) (m : List Nat) (i : Nat) : accR r m i < PP := by
  cases i with
  | zero => show 0 < _; decide
  | succ i => exact Nat.mod_lt _ (by decide)
theorem chunk1_lt {m : List Nat} (h : Bytes m) (i : Nat) : leval (chunk m i ++ [1]) < 680564733841876926926749214863536422912 := by
  have h1 := leval_lt _ (chunkN_bytes h 16 i)
  have h2 := chunkN_len 16 m i
  have h3 : 256 ^ (chunkN 16 m i).length ≤ 256 ^ 16 := Nat.pow_le_pow_right (by decide) h2
  have p : (256 : Nat) ^ 16 = 340282366920938463463374607431768211456 := rfl
  rw [p] at h3
  show leval (chunkN 16 m i ++ [1]) < _
  rw [leval_append]
  simp only [leval, Nat.mul_zero, Nat.add_zero, Nat.mul_one]
  omega
theorem tagN_spec (r m : List Nat) (br : Bytes r) (hr : r.length = 16) (bm : Bytes m) (i : Nat) : lval (tagN (loadL r) m i) % PP = accR (leval r) m i ∧ Lim 67125248 (tagN (loadL r) m i) := by
  have hrl := leval_lt r br
  rw [hr] at hrl
  obtain ⟨er, lr⟩ := loadL_spec r br (by simp only [PP]; omega) (by omega)
  induction i with
  | zero =>
    refine ⟨by simp [tagN, zero5, lval, accR], fun j => ?_⟩
    match j with
    | 0 | 1 | 2 | 3 | 4 => simp [tagN, zero5]
    | j + 5 => simp [tagN, zero5]
  | succ i ih =>
    obtain ⟨h1, h2⟩ := ih
    have lc := chunkN_len 16 m i
    have bc : Bytes (chunk m i ++ [1]) := (chunkN_bytes bm 16 i).append (by intro x hx; simp at hx; omega)
    obtain ⟨ec, lcl⟩ := loadL_spec (chunk m i ++ [1]) bc (by have := chunk1_lt bm i; simp only [PP]; omega) (by simp; omega)
    obtain ⟨ea, la⟩ := addL_spec (tagN (loadL r) m i) (loadL (chunk m i ++ [1])) (tagN_len _ _ _) (loadL_len _) h2 lcl (by omega) (by omega)
    obtain ⟨et, lt⟩ := timesL_spec (addL (tagN (loadL r) m i) (loadL (chunk m i ++ [1]))) (loadL r) (by rw [addL, addN_len, tagN_len]) (loadL_len _) (la.mono (by omega)) lr
    refine ⟨?_, lt⟩
    show lval (timesL _ _) % PP = _
    rw [← et.mod, ea, ec, er]
    show _ = (accR (leval r) m i + leval (chunk m i ++ [1])) * leval r % PP
    rw [← h1, Nat.mul_mod, Nat.add_mod]
    conv => rhs; rw [Nat.mul_mod, Nat.add_mod, Nat.mod_mod]
theorem tagL_eq (key m : List Nat) (hk : key.length = 32) (bk : Bytes key) (bm : Bytes m) :
    tagL key m = le 16 (accR (leval (clampR key)) m ((m.length + 15) / 16) + leval (key.drop 16)) := by
  have bc : Bytes (clampL (key.take 16)) := clampL_bytes' (bk.take 16)
  have lc : (clampL (key.take 16)).length = 16 := by unfold clampL; rw [clampN_len, clampN_len, List.length_take]; omega
  obtain ⟨h1, h2⟩ := tagN_spec (clampL (key.take 16)) m bc lc bm ((m.length + 15) / 16)
  obtain ⟨g1, g2⟩ := reduceL_spec _ (tagN_len _ _ _) h2
  unfold tagL
  rw [bytesL_spec _ _ (by rw [reduceL_len, tagN_len]) g2 (by rw [List.length_drop]; omega) (bk.drop 16), g1, h1, clamp_eq key bk (by omega)]
end Go.Pure
set_option linter.unusedSimpArgs false
set_option linter.unusedVariables false
set_option maxRecDepth 100000
namespace Go.Pure
abbrev QQ : Nat := 1361129467683753853853498429727072845824
def stepR (v : Nat) : Nat := v % QQ + 5 * (v / QQ)
def iterR (v : Nat) : Nat → Nat
  | 0 => v
  | i + 1 => stepR (iterR v i)
theorem stepR_le (v : Nat) : stepR v ≤ v := by unfold stepR QQ; omega
theorem iterR_le (v i : Nat) : iterR v i ≤ v := by
  induction i with
  | zero => exact Nat.le_refl _
  | succ i ih => exact Nat.le_trans (stepR_le _) ih
theorem stepR_red (v : Nat) : Red v (stepR v) := ⟨v / QQ, by unfold stepR QQ PP; omega⟩
theorem iterR_red (v i : Nat) : Red v (iterR v i) := by
  induction i with
  | zero => exact Red.refl _
  | succ i ih => exact ih.trans (stepR_red _)
theorem iterR_lt (v : Nat) (hv : v < 2 ^ 256) : iterR v 4 < QQ := by
  have h1 : iterR v 1 < 2 * QQ := by
    show stepR v < _
    unfold stepR QQ
    omega
  have h2 : iterR v 2 < QQ := by
    show stepR (iterR v 1) < QQ
    have h3 : iterR v 1 < 1361129467683753853853498429727072845824 + 600000000000000000000000000000000000000 := by
      show stepR v < _
      unfold stepR QQ
      omega
    generalize iterR v 1 = w at *
    unfold stepR QQ at *
    omega
  have h3 : iterR v 3 < QQ := Nat.lt_of_le_of_lt (stepR_le _) h2
  exact Nat.lt_of_le_of_lt (stepR_le _) h3
/-- The byte i of a number above 130 bits. -/
theorem high_byte {A : List Nat} (hA : Bytes A) (i : Nat) : leval A / QQ / 256 ^ i % 256 = A.getD (16 + i) 0 / 4 + A.getD (17 + i) 0 % 4 * 64 := by
  have e1 : leval A / QQ / 256 ^ i = leval (A.drop (16 + i)) / 4 := by
    rw [leval_drop A hA, Nat.pow_add, Nat.div_div_eq_div_mul, Nat.div_div_eq_div_mul]
    congr 1
    have : QQ = 256 ^ 16 * 4 := rfl
    rw [this, Nat.mul_assoc, Nat.mul_assoc, Nat.mul_comm 4]
  have e2 : leval (A.drop (16 + i)) = A.getD (16 + i) 0 + 256 * (A.getD (17 + i) 0 + 256 * leval (A.drop (18 + i))) := by
    have d : ∀ n, leval (A.drop n) = A.getD n 0 + 256 * leval (A.drop (n + 1)) := by
      intro n
      rcases Nat.lt_or_ge n A.length with q | q
      · rw [List.drop_eq_getElem_cons q]
        simp [leval, List.getD_eq_getElem?_getD, q]
      · rw [List.drop_of_length_le q, List.drop_of_length_le (by omega)]
        simp [leval, List.getElem?_eq_none q]
    rw [d (16 + i), show 16 + i + 1 = 17 + i by omega, d (17 + i), show 17 + i + 1 = 18 + i by omega]
  have h1 := hA.getD (16 + i)
  have h2 := hA.getD (17 + i)
  rw [e1, e2]
  omega
theorem low_val {A : List Nat} (hA : Bytes A) (hl : 17 ≤ A.length) : leval (A.take 16 ++ [A.getD 16 0 % 4]) = leval A % QQ := by
  rw [leval_append]
  have h16 : (A.take 16).length = 16 := by rw [List.length_take]; omega
  have e : leval A = leval (A.take 16) + 256 ^ 16 * leval (A.drop 16) := by
    conv => lhs; rw [← List.take_append_drop 16 A, leval_append, h16]
  have e2 : leval (A.drop 16) = A.getD 16 0 + 256 * leval (A.drop 17) := by
    rw [List.drop_eq_getElem_cons (show 16 < A.length by omega)]
    simp [leval, List.getD_eq_getElem?_getD, show 16 < A.length by omega]
  have h1 := leval_take_lt A hA 16
  rw [h16, e, e2]
  have p : (256 : Nat) ^ 16 = 340282366920938463463374607431768211456 := rfl
  rw [p] at *
  simp only [leval, QQ]
  omega
theorem le_take (n k v : Nat) (h : k ≤ n) : (le n v).take k = le k v := by
  obtain ⟨d, rfl⟩ : ∃ d, n = k + d := ⟨n - k, by omega⟩
  rw [le_append, List.take_append_of_le_length (by rw [le_len]; omega), List.take_of_length_le (by rw [le_len]; omega)]
/-- What is left, when the prime itself is taken away. -/
theorem rest_fin (w v : Nat) (hw : w < QQ) (r : Red v w) : v % PP = if w < PP then w else w + 5 - QQ := by
  rw [r.mod]
  split
  · rename_i h; exact Nat.mod_eq_of_lt h
  · rename_i h
    unfold QQ PP at *
    rw [Nat.mod_eq_sub_mod (by omega), Nat.mod_eq_of_lt (by omega)]
    omega
end Go.Pure
set_option linter.unusedSimpArgs false
set_option linter.unusedVariables false
set_option maxRecDepth 100000
set_option maxHeartbeats 2000000
namespace Go.Proofs.Ytnecdbclhdbaoaa
open Go Go.SL Go.Pure
theorem pk_slHiI {h : Hp} (a : Option Addr) (n c hi : Nat) (h1 : hi ≤ c) : peek P h (Instr.sliceAt t_Sl_int (.slice a n c) none (some (.int .i64 hi)) none) = some (.slice (SL.cut a c 0 1) hi c) := by
  obtain ⟨x, hx, e⟩ := withVal_elim (K := fun x => x = .slice (SL.cut a c 0 1) hi c) ((q_slHi (P := P) (h := h) (K := fun x => x = .slice (SL.cut a c 0 1) hi c) u_Sl_int z_int a n c .i64 hi h1).mpr rfl)
  rw [e] at hx
  exact hx
theorem rn_hiI {h : Hp} {a : Option Addr} {c hi : Nat} {l : List Nat} (r : Rn h .i64 (.slice a l.length c) l) (h1 : hi ≤ l.length) : Rn h .i64 (.slice (SL.cut a c 0 1) hi c) (l.take hi) := by
  have := r.cut 0 hi (Nat.zero_le _) h1
  simpa using this
theorem pk_ld3 {h : Hp} {a : Addr} {v : Value} (e : h.cell a = some v) : peek P h (Instr.loadAt t_int (.pointer (some a))) = some v := by
  obtain ⟨x, hx, e⟩ := withVal_elim (K := fun x => x = v) ((q_ld (P := P) (h := h) (K := fun x => x = v) u_int rfl a).mpr (by rw [e]; rfl))
  rw [e] at hx
  exact hx
section
variable {h : Hp} {K : Value → Hp → Prop}
/-- The row of the first 16 and the rest of the 17th, in each order in which it may be made. -/
theorem T_low {H0 : Hp} {a : Option Addr} {c : Nat} {A : List Nat} (b o : Nat) (x : Nat) (hA : Rn H0 .i64 (.slice a A.length c) A) (l16 : 16 ≤ A.length) (hx : H0.cell ⟨b, o, none⟩ = some (.int .i64 (x : Int)))
    (J : Value → Hp → Prop) (fin : ∀ B t63 h', Hp.le H0 B → Hp.cle H0 B → New B t_int 1 t63 h' (nv .i64 (A.take 16 ++ [x % 4])) 17 → J t63 h') :
    (aw P (Instr.buildSlice t_Sl_int 0 #[]) (fun t54 h => peek P h (Instr.loadAt t_int (.pointer (some ⟨b, o, none⟩))) = some (.int .i64 (x : Int)) ∧ peek P h (Instr.sliceAt t_Sl_int (.slice a A.length c) none (some (Value.int .i64 16)) none) = some (.slice (SL.cut a c 0 1) 16 c) ∧ (aw P (Builtin.append_ #[t_Sl_int, t_Sl_int] t_Sl_int #[t54, (.slice (SL.cut a c 0 1) 16 c)]) (fun t57 h => peek P h (Instr.loadAt t_int (.pointer (some ⟨b, o, none⟩))) = some (.int .i64 (x : Int)) ∧ aw P (Instr.buildSlice t_Sl_int 1 #[(0, .int .i64 ((x % 4 : Nat) : Int))]) (fun t62 h => aw P (Builtin.append_ #[t_Sl_int, t_Sl_int] t_Sl_int #[t57, t62]) (fun t63 h => J t63 h) h) h) h) ∧ (aw P (Instr.buildSlice t_Sl_int 1 #[(0, .int .i64 ((x % 4 : Nat) : Int))]) (fun t62 h => peek P h (Instr.sliceAt t_Sl_int (.slice a A.length c) none (some (Value.int .i64 16)) none) = some (.slice (SL.cut a c 0 1) 16 c) ∧ aw P (Builtin.append_ #[t_Sl_int, t_Sl_int] t_Sl_int #[t54, (.slice (SL.cut a c 0 1) 16 c)]) (fun t57 h => aw P (Builtin.append_ #[t_Sl_int, t_Sl_int] t_Sl_int #[t57, t62]) (fun t63 h => J t63 h) h) h) h)) H0) ∧ (aw P (Instr.buildSlice t_Sl_int 1 #[(0, .int .i64 ((x % 4 : Nat) : Int))]) (fun t62 h => peek P h (Instr.sliceAt t_Sl_int (.slice a A.length c) none (some (Value.int .i64 16)) none) = some (.slice (SL.cut a c 0 1) 16 c) ∧ aw P (Instr.buildSlice t_Sl_int 0 #[]) (fun t54 h => peek P h (Instr.sliceAt t_Sl_int (.slice a A.length c) none (some (Value.int .i64 16)) none) = some (.slice (SL.cut a c 0 1) 16 c) ∧ aw P (Builtin.append_ #[t_Sl_int, t_Sl_int] t_Sl_int #[t54, (.slice (SL.cut a c 0 1) 16 c)]) (fun t57 h => aw P (Builtin.append_ #[t_Sl_int, t_Sl_int] t_Sl_int #[t57, t62]) (fun t63 h => J t63 h) h) h) h) H0) := by
  have hc : A.length ≤ c := by
    obtain ⟨a', c', e, hc⟩ := hA.shape
    simp only [Value.slice.injEq] at e
    omega
  have h16 : Rn H0 .i64 (.slice (SL.cut a c 0 1) 16 c) (A.take 16) := rn_hiI hA l16
  have r16 : Rds H0 1 (.slice (SL.cut a c 0 1) 16 c) (nv .i64 (A.take 16)) 16 := by
    have := h16
    unfold Rn at this
    rwa [List.length_take, Nat.min_eq_left l16] at this
  have ps : ∀ H, peek P H (Instr.sliceAt t_Sl_int (.slice a A.length c) none (some (Value.int .i64 16)) none) = some (.slice (SL.cut a c 0 1) 16 c) := fun H => pk_slHiI a _ c 16 (by omega)
  have pl : ∀ H, Hp.cle H0 H → peek P H (Instr.loadAt t_int (.pointer (some ⟨b, o, none⟩))) = some (.int .i64 (x : Int)) := fun H cl => pk_ld3 (cl _ _ hx)
  have nil0 : ∀ (H : Hp) (K : Value → Hp → Prop), (∀ v h', New H t_int 1 v h' [] 0 → K v h') → aw P (Instr.buildSlice t_Sl_int 0 #[]) K H := fun H K k =>
    aw_lit (n := 0) (ps := []) u_Sl_int z_int zr_int rfl (by omega) (by intro p hp; cases hp) fun v h' n _ => k v h' (by simpa [fillL] using n)
  have one : ∀ (H : Hp) (K : Value → Hp → Prop), (∀ v h', New H t_int 1 v h' (nv .i64 [x % 4]) 1 → (∃ r f, H r = none ∧ h' = H.set r f) → K v h') → aw P (Instr.buildSlice t_Sl_int 1 #[(0, .int .i64 ((x % 4 : Nat) : Int))]) K H := fun H K k =>
    aw_lit (n := 1) (ps := [(0, _)]) u_Sl_int z_int zr_int rfl (by omega) (by intro p hp; rw [List.mem_singleton.1 hp]; exact ⟨rfl, by omega⟩) fun v h' n ⟨r, hr, _, hh⟩ => k v h' (by simpa [fillL, nv] using n) ⟨r, _, hr, hh⟩
  have app1 : ∀ (B H : Hp) (v : Value) (K : Value → Hp → Prop), Hp.cle H0 H → New B t_int 1 v H [] 0 → (∀ v' h', New B t_int 1 v' h' (nv .i64 (A.take 16)) 16 → K v' h') → aw P (Builtin.append_ #[t_Sl_int, t_Sl_int] t_Sl_int #[v, (.slice (SL.cut a c 0 1) 16 c)]) K H := fun B H v K cl n k =>
    aw_append u_Sl_int u_Sl_int nfo_int rfl (by omega) n (r16.mono cl) (nv_flat _ _) (by omega) (.refl _) fun v' h' n' => k v' h' (by simpa using n')
  have app2 : ∀ (B H : Hp) (v w : Value), Hp.le H0 B → Hp.cle H0 B → New B t_int 1 v H (nv .i64 (A.take 16)) 16 → Rds H 1 w (nv .i64 [x % 4]) 1 → aw P (Builtin.append_ #[t_Sl_int, t_Sl_int] t_Sl_int #[v, w]) (fun t63 h => J t63 h) H := fun B H v w l0 c0 n hw =>
    aw_append u_Sl_int u_Sl_int nfo_int rfl (by omega) n hw (nv_flat _ _) (by omega) (.refl _) fun v' h' n' => fin B v' h' l0 c0 (by rw [nv_app]; exact n')
  refine ⟨nil0 _ _ fun t54 h1 n1 => ⟨pl _ n1.cle, ps _, app1 _ _ _ _ n1.cle n1 fun t57 h2 n2 => ⟨pl _ n2.cle, one _ _ fun t62 h3 n3 _ => ?_⟩, one _ _ fun t62 h2 n2 ⟨r, f, hr, hh⟩ => ⟨ps _, ?_⟩⟩, one _ _ fun t62 h1 n1 ⟨r, f, hr, hh⟩ => ⟨ps _, nil0 _ _ fun t54 h2 n2 => ⟨ps _, app1 _ _ _ _ (n1.cle.trans n2.cle) n2 fun t57 h3 n3 => ?_⟩⟩⟩
  · exact aw_appendN u_Sl_int u_Sl_int nfo_int rfl (by omega) n2 n3 (nv_flat _ _) (by omega) fun v' h' n' => fin H0 v' h' (.refl _) (.refl _) (by rw [nv_app]; exact n')
  · have hr0 : H0 r = none := n1.noneAt hr
    have n1' := n1.add hr f
    rw [← hh] at n1'
    have rw' : Rds h2 1 t62 (nv .i64 [x % 4]) 1 := n2.rds
    have base : Rds (H0.set r f) 1 t62 (nv .i64 [x % 4]) 1 := by
      rcases n2.2 with ⟨_, h0, _⟩ | ⟨b', c', f', hb', hc', hv', hh', _⟩
      · omega
      · have : b' = r := by
          rcases Nat.lt_trichotomy b' r with q | q | q
          · have e1 : h2 b' = h1 b' := by rw [hh, Hp.set_ne _ _ (by omega)]
            rw [hh', Hp.set_same, hb'] at e1; cases e1
          · exact q
          · have e1 : h2 b' = h1 b' := by rw [hh, Hp.set_ne _ _ (by omega)]
            rw [hh', Hp.set_same, hb'] at e1; cases e1
        subst this
        have ef : f = .row t_int (nv .i64 [x % 4]) (c' * 1) (some f') := by
          have := congrFun hh b'
          rw [hh', Hp.set_same, Hp.set_same] at this
          cases this; rfl
        subst ef
        exact New.rds ⟨n2.1, .inr ⟨b', c', f', hr0, hc', hv', rfl, by assumption⟩⟩
    refine app1 _ _ _ _ (n1.cle.trans n2.cle) n1' fun t57 h3 n3 => ?_
    exact app2 _ _ _ _ (le_fresh hr0) (cle_set r f hr0) n3 (base.mono n3.cle)
  · subst hh
    exact app2 _ _ _ _ (le_fresh hr) (cle_set r f hr) n3 ((n1.rds.mono n2.cle).mono (by
      have := n3.cle
      intro p v hp
      rcases n2.2 with ⟨_, _, e⟩ | ⟨b', c', f', hb', hc', hv', hh', hfz⟩
      · subst e; exact this p v hp
      · rcases n3.2 with ⟨_, h0, _⟩ | ⟨b3, c3, f3, hb3, hc3, hv3, hh3, _⟩
        · omega
        · subst hh' hh3
          unfold Hp.cell at hp ⊢
          split at hp
          · cases hp
          · rename_i hsp
            rw [if_neg hsp]
            by_cases e1 : p.block = b'
            · rw [e1, Hp.set_same] at hp
              simp at hp
            · rw [Hp.set_ne _ _ e1] at hp
              have e3 : p.block ≠ b3 := by
                rintro e3
                rw [e3] at hp
                rw [hb3] at hp
                cases hp
              rw [Hp.set_ne _ _ e3]
              exact hp))
end
end Go.Proofs.Ytnecdbclhdbaoaa
set_option linter.unusedSimpArgs false
set_option linter.unusedVariables false
set_option maxRecDepth 100000
set_option maxHeartbeats 2000000
namespace Go.Proofs.Ytnecdbclhdbaoaa
open Go Go.SL Go.Pure
theorem app2_congr {a b c d : List Nat} (x : a = b) (y : c = d) : a ++ c = b ++ d := by rw [x, y]
section
variable {h : Hp} {K : Value → Hp → Prop}
theorem T_ref_rest {va : Value} {A0 : List Nat} (ha : Rn h .i64 va A0) (b0 : Bytes A0) (l0 : A0.length = 36) (hv : leval A0 < 2 ^ 256) (k : ∀ r h', Nn h t_int .i64 r h' (le 17 (leval A0 % PP)) → K r h') :
    Cn P n_orlopref05_rest #[va] h K := by
  refine Cn_wk (F_orlopref05_rest ?_)
  unfold s_orlopref05_rest
  refine Lp_mk (fun u vs h' => ∃ (i : Nat) (v : Value) (A : List Nat), i + u = 4 ∧ Hp.le h h' ∧ Hp.cle h h' ∧ Rn h' .i64 v A ∧ A.length = 36 ∧ Bytes A ∧ leval A = iterR (leval A0) i ∧ vs = [v, .int .i64 (i : Int)]) 4
    ⟨0, va, A0, rfl, .refl _, .refl _, ha, l0, b0, rfl, rfl⟩ ?_
  rintro u vs h1 ⟨i, v, A, hi, le1, c1, hA, lA, bA, eA, rfl⟩
  simp -zeta (disch := omega) only [GL, RL, lt_dec4]
  have hAlt : leval A < 2 ^ 256 := by rw [eA]; exact Nat.lt_of_le_of_lt (iterR_le _ _) hv
  obtain ⟨a, c, rfl, hc⟩ := hA.shape
  obtain ⟨b, o, rfl, hy⟩ := hA.pos (by omega)
  by_cases hlt : i < 4
  · simp -zeta only [hlt, decide_true, if_true]
    refine aw_make (n := 20) (c := 20) u_Sl_int nfo_int rfl (by omega) (by omega) (by omega) fun t13 h2 hw => ?_
    obtain ⟨b13, c13, f13, hb13, hc13, rfl, _, _⟩ := hw.form (by omega)
    rw [replicate_nv] at hw
    intro J9
    have fin : ∀ h3, New h1 t_int 1 (.slice (some ⟨b13, 0, none⟩) 20 c13) h3 (nv .i64 (le 20 (leval A / QQ))) 20 → J9 h3 := by
      intro h3 hw3
      simp -zeta only [J9]
      clear J9
      intro J17
      have hw3' : Nn h1 t_int .i64 (.slice (some ⟨b13, 0, none⟩) 20 c13) h3 (le 20 (leval A / QQ)) := by
        unfold Nn; rw [le_len]; exact hw3
      have hA3 := hA.mono hw3.cle
      have hx := hw3.cle _ _ (hy 16 (by omega))
      refine (q_slHi (hi := 16) u_Sl_int z_int _ _ c .i64 (by omega)).mpr ?_
      have em : ((A.getD 16 0 : Nat) : Int).tmod 4 = ((A.getD 16 0 % 4 : Nat) : Int) := (Int.ofNat_tmod _ 4).symm
      simp (disch := omega) only [GL, RL, Int.reduceToNat, hx, em]
      refine T_low b (o + 16) (A.getD 16 0) hA3 (by omega) hx J17 ?_
      intro B t63 h4 lB cB n4
      simp only [J17]
      clear J17
      have n4' : Nn B t_int .i64 t63 h4 (A.take 16 ++ [A.getD 16 0 % 4]) := by
        unfold Nn
        rw [show (A.take 16 ++ [A.getD 16 0 % 4]).length = 17 by rw [List.length_append, List.length_take]; simp; omega]
        exact n4
      have c34 : Hp.cle h3 h4 := cB.trans n4.cle
      have h13 := (hw3'.rn.mono c34)
      refine q_slRnHi u_Sl_int z_int h13 .i64 17 (by rw [le_len]; omega) fun t66 hr66 => ?_
      rw [le_take 20 17 _ (by omega)] at hr66
      refine aw_lit (n := 1) (ps := [(0, _)]) u_Sl_int z_int zr_int rfl (by omega) (by intro p hp; rw [List.mem_singleton.1 hp]; exact ⟨rfl, by omega⟩) fun t67 h5 n5 _ => ?_
      have n5' : Nn h4 t_int .i64 t67 h5 [5] := by unfold Nn; simpa [fillL, nv] using n5
      have hV : leval A / QQ < 256 ^ 17 := by
        have p : (256 : Nat) ^ 17 = 87112285931760246646623899502532662132736 := rfl
        rw [p]
        unfold QQ
        omega
      refine T_ref_times (hr66.mono n5.cle) n5'.rn (le_bytes _ _) (by intro x hx; simp at hx; omega) (by rw [le_len]; simp) fun t68 h6 n6 => ?_
      have e5 : leval [5] = 5 := rfl
      rw [leval_le, Nat.mod_eq_of_lt hV, e5] at n6
      refine q_slRnHi u_Sl_int z_int n6.rn .i64 20 (by rw [le_len]; omega) fun t69 hr69 => ?_
      rw [le_take 36 20 _ (by omega)] at hr69
      have bl : Bytes (A.take 16 ++ [A.getD 16 0 % 4]) := (bA.take 16).append (by intro x hx; simp at hx; omega)
      refine T_ref_add 36 (by omega) (by omega) ((n4'.rn.mono n5.cle).mono n6.cle) hr69 bl (le_bytes _ _) fun t70 h7 n7 => ?_
      have e20 : leval (le 20 (leval A / QQ * 5)) = 5 * (leval A / QQ) := by
        rw [leval_le, Nat.mul_comm, Nat.mod_eq_of_lt]
        have p : (256 : Nat) ^ 20 = 1461501637330902918203684832716283019655932542976 := rfl
        have p7 : (256 : Nat) ^ 17 = 87112285931760246646623899502532662132736 := rfl
        omega
      rw [low_val bA (by omega), e20] at n7
      have estep : leval A % QQ + 5 * (leval A / QQ) = iterR (leval A0) (i + 1) := by
        show _ = stepR (iterR (leval A0) i)
        rw [← eA]; rfl
      rw [estep] at n7
      simp (disch := omega) only [GL, RL, wi64]
      refine ⟨h7, .refl _, u - 1, by omega, i + 1, t70, _, by omega, ((((le1.trans hw3.le).trans lB).trans n4.le).trans n5.le).trans (n6.le.trans n7.le), ((c1.trans hw3.cle).trans c34).trans (n5.cle.trans (n6.cle.trans n7.cle)), n7.rn, le_len _ _, le_bytes _ _, ?_, rfl⟩
      rw [leval_le, Nat.mod_eq_of_lt]
      have q := leval_lt A0 b0
      rw [l0] at q
      exact Nat.lt_of_le_of_lt (iterR_le (leval A0) (i + 1)) q
    clear_value J9
    refine Lp_mk (fun u vs h' => ∃ j : Nat, j + u = 20 ∧ New h1 t_int 1 (.slice (some ⟨b13, 0, none⟩) 20 c13) h' (nv .i64 ((le 20 (leval A / QQ)).take j ++ List.replicate (20 - j) 0)) 20 ∧ vs = [.int .i64 (j : Int)]) 20
      ⟨0, rfl, by simpa using hw, rfl⟩ ?_
    clear hw
    rintro u' vs h3 ⟨j, hj, hw, rfl⟩
    intro J12
    have e20 : decide ((j : Int) < 20) = decide (j < 20) := lt_dec j 20
    simp (disch := omega) only [GL, RL, e20, wi64]
    by_cases hjl : j < 20
    · have e36 : decide ((16 : Int) + (j : Int) < ((A.length : Nat) : Int)) = true := decide_eq_true (by omega)
      simp only [hjl, decide_true, if_true, e36]
      have e16 : (16 : Int) + (j : Int) = ((16 + j : Nat) : Int) := by omega
      have e17 : (17 : Int) + (j : Int) = ((17 + j : Nat) : Int) := by omega
      have e37 : decide (((17 + j : Nat) : Int) < ((A.length : Nat) : Int)) = decide (17 + j < A.length) := lt_dec _ _
      simp only [J12]
      clear J12
      have x1 := bA.getD (16 + j)
      have x2 := bA.getD (17 + j)
      have d1 : ((A.getD (16 + j) 0 : Nat) : Int).tdiv 4 = ((A.getD (16 + j) 0 / 4 : Nat) : Int) := (Int.ofNat_tdiv _ 4).symm
      have d2 : ((A.getD (17 + j) 0 : Nat) : Int).tmod 4 = ((A.getD (17 + j) 0 % 4 : Nat) : Int) := (Int.ofNat_tmod _ 4).symm
      have y1 := hw.cle _ _ (hy (16 + j) (by omega))
      simp (disch := omega) only [GL, RL, wi64, e16, e17, e37, y1, d1]
      refine aw_storeN z_int hw hjl rfl fun h4 hw4 => ?_
      rw [nv_set] at hw4
      have hst := le_step 20 (leval A / QQ) j hjl
      rw [high_byte bA] at hst
      have step : ∀ h5, New h1 t_int 1 (.slice (some ⟨b13, 0, none⟩) 20 c13) h5 (nv .i64 (((le 20 (leval A / QQ)).take j ++ List.replicate (20 - j) 0).set j (A.getD (16 + j) 0 / 4 + A.getD (17 + j) 0 % 4 * 64))) 20 →
          ∃ h0, Hp.le h0 h5 ∧ ∃ m, m < u' ∧ ∃ j_1 : Nat, j_1 + m = 20 ∧ New h1 t_int 1 (.slice (some ⟨b13, 0, none⟩) 20 c13) h0 (nv .i64 ((le 20 (leval A / QQ)).take j_1 ++ List.replicate (20 - j_1) 0)) 20 ∧ [Value.int .i64 ((j : Int) + 1)] = [.int .i64 (j_1 : Int)] := by
        intro h5 hw5
        rw [hst] at hw5
        exact ⟨h5, .refl _, u' - 1, by omega, j + 1, by omega, hw5, rfl⟩
      have lL : ((le 20 (leval A / QQ)).take j ++ List.replicate (20 - j) 0).length = 20 := by rw [List.length_append, List.length_take, le_len, List.length_replicate]; omega
      generalize (le 20 (leval A / QQ)).take j ++ List.replicate (20 - j) 0 = L at hw hw4 step lL
      by_cases h36 : 17 + j < A.length
      · have y2 := hw4.cle _ _ (hy (17 + j) h36)
        have y3 : h4.cell ⟨b13, j, none⟩ = some (.int .i64 ((A.getD (16 + j) 0 / 4 : Nat) : Int)) := by
          obtain ⟨bw, cw, fw, hbw, _, hvw, hhw, _⟩ := hw4.form (by omega)
          simp only [Value.slice.injEq, Option.some.injEq, Addr.mk.injEq] at hvw
          obtain ⟨⟨rfl, _⟩, _, rfl⟩ := hvw
          have := cellN (h := h4) (g := b13) (i := j) (S := L.set j (A.getD (16 + j) 0 / 4)) (by rw [hhw]; exact Hp.set_same ..) (by rw [List.length_set]; omega)
          rw [getD_setI _ _ _ _ (by omega), if_pos rfl] at this
          exact this
        simp (disch := omega) only [GL, RL, wi64, e16, e17, e37, h36, decide_true, if_true, y2, y3, d2]
        have ev : ((A.getD (16 + j) 0 / 4 : Nat) : Int) + ((A.getD (17 + j) 0 % 4 : Nat) : Int) * 64 = ((A.getD (16 + j) 0 / 4 + A.getD (17 + j) 0 % 4 * 64 : Nat) : Int) := by push_cast; omega
        rw [ev]
        refine aw_storeN z_int hw4 hjl rfl fun h5 hw5 => ?_
        rw [nv_set, List.set_set] at hw5
        exact step h5 hw5
      · have z : A.getD (17 + j) 0 = 0 := by simp [List.getElem?_eq_none (show A.length ≤ 17 + j by omega)]
        simp (disch := omega) only [GL, RL, wi64, e16, e17, e37, h36, decide_false, Bool.false_eq_true, if_false]
        refine step h4 ?_
        rw [z]
        exact hw4
    · obtain rfl : j = 20 := by omega
      simp only [hjl, decide_false, Bool.false_eq_true, if_false]
      refine fin h3 ?_
      rw [List.take_of_length_le (by rw [le_len]; omega)] at hw
      simpa using hw
  · obtain rfl : i = 4 := by omega
    simp only [hlt, decide_false, Bool.false_eq_true, if_false]
    have hlt4 := iterR_lt (leval A0) hv
    have hred := iterR_red (leval A0) 4
    rw [← eA] at hlt4 hred
    have hres := rest_fin _ _ hlt4 hred
    refine aw_lit (n := 0) (ps := []) u_Sl_int z_int zr_int rfl (by omega) (by intro p hp; cases hp) fun t71 h2 n2 _ => ?_
    refine (q_slHi (hi := 17) u_Sl_int z_int _ _ c .i64 (by omega)).mpr ?_
    have r17 : Rn h2 .i64 (.slice (SL.cut (some ⟨b, o, none⟩) c 0 1) 17 c) (A.take 17) := (rn_hiI hA (by omega)).mono n2.cle
    have l17 : (A.take 17).length = 17 := by rw [List.length_take]; omega
    have rr17 : Rds h2 1 (.slice (SL.cut (some ⟨b, o, none⟩) c 0 1) 17 c) (nv .i64 (A.take 17)) 17 := by unfold Rn at r17; rwa [l17] at r17
    refine aw_append u_Sl_int u_Sl_int nfo_int rfl (by omega) n2 rr17 (nv_flat _ _) (by omega) (.refl _) fun t74 h3 n3 => ?_
    have n3' : Nn h1 t_int .i64 t74 h3 (A.take 17) := by unfold Nn; rw [l17]; simpa [fillL] using n3
    have e17 : leval (A.take 17) = leval A := by
      have e := leval_split A 17
      have p : (256 : Nat) ^ 17 = 87112285931760246646623899502532662132736 := rfl
      rw [p] at e
      unfold QQ at hlt4
      omega
    refine T_ref_prime fun t75 h4 n4 => ?_
    refine T_ref_less (n3'.rn.mono n4.cle) n4.rn (bA.take 17) primeL_bytes l17 primeL_len ?_
    have pv : leval primeL = PP := by rw [primeL_val]
    rw [e17, pv]
    simp (disch := omega) only [GL, RL]
    obtain ⟨hm, lm, n3m⟩ := n3'.down le1
    by_cases hP : leval A < PP
    · rw [if_pos hP] at hres
      simp only [hP, decide_true, Bool.not_true, Bool.false_eq_true, if_false]
      refine ⟨hm, lm.trans n4.le, k _ _ ?_⟩
      rw [hres, ← e17]
      have := le_leval (bA.take 17)
      rw [l17] at this
      rw [this]
      exact n3m
    · rw [if_neg hP] at hres
      simp only [hP, decide_false, Bool.not_false, if_true]
      refine aw_lit (n := 1) (ps := [(0, _)]) u_Sl_int z_int zr_int rfl (by omega) (by intro p hp; rw [List.mem_singleton.1 hp]; exact ⟨rfl, by omega⟩) fun t81 h5 n5 _ => ?_
      have n5' : Nn h4 t_int .i64 t81 h5 [5] := by unfold Nn; simpa [fillL, nv] using n5
      refine T_ref_add 17 (by omega) (by omega) ((n3'.rn.mono n4.cle).mono n5.cle) n5'.rn (bA.take 17) (by intro x hx; simp at hx; omega) fun t82 h6 n6 => ?_
      have e5 : leval [5] = 5 := rfl
      rw [e17, e5] at n6
      have n6d : New h5 t_int 1 t82 h6 (nv .i64 (le 17 (leval A + 5))) 17 := by have := n6; unfold Nn at this; rwa [le_len] at this
      obtain ⟨b82, c82, f82, hb82, hc82, rfl, hh6, _⟩ := n6d.form (by omega)
      have y : h6.cell ⟨b82, 16, none⟩ = some (.int .i64 (((le 17 (leval A + 5)).getD 16 0 : Nat) : Int)) := cellN (by rw [hh6]; exact Hp.set_same ..) (by rw [le_len]; omega)
      have em : (((le 17 (leval A + 5)).getD 16 0 : Nat) : Int).tmod 4 = (((le 17 (leval A + 5)).getD 16 0 % 4 : Nat) : Int) := (Int.ofNat_tmod _ 4).symm
      simp (disch := omega) only [GL, RL, y, em, Int.reduceToNat]
      refine aw_storeN (i := 16) z_int n6d (by omega) rfl fun h7 n7 => ?_
      rw [nv_set] at n7
      have el : (le 17 (leval A + 5)).set 16 ((le 17 (leval A + 5)).getD 16 0 % 4) = le 17 (leval A + 5 - QQ) := by
        rw [le_get 17 _ 16 (by omega), show (17 : Nat) = 16 + 1 from rfl, le_append, le_append, List.set_append_right _ _ (by rw [le_len]; omega), le_len]
        have p : (256 : Nat) ^ 16 = 340282366920938463463374607431768211456 := rfl
        rw [p]
        unfold QQ at *
        unfold PP at hP
        refine app2_congr ?_ ?_
        · refine le_congr ?_
          rw [p]; omega
        · simp only [le, Nat.sub_self, List.set_cons_zero]
          refine congrArg (fun x => [x]) ?_
          omega
      rw [el, ← hres] at n7
      have n7' : Nn h5 t_int .i64 (.slice (some ⟨b82, 0, none⟩) 17 c82) h7 (le 17 (leval A0 % PP)) := by unfold Nn; rw [le_len]; exact n7
      obtain ⟨hn, ln, n7m⟩ := n7'.down (((le1.trans n3'.le).trans n4.le).trans n5.le)
      exact ⟨hn, ln, k _ _ n7m⟩
end
end Go.Proofs.Ytnecdbclhdbaoaa
set_option linter.unusedSimpArgs false
set_option linter.unusedVariables false
set_option maxRecDepth 100000
set_option maxHeartbeats 2000000
namespace Go.Proofs.Ytnecdbclhdbaoaa
open Go Go.SL Go.Pure
/-- Two new rows stand in either order. -/
theorem New.swap {h ha h' : Hp} {e s e2 s2 : Nat} {v w : Value} {xs ys : List Value} {n m : Nat} (a : New h e s v ha xs n) (b : New ha e2 s2 w h' ys m) : ∃ hb, New h e2 s2 w hb ys m ∧ New hb e s v h' xs n := by
  rcases b.2 with ⟨e1, e2, rfl⟩ | ⟨bb, c, f, hb, hc, hv, rfl, hf⟩
  · exact ⟨h, ⟨b.1, .inl ⟨e1, e2, rfl⟩⟩, a⟩
  · exact ⟨_, ⟨b.1, .inr ⟨bb, c, f, a.noneAt hb, hc, hv, rfl, hf⟩⟩, a.add hb _⟩
def clampI (key : List Nat) (i : Nat) : Nat := if i % 4 = 3 then key.getD i 0 % 16 else if 0 < i ∧ i % 4 = 0 then key.getD i 0 / 4 * 4 else key.getD i 0
theorem clampR_take (key : List Nat) (i : Nat) (hi : i < 16) : (clampR key).take (i + 1) = (clampR key).take i ++ [clampI key i] := by
  rw [List.take_succ_eq_append_getElem (by simp [clampR]; exact hi)]
  congr 1
  simp [clampR, clampI]
theorem clampR_len (key : List Nat) : (clampR key).length = 16 := by simp [clampR]
theorem clampI_lt {key : List Nat} (h : Bytes key) (i : Nat) : clampI key i < 256 := by
  have := h.getD i
  unfold clampI
  split
  · omega
  · split <;> omega
theorem clampR_bytes {key : List Nat} (h : Bytes key) : Bytes (clampR key) := by
  intro x hx
  obtain ⟨i, _, rfl⟩ := List.mem_map.1 hx
  exact clampI_lt h i
theorem clampR_lt {key : List Nat} (h : Bytes key) : leval (clampR key) < 21267647932558653966460912964485513216 := by
  have e : (clampR key).take 16 = clampR key := List.take_of_length_le (by rw [clampR_len]; omega)
  have e2 := leval_take_succ (clampR key) 15
  rw [e] at e2
  have h15 : (clampR key).getD 15 0 < 16 := by
    have : (clampR key).getD 15 0 = clampI key 15 := by simp [clampR, clampI]
    rw [this]
    simp only [clampI, Nat.reduceMod, if_true]
    omega
  have hb := leval_take_lt _ (clampR_bytes h) 15
  have p : (256 : Nat) ^ 15 = 1329227995784915872903807060280344576 := rfl
  rw [p] at e2 hb
  omega
section
variable {h : Hp} {K : Value → Hp → Prop}
theorem conv53 {h : Hp} {K : Value → Prop} (x : Nat) (hx : x < 256) : q P h (convert t_uint8 t_int (.int .u8 (x : Int))) K = K (.int .i64 (x : Int)) := by
  rw [q_conv _ u_uint8 u_int, wi64 (by omega) (by omega)]
theorem conv35 {h : Hp} {K : Value → Prop} (x : Nat) (hx : x < 256) : q P h (convert t_int t_uint8 (.int .i64 (x : Int))) K = K (.int .u8 (x : Int)) := by
  rw [q_conv _ u_int u_uint8, wu8i (by omega) (by omega)]
/-- One more at a row's end. -/
theorem aw_push {H : Hp} {h' : Hp} {v : Value} {l : List Nat} {x : Nat} {K : Value → Hp → Prop} (n : Nn H t_int .i64 v h' l) (hl : l.length ≤ 1099511627776) (k : ∀ v' h'', Nn H t_int .i64 v' h'' (l ++ [x]) → K v' h'') :
    aw P (Instr.buildSlice t_Sl_int 1 #[(0, .int .i64 (x : Int))]) (fun t h => aw P (Builtin.append_ #[t_Sl_int, t_Sl_int] t_Sl_int #[v, t]) (fun u h => K u h) h) h' :=
  aw_lit (n := 1) (ps := [(0, _)]) u_Sl_int z_int zr_int rfl (by omega) (by intro p hp; rw [List.mem_singleton.1 hp]; exact ⟨rfl, by omega⟩) fun x h4 hx _ =>
    aw_appendN u_Sl_int u_Sl_int nfo_int rfl (by omega) n hx (by intro y hy; simp [fillL] at hy; subst hy; rfl) (by omega) fun v5 h5 hw5 => k v5 h5 (by unfold Nn; rw [nv_app, List.length_append]; exact hw5)
theorem aw_push8 {H : Hp} {h' : Hp} {v : Value} {l : List Nat} {x : Nat} {K : Value → Hp → Prop} (n : Nn H t_uint8 .u8 v h' l) (hl : l.length ≤ 1099511627776) (k : ∀ v' h'', Nn H t_uint8 .u8 v' h'' (l ++ [x]) → K v' h'') :
    aw P (Instr.buildSlice t_Sl_uint8 1 #[(0, .int .u8 (x : Int))]) (fun t h => aw P (Builtin.append_ #[t_Sl_uint8, t_Sl_uint8] t_Sl_uint8 #[v, t]) (fun u h => K u h) h) h' :=
  aw_lit (n := 1) (ps := [(0, _)]) u_Sl_uint8 z_uint8 zr_uint8 rfl (by omega) (by intro p hp; rw [List.mem_singleton.1 hp]; exact ⟨rfl, by omega⟩) fun x h4 hx _ =>
    aw_appendN u_Sl_uint8 u_Sl_uint8 nfo_uint8 rfl (by omega) n hx (by intro y hy; simp [fillL] at hy; subst hy; rfl) (by omega) fun v5 h5 hw5 => k v5 h5 (by unfold Nn; rw [nv_app, List.length_append]; exact hw5)
theorem T_ref_Tag {vk vm : Value} {key m : List Nat} (hk : Rn h .u8 vk key) (hm : Rn h .u8 vm m) (bk : Bytes key) (bm : Bytes m) (lk : key.length = 32) (hl : m.length ≤ 70368744177664)
    (k : ∀ v h', Nn h t_uint8 .u8 v h' (tagL key m) → K (.tuple #[v, .int .i64 0]) h') : Cn P n_orlopref05_Tag #[vk, vm] h K := by
  rw [tagL_eq key m lk bk bm] at k
  refine Cn_wk (F_orlopref05_Tag ?_)
  unfold s_orlopref05_Tag
  obtain ⟨ak, ck, rfl, hck⟩ := hk.shape
  obtain ⟨am, cm, rfl, hcm⟩ := hm.shape
  obtain ⟨bk', ok, rfl, hyk⟩ := hk.pos (by omega)
  have e32 : (((key.length : Nat) : Int) != 32) = false := by rw [lk]; rfl
  simp -zeta (disch := omega) only [GL, RL, e32, Bool.false_eq_true, if_false]
  refine Lp_mk (fun u vs h' => ∃ (i : Nat) (r s : Value) (ha : Hp), i + u = 16 ∧ Nn h t_int .i64 r ha ((clampR key).take i) ∧ Nn ha t_int .i64 s h' ((key.drop 16).take i) ∧ vs = [r, s, .int .i64 (i : Int)]) 16
    ⟨0, _, _, h, rfl, Nn.nil .., Nn.nil .., rfl⟩ ?_
  rintro u vs h1 ⟨i, r, s, ha, hi, nr, ns, rfl⟩
  have e16 : decide ((i : Int) < 16) = decide (i < 16) := lt_dec i 16
  simp -zeta (disch := omega) only [GL, RL, e16]
  have lR : ((clampR key).take i).length = i := by rw [List.length_take, clampR_len]; omega
  have lS : ((key.drop 16).take i).length = i := by rw [List.length_take, List.length_drop]; omega
  by_cases hlt : i < 16
  · have x1 := ns.cle _ _ (nr.cle _ _ (hyk i (by omega)))
    have b1 := bk.getD i
    simp -zeta (disch := omega) only [GL, RL, hlt, decide_true, if_true, x1, conv53 _ b1]
    intro J14
    have p14 : ∀ t : Nat, t = (if i % 4 = 3 then key.getD i 0 % 16 else key.getD i 0) → J14 (.int .i64 (t : Int)) h1 := by
      intro t ht
      simp -zeta only [J14]
      clear J14
      intro J16
      have p16 : ∀ x : Nat, x = clampI key i → J16 (.int .i64 (x : Int)) h1 := by
        intro x hx
        simp -zeta only [J16]
        clear J16
        obtain ⟨hb, ns', nr'⟩ := New.swap nr ns
        refine aw_lit (n := 1) (ps := [(0, _)]) u_Sl_int z_int zr_int rfl (by omega) (by intro p hp; rw [List.mem_singleton.1 hp]; exact ⟨rfl, by omega⟩) fun t46 h2 n46 _ => ?_
        refine aw_appendN u_Sl_int u_Sl_int nfo_int rfl (by omega) nr' n46 (by intro y hy; simp [fillL] at hy; subst hy; rfl) (by rw [lR]; omega) fun t47 h3 n47 => ?_
        have nr2 : Nn hb t_int .i64 t47 h3 ((clampR key).take (i + 1)) := by
          rw [clampR_take key i hlt, ← hx]
          unfold Nn; rw [nv_app, List.length_append]; exact n47
        have x2 := nr2.cle _ _ (ns'.cle _ _ (hyk (16 + i) (by omega)))
        have b2 := bk.getD (16 + i)
        have e16i : (16 : Int) + (i : Int) = ((16 + i : Nat) : Int) := by omega
        simp -zeta (disch := omega) only [GL, RL, wi64, e16i, x2, conv53 _ b2]
        obtain ⟨hc, nr3, ns3⟩ := New.swap ns' nr2
        refine aw_lit (n := 1) (ps := [(0, _)]) u_Sl_int z_int zr_int rfl (by omega) (by intro p hp; rw [List.mem_singleton.1 hp]; exact ⟨rfl, by omega⟩) fun t55 h4 n55 _ => ?_
        refine aw_appendN u_Sl_int u_Sl_int nfo_int rfl (by omega) ns3 n55 (by intro y hy; simp [fillL] at hy; subst hy; rfl) (by rw [lS]; omega) fun t56 h5 n56 => ?_
        have hs2 : (key.drop 16).take (i + 1) = (key.drop 16).take i ++ [key.getD (16 + i) 0] := by
          rw [List.take_succ_eq_append_getElem (by rw [List.length_drop]; omega)]
          congr 1
          simp [List.getD_eq_getElem?_getD, show 16 + i < key.length by omega]
        refine ⟨h5, .refl _, u - 1, by omega, i + 1, t47, t56, hc, by omega, nr3, ?_, rfl⟩
        rw [hs2]
        unfold Nn; rw [nv_app, List.length_append]; exact n56
      clear_value J16
      have ht256 : t < 256 := by subst ht; split <;> omega
      have egt : decide ((0 : Int) < (i : Int)) = decide (0 < i) := lt_dec 0 i
      have em4 : ((i : Int)).tmod 4 = ((i % 4 : Nat) : Int) := (Int.ofNat_tmod i 4).symm
      have ed4 : ((t : Int)).tdiv 4 = ((t / 4 : Nat) : Int) := (Int.ofNat_tdiv t 4).symm
      have e0 : (((i % 4 : Nat) : Int) == 0) = decide (i % 4 = 0) := by rw [Bool.eq_iff_iff, beq_iff_eq, decide_eq_true_eq]; omega
      simp -zeta (disch := omega) only [GL, RL, egt, em4, e0]
      by_cases h0 : 0 < i
      · simp only [h0, decide_true, if_true]
        by_cases h4 : i % 4 = 0
        · have emul : ((t / 4 : Nat) : Int) * 4 = ((t / 4 * 4 : Nat) : Int) := by push_cast; rfl
          simp (disch := omega) only [GL, RL, h4, decide_true, if_true, ed4, wi64, emul]
          refine p16 _ ?_
          rw [ht, if_neg (show ¬ i % 4 = 3 by omega), clampI, if_neg (show ¬ i % 4 = 3 by omega), if_pos ⟨h0, h4⟩]
        · simp (disch := omega) only [h4, decide_false, Bool.false_eq_true, if_false]
          refine p16 _ ?_
          rw [ht, clampI]
          by_cases h3 : i % 4 = 3
          · rw [if_pos h3, if_pos h3]
          · rw [if_neg h3, if_neg h3, if_neg (by omega)]
      · simp only [h0, decide_false, Bool.false_eq_true, if_false]
        refine p16 _ ?_
        rw [ht, clampI, if_neg (by omega), if_neg (by omega), if_neg (by omega)]
    clear_value J14
    have em4 : ((i : Int)).tmod 4 = ((i % 4 : Nat) : Int) := (Int.ofNat_tmod i 4).symm
    have e3 : (((i % 4 : Nat) : Int) == 3) = decide (i % 4 = 3) := by rw [Bool.eq_iff_iff, beq_iff_eq, decide_eq_true_eq]; omega
    have em16 : ((key.getD i 0 : Nat) : Int).tmod 16 = ((key.getD i 0 % 16 : Nat) : Int) := (Int.ofNat_tmod _ 16).symm
    simp (disch := omega) only [GL, RL, em4, e3]
    by_cases h3 : i % 4 = 3
    · simp (disch := omega) only [GL, RL, h3, decide_true, if_true, em16]
      exact p14 _ (by rw [if_pos h3])
    · simp (disch := omega) only [h3, decide_false, Bool.false_eq_true, if_false]
      exact p14 _ (by rw [if_neg h3])
  obtain rfl : i = 16 := by omega
  rw [List.take_of_length_le (by rw [clampR_len]; omega)] at nr
  rw [List.take_of_length_le (by rw [List.length_drop]; omega)] at ns
  simp -zeta only [hlt, decide_false, Bool.false_eq_true, if_false]
  have br : Bytes (clampR key) := clampR_bytes bk
  have lr : (clampR key).length = 16 := clampR_len key
  have vr : leval (clampR key) < 21267647932558653966460912964485513216 := clampR_lt bk
  generalize clampR key = R at nr br lr vr k
  have hle1 : Hp.le h h1 := nr.le.trans ns.le
  have hcl1 : Hp.cle h h1 := nr.cle.trans ns.cle
  have hr1 : Rn h1 .i64 r R := nr.rn.mono ns.cle
  have hs1 : Rn h1 .i64 s (key.drop 16) := ns.rn
  clear lR lS
  refine aw_make (n := 17) (c := 17) u_Sl_int nfo_int rfl (by omega) (by omega) (by omega) fun t57 h2 n57 => ?_
  rw [replicate_nv] at n57
  refine Lp_mk (fun u vs h' => ∃ (i : Nat) (a : Value) (A : List Nat), i + u = (m.length + 15) / 16 ∧ Hp.le h1 h' ∧ Hp.cle h1 h' ∧ Rn h' .i64 a A ∧ A.length = 17 ∧ Bytes A ∧ leval A = accR (leval R) m i ∧ vs = [a, .int .i64 ((16 * i : Nat) : Int)]) ((m.length + 15) / 16)
    ⟨0, t57, List.replicate 17 0, by omega, n57.le, n57.cle, n57.rds, rfl, by intro x hx; rw [List.mem_replicate] at hx; omega, rfl, rfl⟩ ?_
  clear n57 t57
  rintro u vs h3 ⟨i, a, A, hi, le3, c3, hA, lA, bA, eA, rfl⟩
  simp -zeta (disch := omega) only [GL, RL, lt_dec]
  by_cases hlt : 16 * i < m.length
  · simp -zeta only [hlt, decide_true, if_true]
    intro J27
    have p27 : ∀ b h4, Nn h3 t_int .i64 b h4 (chunk m i) → J27 b h4 := by
      intro b h4 n4
      simp -zeta only [J27]
      clear J27
      have lc : (chunk m i).length ≤ 16 := chunkN_len 16 m i
      have bc : Bytes (chunk m i) := chunkN_bytes bm 16 i
      have v1 := chunk1_lt bm i
      have hacc : accR (leval R) m (i + 1) = (leval A + leval (chunk m i ++ [1])) * leval R % PP := by rw [eA]; rfl
      have aA := accR_lt (leval R) m i
      rw [← eA] at aA
      clear eA
      generalize chunk m i = C at n4 lc bc v1 hacc
      refine aw_push (x := 1) n4 (by omega) fun t88 h5 n5 => ?_
      have b1 : Bytes (C ++ [1]) := bc.append (by intro x hx; simp at hx; omega)
      refine T_ref_add 18 (by omega) (by omega) (hA.mono n5.cle) n5.rn bA b1 fun t89 h6 n6 => ?_
      have p18 : (256 : Nat) ^ 18 = 22300745198530623141535718272648361505980416 := rfl
      have e18 : leval (le 18 (leval A + leval (C ++ [1]))) = leval A + leval (C ++ [1]) := by
        rw [leval_le, Nat.mod_eq_of_lt]
        rw [p18]
        unfold PP at aA
        omega
      refine T_ref_times n6.rn (((hr1.mono c3).mono n5.cle).mono n6.cle) (le_bytes _ _) br (by rw [le_len]; omega) fun t91 h7 n7 => ?_
      rw [e18] at n7
      have hprod : (leval A + leval (C ++ [1])) * leval R < 2 ^ 256 := by
        have q1 : leval A + leval (C ++ [1]) < 2722258935367507707706996859454145691648 := by unfold PP at aA; omega
        have q2 := Nat.mul_lt_mul_of_lt_of_lt q1 vr
        exact Nat.lt_of_lt_of_le q2 (by decide)
      have p36 : (2 : Nat) ^ 256 ≤ 256 ^ 36 := by
        have e : (2 : Nat) ^ 256 = 256 ^ 32 := rfl
        rw [e]; exact Nat.pow_le_pow_right (by decide) (by decide)
      have e36 : leval (le 36 ((leval A + leval (C ++ [1])) * leval R)) = (leval A + leval (C ++ [1])) * leval R := by
        rw [leval_le, Nat.mod_eq_of_lt (Nat.lt_of_lt_of_le hprod p36)]
      refine T_ref_rest n7.rn (le_bytes _ _) (le_len _ _) (by rw [e36]; exact hprod) fun t92 h8 n8 => ?_
      rw [e36, ← hacc] at n8
      have e16 : ((16 * i : Nat) : Int) + 16 = ((16 * (i + 1) : Nat) : Int) := by omega
      simp (disch := omega) only [GL, RL, wi64, e16]
      refine ⟨h8, .refl _, u - 1, by omega, i + 1, t92, _, by omega, (((le3.trans n5.le).trans n6.le).trans n7.le).trans n8.le, (((c3.trans n5.cle).trans n6.cle).trans n7.cle).trans n8.cle, n8.rn, le_len _ _, le_bytes _ _, ?_, rfl⟩
      rw [leval_le, Nat.mod_eq_of_lt]
      have := accR_lt (leval R) m (i + 1)
      have p17 : (256 : Nat) ^ 17 = 87112285931760246646623899502532662132736 := rfl
      rw [p17]
      unfold PP at this
      omega
    clear_value J27
    refine Lp_mk (fun w vs h' => ∃ (j : Nat) (b : Value), 16 * i ≤ j ∧ j ≤ min (16 * i + 16) m.length ∧ w = 16 * i + 16 - j ∧ Nn h3 t_int .i64 b h' ((m.take j).drop (16 * i)) ∧ vs = [b, .int .i64 (j : Int)]) 16
      ⟨16 * i, _, Nat.le_refl _, by omega, by omega, by
        rw [List.drop_of_length_le (by rw [List.length_take]; omega)]
        exact Nn.nil .., rfl⟩ ?_
    rintro w vs h4 ⟨j, b, hj1, hj2, rfl, nb, rfl⟩
    intro J30
    have e16 : ((16 * i : Nat) : Int) + 16 = ((16 * i + 16 : Nat) : Int) := by omega
    simp (disch := omega) only [GL, RL, wi64, e16, lt_dec]
    have done : ¬ (j < 16 * i + 16 ∧ j < m.length) → J27 b h4 := by
      intro hn
      refine p27 b h4 ?_
      have : j = min (16 * i + 16) m.length := by omega
      rw [this] at nb
      exact nb
    by_cases hj3 : j < 16 * i + 16
    · simp only [hj3, decide_true, if_true]
      by_cases hj4 : j < m.length
      · simp only [hj4, decide_true, if_true]
        simp only [J30]
        clear J30
        obtain ⟨bm', om, rfl, hym⟩ := hm.pos (by omega)
        have x1 := nb.cle _ _ (c3 _ _ (hcl1 _ _ (hym j hj4)))
        have b1 := bm.getD j
        simp (disch := omega) only [GL, RL, x1, conv53 _ b1]
        have ln : ((m.take j).drop (16 * i)).length = j - 16 * i := by rw [List.length_drop, List.length_take]; omega
        refine aw_push nb (by rw [ln]; omega) fun t84 h5 n5 => ?_
        simp (disch := omega) only [GL, RL, wi64]
        refine ⟨h5, .refl _, 16 * i + 16 - (j + 1), by omega, j + 1, t84, by omega, by omega, rfl, ?_, rfl⟩
        have : (m.take (j + 1)).drop (16 * i) = (m.take j).drop (16 * i) ++ [m.getD j 0] := by
          rw [List.take_succ_eq_append_getElem hj4, List.drop_append_of_le_length (by rw [List.length_take]; omega)]
          simp [List.getD_eq_getElem?_getD, hj4]
        rw [this]
        exact n5
      · simp only [hj4, decide_false, Bool.false_eq_true, if_false]
        exact done (by omega)
    · simp only [hj3, decide_false, Bool.false_eq_true, if_false]
      exact done (by omega)
  · obtain rfl : i = (m.length + 15) / 16 := by omega
    simp only [hlt, decide_false, Bool.false_eq_true, if_false]
    refine T_ref_add 16 (by omega) (by omega) hA (hs1.mono c3) bA (bk.drop 16) fun t95 h4 n4 => ?_
    rw [eA] at n4
    generalize accR (leval R) m ((m.length + 15) / 16) + leval (key.drop 16) = V at n4 k
    have lX := le_len 16 V
    have bX := le_bytes 16 V
    generalize le 16 V = X at n4 k lX bX
    obtain ⟨ax, cx, rfl, hcx⟩ := n4.rn.shape
    obtain ⟨bx, ox, rfl, hyx⟩ := n4.rn.pos (by omega)
    refine Lp_mk (fun u vs h' => ∃ (i : Nat) (v : Value), i + u = 16 ∧ Nn h4 t_uint8 .u8 v h' (X.take i) ∧ vs = [v, .int .i64 (i : Int)]) 16 ⟨0, _, rfl, Nn.nil .., rfl⟩ ?_
    rintro u' vs h5 ⟨j, v, hj, nv', rfl⟩
    have e16 : decide ((j : Int) < 16) = decide (j < 16) := lt_dec j 16
    simp (disch := omega) only [GL, RL, e16]
    by_cases hjl : j < 16
    · have x1 := nv'.cle _ _ (hyx j (by omega))
      have b1 := bX.getD j
      simp (disch := omega) only [GL, RL, hjl, decide_true, if_true, x1, conv35 _ b1]
      have lt : (X.take j).length = j := by rw [List.length_take]; omega
      refine aw_push8 nv' (by rw [lt]; omega) fun t107 h6 n6 => ?_
      simp (disch := omega) only [GL, RL, wi64]
      refine ⟨h6, .refl _, u' - 1, by omega, j + 1, t107, by omega, ?_, rfl⟩
      have : X.take (j + 1) = X.take j ++ [X.getD j 0] := by
        rw [List.take_succ_eq_append_getElem (by omega)]
        simp [List.getD_eq_getElem?_getD, show j < X.length by omega]
      rw [this]
      exact n6
    · obtain rfl : j = 16 := by omega
      simp only [hjl, decide_false, Bool.false_eq_true, if_false]
      rw [List.take_of_length_le (by omega)] at nv'
      obtain ⟨h0, l0, n0⟩ := nv'.down ((hle1.trans le3).trans n4.le)
      exact ⟨h0, l0, k _ _ n0⟩
end
end Go.Proofs.Ytnecdbclhdbaoaa
set_option linter.unusedSimpArgs false
set_option linter.unusedVariables false
set_option maxRecDepth 100000
set_option maxHeartbeats 2000000
namespace Go.Proofs.Ytnecdbclhdbaoaa
open Go Go.SL Go.Pure
theorem pad_mod (b : List Nat) : (pad16 b).length % 16 = 0 := by
  unfold pad16 need16; rw [List.length_append, List.length_replicate]; omega
theorem padL2 (b t : List Nat) : padL [b, t] = pad16 b ++ pad16 t := by
  show pad16 (pad16 ([] ++ b) ++ t) = _
  rw [List.nil_append]
  have := pad_mod b
  generalize pad16 b = B at this
  have e : need16 (B ++ t).length = need16 t.length := by unfold need16; rw [List.length_append]; omega
  unfold pad16
  rw [e, List.append_assoc]
section
variable {h : Hp} {K : Value → Hp → Prop}
theorem T_ref_Seal {vk vn vb vt : Value} {key nonce b t : List Nat} (hk : Rn h .u8 vk key) (hn : Rn h .u8 vn nonce) (hb : Rn h .u8 vb b) (ht : Rn h .u8 vt t) (bk : Bytes key) (bn : Bytes nonce) (bb : Bytes b) (bt : Bytes t)
    (lb : b.length ≤ 1099511627776) (lt : t.length ≤ 1099511627776)
    (k : ∀ v h', (if key.length = 32 ∧ nonce.length = 12 then Nn h t_uint8 .u8 v h' (sealL key nonce b t) else v = .slice none 0 0 ∧ h' = h) → K (.tuple #[v, .int .i64 (if key.length = 32 ∧ nonce.length = 12 then 0 else 1)]) h') :
    Cn P n_orlopref06_Seal #[vk, vn, vb, vt] h K := by
  refine Cn_wk (F_orlopref06_Seal ?_)
  unfold s_orlopref06_Seal
  refine T_ref_Xor 1 (by omega) hk hn ht bk bn bt (by omega) fun vX h1 hX => ?_
  rw [ext0, ext1]
  by_cases hm : key.length = 32 ∧ nonce.length = 12
  case neg =>
    rw [if_neg hm] at hX ⊢
    obtain ⟨rfl, rfl⟩ := hX
    have e1 : ((1 : Int) != 0) = true := rfl
    simp (disch := omega) only [GL, RL, e1, if_true]
    have := k (.slice none 0 0) h1
    rw [if_neg hm, if_neg hm] at this
    exact ⟨h1, .refl _, this ⟨rfl, rfl⟩⟩
  rw [if_pos hm] at hX ⊢
  have lX := xorL_len key nonce 1 t
  have bX : Bytes (xorL key nonce 1 t) := xorL_bytes bt
  have hseal : sealL key nonce b t = xorL key nonce 1 t ++ tagB key nonce b (xorL key nonce 1 t) := rfl
  generalize xorL key nonce 1 t = X at hX lX bX hseal
  simp (disch := omega) only [GL, RL, bne_self_eq_false, Bool.false_eq_true, if_false]
  have lpb := pad16_len b
  have lpX := pad16_len X
  refine T_ref_full (hb.mono hX.cle) (by omega) fun v26 h2 n26 => ?_
  refine T_ref_full (hX.rn.mono n26.cle) (by omega) fun v28 h3 n28 => ?_
  refine aw_appendN u_Sl_uint8 u_Sl_uint8 nfo_uint8 rfl (by omega) n26 n28 (nv_flat _ _) (by omega) fun v29 h4 n29 => ?_
  obtain ⟨ab, cb, rfl, hcb⟩ := hb.shape
  obtain ⟨aX, cX, rfl, hcX⟩ := hX.rn.shape
  simp (disch := omega) only [GL, RL, wu64i]
  refine T_orlopref01_Little b.length 8 (by omega) (by omega) fun v34 h5 n34 => ?_
  refine aw_appendN u_Sl_uint8 u_Sl_uint8 nfo_uint8 rfl (by omega) n29 n34 (nv_flat _ _) (by rw [le_len]; omega) fun v35 h6 n35 => ?_
  refine T_orlopref01_Little X.length 8 (by omega) (by omega) fun v40 h7 n40 => ?_
  refine aw_appendN u_Sl_uint8 u_Sl_uint8 nfo_uint8 rfl (by omega) n35 n40 (nv_flat _ _) (by simp only [le_len]; omega) fun v41 h8 n41 => ?_
  have n41' : Nn h1 t_uint8 .u8 v41 h8 (padL [b, X] ++ (le 8 b.length ++ le 8 X.length)) := by
    unfold Nn
    rw [padL2, nv_app, nv_app, nv_app]
    simp only [List.length_append, le_len] at n41 ⊢
    simpa [Nat.add_assoc] using n41
  clear n26 n28 n29 n34 n35 n40 n41
  have c8 := hX.cle.trans n41'.cle
  refine T_ref_Block 0 (by omega) (hk.mono c8) (hn.mono c8) bk bn hm.1 hm.2 fun v45 h9 n45 => ?_
  have lB := blockL_len key nonce 0
  have bB := blockL_bytes key nonce 0
  have htag : tagB key nonce b X = tagL ((blockL key nonce 0).take 32) (padL [b, X] ++ (le 8 b.length ++ le 8 X.length)) := rfl
  generalize blockL key nonce 0 = B at n45 lB bB htag
  refine q_slRnHi u_Sl_uint8 z_uint8 n45.rn .i64 32 (by omega) fun v46 r46 => ?_
  have bmsg : Bytes (padL [b, X] ++ (le 8 b.length ++ le 8 X.length)) := (padL2_bytes bb bX).append ((le_bytes _ _).append (le_bytes _ _))
  have lp := padL2_len b X 2
  simp only [List.take_succ_cons, List.take_zero] at lp
  refine T_ref_Tag r46 (n41'.rn.mono n45.cle) (bB.take 32) bmsg (by rw [List.length_take]; omega) (by simp only [List.length_append, le_len]; omega) fun v49 h10 n49 => ?_
  rw [← htag] at n49
  rw [ext0, ext1]
  have ltag := tagB_len key nonce b X
  obtain ⟨hb1, m41, mX1⟩ := New.swap hX n41'
  obtain ⟨hb2, m45, mX2⟩ := New.swap mX1 n45
  refine aw_appendN u_Sl_uint8 u_Sl_uint8 nfo_uint8 rfl (by omega) mX2 n49 (nv_flat _ _) (by omega) fun v53 h11 n53 => ?_
  have n53' : Nn hb2 t_uint8 .u8 v53 h11 (sealL key nonce b t) := by
    unfold Nn; rw [hseal, nv_app, List.length_append]; exact n53
  obtain ⟨h0, l0, nf⟩ := n53'.down (m41.le.trans m45.le)
  have := k v53 h0
  rw [if_pos hm, if_pos hm] at this
  exact ⟨h0, l0, this nf⟩
theorem T_ref_Open {vk vn vb vx : Value} {key nonce b x : List Nat} (hk : Rn h .u8 vk key) (hn : Rn h .u8 vn nonce) (hb : Rn h .u8 vb b) (hx : Rn h .u8 vx x) (bk : Bytes key) (bn : Bytes nonce) (bb : Bytes b) (bx : Bytes x)
    (lb : b.length ≤ 1099511627776) (lx : x.length ≤ 1099511627776)
    (k : ∀ v h', (if openC key nonce b x = 0 then Nn h t_uint8 .u8 v h' (openL key nonce b x).2 else v = .slice none 0 0 ∧ h' = h) → K (.tuple #[v, .int .i64 ((openC key nonce b x : Nat) : Int)]) h') :
    Cn P n_orlopref06_Open #[vk, vn, vb, vx] h K := by
  refine Cn_wk (F_orlopref06_Open ?_)
  unfold s_orlopref06_Open
  intro J2
  obtain ⟨ak, ck, rfl, hck⟩ := hk.shape
  obtain ⟨an, cn, rfl, hcn⟩ := hn.shape
  obtain ⟨ax, cx, rfl, hcx⟩ := hx.shape
  have e32 : (((key.length : Nat) : Int) != 32) = decide (key.length ≠ 32) := ne_dec _ 32
  have e12 : (((nonce.length : Nat) : Int) != 12) = decide (nonce.length ≠ 12) := ne_dec _ 12
  simp (disch := omega) only [GL, RL, e32, e12]
  unfold openC at k
  by_cases hm1 : key.length = 32
  case neg =>
    have hm : ¬ (key.length = 32 ∧ nonce.length = 12) := fun q => hm1 q.1
    simp only [if_neg hm] at k
    simp only [hm1, ne_eq, not_false_eq_true, decide_true, Bool.true_eq_false, if_false, if_true]
    exact ⟨h, .refl _, k _ _ (by simp)⟩
  by_cases hm2 : nonce.length = 12
  case neg =>
    have hm : ¬ (key.length = 32 ∧ nonce.length = 12) := fun q => hm2 q.2
    simp only [if_neg hm] at k
    simp only [hm1, hm2, ne_eq, not_true_eq_false, not_false_eq_true, decide_true, decide_false, if_true]
    exact ⟨h, .refl _, k _ _ (by simp)⟩
  have hm : key.length = 32 ∧ nonce.length = 12 := ⟨hm1, hm2⟩
  simp only [if_pos hm] at k
  simp only [hm1, hm2, ne_eq, not_true_eq_false, decide_false, if_true, Bool.false_eq_true, if_false]
  show J2 h
  simp only [J2]
  clear J2
  have e26 : decide (((x.length : Nat) : Int) < 16) = decide (x.length < 16) := lt_dec _ 16
  simp (disch := omega) only [GL, RL, wi64, e26]
  by_cases h16 : x.length < 16
  · simp only [h16, decide_true, if_true]
    have ho : openL key nonce b x = (8, []) := by unfold openL; rw [if_pos h16]
    rw [ho] at k
    exact ⟨h, .refl _, k (.slice none 0 0) h (by simp)⟩
  simp only [h16, decide_false, Bool.false_eq_true, if_false]
  have e16 : ((x.length : Nat) : Int) - 16 = ((x.length - 16 : Nat) : Int) := by omega
  rw [e16]
  refine q_slRnHi u_Sl_uint8 z_uint8 hx .i64 (x.length - 16) (by omega) fun w hw => ?_
  have lw : (x.take (x.length - 16)).length = x.length - 16 := by rw [List.length_take]; omega
  refine T_ref_Xor 1 (by omega) hk hn hw bk bn (bx.take _) (by omega) fun vX h1 nX => ?_
  rw [if_pos hm] at nX ⊢
  rw [ext0, ext1]
  have lX := xorL_len key nonce 1 (x.take (x.length - 16))
  have bX : Bytes (xorL key nonce 1 (x.take (x.length - 16))) := xorL_bytes (bx.take _)
  have c1 := nX.cle
  refine T_ref_Seal (hk.mono c1) (hn.mono c1) (hb.mono c1) nX.rn bk bn bb bX lb (by omega) fun vS h2 nS => ?_
  rw [if_pos hm] at nS ⊢
  rw [ext0, ext1]
  have lS := sealL_len key nonce b (xorL key nonce 1 (x.take (x.length - 16)))
  have eS : sealL key nonce b (xorL key nonce 1 (x.take (x.length - 16))) = x ↔ tagB key nonce b (x.take (x.length - 16)) = x.drop (x.length - 16) := by
    unfold sealL
    rw [xorL_xorL]
    constructor
    · intro e
      have := congrArg (List.drop (x.length - 16)) e
      rw [List.drop_append_of_le_length (by omega), List.drop_of_length_le (by omega)] at this
      simpa using this
    · intro e
      rw [e, List.take_append_drop]
  refine T_orlopref01_Equal nS.rn (hx.mono (c1.trans nS.cle)) (by omega) ?_
  by_cases heq : tagB key nonce b (x.take (x.length - 16)) = x.drop (x.length - 16)
  · have ho : openL key nonce b x = (0, xorL key nonce 1 (x.take (x.length - 16))) := by unfold openL; rw [if_neg h16, if_pos heq]
    rw [ho] at k
    simp (disch := omega) only [GL, RL, eS.2 heq, decide_true, Bool.not_true, Bool.false_eq_true, if_false]
    exact ⟨h1, nS.le, k vX h1 (by simpa using nX)⟩
  · have ho : openL key nonce b x = (7, []) := by unfold openL; rw [if_neg h16, if_neg heq]
    rw [ho] at k
    simp (disch := omega) only [GL, RL, mt eS.1 heq, decide_false, Bool.not_false, if_true]
    exact ⟨h, nX.le.trans nS.le, k (.slice none 0 0) h (by simp)⟩
end
end Go.Proofs.Ytnecdbclhdbaoaa
set_option linter.unusedSimpArgs false
set_option linter.unusedVariables false
set_option maxRecDepth 100000
set_option maxHeartbeats 1000000
namespace Go.Proofs.Ytnecdbclhdbaoaa
open Go Go.SL Go.Pure
theorem rf0 {h : Hp} {K : Value → Prop} (r : Nat) : q P h (Instr.fieldAt t_orlopref12_Crypt (.pointer (some ⟨r, 0, none⟩)) 0) K = K (.pointer (some ⟨r, 0, none⟩)) := q_of (by kernel_rfl) K
theorem rf2 {h : Hp} {K : Value → Prop} (r : Nat) : q P h (Instr.fieldAt t_orlopref12_Crypt (.pointer (some ⟨r, 0, none⟩)) 2) K = K (.pointer (some ⟨r, 2, none⟩)) := q_of (by kernel_rfl) K
theorem prf2 {h : Hp} (r : Nat) : peek P h (Instr.fieldAt t_orlopref12_Crypt (.pointer (some ⟨r, 0, none⟩)) 2) = some (.pointer (some ⟨r, 2, none⟩)) := by kernel_rfl
theorem rs0 {h : Hp} {K : Value → Prop} (r : Nat) : q P h (Instr.fieldAt t_orlopref12_Sealed (.pointer (some ⟨r, 0, none⟩)) 0) K = K (.pointer (some ⟨r, 0, none⟩)) := q_of (by kernel_rfl) K
theorem rs1 {h : Hp} {K : Value → Prop} (r : Nat) : q P h (Instr.fieldAt t_orlopref12_Sealed (.pointer (some ⟨r, 0, none⟩)) 1) K = K (.pointer (some ⟨r, 1, none⟩)) := q_of (by kernel_rfl) K
theorem rs2 {h : Hp} {K : Value → Prop} (r : Nat) : q P h (Instr.fieldAt t_orlopref12_Sealed (.pointer (some ⟨r, 0, none⟩)) 2) K = K (.pointer (some ⟨r, 2, none⟩)) := q_of (by kernel_rfl) K
theorem rs3 {h : Hp} {K : Value → Prop} (r : Nat) : q P h (Instr.fieldAt t_orlopref12_Sealed (.pointer (some ⟨r, 0, none⟩)) 3) K = K (.pointer (some ⟨r, 3, none⟩)) := q_of (by kernel_rfl) K
theorem rs4 {h : Hp} {K : Value → Prop} (r : Nat) : q P h (Instr.fieldAt t_orlopref12_Sealed (.pointer (some ⟨r, 0, none⟩)) 4) K = K (.pointer (some ⟨r, 4, none⟩)) := q_of (by kernel_rfl) K
abbrev nil5 : List Value := [.slice none 0 0, .slice none 0 0, .slice none 0 0, .slice none 0 0, .slice none 0 0]
theorem sz_rsealed : sz P t_orlopref12_Sealed = some 5 := by kernel_rfl
theorem zr_rsealed : zr P t_orlopref12_Sealed = some (.agg nil5.toArray) := by kernel_rfl
theorem nfo_rsealed : (P.info? t_orlopref12_Sealed).map (fun i => (i.zero, i.size, i.bytes)) = some (some (.agg nil5.toArray), 5, 120) := by kernel_rfl
/-- The cells of the reference's boxes. -/
def RefBoxes (R : Hp) (xs : List Value) (bs : List Box) : Prop :=
  xs.length = bs.length * 5 ∧ ∀ (i : Nat) (b : Box), bs[i]? = some b → ∃ vk vn vb vt vx, (∀ (j : Nat) (y : Value), [vk, vn, vb, vt, vx][j]? = some y → xs[i * 5 + j]? = some y) ∧
    Rn R .u8 vk b.key ∧ Rn R .u8 vn b.nonce ∧ Rn R .u8 vb b.beside ∧ Rn R .u8 vt b.text ∧ Rn R .u8 vx (boxB i (b.text.length + 16))
theorem RefBoxes.mono {R R' : Hp} {xs : List Value} {bs : List Box} (a : RefBoxes R xs bs) (c : Hp.cle R R') : RefBoxes R' xs bs :=
  ⟨a.1, fun i b e => let ⟨vk, vn, vb, vt, vx, h0, h1, h2, h3, h4, h5⟩ := a.2 i b e; ⟨vk, vn, vb, vt, vx, h0, h1.mono c, h2.mono c, h3.mono c, h4.mono c, h5.mono c⟩⟩
theorem RefBoxes.snoc {R : Hp} {xs : List Value} {bs : List Box} {vk vn vb vt vx : Value} {b : Box} (a : RefBoxes R xs bs) (h1 : Rn R .u8 vk b.key) (h2 : Rn R .u8 vn b.nonce) (h3 : Rn R .u8 vb b.beside) (h4 : Rn R .u8 vt b.text) (h5 : Rn R .u8 vx (boxB bs.length (b.text.length + 16))) :
    RefBoxes R (xs ++ [vk, vn, vb, vt, vx]) (bs ++ [b]) := by
  refine ⟨by rw [List.length_append, List.length_append, a.1]; simp; omega, fun i c e => ?_⟩
  by_cases hi : i < bs.length
  · rw [List.getElem?_append_left hi] at e
    obtain ⟨wk, wn, wb, wt, wx, h0, r⟩ := a.2 i c e
    refine ⟨wk, wn, wb, wt, wx, fun j y ey => ?_, r⟩
    have := h0 j y ey
    have hlt := (List.getElem?_eq_some_iff.1 this).1
    rw [List.getElem?_append_left hlt]; exact this
  · rw [List.getElem?_append_right (by omega)] at e
    have : i = bs.length := by
      have := (List.getElem?_eq_some_iff.1 e).1
      simp at this; omega
    subst this
    rw [Nat.sub_self] at e
    simp only [List.getElem?_cons_zero, Option.some.injEq] at e
    subst e
    refine ⟨vk, vn, vb, vt, vx, fun j y ey => ?_, h1, h2, h3, h4, h5⟩
    rw [List.getElem?_append_right (by rw [a.1]; omega), a.1, show bs.length * 5 + j - bs.length * 5 = j by omega]
    exact ey
/-- The reference's crypt, in memory. -/
def RefAtX (tx : Value) (R h : Hp) (p : Nat) (c : Cr) (S : List Nat) : Prop :=
  match c with
  | .real => h p = some (.row t_orlopref12_Crypt [.bool false, .slice none 0 0, .slice none 0 0] 3 (some (0, 0))) ∧ S = [p]
  | .book _ bs => ∃ bx xs Sb, h p = some (.row t_orlopref12_Crypt [.bool true, tx, bx] 3 (some (0, 0))) ∧ OutAt t_orlopref12_Sealed 5 h bx xs bs.length Sb ∧ RefBoxes R xs bs ∧ S = p :: Sb ∧ p ∉ Sb ∧ ∀ b ∈ bs, (Bytes b.key ∧ Bytes b.nonce ∧ Bytes b.beside ∧ Bytes b.text) ∧ b.key.length ≤ 1099511627776 ∧ b.nonce.length ≤ 1099511627776 ∧ b.beside.length ≤ 1099511627776
/-- One without texts. -/
abbrev RefAt : Hp → Hp → Nat → Cr → List Nat → Prop := RefAtX (.slice none 0 0)
theorem RefAtX.keep {tx : Value} {R R' h h' : Hp} {p : Nat} {c : Cr} {S : List Nat} (a : RefAtX tx R h p c S) (e : Hp.ext R R') (k : ∀ b, b ∈ S → h' b = h b) : RefAtX tx R' h' p c S := by
  cases c with
  | real => exact ⟨by rw [k p (by rw [a.2]; simp)]; exact a.1, a.2⟩
  | book ts bs =>
    obtain ⟨bx, xs, Sb, h1, h2, h3, rfl, h5, h6⟩ := a
    exact ⟨bx, xs, Sb, by rw [k p (by simp)]; exact h1, h2.keep fun x hx => k x (by simp [hx]), h3.mono e.cle, rfl, h5, h6⟩
theorem RefAtX.ext {tx : Value} {R R' h h' : Hp} {p : Nat} {c : Cr} {S : List Nat} (a : RefAtX tx R h p c S) (w : Own R h S) (e : Hp.ext R R') (x : Hp.ext h h') : RefAtX tx R' h' p c S := a.keep e fun b hb => by
  obtain ⟨o, eo⟩ := w.kn b hb
  rw [eo, x _ _ eo]
section
variable {h : Hp} {K : Value → Hp → Prop}
theorem T_ref_crOpen {tx : Value} {R : Hp} {p : Nat} {c : Cr} {S : List Nat} {vk vn vb vx : Value} {key nonce b x : List Nat} (w : Own R h S) (hC : RefAtX tx R h p c S) (hf : few 1000000 c)
    (hk : Rn R .u8 vk key) (hn : Rn R .u8 vn nonce) (hb : Rn R .u8 vb b) (hx : Rn R .u8 vx x) (bk : Bytes key) (bn : Bytes nonce) (bb : Bytes b) (bx : Bytes x)
    (lb : b.length ≤ 1099511627776) (lx : x.length ≤ 1099511627776)
    (k : ∀ v R' h', Stp R h R' h' S S → RefAtX tx R' h' p c S → (if (crOpen c key nonce b x).1 = 0 then Rn R' .u8 v (crOpen c key nonce b x).2 else v = .slice none 0 0) → K (.tuple #[v, .int .i64 (((crOpen c key nonce b x).1 : Nat) : Int)]) h') :
    Cn P n_orlopref12_Crypt_Open #[.pointer (some ⟨p, 0, none⟩), vk, vn, vb, vx] h K := by
  refine F_orlopref12_Crypt_Open ?_
  unfold s_orlopref12_Crypt_Open
  cases c with
  | real =>
    have c0 : h.cell ⟨p, 0, none⟩ = some (.bool false) := by rw [cell_row hC.1]; rfl
    simp -zeta (disch := omega) only [GL, RL, rf0, c0, Bool.not_false, if_true]
    refine T_ref_Open (w.rn hk) (w.rn hn) (w.rn hb) (w.rn hx) bk bn bb bx lb lx fun v h1 n1 => ?_
    rw [ext0, ext1]
    obtain ⟨eO, eO2⟩ := crOpen_real key nonce b x
    rw [eO] at k
    by_cases h0 : openC key nonce b x = 0
    · simp only [if_pos h0] at n1 k
      rw [eO2 h0] at k
      obtain ⟨R1, s1, r1⟩ := Stp.newN w n1
      exact k v R1 h1 s1 (hC.ext w s1.ext n1.ext) r1
    · simp only [if_neg h0] at n1 k
      obtain ⟨rfl, rfl⟩ := n1
      exact k _ R h1 (.refl w) hC rfl
  | book ts bs =>
    have hC0 := hC
    obtain ⟨bxv, xs, Sb, hp, hO, hB, rfl, hpS, hby⟩ := hC
    have c0 : h.cell ⟨p, 0, none⟩ = some (.bool true) := by rw [cell_row hp]; rfl
    simp -zeta (disch := omega) only [GL, RL, rf0, c0, Bool.not_true, Bool.false_eq_true, if_false]
    obtain ⟨ak, ck, ek, hck⟩ := hk.shape
    obtain ⟨an, cn, en, hcn⟩ := hn.shape
    obtain ⟨ax, cx, ex, hcx⟩ := hx.shape
    have lnk : ∀ {h : Hp} {K : Value → Prop}, q P h (Builtin.len_ #[t_Sl_uint8] t_int #[vk]) K = K (.int .i64 key.length) := fun {h K} => by rw [ek]; exact q_lenS u_Sl_uint8 _ _ _
    have lnn : ∀ {h : Hp} {K : Value → Prop}, q P h (Builtin.len_ #[t_Sl_uint8] t_int #[vn]) K = K (.int .i64 nonce.length) := fun {h K} => by rw [en]; exact q_lenS u_Sl_uint8 _ _ _
    have lnx : ∀ {h : Hp} {K : Value → Prop}, q P h (Builtin.len_ #[t_Sl_uint8] t_int #[vx]) K = K (.int .i64 x.length) := fun {h K} => by rw [ex]; exact q_lenS u_Sl_uint8 _ _ _
    have e32 : (((key.length : Nat) : Int) != 32) = decide (key.length ≠ 32) := ne_dec key.length 32
    have e12 : (((nonce.length : Nat) : Int) != 12) = decide (nonce.length ≠ 12) := ne_dec nonce.length 12
    intro J5
    have bad : ¬ may key nonce → K (.tuple #[.slice none 0 0, .int .i64 1]) h := fun hm => by
      have e : crOpen (.book ts bs) key nonce b x = (1, []) := by unfold crOpen; rw [if_neg hm]
      rw [e] at k
      exact k _ R h (.refl w) hC0 rfl
    have good : may key nonce → J5 h := by
      intro hm
      simp -zeta only [J5]
      clear J5
      have eo : crOpen (.book ts bs) key nonce b x = bookOpen bs key nonce b x := by unfold crOpen; rw [if_pos hm]
      rw [eo, bookOpen_find bs key nonce b x (by have := hf.1; omega)] at k
      have e16 : decide (((x.length : Nat) : Int) < 16) = decide (x.length < 16) := lt_dec _ 16
      simp -zeta (disch := omega) only [GL, RL, lnx, e16]
      by_cases h16 : x.length < 16
      · simp only [h16, decide_true, if_true] at k ⊢
        exact k _ R h (.refl w) hC0 rfl
      simp -zeta only [h16, decide_false, Bool.false_eq_true, if_false] at k ⊢
      have lbs := hf.2
      have hbs : bs.length ≤ 1000000 := hf.1
      refine Lp_mk (fun m vs h1 => ∃ (i : Nat) (R1 : Hp), i + m = bs.length ∧ Stp R h R1 h1 (p :: Sb) (p :: Sb) ∧ RefAtX tx R1 h1 p (.book ts bs) (p :: Sb) ∧ findBox (bs.drop i) key nonce b x i = findBox bs key nonce b x 0 ∧ vs = [.slice none 0 0, .int .i64 0, .int .i64 (i : Int)]) bs.length
        ⟨0, R, by omega, .refl w, hC0, by rw [List.drop_zero], rfl⟩ ?_
      rintro m vs h1 ⟨i, R1, him, st, hC1, hfb, rfl⟩
      have hC1' := hC1
      obtain ⟨bx1, xs1, Sb1, hp1, hO1, hB1, _, _, _⟩ := hC1
      have cb : h1.cell ⟨p, 2, none⟩ = some bx1 := by rw [cell_row hp1]; rfl
      obtain ⟨_, a1, n1, eb1, hn1, _⟩ := hO1.rds
      have lnb : ∀ {h : Hp} {K : Value → Prop}, q P h (Builtin.len_ #[t_Sl_orlopref12_Sealed] t_int #[bx1]) K = K (.int .i64 bs.length) := fun {h K} => by rw [eb1]; exact q_lenS u_Sl_orlopref12_Sealed _ _ _
      simp -zeta (disch := omega) only [GL, RL, rf2, cb, lnb, lt_dec]
      by_cases hlt : i < bs.length
      case neg =>
        simp -zeta only [hlt, decide_false, Bool.false_eq_true, if_false]
        rw [List.drop_of_length_le (by omega)] at hfb
        have : findBox bs key nonce b x 0 = none := by rw [← hfb]; rfl
        rw [this] at k
        exact k _ R1 h1 st hC1' rfl
      simp -zeta only [hlt, decide_true, if_true]
      rcases hO1 with ⟨_, h0, _, _⟩ | ⟨bb, cc, ff, hbb, rfl, hcc, hfz, _, hlx⟩
      · omega
      obtain ⟨s, es⟩ : ∃ s, bs[i]? = some s := ⟨_, List.getElem?_eq_getElem hlt⟩
      have bys := hby s (List.mem_of_getElem? es)
      have lts := lbs s (List.mem_of_getElem? es)
      obtain ⟨wk, wn, wb, wt, wx, hcells, rk, rn, rb, rt, rx⟩ := hB1.2 i s es
      rw [q_idxS u_Sl_orlopref12_Sealed sz_rsealed ⟨bb, 0, none⟩ bs.length cc .i64 i (by omega) (by omega), Int.toNat_natCast, add_off, Nat.zero_add]
      rw [q_ldAgg (ys := [wk, wn, wb, wt, wx]) u_orlopref12_Sealed rfl sz_rsealed (b := bb) (o := i * 5) (fun j y e => by rw [cell_row hbb]; exact hcells j y e)]
      refine aw_allocL nil5 zr_rsealed rfl fun r13 hr13 => ?_
      have hflat : ∀ y ∈ [wk, wn, wb, wt, wx], flat y = true := by
        intro y hy
        simp only [List.mem_cons, List.not_mem_nil, or_false] at hy
        rcases hy with rfl | rfl | rfl | rfl | rfl
        · exact rn_flat rk
        · exact rn_flat rn
        · exact rn_flat rb
        · exact rn_flat rt
        · exact rn_flat rx
      refine aw_storeRow (ys := [wk, wn, wb, wt, wx]) sz_rsealed (Hp.set_same ..) rfl hflat (fun i _ => by simp) ?_
      rw [Hp.set_set]
      have s0 := Stp.block (.row t_orlopref12_Sealed [wk, wn, wb, wt, wx] 5 (some (0, 0))) st.own hr13
      have x0 : Hp.ext h1 (h1.set r13 (.row t_orlopref12_Sealed [wk, wn, wb, wt, wx] 5 (some (0, 0)))) := ext_set _ hr13
      have hM : (h1.set r13 (.row t_orlopref12_Sealed [wk, wn, wb, wt, wx] 5 (some (0, 0)))) r13 = some (.row t_orlopref12_Sealed [wk, wn, wb, wt, wx] 5 (some (0, 0))) := Hp.set_same ..
      have C0 := hC1'.ext st.own s0.ext x0
      generalize h1.set r13 (.row t_orlopref12_Sealed [wk, wn, wb, wt, wx] 5 (some (0, 0))) = M at s0 x0 hM C0
      generalize R1.set r13 (.row t_orlopref12_Sealed [wk, wn, wb, wt, wx] 5 (some (0, 0))) = R0 at s0 C0
      have d0 : M.cell ⟨r13, 0, none⟩ = some wk := by rw [cell_row hM]; rfl
      have d1 : M.cell ⟨r13, 1, none⟩ = some wn := by rw [cell_row hM]; rfl
      have d2 : M.cell ⟨r13, 2, none⟩ = some wb := by rw [cell_row hM]; rfl
      have d3 : M.cell ⟨r13, 3, none⟩ = some wt := by rw [cell_row hM]; rfl
      have d4 : M.cell ⟨r13, 4, none⟩ = some wx := by rw [cell_row hM]; rfl
      have up : ∀ {v : Value} {l : List Nat}, Rn R1 .u8 v l → Rn M .u8 v l := fun r => s0.own.rn (r.mono s0.ext.cle)
      have up0 : ∀ {v : Value} {l : List Nat}, Rn R .u8 v l → Rn M .u8 v l := fun r => up (r.mono st.ext.cle)
      have ei : ((i : Nat) : Int) + 1 = ((i + 1 : Nat) : Int) := by omega
      have edrop : bs.drop i = s :: bs.drop (i + 1) := by
        rw [List.drop_eq_getElem_cons hlt]
        rw [List.getElem?_eq_getElem hlt, Option.some.injEq] at es
        rw [es]
      rw [edrop] at hfb
      simp only [findBox] at hfb
      simp -zeta (disch := omega) only [GL, RL, rs3, d3, wi64, ei]
      intro J20
      have no : ¬ (s.key = key ∧ s.nonce = nonce ∧ s.beside = b ∧ boxB i (s.text.length + 16) = x) → J20 (.bool false) M := by
        intro hno
        simp -zeta (disch := omega) only [J20, GL, RL, wi64, ei, Bool.false_eq_true, if_false]
        rw [if_neg hno] at hfb
        exact ⟨M, .refl _, m - 1, by omega, i + 1, R0, by omega, st.trans s0, C0, hfb, rfl⟩
      have yes : (s.key = key ∧ s.nonce = nonce ∧ s.beside = b ∧ boxB i (s.text.length + 16) = x) → J20 (.bool true) M := by
        intro hyes
        simp -zeta only [J20, GL, if_true]
        rw [if_pos hyes] at hfb
        rw [← hfb] at k
        refine aw_lit (ps := []) (n := 0) u_Sl_uint8 z_uint8 zr_uint8 rfl (by omega) (by intro p hp; cases hp) fun v75 h2 n2 _ => ?_
        have d3' := n2.cle _ _ d3
        simp -zeta (disch := omega) only [GL, RL, rs3, d3']
        refine aw_append u_Sl_uint8 u_Sl_uint8 nfo_uint8 rfl (by omega) n2 ((up rt).mono n2.cle) (nv_flat _ _) (by omega) (.refl _) fun v78 h3 n3 => ?_
        have n3' : Nn M t_uint8 .u8 v78 h3 s.text := by unfold Nn; simpa [fillL] using n3
        obtain ⟨R3, s3, r3⟩ := Stp.newN s0.own n3'
        exact k v78 R3 h3 ((st.trans s0).trans s3) (C0.ext s0.own s3.ext n3'.ext) (by simpa using r3)
      clear_value J20
      simp -zeta (disch := omega) only [GL, RL, rs0, rs1, rs2, rs4, d0, d1, d2, d4]
      obtain ⟨_, lkk, lkn, lkb⟩ := bys
      refine T_orlopref01_Equal (up rk) (up0 hk) (by omega) ?_
      by_cases q1 : s.key = key
      case neg =>
        simp -zeta only [q1, decide_false, GL, Bool.false_eq_true, if_false]
        exact no fun q => q1 q.1
      simp -zeta (disch := omega) only [q1, decide_true, GL, RL, if_true, rs1, d1]
      refine T_orlopref01_Equal (up rn) (up0 hn) (by omega) ?_
      by_cases q2 : s.nonce = nonce
      case neg =>
        simp -zeta only [q2, decide_false, GL, Bool.false_eq_true, if_false]
        exact no fun q => q2 q.2.1
      simp -zeta (disch := omega) only [q2, decide_true, GL, RL, if_true, rs2, d2]
      refine T_orlopref01_Equal (up rb) (up0 hb) (by omega) ?_
      by_cases q3 : s.beside = b
      case neg =>
        simp -zeta only [q3, decide_false, GL, Bool.false_eq_true, if_false]
        exact no fun q => q3 q.2.2.1
      simp -zeta (disch := omega) only [q3, decide_true, GL, RL, if_true, rs4, d4]
      refine T_orlopref01_Equal (up rx) (up0 hx) (by rw [boxB_len]; omega) ?_
      by_cases q4 : boxB i (s.text.length + 16) = x
      · rw [decide_eq_true q4]; exact yes ⟨q1, q2, q3, q4⟩
      · rw [decide_eq_false q4]; exact no fun q => q4 q.2.2.2
    clear_value J5
    simp (disch := omega) only [GL, RL, lnk, lnn, e32, e12]
    by_cases q1 : key.length = 32
    case neg =>
      simp only [q1, ne_eq, not_false_eq_true, decide_true, Bool.true_eq_false, if_false, if_true]
      exact bad fun q => q1 q.1
    by_cases q2 : nonce.length = 12
    case neg =>
      simp only [q1, q2, ne_eq, not_true_eq_false, not_false_eq_true, decide_true, decide_false, if_true]
      exact bad fun q => q2 q.2
    simp only [q1, q2, ne_eq, not_true_eq_false, decide_false, Bool.false_eq_true, if_false, if_true]
    exact good ⟨q1, q2⟩
end
end Go.Proofs.Ytnecdbclhdbaoaa
set_option linter.unusedSimpArgs false
set_option linter.unusedVariables false
set_option maxRecDepth 100000
set_option maxHeartbeats 8000000
namespace Go.Proofs.Ytnecdbclhdbaoaa
open Go Go.SL Go.Pure
theorem pk_q2 {h : Hp} {m : Sem Value} {v : Value} (e : ∀ K : Value → Prop, q P h m K = K v) : peek P h m = some v := by
  obtain ⟨x, hx, e2⟩ := withVal_elim (K := fun x => x = v) ((e fun x => x = v).mpr rfl)
  rw [e2] at hx
  exact hx
/-- What was made since is to be read, too. -/
def sin (R h H : Hp) : Hp := fun b => (R b).or (if (h b).isNone then H b else none)
theorem sin_stp {R h H : Hp} {S : List Nat} (w : Own R h S) (x : Hp.ext h H) : Stp R h (sin R h H) H S S := by
  refine ⟨fun b o e => by unfold sin; rw [e]; rfl, fun b o _ e => x b o e, fun b o n e => n, fun b o n e r => ?_, ⟨fun b o e => ?_, fun b hb => ?_, fun b hb => ?_⟩⟩
  · unfold sin; rw [r, e]; rfl
  · unfold sin at e
    cases hR : R b with
    | some o' =>
      rw [hR] at e
      have : o' = o := by simpa using e
      subst this
      exact x _ _ (w.sub _ _ hR)
    | none =>
      rw [hR, Option.none_or] at e
      split at e
      · exact e
      · cases e
  · obtain ⟨o, e⟩ := w.kn b hb
    unfold sin; rw [w.dis b hb, e]; rfl
  · obtain ⟨o, e⟩ := w.kn b hb
    exact ⟨o, x _ _ e⟩
theorem sin_ext {R h H H' : Hp} (x : Hp.ext H H') : Hp.ext (sin R h H) (sin R h H') := fun b o e => by
  unfold sin at e ⊢
  cases hR : R b with
  | some o' => rw [hR] at e; simpa using e
  | none =>
    rw [hR] at e
    rw [Option.none_or] at e ⊢
    split at e
    · rename_i q; rw [if_pos q]; exact x _ _ e
    · cases e
theorem sin_new {R h H H' : Hp} {S : List Nat} {v : Value} {l : List Nat} (w : Own R h S) (x : Hp.ext h H) (n : Nn H t_uint8 .u8 v H' l) : Rn (sin R h H') .u8 v l := by
  rcases n.2 with ⟨rfl, e, rfl⟩ | ⟨b, c, f, hb, hc, rfl, rfl, hf⟩
  · have : l = [] := List.eq_nil_of_length_eq_zero e
    subst this
    exact rn_nil _ _
  · have hb0 := x.none hb
    have hr : sin R h (H.set b (.row t_uint8 (nv .u8 l) (c * 1) (some f))) b = some (.row t_uint8 (nv .u8 l) (c * 1) (some f)) := by
      unfold sin
      rw [w.sub.none hb0, hb0]
      simp
    exact ⟨by rw [nv_len]; omega, _, c, rfl, hc, .inr ⟨b, 0, rfl, fun i y e => by rw [cell_row hr, Nat.zero_add]; exact e⟩⟩
/-- What is at hand, of what was made since. -/
def Got (R h H : Hp) (L : List (Value × List Nat)) : Prop := Hp.ext h H ∧ ∀ q, q ∈ L → Rn (sin R h H) .u8 q.1 q.2
theorem got_app {R h H : Hp} {S : List Nat} {L : List (Value × List Nat)} {y : Value} {l : List Nat} {r : Nat} {F : Value → Hp → Prop} (G : Got R h H L) (w : Own R h S) (ry : Rn R .u8 y l) (hl : l.length ≤ 1099511627776)
    (k : ∀ v H', Got R h H' ((v, l) :: L) → F v H') : aw P (Builtin.append_ #[t_Sl_uint8, t_Sl_uint8] t_Sl_uint8 #[.slice (some ⟨r, 0, none⟩) 0 0, y]) F H := by
  have rH : Rn H .u8 y l := ry.mono (w.sub.cle.trans G.1.cle)
  refine aw_append0 u_Sl_uint8 u_Sl_uint8 nfo_uint8 rfl (by omega) rH (by omega) (fun h0 => ?_) fun v H' nw => ?_
  · have : l = [] := List.eq_nil_of_length_eq_zero h0
    subst this
    refine k _ H ⟨G.1, fun q hq => ?_⟩
    rcases List.mem_cons.1 hq with rfl | hq
    · exact ⟨rfl, _, 0, rfl, Nat.le_refl _, .inl rfl⟩
    · exact G.2 q hq
  · have n' : Nn H t_uint8 .u8 v H' l := nw
    refine k v H' ⟨G.1.trans n'.ext, fun q hq => ?_⟩
    rcases List.mem_cons.1 hq with rfl | hq
    · exact sin_new w G.1 n'
    · exact (G.2 q hq).mono (sin_ext n'.ext).cle
theorem got_nil {H : Hp} {F : Value → Hp → Prop} (k : ∀ r, F (.slice (some ⟨r, 0, none⟩) 0 0) H) : aw P (Instr.buildSlice t_Sl_uint8 0 #[]) F H := aw_nil0 u_Sl_uint8 z_uint8 zr_uint8 rfl k
theorem bldR {h : Hp} {K : Value → Prop} (a b c d e : Option Addr) (n1 n2 n3 n4 n5 c1 c2 c3 c4 c5 : Nat) : q P h (Instr.build t_orlopref12_Sealed #[(0, .slice a n1 c1), (1, .slice b n2 c2), (2, .slice c n3 c3), (3, .slice d n4 c4), (4, .slice e n5 c5)]) K = K (.agg #[.slice a n1 c1, .slice b n2 c2, .slice c n3 c3, .slice d n4 c4, .slice e n5 c5]) := q_of (by kernel_rfl) K
section
variable {h : Hp} {K : Value → Hp → Prop}
theorem T_ref_crSeal {tx : Value} {R : Hp} {p : Nat} {c : Cr} {S : List Nat} {vk vn vb vt : Value} {key nonce b t : List Nat} (w : Own R h S) (hC : RefAtX tx R h p c S) (hf : few 1000000 c)
    (hk : Rn R .u8 vk key) (hn : Rn R .u8 vn nonce) (hb : Rn R .u8 vb b) (ht : Rn R .u8 vt t) (bk : Bytes key) (bn : Bytes nonce) (bb : Bytes b) (bt : Bytes t)
    (lb : b.length ≤ 1099511627776) (lt : t.length ≤ 1099511627776)
    (k : ∀ v R' h' S', Stp R h R' h' S S' → RefAtX tx R' h' p (crSeal c key nonce b t).2.2 S' → (if (crSeal c key nonce b t).1 = 0 then Rn R' .u8 v (crSeal c key nonce b t).2.1 else v = .slice none 0 0) → K (.tuple #[v, .int .i64 (((crSeal c key nonce b t).1 : Nat) : Int)]) h') :
    Cn P n_orlopref12_Crypt_Seal #[.pointer (some ⟨p, 0, none⟩), vk, vn, vb, vt] h K := by
  refine F_orlopref12_Crypt_Seal ?_
  unfold s_orlopref12_Crypt_Seal
  cases c with
  | real =>
    have c0 : h.cell ⟨p, 0, none⟩ = some (.bool false) := by rw [cell_row hC.1]; rfl
    refine (q_nil _).mpr ?_
    refine (rf0 p).mpr ?_
    refine (q_ld u_bool rfl _).mpr ?_
    refine withVal_of c0 ?_
    refine (q_not _).mpr ?_
    refine (cnd_bool _ _ _).mpr ?_
    rw [if_pos (show (!false) = true from rfl)]
    refine T_ref_Seal (w.rn hk) (w.rn hn) (w.rn hb) (w.rn ht) bk bn bb bt lb lt fun v h1 n1 => ?_
    rw [ext0, ext1]
    by_cases hm : key.length = 32 ∧ nonce.length = 12
    · have hm' : may key nonce := hm
      simp only [if_pos hm] at n1 ⊢
      simp only [crSeal, if_pos hm'] at k
      obtain ⟨R1, s1, r1⟩ := Stp.newN w n1
      exact k v R1 h1 S s1 (hC.ext w s1.ext n1.ext) (by simpa using r1)
    · have hm' : ¬ may key nonce := hm
      simp only [if_neg hm] at n1 ⊢
      simp only [crSeal, if_neg hm'] at k
      obtain ⟨rfl, rfl⟩ := n1
      exact k _ R h1 S (.refl w) hC (by simp)
  | book ts bs =>
    have hC0 := hC
    obtain ⟨bxv, xs, Sb, hp, hO, hB, rfl, hpS, hby⟩ := hC
    have c0 : h.cell ⟨p, 0, none⟩ = some (.bool true) := by rw [cell_row hp]; rfl
    have c2 : h.cell ⟨p, 2, none⟩ = some bxv := by rw [cell_row hp]; rfl
    refine (q_nil _).mpr ?_
    refine (rf0 p).mpr ?_
    refine (q_ld u_bool rfl _).mpr ?_
    refine withVal_of c0 ?_
    refine (q_not _).mpr ?_
    refine (cnd_bool _ _ _).mpr ?_
    rw [if_neg (by decide)]
    intro J5
    have bad : ¬ may key nonce → K (.tuple #[.slice none 0 0, .int .i64 1]) h := fun hm => by
      simp only [crSeal, if_neg hm] at k
      exact k _ R h _ (.refl w) hC0 (by simp)
    have good : may key nonce → J5 h := by
      intro hm
      unfold J5
      clear J5
      simp only [crSeal, if_pos hm] at k
      have hbs : bs.length ≤ 1000000 := hf.1
      refine (q_nil _).mpr ?_
      refine (rf2 p).mpr ?_
      refine (q_ld u_Sl_orlopref12_Sealed rfl _).mpr ?_
      refine withVal_of c2 ?_
      obtain ⟨_, a1, n1, eb1, hn1, _⟩ := hO.rds
      have lnb : ∀ {h : Hp} {K : Value → Prop}, q P h (Builtin.len_ #[t_Sl_orlopref12_Sealed] t_int #[bxv]) K = K (.int .i64 bs.length) := fun {h K} => by rw [eb1]; exact q_lenS u_Sl_orlopref12_Sealed _ _ _
      refine lnb.mpr ?_
      refine T_ref_big12 bs.length (by omega) fun t40 h1 n40 => ?_
      obtain ⟨b8, c8, f8, hb8, hc8, rfl, hh8, hf8⟩ := n40.form (by rw [bg_len]; omega)
      rw [bg_len] at *
      obtain ⟨att, ctt, ett, hctt⟩ := ht.shape
      have lnt : ∀ {h : Hp} {K : Value → Prop}, q P h (Builtin.len_ #[t_Sl_uint8] t_int #[vt]) K = K (.int .i64 t.length) := fun {h K} => by rw [ett]; exact q_lenS u_Sl_uint8 _ _ _
      refine Lp_mk (fun m vs h' => ∃ (i : Nat) (vo : Value), i + m = t.length + 16 ∧ Nn h1 t_uint8 .u8 vo h' ((boxB bs.length (t.length + 16)).take i) ∧ vs = [vo, .int .i64 (i : Int)]) (t.length + 16) ⟨0, .slice none 0 0, by omega, Nn.nil .., rfl⟩ ?_
      rintro m vs h2 ⟨i, vo, him, nO, rfl⟩
      refine lnt.mpr ?_
      refine (q_add _ _ _ _).mpr ?_
      refine (q_lss _ _ _ _).mpr ?_
      refine (cnd_bool _ _ _).mpr ?_
      have e16 : IntKind.i64.wrap (((t.length : Nat) : Int) + 16) = ((t.length + 16 : Nat) : Int) := by rw [wi64 (by omega) (by omega)]; omega
      have lbx := boxB_len bs.length (t.length + 16)
      rw [e16]
      by_cases hlt : i < t.length + 16
      · rw [if_pos (by show decide (((i : Nat) : Int) < ((t.length + 16 : Nat) : Int)) = true; rw [decide_eq_true_eq]; omega)]
        have em : ((i : Nat) : Int).tmod 8 = ((i % 8 : Nat) : Int) := by rw [Int.tmod_eq_emod_of_nonneg (by omega)]; exact (Int.natCast_emod i 8).symm
        have h8 : i % 8 < 8 := Nat.mod_lt _ (by omega)
        have row8 : h1 b8 = some (.row t_uint8 (nv .u8 (bg 8 bs.length)) (c8 * 1) (some f8)) := by rw [hh8]; exact Hp.set_same ..
        have c8' : h2.cell ⟨b8, i % 8, none⟩ = some (.int .u8 (((bg 8 bs.length).getD (i % 8) 0 : Nat) : Int)) := by rw [cell_row (nO.ext _ _ row8)]; exact nv_getD _ _ _ (by rw [bg_len]; exact h8)
        have ei : ((i : Nat) : Int) + 1 = ((i + 1 : Nat) : Int) := by omega
        have tN : Int.toNat ((i % 8 : Nat) : Int) = i % 8 := Int.toNat_natCast _
        simp (disch := omega) only [GL, RL, em, Nat.zero_add, c8', wi64, ei]
        refine aw_lit (ps := [(0, _)]) u_Sl_uint8 z_uint8 zr_uint8 rfl (by omega) (by intro p hp; rw [List.mem_singleton.1 hp]; exact ⟨rfl, by show _ < 1; omega⟩) fun w2 h3 n3 _ => ?_
        have n3' : Nn h2 t_uint8 .u8 w2 h3 [(bg 8 bs.length).getD (i % 8) 0] := n3
        refine aw_appendN u_Sl_uint8 u_Sl_uint8 nfo_uint8 rfl (by omega) nO n3' (nv_flat _ _) (by rw [List.length_take]; simp; omega) fun vo' h4 n4 => ?_
        rw [← nv_app] at n4
        refine ⟨h4, .refl _, m - 1, by omega, i + 1, vo', by omega, ?_, rfl⟩
        have e : (boxB bs.length (t.length + 16)).take (i + 1) = (boxB bs.length (t.length + 16)).take i ++ [(bg 8 bs.length).getD (i % 8) 0] := by
          rw [List.take_succ_eq_append_getElem (by omega)]
          simp [boxB]
        rw [e]
        unfold Nn
        rw [List.length_append]
        exact n4
      rw [if_neg (by show ¬ decide (((i : Nat) : Int) < ((t.length + 16 : Nat) : Int)) = true; rw [decide_eq_true_eq]; omega)]
      rw [List.take_of_length_le (by omega)] at nO
      have x02 : Hp.ext h h2 := n40.ext.trans nO.ext
      have c22 := x02.cle _ _ c2
      intro J18
      refine (q_nil _).mpr ?_
      refine (rf2 p).mpr ?_
      refine (q_ld u_Sl_orlopref12_Sealed rfl _).mpr ?_
      refine withVal_of c22 ?_
      have G0 : Got R h h2 [(vo, boxB bs.length (t.length + 16))] := ⟨x02, fun q hq => by rw [List.mem_singleton.1 hq]; exact sin_new w n40.ext nO⟩
      have pk47 : ∀ {H : Hp} {L : List (Value × List Nat)}, Got R h H L → peek P H (Instr.loadAt t_Sl_orlopref12_Sealed (.pointer (some ⟨p, 2, none⟩))) = some bxv := fun {H L} G => pk_q2 fun K => (q_ld u_Sl_orlopref12_Sealed rfl _).trans (by rw [G.1.cle _ _ c2]; rfl)
      have lkk : key.length ≤ 1099511627776 := by have := hm.1; omega
      have lnn' : nonce.length ≤ 1099511627776 := by have := hm.2; omega
      have fin : ∀ (v63 v66 v69 v72 : Value) (H : Hp) (L : List (Value × List Nat)), Got R h H L → (v63, key) ∈ L → (v66, nonce) ∈ L → (v69, b) ∈ L → (v72, t) ∈ L → (vo, boxB bs.length (t.length + 16)) ∈ L →
          q P emp (Instr.build t_orlopref12_Sealed #[(0, v63), (1, v66), (2, v69), (3, v72), (4, vo)]) fun t74 => aw P (Instr.buildSlice t_Sl_orlopref12_Sealed 1 #[(0, t74)]) (fun t75 h => peek P h (Instr.loadAt t_Sl_orlopref12_Sealed (.pointer (some ⟨p, 2, none⟩))) = some bxv ∧ peek P h (Instr.fieldAt t_orlopref12_Crypt (.pointer (some ⟨p, 0, none⟩)) 2) = some (.pointer (some ⟨p, 2, none⟩)) ∧ aw P (Builtin.append_ #[t_Sl_orlopref12_Sealed, t_Sl_orlopref12_Sealed] t_Sl_orlopref12_Sealed #[bxv, t75]) (fun t76 h => q P emp (nilCk (.pointer (some ⟨p, 0, none⟩))) fun t77 => q P h (Instr.fieldAt t_orlopref12_Crypt t77 2) fun t78 => aw P (Instr.storeAt t_Sl_orlopref12_Sealed t78 t76) (fun _ h => J18 h) h) h) H := by
        intro v63 v66 v69 v72 H L G m1 m2 m3 m4 m5
        have r1 := G.2 _ m1
        have r2 := G.2 _ m2
        have r3 := G.2 _ m3
        have r4 := G.2 _ m4
        have r5 := G.2 _ m5
        dsimp only at r1 r2 r3 r4 r5
        have fl : ∀ y ∈ [v63, v66, v69, v72, vo], flat y = true := by
          intro y hy
          simp only [List.mem_cons, List.not_mem_nil, or_false] at hy
          rcases hy with rfl | rfl | rfl | rfl | rfl
          · exact rn_flat r1
          · exact rn_flat r2
          · exact rn_flat r3
          · exact rn_flat r4
          · exact rn_flat r5
        have bld : q P emp (Instr.build t_orlopref12_Sealed #[(0, v63), (1, v66), (2, v69), (3, v72), (4, vo)]) = fun K => K (.agg [v63, v66, v69, v72, vo].toArray) := by
          obtain ⟨s1, u1, e1, _⟩ := r1.shape
          obtain ⟨s2, u2, e2, _⟩ := r2.shape
          obtain ⟨s3, u3, e3, _⟩ := r3.shape
          obtain ⟨s4, u4, e4, _⟩ := r4.shape
          obtain ⟨s5, u5, e5, _⟩ := r5.shape
          funext K
          rw [e1, e2, e3, e4, e5]
          exact bldR s1 s2 s3 s4 s5 _ _ _ _ _ u1 u2 u3 u4 u5
        rw [bld]
        have st := sin_stp w G.1
        refine aw_litA u_Sl_orlopref12_Sealed sz_rsealed zr_rsealed rfl rfl (by omega) (by omega) fun v75 h3 n3 => ?_
        have x3 := G.1.trans n3.ext
        refine ⟨pk_q2 fun K => (q_ld u_Sl_orlopref12_Sealed rfl _).trans (by rw [x3.cle _ _ c2]; rfl), prf2 _, ?_⟩
        obtain ⟨R3, s3, q3⟩ := Stp.new st.own n3
        have ownSb : Own R3 h3 Sb := s3.own.sub' fun z hz => List.mem_cons_of_mem _ hz
        have hO3 : OutAt t_orlopref12_Sealed 5 h3 bxv xs bs.length Sb := hO.keep fun z hz => by
          obtain ⟨o, e⟩ := w.kn z (List.mem_cons_of_mem _ hz)
          rw [e, x3 _ _ e]
        refine aw_appendO u_Sl_orlopref12_Sealed u_Sl_orlopref12_Sealed nfo_rsealed rfl (by omega) hO3 n3.rds fl (by omega) fun v76 h4 So' O4 kp4 fr4 => ?_
        have s4 := OutAt.step ownSb O4 kp4 fr4
        have hp3 := x3 _ _ hp
        have hp4 := kp4 p _ hpS hp3
        have pS' : p ∉ So' := fr4 p _ hpS hp3
        refine (q_nil _).mpr ?_
        refine (rf2 p).mpr ?_
        refine aw_store z_Sl_orlopref12_Sealed (O4.rds.2.elim fun a q => by obtain ⟨c, e, _⟩ := q; rw [e]; rfl) (put_row hp4 (by simp) (by simp) _) ?_
        unfold J18
        obtain ⟨h5, hh5⟩ : ∃ h5, h4.set p (.row t_orlopref12_Crypt ([Value.bool true, tx, bxv].set 2 v76) 3 (some (0, 0))) = h5 := ⟨_, rfl⟩
        show aw P _ _ (h4.set p (.row t_orlopref12_Crypt ([Value.bool true, tx, bxv].set 2 v76) 3 (some (0, 0))))
        rw [hh5]
        have k5 : ∀ x o, x ∉ p :: Sb → h3 x = some o → h5 x = some o := fun x o hx e => by
          simp only [List.mem_cons, not_or] at hx
          rw [← hh5, Hp.set_ne _ _ hx.1]
          exact kp4 x o hx.2 e
        have st5 : Stp R3 h3 R3 h5 (p :: Sb) (p :: So') := by
          refine ⟨.refl _, k5, fun x o hx e => ?_, fun x o _ _ e => e, ⟨fun x o e => ?_, fun x hx => ?_, fun x hx => ?_⟩⟩
          · simp only [List.mem_cons, not_or] at hx ⊢
            exact ⟨hx.1, fr4 x o hx.2 e⟩
          · refine k5 x o (fun hx => ?_) (s3.own.sub x o e)
            rw [s3.own.dis x hx] at e; cases e
          · rcases List.mem_cons.1 hx with g | g
            · rw [g]; exact s3.own.dis _ (by simp)
            · exact s4.own.dis x g
          · rcases List.mem_cons.1 hx with g | g
            · rw [g]; exact ⟨_, by rw [← hh5]; exact Hp.set_same ..⟩
            · obtain ⟨o, e⟩ := s4.own.kn x g
              exact ⟨o, by rw [← hh5, Hp.set_ne _ _ (show x ≠ p from fun q => by rw [q] at g; exact pS' g)]; exact e⟩
        have up3 : ∀ {v : Value} {l : List Nat}, Rn (sin R h H) .u8 v l → Rn R3 .u8 v l := fun r => r.mono s3.ext.cle
        have key5 : RefAtX tx R3 h5 p (.book ts (bs ++ [⟨key, nonce, b, t⟩])) (p :: So') := by
          refine ⟨v76, xs ++ [v63, v66, v69, v72, vo], So', by rw [← hh5]; exact Hp.set_same .., ?_, RefBoxes.snoc (hB.mono (st.trans s3).ext.cle) (up3 r1) (up3 r2) (up3 r3) (up3 r4) (up3 r5), rfl, pS', fun z hz => ?_⟩
          · have : OutAt t_orlopref12_Sealed 5 h5 v76 (xs ++ [v63, v66, v69, v72, vo]) (bs.length + 1) So' := O4.keep fun z hz => by rw [← hh5, Hp.set_ne _ _ (by rintro rfl; exact pS' hz)]
            rw [List.length_append]; exact this
          · rcases List.mem_append.1 hz with q | q
            · exact hby z q
            · rw [List.mem_singleton.1 q]; exact ⟨⟨bk, bn, bb, bt⟩, lkk, lnn', lb⟩
        have r5' : Rn R3 .u8 vo (boxB bs.length (t.length + 16)) := up3 r5
        refine aw_lit (ps := []) (n := 0) u_Sl_uint8 z_uint8 zr_uint8 rfl (by omega) (by intro p hp; cases hp) fun v79 h6 n6 _ => ?_
        refine aw_append u_Sl_uint8 u_Sl_uint8 nfo_uint8 rfl (by omega) n6 (r5'.mono (st5.own.sub.cle.trans n6.cle)) (nv_flat _ _) (by rw [lbx]; omega) (.refl _) fun v81 h7 n7 => ?_
        have n7' : Nn h5 t_uint8 .u8 v81 h7 (boxB bs.length (t.length + 16)) := by unfold Nn; simpa [fillL] using n7
        obtain ⟨R7, s7, r7⟩ := Stp.newN st5.own n7'
        exact k v81 R7 h7 (p :: So') (((st.trans s3).trans st5).trans s7) (key5.ext st5.own s7.ext n7'.ext) (by simpa using r7)
      clear_value J18
      clear c22 e16 lnb lnt k
      repeat' (first
        | with_reducible refine And.intro ?_ ?_
        | with_reducible exact prf2 _
        | with_reducible exact pk47 (by assumption)
        | with_reducible refine got_nil fun _ => ?_
        | with_reducible refine got_app (by assumption) w (by assumption) (by assumption) fun _ _ _ => ?_
        | exact fin _ _ _ _ _ _ (by assumption) (by simp) (by simp) (by simp) (by simp) (by simp))
    clear_value J5
    obtain ⟨ak, ck, ek, hck⟩ := hk.shape
    obtain ⟨an, cn, en, hcn⟩ := hn.shape
    have lnk : ∀ {h : Hp} {K : Value → Prop}, q P h (Builtin.len_ #[t_Sl_uint8] t_int #[vk]) K = K (.int .i64 key.length) := fun {h K} => by rw [ek]; exact q_lenS u_Sl_uint8 _ _ _
    have lnn : ∀ {h : Hp} {K : Value → Prop}, q P h (Builtin.len_ #[t_Sl_uint8] t_int #[vn]) K = K (.int .i64 nonce.length) := fun {h K} => by rw [en]; exact q_lenS u_Sl_uint8 _ _ _
    have e32 : (((key.length : Nat) : Int) != 32) = decide (key.length ≠ 32) := ne_dec key.length 32
    have e12 : (((nonce.length : Nat) : Int) != 12) = decide (nonce.length ≠ 12) := ne_dec nonce.length 12
    simp (disch := omega) only [GL, RL, lnk, lnn, e32, e12]
    by_cases q1 : key.length = 32
    case neg =>
      simp only [q1, ne_eq, not_false_eq_true, decide_true, Bool.true_eq_false, if_false, if_true]
      exact bad fun q => q1 q.1
    by_cases q2 : nonce.length = 12
    case neg =>
      simp only [q1, q2, ne_eq, not_true_eq_false, not_false_eq_true, decide_true, decide_false, if_true]
      exact bad fun q => q2 q.2
    simp only [q1, q2, ne_eq, not_true_eq_false, decide_false, Bool.false_eq_true, if_false, if_true]
    exact good ⟨q1, q2⟩
end
end Go.Proofs.Ytnecdbclhdbaoaa
set_option linter.unusedSimpArgs false
set_option linter.unusedVariables false
set_option maxRecDepth 100000
set_option maxHeartbeats 1000000
namespace Go.Proofs.Ytnecdbclhdbaoaa
open Go Go.SL Go.Pure
/-- Values that are rows of bytes. -/
def PsV (R : Hp) (ws : List Value) (ps : List (List Nat)) : Prop := ws.length = ps.length ∧ ∀ (j : Nat) (p : List Nat), ps[j]? = some p → ∃ y, ws[j]? = some y ∧ Rn R .u8 y p
theorem PsV.mono {R R' : Hp} {ws : List Value} {ps : List (List Nat)} (a : PsV R ws ps) (c : Hp.cle R R') : PsV R' ws ps := ⟨a.1, fun j p e => let ⟨y, h1, h2⟩ := a.2 j p e; ⟨y, h1, h2.mono c⟩⟩
theorem PsV.nil (R : Hp) : PsV R [] [] := ⟨rfl, fun j p e => by simp at e⟩
theorem PsV.one {R : Hp} {y : Value} {p : List Nat} (r : Rn R .u8 y p) : PsV R [y] [p] := ⟨rfl, fun j q e => by
  match j, e with
  | 0, e => simp only [List.getElem?_cons_zero, Option.some.injEq] at e; subst e; exact ⟨y, rfl, r⟩
  | j + 1, e => simp at e⟩
theorem PsV.app {R : Hp} {ws xs : List Value} {ps qs : List (List Nat)} (a : PsV R ws ps) (b : PsV R xs qs) : PsV R (ws ++ xs) (ps ++ qs) := ⟨by rw [List.length_append, List.length_append, a.1, b.1], fun j p e => by
  by_cases hj : j < ps.length
  · rw [List.getElem?_append_left hj] at e
    rw [List.getElem?_append_left (by rw [a.1]; exact hj)]
    exact a.2 j p e
  · rw [List.getElem?_append_right (by omega)] at e
    rw [List.getElem?_append_right (by rw [a.1]; omega), a.1]
    exact b.2 _ p e⟩
theorem PsV.take {R : Hp} {ws : List Value} {ps : List (List Nat)} (a : PsV R ws ps) (i : Nat) : PsV R (ws.take i) (ps.take i) := ⟨by rw [List.length_take, List.length_take, a.1], fun j p e => by
  rw [List.getElem?_take] at e
  split at e
  · rename_i hj
    rw [List.getElem?_take, if_pos hj]
    exact a.2 j p e
  · cases e⟩
theorem PsV.drop {R : Hp} {ws : List Value} {ps : List (List Nat)} (a : PsV R ws ps) (i : Nat) : PsV R (ws.drop i) (ps.drop i) := ⟨by rw [List.length_drop, List.length_drop, a.1], fun j p e => by
  rw [List.getElem?_drop] at e ⊢
  exact a.2 _ p e⟩
theorem PsV.set {R : Hp} {ws : List Value} {ps : List (List Nat)} {y : Value} {p : List Nat} (a : PsV R ws ps) (i : Nat) (r : Rn R .u8 y p) : PsV R (ws.set i y) (ps.set i p) := ⟨by rw [List.length_set, List.length_set, a.1], fun j q e => by
  rw [List.getElem?_set] at e ⊢
  by_cases hij : i = j
  · subst hij
    rw [if_pos rfl] at e ⊢
    split at e
    · rename_i hi
      rw [if_pos (by rw [a.1]; exact hi)]
      cases e
      exact ⟨y, rfl, r⟩
    · cases e
  · rw [if_neg hij] at e ⊢
    exact a.2 j q e⟩
theorem PsV.flat {R : Hp} {ws : List Value} {ps : List (List Nat)} (a : PsV R ws ps) : ∀ y ∈ ws, SL.flat y = true := by
  intro y hy
  obtain ⟨j, hj, rfl⟩ := List.getElem_of_mem hy
  obtain ⟨z, h1, h2⟩ := a.2 j _ (List.getElem?_eq_getElem (by rw [← a.1]; exact hj))
  rw [List.getElem?_eq_getElem hj, Option.some.injEq] at h1
  rw [h1]
  exact rn_flat h2
/-- A row of rows of bytes, to read. -/
def Ps (R : Hp) (v : Value) (ps : List (List Nat)) : Prop := ∃ ws, Rds R 1 v ws ps.length ∧ PsV R ws ps
theorem Ps.mono {R R' : Hp} {v : Value} {ps : List (List Nat)} (a : Ps R v ps) (c : Hp.cle R R') : Ps R' v ps := let ⟨ws, h1, h2⟩ := a; ⟨ws, h1.mono c, h2.mono c⟩
section
variable {h : Hp} {K : Value → Hp → Prop}
end
end Go.Proofs.Ytnecdbclhdbaoaa
set_option linter.unusedSimpArgs false
set_option linter.unusedVariables false
set_option maxRecDepth 100000
set_option maxHeartbeats 4000000
namespace Go.Proofs.Ytnecdbclhdbaoaa
open Go Go.SL Go.Pure
def cr0 (ideal : Bool) : Cr := if ideal then .book [] [] else .real
theorem few_cr0 (ideal : Bool) (n : Nat) : few n (cr0 ideal) := by
  cases ideal
  · trivial
  · exact ⟨Nat.zero_le _, fun s hs => by cases hs⟩
theorem bldRC {h : Hp} {K : Value → Prop} (ideal : Bool) : q P h (Instr.build t_orlopref12_Crypt #[(0, .bool ideal)]) K = K (.agg #[.bool ideal, .slice none 0 0, .slice none 0 0]) := by
  cases ideal
  · exact q_of (by kernel_rfl) K
  · exact q_of (by kernel_rfl) K
theorem aw_refBox {h : Hp} {F : Value → Hp → Prop} (ideal : Bool) (k : ∀ r, h r = none → F (.pointer (some ⟨r, 0, none⟩)) (h.set r (.row t_orlopref12_Crypt [.bool ideal, .slice none 0 0, .slice none 0 0] 3 (some (0, 0))))) :
    q P h (Instr.build t_orlopref12_Crypt #[(0, .bool ideal)]) fun t => aw P (Instr.box t_orlopref12_Crypt t) F h := by
  rw [bldRC]
  exact aw_box k
/-- The reference's crypt, just made. -/
theorem ref_new {R h : Hp} (ideal : Bool) {r : Nat} (hr : h r = none) : RefAt R (h.set r (.row t_orlopref12_Crypt [.bool ideal, .slice none 0 0, .slice none 0 0] 3 (some (0, 0)))) r (cr0 ideal) [r] := by
  cases ideal
  · exact ⟨Hp.set_same .., rfl⟩
  · exact ⟨.slice none 0 0, [], [], Hp.set_same .., .inl ⟨rfl, rfl, rfl, rfl⟩, ⟨rfl, fun i b e => by simp at e⟩, rfl, by simp, fun b hb => by cases hb⟩
/-- A block of the call's own is made, to be owned. -/
theorem Own.mk1 {R h : Hp} {S : List Nat} {r : Nat} (o : AObj) (w : Own R h S) (hr : h r = none) : Own R (h.set r o) [r] ∧ Own R (h.set r o) S ∧ (∀ b, b ∈ S → b ∉ [r]) ∧ ∀ b, b ∈ S → (h.set r o) b = h b := by
  have hn : ∀ b, b ∈ S → b ≠ r := fun b hb q => by
    obtain ⟨x, e⟩ := w.kn b hb
    rw [q, hr] at e; cases e
  refine ⟨⟨w.sub.trans (ext_set _ hr), fun b hb => ?_, fun b hb => ?_⟩, ⟨w.sub.trans (ext_set _ hr), w.dis, fun b hb => ?_⟩, fun b hb q => hn b hb (List.mem_singleton.1 q), fun b hb => Hp.set_ne _ _ (hn b hb)⟩
  · rw [List.mem_singleton.1 hb]; exact w.sub.none hr
  · rw [List.mem_singleton.1 hb]; exact ⟨_, Hp.set_same ..⟩
  · rw [Hp.set_ne _ _ (hn b hb)]; exact w.kn b hb
section
variable {h : Hp} {K : Value → Hp → Prop}
end
end Go.Proofs.Ytnecdbclhdbaoaa
set_option linter.unusedSimpArgs false
set_option linter.unusedVariables false
set_option maxRecDepth 100000
set_option maxHeartbeats 1000000
namespace Go.Proofs.Ytnecdbclhdbaoaa
open Go Go.SL Go.Pure
/-- A text's number in a book, and the texts behind. -/
def numOf (ts : List (List Nat)) (t : List Nat) : Nat := (ts.idxOf? t).getD ts.length
def textsOf (ts : List (List Nat)) (t : List Nat) : List (List Nat) := if (ts.idxOf? t).isSome then ts else ts ++ [t]
def sumB (n : Nat) : List Nat := [83, 85, 77, 33] ++ List.replicate 20 0 ++ bg 8 n
theorem numOf_le (ts : List (List Nat)) (t : List Nat) : numOf ts t ≤ ts.length := by
  unfold numOf
  cases e : ts.idxOf? t with
  | none => exact Nat.le_refl _
  | some i =>
    rw [List.idxOf?_eq_some_iff] at e
    obtain ⟨hi, _⟩ := e
    show i ≤ _
    omega
theorem idxOf_snoc (ts : List (List Nat)) (t x : List Nat) : (ts ++ [t]).idxOf? x = (ts.idxOf? x).or (if x = t then some ts.length else none) := by
  induction ts with
  | nil =>
    show [t].idxOf? x = _
    rw [List.idxOf?_cons]
    by_cases e : t = x
    · subst e; simp
    · rw [if_neg (by simpa using e), if_neg (fun q => e q.symm)]; simp
  | cons a ts ih =>
    rw [List.cons_append, List.idxOf?_cons, List.idxOf?_cons, ih]
    split
    · rfl
    · cases ts.idxOf? x with
      | none => simp only [Option.none_or, Option.map_none]; split <;> simp
      | some i => rfl
theorem bf0m : zr P t_int = some (.int .i64 0) := by kernel_rfl
section
variable {h : Hp} {K : Value → Hp → Prop}
theorem T_book_Sum {R : Hp} {p : Nat} {ts : List (List Nat)} {bs : List Box} {S : List Nat} {vt : Value} {t : List Nat} (w : Own R h S) (hB : BookAt R h p ts bs S) (nt : ts.length ≤ 1000000)
    (ht : Rn R .u8 vt t) (bt : Bytes t)
    (k : ∀ v R' h', Stp R h R' h' S S → BookAt R' h' p (textsOf ts t) bs S → Rn R' .u8 v (sumB (numOf ts t)) → K v h') :
    Cn P n_crypt_book_Sum #[.pointer (some ⟨p, 0, none⟩), vt] h K := by
  refine F_crypt_book_Sum ?_
  unfold s_crypt_book_Sum
  have hB0 := hB
  obtain ⟨r, bx, es, c, Sb, hp, hr, hT, hX, rfl, hpr, hpS, hrS, hby⟩ := hB
  have c0 : h.cell ⟨p, 0, none⟩ = some (.map (some r)) := by rw [cell_row hp]; rfl
  simp (disch := omega) only [GL, RL, bf0, c0]
  rw [q_str (w.rn ht)]
  obtain ⟨hT1, hT2, hT3, hT4, hT5⟩ := hT
  rw [q_lookup u_map_string_int u_string bf0m hr hT2, hT5 t bt]
  -- the digest, of a number
  have tail : ∀ (n : Nat) (R1 h1 : Hp), n ≤ 1000000 → Stp R h R1 h1 (p :: r :: Sb) (p :: r :: Sb) → BookAt R1 h1 p (textsOf ts t) bs (p :: r :: Sb) → numOf ts t = n →
      aw P (Instr.makeSlice t_Sl_uint8 (Value.int .i64 32) (Value.int .i64 32)) (fun t32 h => aw P (Builtin.copy_ #[t_Sl_uint8, t_string] t_int #[t32, (Value.string ⟨#[83, 85, 77, 33]⟩)]) (fun t34 h => q P h (Instr.sliceAt t_Sl_uint8 t32 (some (Value.int .i64 24)) none none) fun t36 => q P h (convert t_int t_uint64 (.int .i64 (n : Int))) fun t38 => Cn P n_word_Big64 #[t38] h fun t39 h => peek P h (Instr.sliceAt t_Sl_uint8 t32 (some (Value.int .i64 24)) none none) = some t36 ∧ aw P (Builtin.copy_ #[t_Sl_uint8, t_Sl_uint8] t_int #[t36, t39]) (fun t40 h => K t32 h) h) h) h1 := by
    intro n R1 h1 hn st hB1 en
    refine aw_make (n := 32) (c := 32) u_Sl_uint8 nfo_uint8 rfl (by omega) (by omega) (by omega) fun t32 h2 n2 => ?_
    rw [replicate_nv] at n2
    obtain ⟨b, c, f, hb, hc, rfl, rfl, hf⟩ := n2.form (by omega)
    refine aw_copyS (ys := nv .u8 [83, 85, 77, 33]) (xs := nv .u8 (List.replicate 32 0)) u_Sl_uint8 z_uint8 (Hp.set_same ..) (by kernel_rfl) (nv_flat _ _) (by show (4 : Nat) ≤ 32; omega) rfl (by simp [nv_len]) (fun i hi => hf i (by simp [nv_len] at hi; omega)) ?_
    rw [Hp.set_set]
    have esl : ∀ H : Hp, peek P H (Instr.sliceAt t_Sl_uint8 (.slice (some ⟨b, 0, none⟩) 32 c) (some (.int .i64 24)) none none) = some (.slice (some ⟨b, 24, none⟩) (32 - 24) (c - 24)) := fun H => by
      have hcut : SL.cut (some ⟨b, 0, none⟩) c 24 1 = some ⟨b, 24, none⟩ := by
        unfold SL.cut
        rw [if_neg (by omega), Option.map_some, add_off]
      obtain ⟨x, hx, e⟩ := withVal_elim (K := fun x => x = .slice (some ⟨b, 24, none⟩) (32 - 24) (c - 24)) ((q_slLo (P := P) (h := H) (K := fun x => x = .slice (some ⟨b, 24, none⟩) (32 - 24) (c - 24)) u_Sl_uint8 z_uint8 (some ⟨b, 0, none⟩) 32 c .i64 24 (by omega) (by omega)).mpr (by rw [hcut]))
      rw [e] at hx
      exact hx
    rw [q_of (esl _)]
    simp (disch := omega) only [GL, RL, wu64i]
    refine T_word_Big64 n (by omega) fun t39 h3 n3 => ?_
    refine ⟨esl _, ?_⟩
    obtain ⟨ys, hys⟩ : ∃ ys, putL (nv .u8 (List.replicate 32 0)) 0 (nv .u8 [83, 85, 77, 33]) = ys := ⟨_, rfl⟩
    have eys : ys = nv .u8 ([83, 85, 77, 33] ++ List.replicate 28 0) := by rw [← hys]; rfl
    rw [hys] at n3
    have hb3 := n3.ext _ _ (Hp.set_same ..)
    have r3 : Rds h3 1 t39 (nv .u8 (bg 8 n)) 8 := by have := n3.rn; unfold Rn at this; rwa [bg_len] at this
    refine aw_copy u_Sl_uint8 z_uint8 hb3 r3 (nv_flat _ _) (by omega) (by rw [eys, nv_len]; simp) (fun i hi => hf i (by rw [eys, nv_len] at hi; simp at hi; omega)) ?_
    have e2 : putL ys 24 (nv .u8 (bg 8 n)) = nv .u8 (sumB n) := by
      rw [eys, putL_nv _ _ _ (by rw [bg_len]; simp)]
      congr 1
    rw [e2]
    -- all in one: a new row
    have hbR : R1 b = none := st.own.sub.none hb
    obtain ⟨R2, s2, r2⟩ := Stp.newN (v := .slice (some ⟨b, 0, none⟩) 32 c) (k := .u8) (l := sumB n) (h' := h1.set b (.row t_uint8 (nv .u8 (sumB n)) (c * 1) (some f))) (t := t_uint8) st.own (by
      unfold Nn
      exact ⟨by simp [nv_len, sumB, bg_len], .inr ⟨b, c, f, hb, hc, by simp [sumB, bg_len], rfl, hf⟩⟩)
    have hne : ∀ x o, h1 x = some o → x ≠ b := fun x o e => by rintro rfl; rw [hb] at e; cases e
    have xx : Hp.ext (h1.set b (.row t_uint8 (nv .u8 (sumB n)) (c * 1) (some f))) (h3.set b (.row t_uint8 (nv .u8 (sumB n)) (c * 1) (some f))) := fun x o e => by
      by_cases q : x = b
      · subst q; rw [Hp.set_same] at e ⊢; exact e
      · rw [Hp.set_ne _ _ q] at e ⊢
        exact n3.ext _ _ (by rw [Hp.set_ne _ _ q]; exact e)
    have s3 : Stp R2 (h1.set b (.row t_uint8 (nv .u8 (sumB n)) (c * 1) (some f))) R2 (h3.set b (.row t_uint8 (nv .u8 (sumB n)) (c * 1) (some f))) (p :: r :: Sb) (p :: r :: Sb) :=
      ⟨.refl _, fun x o _ e => xx x o e, fun x o n _ => n, fun x o _ _ e => e, ⟨s2.own.sub.trans xx, s2.own.dis, fun x hx => let ⟨o, e⟩ := s2.own.kn x hx; ⟨o, xx x o e⟩⟩⟩
    have sa := (st.trans s2).trans s3
    refine k _ R2 _ sa (hB1.keep (s2.trans s3).ext fun x hx => ?_) (by rw [en]; exact r2)
    obtain ⟨o, e⟩ := st.own.kn x hx
    rw [e]
    exact xx x o (by rw [Hp.set_ne _ _ (hne x o e)]; exact e)
  cases e : ts.idxOf? t with
  | some i =>
    simp (disch := omega) only [GL, RL, Option.map_some, Option.isSome_some, Bool.not_true, Bool.false_eq_true, if_false, Option.getD_some]
    have ni : numOf ts t = i := by unfold numOf; rw [e]; rfl
    have hle := numOf_le ts t
    have et : textsOf ts t = ts := by unfold textsOf; rw [e]; rfl
    exact tail i R h (by omega) (.refl w) (by rw [et]; exact hB0) ni
  | none =>
    simp (disch := omega) only [GL, RL, Option.map_none, Option.isSome_none, Bool.not_false, if_true, bf0, c0]
    have ni : numOf ts t = ts.length := by unfold numOf; rw [e]; rfl
    have et : textsOf ts t = ts ++ [t] := by unfold textsOf; rw [e]; rfl
    rw [q_lenM u_map_string_int hr]
    rw [q_str (w.rn ht)]
    refine aw_mapNew u_map_string_int u_string hr hT2 (strL t) _ (by rw [hT5 t bt, e]; rfl) ?_
    rw [hT1]
    have kpR : ∀ x o, R x = some o → x ≠ r := fun x o ex => by rintro rfl; rw [w.dis x (by simp)] at ex; cases ex
    have st1 : Stp R h R (h.set r (.obj (.map (es.push ⟨.string (strL t), .int .i64 (ts.length : Int), c⟩) (c + 1)))) (p :: r :: Sb) (p :: r :: Sb) := by
      refine ⟨.refl _, fun x o hx ex => ?_, fun x o n _ => n, fun x o _ _ e => e, ⟨fun x o ex => ?_, w.dis, fun x hx => ?_⟩⟩
      · rw [Hp.set_ne _ _ (by rintro rfl; exact hx (by simp))]; exact ex
      · rw [Hp.set_ne _ _ (kpR x o ex)]; exact w.sub x o ex
      · by_cases q : x = r
        · subst q; exact ⟨_, Hp.set_same ..⟩
        · rw [Hp.set_ne _ _ q]; exact w.kn x hx
    refine tail ts.length R _ nt st1 ?_ ni
    rw [et]
    refine ⟨r, bx, _, c + 1, Sb, by rw [Hp.set_ne _ _ hpr]; exact hp, Hp.set_same .., ⟨by simp [hT1], strKeys_push hT2 _ _ _, ?_, ?_, fun x bx' => ?_⟩, hX.keep (.refl _) fun x hx => Hp.set_ne _ _ (by rintro rfl; exact hrS hx), rfl, hpr, hpS, hrS, hby⟩
    · rw [List.nodup_append]
      refine ⟨hT3, by simp, fun a ha b hb => ?_⟩
      rw [List.mem_singleton] at hb
      subst hb
      rintro rfl
      rw [List.idxOf?_eq_none_iff] at e
      exact e ha
    · intro x hx
      rcases List.mem_append.1 hx with q | q
      · exact hT4 x q
      · rw [List.mem_singleton.1 q]; exact bt
    · rw [mget_push hT2, hT5 x bx', idxOf_snoc, strL_beq bx' bt]
      cases ts.idxOf? x with
      | some i => rfl
      | none =>
        simp only [Option.map_none, Option.none_or, decide_eq_true_eq]
        by_cases q : x = t
        · rw [if_pos q, if_pos q, hT1]; rfl
        · rw [if_neg q, if_neg q]; rfl
end
end Go.Proofs.Ytnecdbclhdbaoaa
set_option linter.unusedSimpArgs false
set_option linter.unusedVariables false
set_option maxRecDepth 100000
set_option maxHeartbeats 1000000
namespace Go.Proofs.Ytnecdbclhdbaoaa
open Go Go.SL Go.Pure
theorem BookAt.stp {R h R' h' : Hp} {p : Nat} {ts : List (List Nat)} {bs : List Box} {S T T' : List Nat} (a : BookAt R h p ts bs S) (w : Own R h S) (e : Hp.ext R R') (x : Hp.ext h h') : BookAt R' h' p ts bs S := a.keep e fun b hb => by
  obtain ⟨o, eo⟩ := w.kn b hb
  rw [eo, x _ _ eo]
theorem pk_slHi12 {a : Option Addr} {n c hi : Nat} (h1 : hi ≤ c) (H : Hp) : peek P H (Instr.sliceAt t_Sl_uint8 (.slice a n c) none (some (.int .i64 (hi : Int))) none) = some (.slice (SL.cut a c 0 1) hi c) := by
  obtain ⟨x, hx, e⟩ := withVal_elim (K := fun x => x = .slice (SL.cut a c 0 1) hi c) ((q_slHi (P := P) (h := H) (K := fun x => x = .slice (SL.cut a c 0 1) hi c) (hi := hi) u_Sl_uint8 z_uint8 a n c .i64 h1).mpr rfl)
  rw [e] at hx
  exact hx
section
variable {h : Hp} {K : Value → Hp → Prop}
/-- A row of one byte, as a text's bytes. -/
theorem aw_one {S : List Nat} {R : Hp} (n : Nat) (hn : n < 256) (w : Own R h S) {F : Value → Hp → Prop} (k : ∀ v R' h', Stp R h R' h' S S → Hp.ext h h' → Rn R' .u8 v [n] → F v h') :
    aw P (Instr.buildSlice t_Sl_uint8 1 #[(0, .int .u8 (n : Int))]) (fun t h => aw P (convert t_Sl_uint8 t_Sl_uint8 t) F h) h := by
  refine aw_lit (ps := [(0, _)]) u_Sl_uint8 z_uint8 zr_uint8 rfl (by omega) (by intro p hp; rw [List.mem_singleton.1 hp]; exact ⟨rfl, by show _ < 1; omega⟩) fun x h2 _ hx => ?_
  obtain ⟨rb, hrb, rfl, rfl⟩ := hx
  refine aw_mark hrb rfl fun h3 n3 => ?_
  have n3' : Nn h t_uint8 .u8 (.slice (some ⟨rb, 0, none⟩) 1 1) h3 [n] := n3
  obtain ⟨R3, s3, q3⟩ := Stp.newN w n3'
  exact k _ R3 h3 s3 n3'.ext q3
theorem T_of12 {R : Hp} {S : List Nat} (ideal : Bool) (w : Own R h S) (k : ∀ v h' S', CrAt R h' v (if ideal then .book [] [] else .real) S' → Own R h' S' → Stp R h R h' S S → (∀ b ∈ S', b ∉ S) → K v h') : Cn P n_orloplaw12_of #[.bool ideal] h K := by
  refine F_orloplaw12_of ?_
  unfold s_orloplaw12_of
  cases ideal with
  | true =>
    simp only [GL, if_true]
    exact T_Book w fun p h1 S1 hB o1 s1 d => k _ h1 S1 ⟨p, rfl, hB⟩ o1 s1 d
  | false =>
    simp only [GL, Bool.false_eq_true, if_false]
    exact T_Real (k _ h [] ⟨rfl, rfl⟩ w.nil (.refl w) fun b hb => by cases hb)
theorem T_awake12 (k : ∀ h', Hp.ext h h' → K (.bool true) h') : Cn P n_orloplaw12_awake #[] h K := by
  refine F_orloplaw12_awake ?_
  unfold s_orloplaw12_awake
  have w0 : Own h h [] := ⟨.refl _, fun b hb => (by cases hb), fun b hb => (by cases hb)⟩
  refine T_Book w0 fun p h1 S1 hB o1 s1 _ => ?_
  have x1 : Hp.ext h h1 := s1.own.sub
  refine T_Real ?_
  simp -zeta only [q_eqlNilI, GL, RL, Bool.false_eq_true, if_false, if_true, Bool.true_eq_false]
  intro J4
  simp only [J4]
  clear J4
  refine aw_one 97 (by omega) o1 fun v21 R2 h2 s2 e2 q2 => ?_
  have b97 : Bytes [97] := by intro y hy; simp at hy; omega
  have b98 : Bytes [98] := by intro y hy; simp at hy; omega
  refine aw_method (g := n_crypt_book_Sum) (r := .pointer (some ⟨p, 0, none⟩)) (by kernel_rfl) ?_
  show Cn P n_crypt_book_Sum #[.pointer (some ⟨p, 0, none⟩), v21] h2 _
  refine T_book_Sum s2.own (hB.stp (T := []) (T' := []) o1 s2.ext e2) (by simp) q2 b97 fun v22 R3 h3 s3 hB3 q3 => ?_
  refine aw_one 98 (by omega) s3.own fun v25 R4 h4 s4 e4 q4 => ?_
  refine aw_method (g := n_crypt_book_Sum) (r := .pointer (some ⟨p, 0, none⟩)) (by kernel_rfl) ?_
  show Cn P n_crypt_book_Sum #[.pointer (some ⟨p, 0, none⟩), v25] h4 _
  refine T_book_Sum s4.own (hB3.stp (T := []) (T' := []) s3.own s4.ext e4) (by simp [textsOf]) q4 b98 fun v26 R5 h5 s5 hB5 q5 => ?_
  have en : numOf (textsOf [] [97]) [98] = 1 := by decide
  rw [en] at q5
  generalize textsOf (textsOf [] [97]) [98] = ts at hB5
  refine aw_make (n := 32) (c := 32) u_Sl_uint8 nfo_uint8 rfl (by omega) (by omega) (by omega) fun t27 h6 n6 => ?_
  rw [replicate_nv] at n6
  have n6' : Nn h5 t_uint8 .u8 t27 h6 k32 := n6
  obtain ⟨R6, s6, q6⟩ := Stp.newN s5.own n6'
  have lk : k32.length = 32 := rfl
  have bk := k32_b
  have C6 : CrAt R6 h6 (.iface t_Pt_crypt_book (.pointer (some ⟨p, 0, none⟩))) (.book ts []) S1 := CrAt.ext (c := .book ts []) ⟨p, rfl, hB5⟩ s5.own s6.ext n6'.ext
  generalize k32 = key at n6' q6 lk bk
  obtain ⟨ak, ck, rfl, hck⟩ := q6.shape
  rw [lk] at hck q6 ⊢
  have p12 : ∀ H : Hp, peek P H (Instr.sliceAt t_Sl_uint8 (.slice ak 32 ck) none (some (.int .i64 12)) none) = some (.slice (SL.cut ak ck 0 1) 12 ck) := fun H => pk_slHi12 (hi := 12) (by omega) H
  have q7 : Rn R6 .u8 (.slice (SL.cut ak ck 0 1) 12 ck) (key.take 12) := rn_hi (by rw [lk]; exact q6) (by omega)
  have l7 : (key.take 12).length = 12 := by rw [List.length_take]; omega
  have b7 := bk.take 12
  generalize key.take 12 = nonce at q7 l7 b7
  generalize SL.cut ak ck 0 1 = an at p12 q7
  rw [q_of (p12 _), q_of (nilSeal C6)]
  have hm : may key nonce := ⟨lk, l7⟩
  have ee : Bytes ([] : List Nat) := by intro y hy; cases hy
  refine T_crSeal s6.own C6 ⟨(by simp), (by intro s hs; cases hs)⟩ q6 q7 (rn_nil _ _) (rn_nil _ _) bk b7 ee ee (by simp) (by simp) fun v36 R7 h7 S7 s7 C7 hv => ?_
  have hb : crSeal (.book ts []) key nonce [] [] = (0, boxB 0 16, .book ts ([] ++ [⟨key, nonce, [], []⟩])) := by simp only [crSeal, if_pos hm]; rfl
  rw [hb] at C7 hv ⊢
  dsimp only at C7 hv ⊢
  rw [if_pos rfl] at hv
  have A0 : CrAt h7 h7 (.iface t_crypt_actual (.agg #[])) .real [] := ⟨rfl, rfl⟩
  rw [ext0, ext1, q_of (p12 _), q_of (nilSeal A0)]
  refine aw_lit (ps := [(0, _)]) u_Sl_uint8 z_uint8 zr_uint8 rfl (by omega) (by intro p hp; rw [List.mem_singleton.1 hp]; exact ⟨rfl, by show _ < 1; omega⟩) fun x h8 _ hx => ?_
  obtain ⟨rb, hrb, rfl, rfl⟩ := hx
  refine ⟨p12 _, ?_⟩
  refine aw_mark hrb rfl fun h8 n8 => ?_
  have n8' : Nn h7 t_uint8 .u8 (.slice (some ⟨rb, 0, none⟩) 1 1) h8 [116] := n8
  obtain ⟨R8, s8, q8⟩ := Stp.newN s7.own n8'
  refine ⟨p12 _, ?_⟩
  have b116 : Bytes [116] := by intro y hy; simp at hy; omega
  have q68 := q6.mono (s7.trans s8).ext.cle
  have q78 := q7.mono (s7.trans s8).ext.cle
  refine T_crSeal (c := .real) (S := []) s8.own.nil ⟨rfl, rfl⟩ trivial q68 q78 (rn_nil _ _) q8 bk b7 ee b116 (by simp) (by simp) fun v49 R9 h9 S9 s9 C9 hv9 => ?_
  have h0 : (crSeal .real key nonce [] [116]).1 = 0 := by simp only [crSeal, if_pos hm]
  have lo := crSeal_len h0
  have bo := crSeal_bytes (c := .real) (key := key) (nonce := nonce) (b := []) b116
  have op := crSeal_open (c2 := .real) h0 (by simp only [crSeal, if_pos hm]; exact .refl _) (by simp [much])
  rw [if_pos h0] at hv9
  rw [h0]
  generalize (crSeal .real key nonce [] [116]).2.1 = X at hv9 lo bo op
  rw [ext0, ext1, q_of (p12 _), q_of (nilOpen A0)]
  have e9 : S9 = [] := by have := C9; unfold crSeal at this; simp only [if_pos hm] at this; exact this.2
  subst e9
  refine T_crOpen (c := .real) (S := []) s9.own ⟨rfl, rfl⟩ trivial (q68.mono s9.ext.cle) (q78.mono s9.ext.cle) (rn_nil _ _) hv9 bk b7 ee bo (by simp) (by rw [lo]; simp) fun v61 R10 h10 s10 C10 hv10 => ?_
  rw [op] at hv10 ⊢
  rw [if_pos rfl] at hv10
  rw [ext0, ext1]
  have r10 : Rn h10 .u8 v61 [116] := s10.own.rn hv10
  have r26 : Rn h10 .u8 v26 (sumB 1) := s10.own.rn (q5.mono ((((s6.trans s7).trans s8).ext.trans s9.ext).trans s10.ext).cle)
  have r37 : Rn h10 .u8 v36 (boxB 0 16) := s10.own.rn (hv.mono ((s8.ext.trans s9.ext).trans s10.ext).cle)
  have hx10 : Hp.ext h h10 := ((((((((s1.ext.trans s2.ext).trans s3.ext).trans s4.ext).trans s5.ext).trans s6.ext).trans s7.ext).trans s8.ext).trans (s9.ext.trans s10.ext)).trans s10.own.sub
  have es : ((strL [116]).toList == (⟨#[116]⟩ : ByteArray).toList) = true := by
    rw [show strL [116] = ⟨#[116]⟩ from rfl]; exact beq_self_eq_true _
  have l1 : (sumB 1).length = 32 := by decide
  have g1 : (sumB 1).getD 31 0 = 1 := by decide
  have g2 : (sumB 1).getD 0 0 = 83 := by decide
  have l2 : (boxB 0 16).length = 16 := by decide
  have g3 : (boxB 0 16).getD 0 0 = 0 := by decide
  obtain ⟨a26, c26, e26, hc26⟩ := r26.shape
  obtain ⟨a37, c37, e37, hc37⟩ := r37.shape
  rw [l1] at e26 hc26
  rw [l2] at e37 hc37
  subst e26 e37
  have z0 : ((((0 : Nat) : Int)) == 0) = true := rfl
  have z32 : ((((32 : Nat) : Int)) == 32) = true := rfl
  have z16 : ((((16 : Nat) : Int)) == 16) = true := rfl
  obtain ⟨b26, o26, rfl, y26⟩ := r26.pos (by rw [l1]; omega)
  obtain ⟨b37, o37, rfl, y37⟩ := r37.pos (by rw [l2]; omega)
  have d1 := y26 31 (by rw [l1]; omega)
  have d2 := y26 0 (by rw [l1]; omega)
  have d3 := y37 0 (by rw [l2]; omega)
  rw [g1] at d1
  rw [g2] at d2
  rw [g3] at d3
  rw [Nat.add_zero] at d2 d3
  have zz1 : ((((1 : Nat) : Int)) == 1) = true := rfl
  have t31 : Int.toNat 31 = 31 := rfl
  have t0 : Int.toNat 0 = 0 := rfl
  have zz2 : ((((83 : Nat) : Int)) == 83) = true := rfl
  simp (disch := omega) only [GL, RL, z0, z32, z16, if_true, t31, t0, Nat.add_zero, d1, d2, d3, zz1, zz2, q_str r10, q_eqlS, es]
  exact k h10 hx10
end
end Go.Proofs.Ytnecdbclhdbaoaa
set_option linter.unusedSimpArgs false
set_option linter.unusedVariables false
namespace Go.SL
open Go
/-- Shapes: numbers, truths, texts, slices, structs (parts in a row), arrays. -/
inductive Ty where
  | int (k : IntKind)
  | bool
  | str
  | sl (e : Ty)
  | arr (n : Nat) (e : Ty)
  | rcd (fs : Ty)
  | nil
  | cons (a b : Ty)
def Ty.size : Ty → Nat
  | .int _ => 1
  | .bool => 1
  | .str => 1
  | .sl _ => 1
  | .arr n e => n * e.size
  | .rcd fs => fs.size
  | .nil => 0
  | .cons a b => a.size + b.size
/-- Rows of cells, one behind the other, behind a slice. -/
def SlAt (R : Hp) (s : Nat) (v : Value) (items : List (List Value)) : Prop :=
  ∃ a c, v = .slice a items.length c ∧ items.length ≤ c ∧ (items = [] ∨ ∃ b o, a = some ⟨b, o, none⟩ ∧ ∀ (i : Nat) (x : List Value), items[i]? = some x → ∀ (j : Nat) (y : Value), x[j]? = some y → R.cell ⟨b, o + i * s + j, none⟩ = some y)
theorem SlAt.mono {R R' : Hp} {s : Nat} {v : Value} {items : List (List Value)} (a : SlAt R s v items) (c : Hp.cle R R') : SlAt R' s v items := by
  obtain ⟨x, n, h1, h2, h3⟩ := a
  refine ⟨x, n, h1, h2, ?_⟩
  rcases h3 with h3 | ⟨b, o, h4, h5⟩
  · exact .inl h3
  · exact .inr ⟨b, o, h4, fun i x e j y ey => c _ _ (h5 i x e j y ey)⟩
theorem SlAt.shape {R : Hp} {s : Nat} {v : Value} {items : List (List Value)} (a : SlAt R s v items) : ∃ x c, v = .slice x items.length c ∧ items.length ≤ c := let ⟨x, c, e, hc, _⟩ := a; ⟨x, c, e, hc⟩
/-- Cells that are a thing of that shape. -/
def Ty.Rd (R : Hp) : Ty → List Value → Prop
  | .int k, vs => ∃ n, vs = [.int k n] ∧ (Lit.int k n).wf = true
  | .bool, vs => ∃ b, vs = [.bool b]
  | .str, vs => ∃ s : ByteArray, vs = [.string s] ∧ s.size ≤ 9223372036854775807
  | .sl e, vs => ∃ (v : Value) (items : List (List Value)), vs = [v] ∧ SlAt R e.size v items ∧ items.length ≤ 9223372036854775807 ∧ ∀ x ∈ items, x.length = e.size ∧ e.Rd R x
  | .arr n e, vs => ∃ items : List (List Value), vs = items.flatten ∧ items.length = n ∧ ∀ x ∈ items, x.length = e.size ∧ e.Rd R x
  | .rcd fs, vs => fs.Rd R vs
  | .nil, vs => vs = []
  | .cons a b, vs => ∃ x y, vs = x ++ y ∧ x.length = a.size ∧ a.Rd R x ∧ b.Rd R y
theorem Ty.Rd.mono {R R' : Hp} (c : Hp.cle R R') : ∀ {ty : Ty} {vs : List Value}, ty.Rd R vs → ty.Rd R' vs
  | .int _, _, h => h
  | .bool, _, h => h
  | .str, _, h => h
  | .sl _, _, ⟨v, items, e, a, hl, h⟩ => ⟨v, items, e, a.mono c, hl, fun x hx => ⟨(h x hx).1, Ty.Rd.mono c (h x hx).2⟩⟩
  | .arr _ _, _, ⟨items, e, l, h⟩ => ⟨items, e, l, fun x hx => ⟨(h x hx).1, Ty.Rd.mono c (h x hx).2⟩⟩
  | .rcd fs, _, h => Ty.Rd.mono (ty := fs) c h
  | .nil, _, h => h
  | .cons _ _, _, ⟨x, y, e, l, h1, h2⟩ => ⟨x, y, e, l, Ty.Rd.mono c h1, Ty.Rd.mono c h2⟩
theorem flatten_len {s : Nat} : ∀ {items : List (List Value)}, (∀ x ∈ items, x.length = s) → items.flatten.length = items.length * s
  | [], _ => by simp
  | x :: l, h => by
    rw [List.flatten_cons, List.length_append, flatten_len fun y hy => h y (List.mem_cons_of_mem _ hy), h x (by simp), List.length_cons, Nat.succ_mul, Nat.add_comm]
theorem Ty.Rd.len {R : Hp} : ∀ {ty : Ty} {vs : List Value}, ty.Rd R vs → vs.length = ty.size
  | .int _, _, ⟨_, e, _⟩ => by rw [e]; rfl
  | .bool, _, ⟨_, e⟩ => by rw [e]; rfl
  | .str, _, ⟨_, e, _⟩ => by rw [e]; rfl
  | .sl _, _, ⟨_, _, e, _⟩ => by rw [e]; rfl
  | .arr n e, _, ⟨items, h1, h2, h3⟩ => by rw [h1, flatten_len fun x hx => (h3 x hx).1, h2]; rfl
  | .rcd fs, _, h => Ty.Rd.len (ty := fs) h
  | .nil, _, h => by rw [show _ = [] from h]; rfl
  | .cons a b, _, ⟨x, y, e, l, _, h2⟩ => by rw [e, List.length_append, l, Ty.Rd.len h2]; rfl
theorem Ty.Rd.flat {R : Hp} : ∀ {ty : Ty} {vs : List Value}, ty.Rd R vs → ∀ y ∈ vs, SL.flat y = true
  | .int _, _, ⟨_, e, _⟩, y, hy => by rw [e, List.mem_singleton] at hy; rw [hy]; rfl
  | .bool, _, ⟨_, e⟩, y, hy => by rw [e, List.mem_singleton] at hy; rw [hy]; rfl
  | .str, _, ⟨_, e, _⟩, y, hy => by rw [e, List.mem_singleton] at hy; rw [hy]; rfl
  | .sl _, _, ⟨_, _, e, a, _⟩, y, hy => by obtain ⟨_, _, ev, _⟩ := a; rw [e, List.mem_singleton] at hy; rw [hy, ev]; rfl
  | .arr n e, _, ⟨items, h1, h2, h3⟩, y, hy => by
    rw [h1] at hy
    obtain ⟨x, hx, hy⟩ := List.mem_flatten.1 hy
    exact Ty.Rd.flat (h3 x hx).2 y hy
  | .rcd fs, _, h, y, hy => Ty.Rd.flat (ty := fs) h y hy
  | .nil, _, h, y, hy => by rw [show _ = [] from h] at hy; cases hy
  | .cons a b, _, ⟨x, z, e, l, h1, h2⟩, y, hy => by
    rw [e] at hy
    rcases List.mem_append.1 hy with q | q
    · exact Ty.Rd.flat h1 y q
    · exact Ty.Rd.flat h2 y q
/-- Does a type of the program have a shape? Of a struct's parts: from a place on. -/
def tyB (P : Program) : Ty → TypeId ⊕ (Nat × List Field) → Bool
  | .int k, .inl t => match P.underlying t with
    | some (.int k') => k' == k
    | _ => false
  | .bool, .inl t => match P.underlying t with
    | some .bool => true
    | _ => false
  | .str, .inl t => match P.underlying t with
    | some .string => true
    | _ => false
  | .sl e, .inl t => match P.underlying t with
    | some (.slice te) => P.cellsOf te == e.size && decide (0 < e.size) && tyB P e (.inl te)
    | _ => false
  | .arr n e, .inl t => match P.underlying t with
    | some (.array m te) => m == n && P.cellsOf te == e.size && P.cellsOf t == n * e.size && tyB P e (.inl te)
    | _ => false
  | .rcd fs, .inl t => match P.underlying t with
    | some (.struct fa) => P.cellsOf t == fs.size && tyB P fs (.inr (0, fa.toList))
    | _ => false
  | .nil, .inr (_, l) => l.isEmpty
  | .cons a b, .inr (o, l) => match l with
    | f :: l => f.offset == o && P.cellsOf f.type == a.size && tyB P a (.inl f.type) && tyB P b (.inr (o + a.size, l))
    | [] => false
  | _, _ => false
/-- Bytes. -/
abbrev Ty.bytes : Ty := .sl (.int .u8)
theorem wf_u8 {n : Int} (h : (Lit.int .u8 n).wf = true) : 0 ≤ n ∧ n < 256 := by
  simp [Lit.wf, IntKind.min, IntKind.max, IntKind.signed, IntKind.bits] at h
  omega
theorem Ty.Rd.asBytes {R : Hp} {vs : List Value} (h : Ty.bytes.Rd R vs) : ∃ (v : Value) (l : List Nat), vs = [v] ∧ Rn R .u8 v l ∧ (∀ x ∈ l, x < 256) ∧ l.length ≤ 9223372036854775807 := by
  obtain ⟨v, items, rfl, ⟨a, c, hv, hc, hcell⟩, hl, hi⟩ := h
  have hf : ∀ x ∈ items, ∃ n : Nat, n < 256 ∧ x = [.int .u8 (n : Int)] := fun x hx => by
    obtain ⟨_, n, rfl, hw⟩ := hi x hx
    have := wf_u8 hw
    exact ⟨n.toNat, by omega, by rw [Int.toNat_of_nonneg this.1]⟩
  obtain ⟨l, rfl, hb⟩ : ∃ l : List Nat, items = l.map (fun (n : Nat) => [Value.int .u8 (n : Int)]) ∧ ∀ x ∈ l, x < 256 := by
    clear hcell hc hv hl hi
    induction items with
    | nil => exact ⟨[], rfl, by simp⟩
    | cons x xs ih =>
      obtain ⟨l, e, hb⟩ := ih fun y hy => hf y (List.mem_cons_of_mem _ hy)
      obtain ⟨n, hn, ex⟩ := hf x (by simp)
      refine ⟨n :: l, by rw [e, ex]; rfl, fun y hy => ?_⟩
      rcases List.mem_cons.1 hy with rfl | hy
      · exact hn
      · exact hb y hy
  rw [List.length_map] at hv hc hl
  refine ⟨v, l, rfl, ⟨by rw [nv_len]; omega, a, c, hv, hc, ?_⟩, hb, hl⟩
  rcases hcell with h0 | ⟨b, o, ha, hcl⟩
  · left; simpa using h0
  · right
    refine ⟨b, o, ha, fun i x e => ?_⟩
    have hi : i < l.length := by have := (List.getElem?_eq_some_iff.1 e).1; rwa [nv_len] at this
    have := hcl i [.int .u8 ((l[i] : Nat) : Int)] (by rw [List.getElem?_map, List.getElem?_eq_getElem hi]; rfl) 0 _ rfl
    rw [nv_get _ _ _ hi] at e
    rw [← Option.some.inj e, ← this]
    show R.cell _ = R.cell _
    congr 2
    show o + i = o + i * 1 + 0
    omega
/-- A struct's first part, and the others. -/
theorem Ty.Rd.one {R : Hp} {a b : Ty} {vs : List Value} (h1 : a.size = 1) (h : (Ty.cons a b).Rd R vs) : ∃ v rest, vs = v :: rest ∧ a.Rd R [v] ∧ b.Rd R rest := by
  obtain ⟨x, y, rfl, l, ha, hb⟩ := h
  rw [h1] at l
  match x, l with
  | [v], _ => exact ⟨v, y, rfl, ha, hb⟩
section
variable {P : Program} {h : Hp}
/-- A thing out of a row is copied into a row of its own. -/
theorem aw_itemAt {R : Hp} {t e s : Nat} {v : Value} {items : List (List Value)} {i : Nat} {x zs : List Value} {d : TypeDesc} {F : Value → Hp → Prop} (ht : P.underlying t = some (.slice e)) (hs : sz P e = some s) (hd : P.underlying e = some d) (hg : aggB d = true)
    (hz : zr P e = some (.agg zs.toArray)) (lz : zs.length = s) (A : SlAt R s v items) (c : Hp.cle R h) (hi : items[i]? = some x) (lx : x.length = s) (fx : ∀ y ∈ x, flat y = true)
    (k : ∀ r, h r = none → F (.pointer (some ⟨r, 0, none⟩)) (h.set r (.row e x s (some (0, 0))))) :
    q P h (Instr.indexAt t v (.int .i64 (i : Int))) fun t31 => q P h (Instr.loadAt e t31) fun t32 => aw P (Instr.alloc e true (.tuple #[])) (fun t8 h => aw P (Instr.storeAt e t8 t32) (fun _ h => F t8 h) h) h := by
  obtain ⟨a, cc, rfl, hc, hA⟩ := A
  have hlt : i < items.length := (List.getElem?_eq_some_iff.1 hi).1
  rcases hA with h0 | ⟨b, o, rfl, hcl⟩
  · rw [h0] at hlt; cases hlt
  rw [q_idxS ht hs ⟨b, o, none⟩ items.length cc .i64 i (by omega) (by omega), Int.toNat_natCast, add_off]
  rw [q_ldAgg (ys := x) hd hg (by rw [lx]; exact hs) (b := b) (o := o + i * s) (fun j y e => c _ _ (hcl i x hi j y e))]
  refine aw_allocL zs hz rfl fun r hr => ?_
  refine aw_storeRow (ys := x) (by rw [lx]; exact hs) (Hp.set_same ..) (by rw [lz, lx]) fx (fun i _ => by simp) ?_
  rw [Hp.set_set, lz]
  exact k r hr
end
end Go.SL
set_option linter.unusedSimpArgs false
set_option linter.unusedVariables false
namespace Go.SL
open Go
section
variable {P : Program} {h : Hp}
theorem zeroCells1 (z : Value) (n : Nat) : (Builtin.zeroCells #[z] n).toList = List.replicate n z := by
  unfold Builtin.zeroCells
  apply List.ext_getElem
  · simp
  · intro i h1 h2
    simp [Nat.mod_one]
/-- Zeros are appended. -/
theorem aw_grow {h0 h h' : Hp} {t ti T e B n m : Nat} {v : Value} {xs : List Value} {z : Value} {K : Value → Hp → Prop}
    (ht : P.underlying t = some (.slice e)) (hti : P.underlying ti = some (.int .i64)) (hi : (P.info? e).map (fun i => (i.zero, i.size, i.bytes)) = some (some z, 1, B)) (hz : z.cells = #[z]) (hfz : flat z = true) (hB1 : 1 ≤ B) (hw : New h e 1 v h' xs n)
    (hB : (2 * (n + m) + 768) * B ≤ 2 ^ 48) (hle0 : Hp.le h0 h)
    (k : ∀ v' h'', New h0 e 1 v' h'' (xs ++ List.replicate m z) (n + m) → K v' h'') : aw P (Builtin.append_ #[t, ti] T #[v, .int .i64 m]) K h' := by
  obtain ⟨i, hi0, hi1⟩ := Option.map_eq_some_iff.1 hi
  simp only [Prod.mk.injEq] at hi1
  have hs : sz P e = some 1 := by simp [sz, hi0, hi1.2.1]
  have hzr : zr P e = some z := by simp [zr, hi0, hi1.1]
  have hinfo : peek P h' (typeInfo e) = some i := pk_info hi0
  have hbound : n + m ≤ 140737488355328 := by
    have : (2 * (n + m) + 768) * 1 ≤ (2 * (n + m) + 768) * B := Nat.mul_le_mul_left _ hB1
    omega
  have hmB : m * B ≤ (2 * (n + m) + 768) * B := Nat.mul_le_mul_right B (by omega)
  have hrv := hw.rds
  obtain ⟨hxl, hv⟩ := hw
  obtain ⟨a, c, rfl⟩ : ∃ a c, v = .slice a n c := by
    obtain ⟨_, a, c, e1, _⟩ := hrv
    exact ⟨a, c, e1⟩
  have w1 : IntKind.i64.wrap (m : Int) = m := by unfold IntKind.wrap; simp [IntKind.bits, IntKind.signed]; omega
  show awp P (Sem.bind (underlying t) _) _ h'
  rw [awp_bind, peek_awp P _ _ _ (pk_und ht)]
  show awp P (Sem.bind (sizeOf e) _) _ h'
  rw [awp_bind, peek_awp P _ _ _ (pk_size hs)]
  show awp P (Sem.bind (underlying ti) _) _ h'
  rw [awp_bind, peek_awp P _ _ _ (pk_und hti)]
  show awp P (if IntKind.i64.wrap (m : Int) < 0 then _ else _) _ h'
  rw [if_neg (by rw [w1]; omega)]
  show awp P (Sem.bind (typeInfo e) _) _ h'
  rw [awp_bind, peek_awp P _ _ _ hinfo]
  show awp P (if IntKind.i64.wrap (m : Int) * (i.bytes : Int) > 2 ^ 48 then _ else _) _ h'
  rw [if_neg (by rw [w1, hi1.2.2]; have : ((m * B : Nat) : Int) ≤ 2 ^ 48 := by exact_mod_cast Nat.le_trans hmB hB
                 push_cast at this; omega)]
  show awp P (if n + (IntKind.i64.wrap (m : Int)).toNat ≤ c then _ else _) _ h'
  rw [w1, Int.toNat_natCast]
  have zs : ∀ (K : Array Value → Hp → Prop), K (List.replicate m z).toArray h' → awp P (if m * 1 = 0 then (pure #[] : Sem (Array Value)) else (zeroValue e).bind fun z => .pure (Builtin.zeroCells z.cells m)) K h' := fun K q => by
    by_cases h0 : m * 1 = 0
    · rw [if_pos h0]
      obtain rfl : m = 0 := by omega
      exact q
    · rw [if_neg h0, awp_bind, peek_awp P _ _ _ (pk_zero hzr), hz]
      have e1 : Builtin.zeroCells #[z] m = (List.replicate m z).toArray := by rw [← zeroCells1]
      rw [e1]
      exact q
  have fz : ∀ y ∈ List.replicate m z, flat y = true := fun y hy => by rw [(List.mem_replicate.1 hy).2]; exact hfz
  split
  · rename_i hle
    show awp P (Sem.bind (if m * 1 = 0 then _ else _) _) _ h'
    rw [awp_bind]
    refine zs _ ?_
    rcases hv with ⟨hv, hn, hh⟩ | ⟨b, c', f, hb, hn, hv, hh, hf⟩
    · simp only [Value.slice.injEq] at hv
      obtain ⟨rfl, rfl, rfl⟩ := hv
      have hm0 : m = 0 := by omega
      subst hm0
      refine ⟨h0, by rw [hh]; exact hle0, k _ _ ⟨by simpa using hxl, .inl ⟨rfl, rfl, rfl⟩⟩⟩
    · simp only [Value.slice.injEq] at hv
      obtain ⟨rfl, _, rfl⟩ := hv
      show awp P (Sem.bind (storeCells ((⟨b, 0, none⟩ : Addr).add (n * 1)) (List.replicate m z).toArray.toList) _) _ h'
      rw [awp_bind, add_off]
      have hb' : h' b = some (.row e xs (c * 1) (some f)) := by rw [hh]; exact Hp.set_same ..
      refine awp_storeCells (List.replicate m z) xs h' _ hb' fz (by rw [hxl, List.length_replicate]; omega) hf 0 (0 + n * 1) (by omega) ?_
      refine ⟨h0.set b (.row e (xs ++ List.replicate m z) (c * 1) (some f)), ?_, k _ _ ⟨by rw [List.length_append, hxl, List.length_replicate]; omega, .inr ⟨b, c, f, le_none hle0 hb, hle, rfl, rfl, hf⟩⟩⟩
      have e1 : (if List.replicate m z = [] then h' else h'.set b (.row e (xs ++ List.replicate m z) (c * 1) (some f))) = h.set b (.row e (xs ++ List.replicate m z) (c * 1) (some f)) := by
        split
        · rename_i e0; rw [e0, List.append_nil]; exact hh
        · rw [hh, Hp.set_set]
      rw [e1]
      exact le_set hle0
  · rename_i hgt
    have hnc : Builtin.nextslicecap (n + m) c * B ≤ 2 ^ 48 := Nat.le_trans (Nat.mul_le_mul_right B (nextcap_le (n + m) c (by omega))) hB
    show awp P (Sem.bind (typeInfo e) _) _ h'
    rw [awp_bind, peek_awp P _ _ _ hinfo]
    show awp P (if ((n + m : Nat) : Int) > IntKind.i64.max ∧ (true = true ∨ i.bytes = 0) then _ else _) _ h'
    rw [if_neg (fun q => by have := q.1; simp [IntKind.max, IntKind.bits, IntKind.signed] at this; omega)]
    show awp P (Sem.bind (typeInfo e) _) _ h'
    rw [awp_bind, peek_awp P _ _ _ hinfo]
    show awp P (if Builtin.nextslicecap (n + m) c * i.bytes > 2 ^ 48 then _ else _) _ h'
    rw [if_neg (by rw [hi1.2.2]; omega)]
    show awp P (Sem.choose (.appendCap (n + m) c e) _) _ h'
    simp only [awp, Question.forced, Bool.false_eq_true, if_false]
    intro tp
    obtain ⟨nc, hncap, hge⟩ : ∃ nc, Question.cut (.appendCap (n + m) c e) tp = nc ∧ n + m ≤ nc := ⟨_, rfl, by simp [Question.cut]⟩
    rw [hncap]
    show awp P (Sem.bind (typeInfo e) _) _ h'
    rw [awp_bind, peek_awp P _ _ _ hinfo]
    show awp P (Sem.bind (askRoom (nc * i.bytes)) _) _ h'
    rw [awp_bind]
    have hroom : ∀ (x : Nat) (K : Unit → Hp → Prop), K () h' → awp P (askRoom x) K h' := by
      intro x K q
      unfold askRoom
      split <;> exact q
    refine hroom _ _ ?_
    show awp P (Sem.bind (Builtin.firstCells 1 n _) _) _ h'
    rw [awp_bind]
    refine awp_firstCells hrv ?_
    show awp P (Sem.bind (if m * 1 = 0 then _ else _) _) _ h'
    rw [awp_bind]
    refine zs _ ?_
    show awp P (Sem.bind (zeroValue e) _) _ h'
    rw [awp_bind, peek_awp P _ _ _ (pk_zero hzr)]
    intro r hrn
    obtain ⟨rest, hrest, hsz⟩ : ∃ rest : Array Value, Builtin.zeroCells z.cells (nc - (n + m)) = rest ∧ rest.size = (nc - (n + m)) * 1 := ⟨_, rfl, by rw [zeroCells_size, hz]; rfl⟩
    have hh0 : h r = none := by
      rcases hv with ⟨_, _, rfl⟩ | ⟨b, c', f, hb, _, _, rfl, _⟩
      · exact hrn
      · by_cases e1 : r = b
        · subst e1; rw [Hp.set_same] at hrn; cases hrn
        · rwa [Hp.set_ne _ _ e1] at hrn
    refine ⟨h0.set r (.row e (xs ++ List.replicate m z) (nc * 1) (some (0, 0))), Hp.le.trans (le_set hle0) fun b' o ho => ?_, k _ _ ⟨by rw [List.length_append, hxl, List.length_replicate]; omega, .inr ⟨r, nc, (0, 0), le_none hle0 hh0, hge, rfl, rfl, fun i _ => by simp⟩⟩⟩
    by_cases e1 : b' = r
    · subst e1
      rw [Hp.set_same] at ho
      cases ho
      refine ⟨_, Hp.set_same .., ?_⟩
      rw [hrest]
      refine ⟨rfl, ?_, ?_, .inl rfl⟩
      · simp only [Array.size_append, List.size_toArray, hxl, List.length_replicate, hsz]
        omega
      · simp only [Array.toList_append, List.append_assoc]
        exact ⟨rest.toList, by simp⟩
    · rw [Hp.set_ne _ _ e1] at ho ⊢
      rcases hv with ⟨_, _, rfl⟩ | ⟨b, c', f, hb, _, _, rfl, _⟩
      · exact ⟨o, ho, .refl _⟩
      · by_cases e2 : b' = b
        · subst e2; rw [hb] at ho; cases ho
        · rw [Hp.set_ne _ _ e2]; exact ⟨o, ho, .refl _⟩
end
end Go.SL
