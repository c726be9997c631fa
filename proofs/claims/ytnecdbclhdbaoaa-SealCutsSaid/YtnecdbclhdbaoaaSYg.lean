/- What the parts of a sealed layer come to. Conditions: each names its own. -/
import Derived.Test.YtnecdbclhdbaoaaSYf
set_option linter.unusedSimpArgs false
set_option linter.unusedVariables false
set_option maxRecDepth 100000
set_option maxHeartbeats 1000000
namespace Go.Proofs.Ytnecdbclhdbaoaa
open Go Go.SL Go.Pure

theorem bldHead {h : Hp} {K : Value → Prop} (a b : Option Addr) (n1 n2 c1 c2 : Nat) : q P h (Instr.build t_seal_head #[(0, .slice a n1 c1), (1, .slice b n2 c2)]) K = K (.agg #[.slice a n1 c1, .slice b n2 c2]) := q_of (by kernel_rfl) K
theorem hf0 {h : Hp} {K : Value → Prop} (r : Nat) : q P h (Instr.fieldAt t_seal_head (.pointer (some ⟨r, 0, none⟩)) 0) K = K (.pointer (some ⟨r, 0, none⟩)) := q_of (by kernel_rfl) K
theorem hf1 {h : Hp} {K : Value → Prop} (r : Nat) : q P h (Instr.fieldAt t_seal_head (.pointer (some ⟨r, 0, none⟩)) 1) K = K (.pointer (some ⟨r, 1, none⟩)) := q_of (by kernel_rfl) K
theorem phf0 {h : Hp} (r : Nat) : peek P h (Instr.fieldAt t_seal_head (.pointer (some ⟨r, 0, none⟩)) 0) = some (.pointer (some ⟨r, 0, none⟩)) := by kernel_rfl
abbrev nil2 : List Value := [.slice none 0 0, .slice none 0 0]
theorem zr_head : zr P t_seal_head = some (.agg nil2.toArray) := by kernel_rfl
theorem sz_head : sz P t_seal_head = some 2 := by kernel_rfl
theorem pk_ld8 {h : Hp} {a : Addr} {v : Value} (e : h.cell a = some v) : peek P h (Instr.loadAt t_Sl_uint8 (.pointer (some a))) = some v := by
  obtain ⟨x, hx, e⟩ := withVal_elim (K := fun x => x = v) ((q_ld (P := P) (h := h) (K := fun x => x = v) u_Sl_uint8 rfl a).mpr (by rw [e]; rfl))
  rw [e] at hx
  exact hx
theorem pk_conv {h : Hp} (x : Nat) (hx : x < 4294967296) : peek P h (convert t_int t_uint32 (.int .i64 (x : Int))) = some (.int .u32 (x : Int)) := by
  obtain ⟨y, hy, e⟩ := withVal_elim (K := fun y => y = .int .u32 (x : Int)) ((q_conv (P := P) (h := h) (K := fun y => y = .int .u32 (x : Int)) (x : Int) u_int u_uint32).mpr (by rw [wu32i (by omega) (by omega)]))
  rw [e] at hy
  exact hy
theorem lit3 (a b c : Value) (ha : flat a = true) (hb : flat b = true) (hc : flat c = true) : ∀ p ∈ [(0, a), (1, b), (2, c)], flat p.2 = true ∧ p.1 < 3 := by
  intro p hp
  simp only [List.mem_cons, List.not_mem_nil, or_false] at hp
  rcases hp with rfl | rfl | rfl
  · exact ⟨ha, by omega⟩
  · exact ⟨hb, by omega⟩
  · exact ⟨hc, by omega⟩
theorem lit2 (a b : Value) (ha : flat a = true) (hb : flat b = true) : ∀ p ∈ [(0, a), (1, b)], flat p.2 = true ∧ p.1 < 2 := by
  intro p hp
  simp only [List.mem_cons, List.not_mem_nil, or_false] at hp
  rcases hp with rfl | rfl
  · exact ⟨ha, by omega⟩
  · exact ⟨hb, by omega⟩
theorem parts3 {h h' : Hp} {v a b c : Value} {x y z : List Nat} (n : New h t_Sl_uint8 1 v h' [a, b, c] 3) (ra : Rn h .u8 a x) (rb : Rn h .u8 b y) (rc : Rn h .u8 c z) : Parts h' v [x, y, z] := by
  obtain ⟨b1, cc, f, hb1, hc, rfl, hh, _⟩ := n.form (by omega)
  refine ⟨b1, 0, cc, rfl, hc, fun i hi => ?_⟩
  have e : h' b1 = some (.row t_Sl_uint8 [a, b, c] (cc * 1) (some f)) := by rw [hh]; exact Hp.set_same ..
  have : i = 0 ∨ i = 1 ∨ i = 2 := by simp at hi; omega
  rcases this with rfl | rfl | rfl
  · exact ⟨a, by rw [cell_row e]; rfl, ra.mono n.cle⟩
  · exact ⟨b, by rw [cell_row e]; rfl, rb.mono n.cle⟩
  · exact ⟨c, by rw [cell_row e]; rfl, rc.mono n.cle⟩
theorem parts2 {h h' : Hp} {v a b : Value} {x y : List Nat} (n : New h t_Sl_uint8 1 v h' [a, b] 2) (ra : Rn h .u8 a x) (rb : Rn h .u8 b y) : Parts h' v [x, y] := by
  obtain ⟨b1, cc, f, hb1, hc, rfl, hh, _⟩ := n.form (by omega)
  refine ⟨b1, 0, cc, rfl, hc, fun i hi => ?_⟩
  have e : h' b1 = some (.row t_Sl_uint8 [a, b] (cc * 1) (some f)) := by rw [hh]; exact Hp.set_same ..
  have : i = 0 ∨ i = 1 := by simp at hi; omega
  rcases this with rfl | rfl
  · exact ⟨a, by rw [cell_row e]; rfl, ra.mono n.cle⟩
  · exact ⟨b, by rw [cell_row e]; rfl, rb.mono n.cle⟩

/-- Bytes that were made on the way from h to h'. -/
def Res (h : Hp) (v : Value) (h' : Hp) (l : List Nat) : Prop :=
  Hp.ext h h' ∧ ((∀ R, Rn R .u8 v l) ∨ ∃ b o, h b = none ∧ h' b = some o ∧ ∀ R : Hp, R b = some o → Rn R .u8 v l)
theorem Res.of {h H h' : Hp} {t : Nat} {v : Value} {l : List Nat} (x : Hp.ext h H) (n : Nn H t .u8 v h' l) : Res h v h' l := by
  refine ⟨x.trans n.ext, ?_⟩
  rcases n.2 with ⟨rfl, h0, rfl⟩ | ⟨b, c, f, hb, hc, rfl, rfl, hf⟩
  · left
    intro R
    obtain rfl := List.eq_nil_of_length_eq_zero h0
    exact rn_nil _ _
  · right
    refine ⟨b, _, x.none hb, Hp.set_same .., fun R e => ⟨by rw [nv_len]; omega, _, c, rfl, hc, .inr ⟨b, 0, rfl, fun i y ey => by rw [cell_row e, Nat.zero_add]; exact ey⟩⟩⟩
theorem Res.rn {h : Hp} {v : Value} {h' : Hp} {l : List Nat} (r : Res h v h' l) : Rn h' .u8 v l := by
  rcases r.2 with q | ⟨b, o, _, e, q⟩
  · exact q h'
  · exact q h' e
theorem Res.up {h0 h : Hp} {v : Value} {h' : Hp} {l : List Nat} (x : Hp.ext h0 h) (r : Res h v h' l) : Res h0 v h' l := by
  refine ⟨x.trans r.1, r.2.imp id fun ⟨b, o, hb, e, q⟩ => ⟨b, o, x.none hb, e, q⟩⟩
theorem Res.stp {R h : Hp} {S : List Nat} {v : Value} {h' : Hp} {l : List Nat} (w : Own R h S) (r : Res h v h' l) : ∃ R', Stp R h R' h' S S ∧ Rn R' .u8 v l := by
  obtain ⟨x, q | ⟨b, o, hb, e, q⟩⟩ := r
  · exact ⟨R, ⟨.refl _, fun y oy _ ey => x y oy ey, fun y oy n _ => n, fun y oy _ _ r => r, ⟨fun y oy ey => x y oy (w.sub y oy ey), w.dis, fun y hy => let ⟨oy, ey⟩ := w.kn y hy; ⟨oy, x y oy ey⟩⟩⟩, q R⟩
  · have hR : R b = none := w.sub.none hb
    refine ⟨R.set b o, ⟨ext_set _ hR, fun y oy _ ey => x y oy ey, fun y oy n _ => n, fun y oy _ ey r => ?_, ⟨fun y oy ey => ?_, fun y hy => ?_, fun y hy => ?_⟩⟩, q _ (Hp.set_same ..)⟩
    · rw [Hp.set_ne _ _ (by rintro rfl; rw [hb] at ey; cases ey)]; exact r
    · by_cases hyb : y = b
      · subst hyb; rw [Hp.set_same] at ey; rw [← ey]; exact e
      · rw [Hp.set_ne _ _ hyb] at ey; exact x y oy (w.sub y oy ey)
    · obtain ⟨oy, ey⟩ := w.kn y hy
      rw [Hp.set_ne _ _ (by rintro rfl; rw [hb] at ey; cases ey)]; exact w.dis y hy
    · obtain ⟨oy, ey⟩ := w.kn y hy
      exact ⟨oy, x y oy ey⟩
/-- A step that only makes blocks that nobody asks for. -/
theorem Stp.ext0 {R h : Hp} {S : List Nat} {h' : Hp} (w : Own R h S) (x : Hp.ext h h') : Stp R h R h' S S :=
  ⟨.refl _, fun y oy _ ey => x y oy ey, fun y oy n _ => n, fun y oy _ _ r => r, ⟨fun y oy ey => x y oy (w.sub y oy ey), w.dis, fun y hy => let ⟨oy, ey⟩ := w.kn y hy; ⟨oy, x y oy ey⟩⟩⟩

section
variable {h : Hp} {K : Value → Hp → Prop}
theorem T_newHead {vp vc : Value} {pre ctx : List Nat} (size : Nat) (hs : size < 4294967296) (hp : Rn h .u8 vp pre) (hc : Rn h .u8 vc ctx) (lp : pre.length = 7)
    (k : ∀ vb h', Res h vb h' (headL pre size) → K (.agg #[vb, vc]) h') : Cn P n_seal_newHead #[vp, vc, .int .i64 size] h K := by
  refine F_seal_newHead ?_
  unfold s_seal_newHead
  refine aw_allocL nil2 zr_head rfl fun r6 hr6 => ?_
  have x0 : Hp.ext h (h.set r6 (.row t_seal_head nil2 nil2.length (some (0, 0)))) := ext_set _ hr6
  have hM : (h.set r6 (.row t_seal_head nil2 nil2.length (some (0, 0)))) r6 = some (.row t_seal_head nil2 2 (some (0, 0))) := Hp.set_same ..
  generalize h.set r6 (.row t_seal_head nil2 nil2.length (some (0, 0))) = M at x0 hM
  refine aw_lit (n := 1) (ps := [(0, _)]) u_Sl_uint8 z_uint8 zr_uint8 rfl (by omega) (by intro p hp; rw [List.mem_singleton.1 hp]; exact ⟨rfl, by show _ < 1; omega⟩) fun t7 h1 n1 _ => ?_
  have n1' : Nn M t_uint8 .u8 t7 h1 [1] := by unfold Nn; simpa [fillL, nv] using n1
  simp (disch := omega) only [GL, RL, wu32i]
  refine T_word_Big32 size (by omega) fun t11 h2 n2 => ?_
  have x2 := (x0.trans n1'.ext).trans n2.ext
  have r7 := n1'.rn.mono n2.cle
  refine aw_lit (n := 3) (ps := [(0, t7), (1, vp), (2, t11)]) u_Sl_Sl_uint8 z_Sl_uint8 zr_Sl_uint8 rfl (by omega) (lit3 _ _ _ (rn_flat r7) (rn_flat hp) (rn_flat n2.rn)) fun t12 h3 n3 _ => ?_
  have n3' : New h2 t_Sl_uint8 1 t12 h3 [t7, vp, t11] 3 := by simpa [fillL] using n3
  have hparts := parts3 n3' r7 (hp.mono x2.cle) n2.rn
  have e : [[1], pre, bg 4 size].flatten = headL pre size := by simp [headL]
  refine T_Concat hparts (by rw [e, headL_len _ _ lp]; omega) (by simp) fun t13 h4 n4 => ?_
  rw [e] at n4
  have x4 := (x2.trans n3'.ext).trans n4.ext
  obtain ⟨a13, c13, e13, _⟩ := n4.rn.shape
  obtain ⟨ac, cc, ec, _⟩ := hc.shape
  have hf13 := rn_flat n4.rn
  have hfc := rn_flat hc
  rw [show q P h4 (Instr.build t_seal_head #[(0, t13), (1, vc)]) = fun K => K (.agg #[t13, vc]) from by funext K; rw [e13, ec]; exact bldHead ..]
  have hM4 : h4 r6 = some (.row t_seal_head nil2 2 (some (0, 0))) := n4.ext _ _ (n3'.ext _ _ (n2.ext _ _ (n1'.ext _ _ hM)))
  refine aw_storeRow (ys := [t13, vc]) sz_head hM4 rfl (by intro y hy; simp only [List.mem_cons, List.not_mem_nil, or_false] at hy; rcases hy with rfl | rfl <;> assumption) (fun i _ => by simp) ?_
  rw [q_resRow (ys := [t13, vc]) u_seal_head rfl sz_head (Hp.set_same ..)]
  have hr6' : ∀ x o, h x = some o → x ≠ r6 := fun x o e => by rintro rfl; rw [hr6] at e; cases e
  obtain ⟨b4, c4, f4, hb4, hc4, e4, hh4, _⟩ := n4.form (by rw [headL_len _ _ lp]; omega)
  have n46 : b4 ≠ r6 := by
    rintro rfl
    rw [n3'.ext _ _ (n2.ext _ _ (n1'.ext _ _ hM))] at hb4
    cases hb4
  refine k t13 _ ⟨fun x o e => ?_, .inr ⟨b4, .row t_uint8 (nv .u8 (headL pre size)) (c4 * 1) (some f4), (x2.trans n3'.ext).none hb4, ?_, fun R e => ⟨by rw [nv_len]; omega, some ⟨b4, 0, none⟩, c4, e4, hc4, .inr ⟨b4, 0, rfl, fun i x ex => ?_⟩⟩⟩⟩
  · rw [Hp.set_ne _ _ (hr6' x o e)]
    exact x4 _ _ e
  · rw [Hp.set_ne _ _ n46, hh4]; exact Hp.set_same ..
  · rw [cell_row e, Nat.zero_add]; exact ex

theorem T_head_size {vb vc : Value} {hb : List Nat} (fc : flat vc = true) (r : Rn h .u8 vb hb) (bb : Bytes hb) (lb : hb.length = 12) (k : ∀ h', Hp.ext h h' → K (.int .i64 ((bval (hb.drop 8) : Nat) : Int)) h') : Cn P n_seal_head_size #[.agg #[vb, vc]] h K := by
  refine F_seal_head_size ?_
  unfold s_seal_head_size
  refine aw_box fun r1 hr1 => ?_
  have x0 := ext_set (.row t_seal_head (Value.agg #[vb, vc]).cells.toList (Value.agg #[vb, vc]).cells.size (some (0, 0))) hr1
  have hM : (h.set r1 (.row t_seal_head (Value.agg #[vb, vc]).cells.toList (Value.agg #[vb, vc]).cells.size (some (0, 0)))) r1 = some (.row t_seal_head [vb, vc] 2 (some (0, 0))) := Hp.set_same ..
  generalize h.set r1 (.row t_seal_head (Value.agg #[vb, vc]).cells.toList (Value.agg #[vb, vc]).cells.size (some (0, 0))) = M at x0 hM
  have c0 : M.cell ⟨r1, 0, none⟩ = some vb := by rw [cell_row hM]; rfl
  simp (disch := omega) only [hf0, GL, RL, c0]
  refine q_slRn u_Sl_uint8 z_uint8 (r.mono x0.cle) .i64 8 (by omega) fun w rw' => ?_
  refine T_word_GetBig32 rw' (bb.drop 8) (by rw [List.length_drop]; omega) ?_
  have e : (hb.drop 8).take 4 = hb.drop 8 := List.take_of_length_le (by rw [List.length_drop]; omega)
  rw [e]
  have hlt := bval_lt (bb.drop 8)
  rw [List.length_drop, lb] at hlt
  have p4 : (256 : Nat) ^ (12 - 8) = 4294967296 := rfl
  rw [p4] at hlt
  simp (disch := omega) only [GL, RL, wi64]
  exact k M x0

theorem T_nonce {vb vc : Value} {hb : List Nat} (i : Nat) (hi : i < 4294967296) (last : Bool) (fc : flat vc = true) (r : Rn h .u8 vb hb) (bb : Bytes hb) (lb : hb.length = 12)
    (k : ∀ vn h', Res h vn h' (nonceN ((hb.take 8).drop 1) i last) → K vn h') : Cn P n_seal_head_nonce #[.agg #[vb, vc], .int .i64 i, .bool last] h K := by
  refine F_seal_head_nonce ?_
  unfold s_seal_head_nonce
  refine aw_box fun r1 hr1 => ?_
  have x0 := ext_set (.row t_seal_head (Value.agg #[vb, vc]).cells.toList (Value.agg #[vb, vc]).cells.size (some (0, 0))) hr1
  have hM : (h.set r1 (.row t_seal_head (Value.agg #[vb, vc]).cells.toList (Value.agg #[vb, vc]).cells.size (some (0, 0)))) r1 = some (.row t_seal_head [vb, vc] 2 (some (0, 0))) := Hp.set_same ..
  generalize h.set r1 (.row t_seal_head (Value.agg #[vb, vc]).cells.toList (Value.agg #[vb, vc]).cells.size (some (0, 0))) = M at x0 hM
  have c0 : M.cell ⟨r1, 0, none⟩ = some vb := by rw [cell_row hM]; rfl
  replace r := r.mono x0.cle
  obtain ⟨ab, cb, rfl, hcb⟩ := r.shape
  have esl : ∀ H : Hp, peek P H (Instr.sliceAt t_Sl_uint8 (.slice ab hb.length cb) (some (.int .i64 1)) (some (.int .i64 8)) none) = some (.slice (SL.cut ab cb 1 1) 7 (cb - 1)) := fun H => by
    obtain ⟨x, hx, e⟩ := withVal_elim (K := fun x => x = .slice (SL.cut ab cb 1 1) 7 (cb - 1)) ((q_slLH (P := P) (h := H) (K := fun x => x = .slice (SL.cut ab cb 1 1) 7 (cb - 1)) u_Sl_uint8 z_uint8 ab hb.length cb .i64 .i64 1 8 (by omega) (by omega)).mpr rfl)
    rw [e] at hx
    exact hx
  have r11 : Rn M .u8 (.slice (SL.cut ab cb 1 1) 7 (cb - 1)) ((hb.take 8).drop 1) := r.cut 1 8 (by omega) (by omega)
  intro J3
  have l7 : ((hb.take 8).drop 1).length = 7 := by rw [List.length_drop, List.length_take]; omega
  have body : ∀ e : Nat, e < 256 → (∀ vn h', Res M vn h' ((hb.take 8).drop 1 ++ bg 4 i ++ [e]) → K vn h') → J3 (.int .u8 (e : Int)) M := by
    intro e he kk
    simp only [J3]
    clear J3
    simp (disch := omega) only [hf0, GL, RL, c0]
    have ew : IntKind.u32.wrap (i : Int) = (i : Int) := wu32i (by omega) (by omega)
    rw [q_of (esl M), ew]
    have fin : ∀ t14 t16 H, Hp.ext M H → Rn H .u8 t14 (bg 4 i) → Rn H .u8 t16 [e] → aw P (Instr.buildSlice t_Sl_Sl_uint8 3 #[(0, .slice (SL.cut ab cb 1 1) 7 (cb - 1)), (1, t14), (2, t16)]) (fun t17 h => Cn P n_slices_Concat_byte_byte #[t17] h fun t18 h => K t18 h) H := by
      intro t14 t16 H xH r14 r16
      refine aw_lit (n := 3) (ps := [(0, _), (1, t14), (2, t16)]) u_Sl_Sl_uint8 z_Sl_uint8 zr_Sl_uint8 rfl (by omega) (lit3 _ _ _ rfl (rn_flat r14) (rn_flat r16)) fun t17 h3 n3 _ => ?_
      have n3' : New H t_Sl_uint8 1 t17 h3 [.slice (SL.cut ab cb 1 1) 7 (cb - 1), t14, t16] 3 := by simpa [fillL] using n3
      have hparts := parts3 n3' (r11.mono xH.cle) r14 r16
      refine T_Concat hparts (by simp [l7, bg_len]; omega) (by simp) fun t18 h4 n4 => ?_
      have e3 : [(hb.take 8).drop 1, bg 4 i, [e]].flatten = (hb.take 8).drop 1 ++ bg 4 i ++ [e] := by simp
      rw [e3] at n4
      exact kk t18 h4 (.of (xH.trans n3'.ext) n4)
    have lit1 : ∀ (H : Hp) (Q : Value → Hp → Prop), (∀ v h', Nn H t_uint8 .u8 v h' [e] → Q v h') → aw P (Instr.buildSlice t_Sl_uint8 1 #[(0, .int .u8 (e : Int))]) Q H := fun H Q q =>
      aw_lit (n := 1) (ps := [(0, _)]) u_Sl_uint8 z_uint8 zr_uint8 rfl (by omega) (by intro p hp; rw [List.mem_singleton.1 hp]; exact ⟨rfl, by show _ < 1; omega⟩) fun v h' n _ => q v h' (by unfold Nn; simpa [fillL, nv] using n)
    refine ⟨T_word_Big32 i (by omega) fun t14 h1 n1 => ⟨esl _, pk_ld8 (n1.cle _ _ c0), phf0 _, lit1 _ _ fun t16 h2 n2 => ⟨esl _, pk_ld8 (n2.cle _ _ (n1.cle _ _ c0)), phf0 _, fin t14 t16 h2 (n1.ext.trans n2.ext) (n1.rn.mono n2.cle) n2.rn⟩⟩,
      lit1 _ _ fun t16 h1 n1 => ⟨pk_conv i hi, esl _, pk_ld8 (n1.cle _ _ c0), phf0 _, T_word_Big32 i (by omega) fun t14 h2 n2 => ⟨esl _, pk_ld8 (n2.cle _ _ (n1.cle _ _ c0)), phf0 _, fin t14 t16 h2 (n1.ext.trans n2.ext) n2.rn (n1.rn.mono n2.cle)⟩⟩⟩
  rw [cnd_bool]
  cases last with
  | true =>
    simp only [if_true]
    exact body 1 (by omega) fun vn h' x => k vn h' (x.up x0)
  | false =>
    simp only [Bool.false_eq_true, if_false]
    exact body 0 (by omega) fun vn h' x => k vn h' (x.up x0)

theorem T_beside {vb vc : Value} {hb ctx : List Nat} (rb : Rn h .u8 vb hb) (rc : Rn h .u8 vc ctx) (lb : hb.length ≤ 1099511627776) (lc : ctx.length ≤ 1099511627776)
    (k : ∀ v h', Res h v h' (hb ++ ctx) → K v h') : Cn P n_seal_head_beside #[.agg #[vb, vc]] h K := by
  refine F_seal_head_beside ?_
  unfold s_seal_head_beside
  refine aw_box fun r1 hr1 => ?_
  have x0 := ext_set (.row t_seal_head (Value.agg #[vb, vc]).cells.toList (Value.agg #[vb, vc]).cells.size (some (0, 0))) hr1
  have hM : (h.set r1 (.row t_seal_head (Value.agg #[vb, vc]).cells.toList (Value.agg #[vb, vc]).cells.size (some (0, 0)))) r1 = some (.row t_seal_head [vb, vc] 2 (some (0, 0))) := Hp.set_same ..
  generalize h.set r1 (.row t_seal_head (Value.agg #[vb, vc]).cells.toList (Value.agg #[vb, vc]).cells.size (some (0, 0))) = M at x0 hM
  have c0 : M.cell ⟨r1, 0, none⟩ = some vb := by rw [cell_row hM]; rfl
  have c1 : M.cell ⟨r1, 1, none⟩ = some vc := by rw [cell_row hM]; rfl
  simp (disch := omega) only [hf0, hf1, GL, RL, c0, c1]
  refine aw_lit (n := 2) (ps := [(0, vb), (1, vc)]) u_Sl_Sl_uint8 z_Sl_uint8 zr_Sl_uint8 rfl (by omega) (lit2 _ _ (rn_flat rb) (rn_flat rc)) fun t7 h2 n2 _ => ?_
  have n2' : New M t_Sl_uint8 1 t7 h2 [vb, vc] 2 := by simpa [fillL] using n2
  have hparts := parts2 n2' (rb.mono x0.cle) (rc.mono x0.cle)
  refine T_Concat hparts (by simp; omega) (by simp) fun t8 h3 n3 => ?_
  have e : [hb, ctx].flatten = hb ++ ctx := by simp
  rw [e] at n3
  exact k t8 h3 (.of (x0.trans n2'.ext) n3)

theorem T_maySize (n : Int) (k : K (.bool (decide (1 ≤ n ∧ n ≤ 65536))) h) : Cn P n_seal_maySize #[.int .i64 n] h K := by
  refine F_seal_maySize ?_
  unfold s_seal_maySize
  simp (disch := omega) only [GL, RL]
  by_cases h1 : 1 ≤ n
  · simpa [h1] using k
  · simpa [h1] using k
end
end Go.Proofs.Ytnecdbclhdbaoaa
