/- wrapSame_holds wrapSame proved lifted over: part 4 of its proof; each part's own remarks stand with its declarations. Conditions: each lemma names its own. -/
import Derived.Test.YtoikhbagchfeoaaWrapSame3
import Derived.Test.YtoikhbagchfeoaaRows
import Derived.WalkKit
import Derived.ProofKit
import Derived.OpenShut
import Derived.ShutString
import Derived.ChangeOld
import Derived.Below
import Derived.Carry
import Derived.SizedLaws
import Derived.Lib.SmallJoins
set_option linter.unusedSimpArgs false
set_option linter.unusedVariables false
set_option linter.unusedSimpArgs false
set_option linter.unusedVariables false
set_option maxRecDepth 100000
set_option maxHeartbeats 1000000
namespace Go.Proofs.Ytoikhbagchfeoaa
open Go Go.SL Go.Pure Go.Curve
/-- What is said beside a packet's key. -/
def infoW : List Nat := [111, 114, 108, 111, 112, 32, 119, 114, 97, 112]
def keyW (shared once point : List Nat) : List Nat := deriveL shared (once ++ point) infoW
theorem keyW_len (a b c : List Nat) : (keyW a b c).length = 32 := hmacL_len _ _
theorem keyW_bytes (a b c : List Nat) : Bytes (keyW a b c) := hmacL_bytes _ _
theorem infoW_bytes : Bytes infoW := by intro x hx; simp [infoW] at hx; omega
def zeros12 : List Nat := List.replicate 12 0
theorem zeros12_bytes : Bytes zeros12 := fun x hx => by rw [List.eq_of_mem_replicate hx]; decide
theorem wp0 {h : Hp} {K : Value → Prop} (b : Nat) : q P h (Instr.fieldAt t_wrap_parts (.pointer (some ⟨b, 0, none⟩)) 0) K = K (.pointer (some ⟨b, 0, none⟩)) := q_of (by kernel_rfl) K
theorem wp1 {h : Hp} {K : Value → Prop} (b : Nat) : q P h (Instr.fieldAt t_wrap_parts (.pointer (some ⟨b, 0, none⟩)) 1) K = K (.pointer (some ⟨b, 1, none⟩)) := q_of (by kernel_rfl) K
theorem wp2 {h : Hp} {K : Value → Prop} (b : Nat) : q P h (Instr.fieldAt t_wrap_parts (.pointer (some ⟨b, 0, none⟩)) 2) K = K (.pointer (some ⟨b, 2, none⟩)) := q_of (by kernel_rfl) K
theorem pwp2 {h : Hp} (b : Nat) : peek P h (Instr.fieldAt t_wrap_parts (.pointer (some ⟨b, 0, none⟩)) 2) = some (.pointer (some ⟨b, 2, none⟩)) := by kernel_rfl
theorem sz_parts : sz P t_wrap_parts = some 3 := by kernel_rfl
theorem zr_parts : zr P t_wrap_parts = some (.agg [.slice none 0 0, .slice none 0 0, .slice none 0 0].toArray) := by kernel_rfl
theorem bld_parts {h : Hp} {K : Value → Prop} (a b : Value) (ha : ∃ x n c, a = .slice x n c) (hb : ∃ x n c, b = .slice x n c) : q P h (Instr.build t_wrap_parts #[(0, a), (1, b)]) K = K (.agg #[a, b, .slice none 0 0]) := by
  obtain ⟨x, n, c, rfl⟩ := ha
  obtain ⟨y, m, d, rfl⟩ := hb
  exact q_of (by kernel_rfl) K
theorem nilSeal' {R h : Hp} {vc : Value} {c : Cr} {S : List Nat} (a : CrAt R h vc c S) : peek P emp (nilCk (.func (.method "Seal") #[vc] #[])) = some (.func (.method "Seal") #[vc] #[]) := by
  cases c with
  | real => obtain ⟨rfl, _⟩ := a; kernel_rfl
  | book ts bs => obtain ⟨p, rfl, _⟩ := a; kernel_rfl
theorem nilOpen' {R h : Hp} {vc : Value} {c : Cr} {S : List Nat} (a : CrAt R h vc c S) : peek P emp (nilCk (.func (.method "Open") #[vc] #[])) = some (.func (.method "Open") #[vc] #[]) := by
  cases c with
  | real => obtain ⟨rfl, _⟩ := a; kernel_rfl
  | book ts bs => obtain ⟨p, rfl, _⟩ := a; kernel_rfl
section
variable {h : Hp} {K : Value → Hp → Prop}
theorem rn_slice {h : Hp} {v : Value} {l : List Nat} (r : Rn h .u8 v l) : ∃ x n c, v = .slice x n c := by obtain ⟨a, c, e, _⟩ := r.shape; exact ⟨a, _, c, e⟩
/-- A packet's key. -/
theorem T_key {vp vo vb vs : Value} {point once shared : List Nat} (rp : Rn h .u8 vp point) (ro : Rn h .u8 vo once) (rs : Rn h .u8 vs shared) (fb : flat vb = true) (bp : Bytes point) (bo : Bytes once) (bs : Bytes shared) (lp : point.length ≤ 100000) (lo : once.length ≤ 100000) (ls : shared.length ≤ 100000)
    (k : ∀ r w h', Nn h t_uint8 .u8 w h' (keyW shared once point) → (∀ H, Rn H .u8 w (keyW shared once point) → Rn H .u8 r (keyW shared once point)) → K r h') : Cn P n_wrap_parts_key #[.agg #[vp, vo, vb], vs] h K := by
  refine Cn_wk (F_wrap_parts_key ?_)
  unfold s_wrap_parts_key
  refine aw_box fun r hr => ?_
  have hC : (Value.agg #[vp, vo, vb]).cells.toList = [vp, vo, vb] := rfl
  have hC2 : (Value.agg #[vp, vo, vb]).cells.size = 3 := rfl
  rw [hC, hC2]
  have x0 : Hp.ext h (h.set r (.row t_wrap_parts [vp, vo, vb] 3 (some (0, 0)))) := ext_set _ hr
  have e0 : (h.set r (.row t_wrap_parts [vp, vo, vb] 3 (some (0, 0)))) r = some (.row t_wrap_parts [vp, vo, vb] 3 (some (0, 0))) := Hp.set_same ..
  have c0 : (h.set r (.row t_wrap_parts [vp, vo, vb] 3 (some (0, 0)))).cell ⟨r, 0, none⟩ = some vp := by rw [cell_row e0]; rfl
  have c1 : (h.set r (.row t_wrap_parts [vp, vo, vb] 3 (some (0, 0)))).cell ⟨r, 1, none⟩ = some vo := by rw [cell_row e0]; rfl
  simp -zeta only [wp0, wp1, RL, c0, c1, GL]
  show aw P _ _ (h.set r (.row t_wrap_parts [vp, vo, vb] 3 (some (0, 0))))
  generalize h.set r (.row t_wrap_parts [vp, vo, vb] 3 (some (0, 0))) = H at *
  have e2 : fillL [(0, vo), (1, vp)] (List.replicate 2 (.slice none 0 0)) = [vo, vp] := rfl
  refine aw_lit (ps := [(0, vo), (1, vp)]) u_Sl_Sl_uint8 z_Sl_uint8 zr_Sl_uint8 rfl (by omega) (by
      intro p hp
      simp only [List.mem_cons, List.not_mem_nil, or_false] at hp
      rcases hp with rfl | rfl
      · exact ⟨rn_flat ro, by show 0 < 2; omega⟩
      · exact ⟨rn_flat rp, by show 1 < 2; omega⟩) fun v1 H1 n1 _ => ?_
  rw [e2] at n1
  have P1 := parts2b n1 (ro.mono x0.cle) (rp.mono x0.cle)
  have fl : [once, point].flatten = once ++ point := by simp
  refine T_Concat P1 (by rw [fl, List.length_append]; omega) (by show 2 ≤ _; omega) fun v2 H2 n2 => ?_
  rw [fl] at n2
  have e3 : fillL [(0, Value.int .u8 111), (1, .int .u8 114), (2, .int .u8 108), (3, .int .u8 111), (4, .int .u8 112), (5, .int .u8 32), (6, .int .u8 119), (7, .int .u8 114), (8, .int .u8 97), (9, .int .u8 112)] (List.replicate 10 (.int .u8 0)) = nv .u8 infoW := rfl
  refine aw_lit (ps := [(0, .int .u8 111), (1, .int .u8 114), (2, .int .u8 108), (3, .int .u8 111), (4, .int .u8 112), (5, .int .u8 32), (6, .int .u8 119), (7, .int .u8 114), (8, .int .u8 97), (9, .int .u8 112)]) u_Sl_uint8 z_uint8 zr_uint8 rfl (by omega) (by
      intro p hp
      simp only [List.mem_cons, List.not_mem_nil, or_false] at hp
      rcases hp with rfl | rfl | rfl | rfl | rfl | rfl | rfl | rfl | rfl | rfl <;> exact ⟨rfl, by decide⟩) fun v3 H3 _ hx3 => ?_
  obtain ⟨rb, hrb, rfl, rfl⟩ := hx3
  rw [e3]
  refine aw_mark hrb rfl fun H3 n3 => ?_
  have n3' : Nn H2 t_uint8 .u8 (.slice (some ⟨rb, 0, none⟩) 10 10) H3 infoW := n3
  have x3 : Hp.ext h H3 := ((x0.trans n1.ext).trans n2.ext).trans n3'.ext
  refine T_Derive32 (rs.mono x3.cle) (n2.rn.mono n3'.ext.cle) n3'.rn bs (bo.append bp) infoW_bytes (by omega) (by rw [List.length_append]; omega) (by decide) fun v4 w4 H4 n4 c4 => ?_
  rw [ext0, ext1]
  obtain ⟨h0, l0, nw⟩ := n4.down x3.le
  exact ⟨h0, l0, k _ _ _ nw c4⟩
theorem T_wnonce (k : ∀ v h', Nn h t_uint8 .u8 v h' zeros12 → K v h') : Cn P n_wrap_nonce #[] h K := by
  refine F_wrap_nonce ?_
  unfold s_wrap_nonce
  refine aw_make (n := 12) (c := 12) u_Sl_uint8 nfo_uint8 rfl (Nat.le_refl _) (by decide) (by decide) fun v h' nw => ?_
  rw [replicate_nv] at nw
  exact k v h' nw
/-- A packet: a code, its bytes, and the crypt behind it. -/
def wrapL (c : Cr) (once point key ctx : List Nat) : Nat × List Nat × Cr :=
  if ¬ (key.length = 32 ∧ once.length = 32 ∧ point.length = 32) then (1, [], c)
  else if sharedF once point = 0 then (10, [], c)
  else (0, [1] ++ point ++ nb (publicF once) ++ (crSeal c (keyW (nb (sharedF once point)) (nb (publicF once)) point) zeros12 ctx key).2.1, (crSeal c (keyW (nb (sharedF once point)) (nb (publicF once)) point) zeros12 ctx key).2.2)
theorem T_Wrap {R : Hp} {vc vo vp vk vx : Value} {c : Cr} {S once point key ctx : List Nat} (w : Own R h S) (hC : CrAt R h vc c S) (hf : few 1000000 c) (ro : Rn R .u8 vo once) (rp : Rn R .u8 vp point) (rk : Rn R .u8 vk key) (rx : Rn R .u8 vx ctx)
    (bo : Bytes once) (bp : Bytes point) (bk : Bytes key) (bx : Bytes ctx) (lo : once.length ≤ 70368744177664) (lp : point.length ≤ 70368744177664) (lx : ctx.length ≤ 100000)
    (k : ∀ v R' h' S', Stp R h R' h' S S' → CrAt R' h' vc (wrapL c once point key ctx).2.2 S' → (if (wrapL c once point key ctx).1 = 0 then Rn R' .u8 v (wrapL c once point key ctx).2.1 else v = .slice none 0 0) → K (.tuple #[v, .int .i64 (((wrapL c once point key ctx).1 : Nat) : Int)]) h') :
    Cn P n_wrap_Wrap #[vc, vo, vp, vk, vx] h K := by
  refine F_wrap_Wrap ?_
  unfold s_wrap_Wrap
  obtain ⟨ak, ck, rfl, _⟩ := rk.shape
  have ln : ∀ {G : Hp} {K : Value → Prop}, q P G (Builtin.len_ #[t_Sl_uint8] t_int #[.slice ak key.length ck]) K = K (.int .i64 (key.length : Nat)) := fun {G K} => q_lenS u_Sl_uint8 _ _ _
  rw [ln]
  simp -zeta only [GL, ne32]
  by_cases hk : key.length = 32
  · have d0 : decide (key.length ≠ 32) = false := by simp [hk]
    simp -zeta only [d0, Bool.false_eq_true, if_false]
    have b0 : ((0 : Int) != 0) = false := rfl
    have b1 : ((1 : Int) != 0) = true := rfl
    have b10 : ((10 : Int) != 0) = true := rfl
    refine T_Shared (w.rn ro) (w.rn rp) bo bp lo lp (fun hn => ?_) (fun h1 h2 h3 => ?_) fun h1 h2 h3 r1 H1 n1 => ?_
    · have e : wrapL c once point key ctx = (1, [], c) := by rw [wrapL, if_pos fun q => hn ⟨q.2.1, q.2.2⟩]
      rw [e] at k
      rw [ext0, ext1]
      simp -zeta only [GL, b1, if_true]
      exact k _ R h S (.refl w) hC (by simp)
    · have e : wrapL c once point key ctx = (10, [], c) := by rw [wrapL, if_neg fun q => q ⟨hk, h1, h2⟩, if_pos h3]
      rw [e] at k
      rw [ext0, ext1]
      simp -zeta only [GL, b10, if_true]
      exact k _ R h S (.refl w) hC (by simp)
    · have e : wrapL c once point key ctx = (0, [1] ++ point ++ nb (publicF once) ++ (crSeal c (keyW (nb (sharedF once point)) (nb (publicF once)) point) zeros12 ctx key).2.1, (crSeal c (keyW (nb (sharedF once point)) (nb (publicF once)) point) zeros12 ctx key).2.2) := by rw [wrapL, if_neg fun q => q ⟨hk, h1, h2⟩, if_neg h3]
      rw [e] at k
      clear e h3
      generalize sharedF once point = sh at *
      rw [ext0, ext1]
      simp -zeta only [GL, b0, Bool.false_eq_true, if_false]
      obtain ⟨R1, s1, q1⟩ := Stp.newN w n1
      refine T_Public (s1.own.rn (ro.mono s1.ext.cle)) bo lo (fun hn => absurd h1 hn) fun _ r2 H2 n2 => ?_
      generalize publicF once = pu at *
      obtain ⟨R2, s2, q2⟩ := Stp.newN s1.own n2
      have s12 := s1.trans s2
      rw [ext0, ext1, bld_parts _ _ (rn_slice rp) (rn_slice q2)]
      refine aw_allocL [.slice none 0 0, .slice none 0 0, .slice none 0 0] zr_parts rfl fun r hr => ?_
      have fl : ∀ y ∈ [vp, r2, Value.slice none 0 0], flat y = true := by
        intro y hy
        simp only [List.mem_cons, List.not_mem_nil, or_false] at hy
        rcases hy with rfl | rfl | rfl
        · exact rn_flat rp
        · exact rn_flat q2
        · rfl
      refine aw_storeRow (ys := [vp, r2, .slice none 0 0]) sz_parts (Hp.set_same ..) rfl fl (fun i _ => by simp) ?_
      rw [Hp.set_set, q_ldRow (ys := [vp, r2, .slice none 0 0]) u_wrap_parts rfl sz_parts (Hp.set_same ..)]
      have x3 : Hp.ext H2 (H2.set r (.row t_wrap_parts [vp, r2, .slice none 0 0] [Value.slice none 0 0, .slice none 0 0, .slice none 0 0].length (some (0, 0)))) := ext_set _ hr
      have s3 := s12.trans (Stp.ext0 s12.own x3)
      generalize H2.set r (.row t_wrap_parts [vp, r2, .slice none 0 0] [Value.slice none 0 0, .slice none 0 0, .slice none 0 0].length (some (0, 0))) = H3 at *
      have hC3 : CrAt R2 H3 vc c S := hC.keep s3.ext fun b hb => by
        obtain ⟨o, eo⟩ := w.kn b hb
        rw [eo, x3 _ _ (n2.ext _ _ (n1.ext _ _ eo))]
      have rp3 := rp.mono s3.ext.cle
      have ro3 := ro.mono s3.ext.cle
      have q1' := q1.mono s2.ext.cle
      have lpu := nb_len pu
      have lsh := nb_len sh
      rw [show q P emp (nilCk (.func (.method "Seal") #[vc] #[])) = fun K => K (.func (.method "Seal") #[vc] #[]) from funext fun K => q_of (nilSeal' hC3) K]
      refine T_key (vb := .slice none 0 0) (s3.own.rn rp3) (s3.own.rn q2) (s3.own.rn q1') rfl bp (nb_bytes _) (nb_bytes _) (by omega) (by omega) (by omega) fun v4 w4 H4 n4 c4 => ?_
      have lkw := keyW_len (nb sh) (nb pu) point
      have bkw := keyW_bytes (nb sh) (nb pu) point
      generalize keyW (nb sh) (nb pu) point = kw at *
      obtain ⟨R4, s4, q4⟩ := Stp.newN s3.own n4
      replace q4 := c4 _ q4
      refine T_wnonce fun v5 H5 n5 => ?_
      obtain ⟨R5, s5, q5⟩ := Stp.newN s4.own n5
      have s35 := s4.trans s5
      have hC5 : CrAt R5 H5 vc c S := hC3.keep s35.ext fun b hb => by
        obtain ⟨o, eo⟩ := s3.own.kn b hb
        rw [eo, n5.ext _ _ (n4.ext _ _ eo)]
      have s15 := s3.trans s35
      have rx5 := rx.mono s15.ext.cle
      have rk5 := rk.mono s15.ext.cle
      refine T_crSeal s15.own hC5 hf (q4.mono s5.ext.cle) q5 rx5 rk5 bkw zeros12_bytes bx bk (by omega) (by omega) fun v6 R6 H6 S6 s6 hC6 r6 => ?_
      have hm : may kw zeros12 := ⟨lkw, rfl⟩
      have c6 : (crSeal c kw zeros12 ctx key).1 = 0 := by cases c <;> simp only [crSeal, if_pos hm]
      have l6 := crSeal_len c6
      have b6 : Bytes (crSeal c kw zeros12 ctx key).2.1 := crSeal_bytes bk
      rw [c6, if_pos rfl] at r6
      rw [c6]
      generalize (crSeal c kw zeros12 ctx key).2.1 = box at *
      have z0 : (((0 : Nat) : Int) != 0) = false := rfl
      simp -zeta only [ext0, ext1, GL, z0, Bool.false_eq_true, if_false]
      have e7 : fillL [(0, Value.int .u8 1)] (List.replicate 1 (.int .u8 0)) = nv .u8 [1] := rfl
      refine aw_lit (ps := [(0, .int .u8 1)]) u_Sl_uint8 z_uint8 zr_uint8 rfl (by omega) (by intro p hp; rw [List.mem_singleton.1 hp]; exact ⟨rfl, by show 0 < 1; omega⟩) fun v7 H7 n7 _ => ?_
      rw [e7] at n7
      have n7' : Nn H6 t_uint8 .u8 v7 H7 [1] := n7
      have s16 := s15.trans s6
      have up : ∀ {v : Value} {l : List Nat}, Rn R6 .u8 v l → Rn H7 .u8 v l := fun r => (s6.own.rn r).mono n7'.ext.cle
      have u1 := up (rp.mono s16.ext.cle)
      have u2 := up (q2.mono (s35.trans s6).ext.cle)
      have u3 := up r6
      have e8 : fillL [(0, v7), (1, vp), (2, r2), (3, v6)] (List.replicate 4 (.slice none 0 0)) = [v7, vp, r2, v6] := rfl
      refine aw_lit (ps := [(0, v7), (1, vp), (2, r2), (3, v6)]) u_Sl_Sl_uint8 z_Sl_uint8 zr_Sl_uint8 rfl (by omega) (by
        intro p hp
        simp only [List.mem_cons, List.not_mem_nil, or_false] at hp
        rcases hp with rfl | rfl | rfl | rfl
        · exact ⟨rn_flat n7'.rn, by show 0 < 4; omega⟩
        · exact ⟨rn_flat u1, by show 1 < 4; omega⟩
        · exact ⟨rn_flat u2, by show 2 < 4; omega⟩
        · exact ⟨rn_flat u3, by show 3 < 4; omega⟩) fun v8 H8 n8 _ => ?_
      rw [e8] at n8
      have P8 : Parts H8 v8 [[1], point, nb pu, box] := by
        obtain ⟨bb, c, f, hb, hc, rfl, hh, _⟩ := New.form n8 (by omega)
        refine ⟨bb, 0, c, rfl, hc, fun i hi => ?_⟩
        have hrow : H8 bb = some (.row t_Sl_uint8 [v7, vp, r2, v6] (c * 1) (some f)) := by rw [hh, Hp.set_same]
        match i with
        | 0 => exact ⟨v7, by rw [cell_row hrow]; rfl, n7'.rn.mono n8.cle⟩
        | 1 => exact ⟨vp, by rw [cell_row hrow]; rfl, u1.mono n8.cle⟩
        | 2 => exact ⟨r2, by rw [cell_row hrow]; rfl, u2.mono n8.cle⟩
        | 3 => exact ⟨v6, by rw [cell_row hrow]; rfl, u3.mono n8.cle⟩
        | i + 4 => exact absurd hi (by show ¬ i + 4 < 4; omega)
      have fl8 : [[1], point, nb pu, box].flatten = [1] ++ point ++ nb pu ++ box := by simp
      refine T_Concat P8 (by rw [fl8]; simp only [List.length_append, List.length_singleton]; omega) (by show 4 ≤ _; omega) fun v9 H9 n9 => ?_
      rw [fl8] at n9
      have s7 := Stp.ext0 s6.own (n7'.ext.trans n8.ext)
      obtain ⟨R9, s9, q9⟩ := Stp.newN s7.own n9
      have s69 := s7.trans s9
      have hC9 : CrAt R9 H9 vc (crSeal c kw zeros12 ctx key).2.2 S6 := hC6.keep s69.ext fun b hb => by
        obtain ⟨o, eo⟩ := s6.own.kn b hb
        rw [eo, n9.ext _ _ (n8.ext _ _ (n7'.ext _ _ eo))]
      exact k v9 R9 H9 S6 (s16.trans s69) hC9 (by rw [if_pos rfl]; exact q9)
  · have d0 : decide (key.length ≠ 32) = true := by simp [hk]
    simp -zeta only [d0, if_true]
    have e : wrapL c once point key ctx = (1, [], c) := by rw [wrapL, if_pos fun q => hk q.1]
    rw [e] at k
    exact k _ R h S (.refl w) hC (by simp)
end
end Go.Proofs.Ytoikhbagchfeoaa
set_option linter.unusedSimpArgs false
set_option linter.unusedVariables false
set_option maxRecDepth 100000
set_option maxHeartbeats 1000000
namespace Go.Proofs.Ytoikhbagchfeoaa
open Go Go.SL Go.Pure Go.Curve
/-- Is it a packet? Its parts. -/
def isPk (l : List Nat) : Prop := l.length = 113 ∧ l.getD 0 0 = 1
instance (l : List Nat) : Decidable (isPk l) := by unfold isPk; infer_instance
def pkPoint (l : List Nat) : List Nat := (l.take 33).drop 1
def pkOnce (l : List Nat) : List Nat := (l.take 65).drop 33
def pkBox (l : List Nat) : List Nat := (l.take 113).drop 65
theorem bld_parts0 {h : Hp} {K : Value → Prop} : q P h (Instr.build t_wrap_parts #[]) K = K (.agg [Value.slice none 0 0, .slice none 0 0, .slice none 0 0].toArray) := q_of (by kernel_rfl) K
theorem bld_parts3 {h : Hp} {K : Value → Prop} (a b d : Value) (ha : ∃ x n c, a = .slice x n c) (hb : ∃ x n c, b = .slice x n c) (hd : ∃ x n c, d = .slice x n c) : q P h (Instr.build t_wrap_parts #[(0, a), (1, b), (2, d)]) K = K (.agg [a, b, d].toArray) := by
  obtain ⟨x, n, c, rfl⟩ := ha
  obtain ⟨y, m, d', rfl⟩ := hb
  obtain ⟨z, m', e', rfl⟩ := hd
  exact q_of (by kernel_rfl) K
section
variable {h : Hp} {K : Value → Hp → Prop}
theorem T_cut {v : Value} {l : List Nat} (rv : Rn h .u8 v l) (bl : Bytes l) (hl : l.length ≤ 9223372036854775807) (k0 : ¬ isPk l → K (.tuple #[.agg [Value.slice none 0 0, .slice none 0 0, .slice none 0 0].toArray, .bool false]) h)
    (k1 : isPk l → ∀ v1 v2 v3, (∀ H, Rn H .u8 v l → Rn H .u8 v1 (pkPoint l) ∧ Rn H .u8 v2 (pkOnce l) ∧ Rn H .u8 v3 (pkBox l)) → K (.tuple #[.agg [v1, v2, v3].toArray, .bool true]) h) : Cn P n_wrap_cut #[v] h K := by
  obtain ⟨av, cv, rfl, hcv⟩ := rv.shape
  refine Cn_wk (F_wrap_cut ?_)
  unfold s_wrap_cut
  have ln : ∀ {G : Hp} {K : Value → Prop}, q P G (Builtin.len_ #[t_Sl_uint8] t_int #[.slice av l.length cv]) K = K (.int .i64 (l.length : Nat)) := fun {G K} => q_lenS u_Sl_uint8 _ _ _
  refine aw_allocL [.slice none 0 0, .slice none 0 0, .slice none 0 0] zr_parts rfl fun r hr => ?_
  have l3 : [Value.slice none 0 0, .slice none 0 0, .slice none 0 0].length = 3 := rfl
  rw [l3]
  have x0 : Hp.ext h (h.set r (.row t_wrap_parts [.slice none 0 0, .slice none 0 0, .slice none 0 0] 3 (some (0, 0)))) := ext_set _ hr
  have e0 : (h.set r (.row t_wrap_parts [.slice none 0 0, .slice none 0 0, .slice none 0 0] 3 (some (0, 0)))) r = some (.row t_wrap_parts [.slice none 0 0, .slice none 0 0, .slice none 0 0] 3 (some (0, 0))) := Hp.set_same ..
  generalize h.set r (.row t_wrap_parts [.slice none 0 0, .slice none 0 0, .slice none 0 0] 3 (some (0, 0))) = H at *
  have rv0 := rv
  replace rv := rv.mono x0.cle
  have back : ∀ H' : Hp, (∀ b, b ≠ r → H' b = H b) → Hp.le h H' := fun H' f => (show Hp.ext h H' from fun b o e => by
    have hb : b ≠ r := by rintro rfl; rw [hr] at e; cases e
    rw [f b hb]; exact x0 _ _ e).le
  have fin : ∀ (ys : List Value) (b : Bool), ys.length = 3 → (∀ y ∈ ys, flat y = true) → K (.tuple #[.agg ys.toArray, .bool b]) h →
      aw P (Instr.storeAt t_wrap_parts (.pointer (some ⟨r, 0, none⟩)) (.agg ys.toArray)) (fun _ h2 => q P h2 ((asAddr (.pointer (some ⟨r, 0, none⟩))).bind (loadVar t_wrap_parts)) fun r0 => ∃ h0, Hp.le h0 h2 ∧ K (.tuple #[r0, .bool b]) h0) H := by
    intro ys b ly fy kk
    refine aw_storeRow (ys := ys) (by rw [ly]; exact sz_parts) e0 (by rw [ly]; rfl) fy (fun i _ => by simp) ?_
    rw [q_resRow (ys := ys) u_wrap_parts rfl (by rw [ly]; exact sz_parts) (Hp.set_same ..)]
    exact ⟨h, back _ fun b hb => Hp.set_ne _ _ hb, kk⟩
  intro J
  have qt : ¬ isPk l → J (.bool true) H := by
    intro hn
    simp -zeta only [J]
    clear J
    simp -zeta only [GL, if_true]
    rw [bld_parts0]
    refine fin _ false rfl (by
      intro y hy
      simp only [List.mem_cons, List.not_mem_nil, or_false] at hy
      rcases hy with rfl | rfl | rfl <;> rfl) (k0 hn)
  have qf : isPk l → J (.bool false) H := by
    intro hp
    simp -zeta only [J]
    clear qt J
    simp -zeta only [GL, Bool.false_eq_true, if_false]
    have ll := hp.1
    have i1 : (1 : Int) = ((1 : Nat) : Int) := rfl
    have i33 : (33 : Int) = ((33 : Nat) : Int) := rfl
    have i65 : (65 : Int) = ((65 : Nat) : Int) := rfl
    rw [i1, i33]
    refine q_slRnLHM u_Sl_uint8 z_uint8 rv .i64 .i64 .i64 1 33 (by omega) (by omega) fun v1 g1 => ?_
    rw [i65]
    refine q_slRnLHM u_Sl_uint8 z_uint8 rv .i64 .i64 .i64 33 65 (by omega) (by omega) fun v2 g2 => ?_
    rw [ln, ln]
    refine q_slRnLHM u_Sl_uint8 z_uint8 rv .i64 .i64 .i64 65 l.length (by omega) (Nat.le_refl _) fun v3 g3 => ?_
    have r1 := g1 _ rv
    have r2 := g2 _ rv
    have r3 := g3 _ rv
    rw [bld_parts3 _ _ _ (rn_slice r1) (rn_slice r2) (rn_slice r3)]
    refine fin _ true rfl (by
      intro y hy
      simp only [List.mem_cons, List.not_mem_nil, or_false] at hy
      rcases hy with rfl | rfl | rfl
      · exact rn_flat r1
      · exact rn_flat r2
      · exact rn_flat r3) (k1 hp v1 v2 v3 fun G rG => ⟨g1 _ rG, g2 _ rG, by rw [pkBox, ← ll]; exact g3 _ rG⟩)
  clear_value J
  have ne113 : ((((l.length : Nat) : Int)) != 113) = decide (l.length ≠ 113) := ne_dec l.length 113
  simp -zeta only [ln, GL, ne113]
  by_cases h1 : l.length = 113
  · have d1 : decide (l.length ≠ 113) = false := by simp [h1]
    obtain ⟨p, hp1, hp2⟩ := rd_at (P := P) (i := 0) (y := .int .u8 ((l.getD 0 0 : Nat) : Int)) u_Sl_uint8 z_uint8 rv (nv_getD _ _ _ (by omega))
    have z0 : (((0 : Nat) : Int)) = 0 := rfl
    rw [z0] at hp1
    have ne1 : ((((l.getD 0 0 : Nat) : Int)) != 1) = decide (l.getD 0 0 ≠ 1) := ne_dec (l.getD 0 0) 1
    simp -zeta only [d1, if_true, hp1, RL, hp2, GL, ne1]
    by_cases h2 : l.getD 0 0 = 1
    · have d2 : decide (l.getD 0 0 ≠ 1) = false := by simp only [h2, ne_eq, not_true_eq_false, decide_false]
      rw [d2]
      exact qf ⟨h1, h2⟩
    · have d2 : decide (l.getD 0 0 ≠ 1) = true := decide_eq_true h2
      rw [d2]
      exact qt fun q => h2 q.2
  · have d1 : decide (l.length ≠ 113) = true := by simp [h1]
    simp -zeta only [d1, Bool.true_eq_false, if_false]
    exact qt fun q => h1 q.1
/-- What a packet is unwrapped to. -/
def unwrapL (c : Cr) (scalar packet ctx : List Nat) : Nat × List Nat :=
  if scalar.length ≠ 32 then (1, [])
  else if ¬ isPk packet then (8, [])
  else if pkPoint packet ≠ nb (publicF scalar) then (9, [])
  else if sharedF scalar (pkOnce packet) = 0 then (10, [])
  else crOpen c (keyW (nb (sharedF scalar (pkOnce packet))) (pkOnce packet) (pkPoint packet)) zeros12 ctx (pkBox packet)
theorem T_Unwrap {R : Hp} {vc vs vp vx : Value} {c : Cr} {S scalar packet ctx : List Nat} (w : Own R h S) (hC : CrAt R h vc c S) (hf : few 1000000 c) (rs : Rn R .u8 vs scalar) (rp : Rn R .u8 vp packet) (rx : Rn R .u8 vx ctx)
    (bs : Bytes scalar) (bp : Bytes packet) (bx : Bytes ctx) (ls : scalar.length ≤ 70368744177664) (lp : packet.length ≤ 9223372036854775807) (lx : ctx.length ≤ 100000)
    (k : ∀ v R' h', Stp R h R' h' S S → CrAt R' h' vc c S → (if (unwrapL c scalar packet ctx).1 = 0 then Rn R' .u8 v (unwrapL c scalar packet ctx).2 else v = .slice none 0 0) → K (.tuple #[v, .int .i64 (((unwrapL c scalar packet ctx).1 : Nat) : Int)]) h') :
    Cn P n_wrap_Unwrap #[vc, vs, vp, vx] h K := by
  refine F_wrap_Unwrap ?_
  unfold s_wrap_Unwrap
  have b0 : ((0 : Int) != 0) = false := rfl
  have b1 : ((1 : Int) != 0) = true := rfl
  have b10 : ((10 : Int) != 0) = true := rfl
  have keepC : ∀ {R1 R' h1 h' : Hp}, CrAt R1 h1 vc c S → Own R1 h1 S → Hp.ext R1 R' → Hp.ext h1 h' → CrAt R' h' vc c S := fun a o e x => a.keep e fun b hb => by
    obtain ⟨o', eo⟩ := o.kn b hb
    rw [eo, x _ _ eo]
  refine T_Public (w.rn rs) bs ls (fun hn => ?_) fun h32 r1 H1 n1 => ?_
  · have e : unwrapL c scalar packet ctx = (1, []) := by rw [unwrapL, if_pos hn]
    rw [e] at k
    rw [ext0, ext1]
    simp -zeta only [GL, b1, if_true]
    exact k _ R h (.refl w) hC (by simp)
  · have u1 : unwrapL c scalar packet ctx = if ¬ isPk packet then (8, []) else if pkPoint packet ≠ nb (publicF scalar) then (9, []) else if sharedF scalar (pkOnce packet) = 0 then (10, []) else crOpen c (keyW (nb (sharedF scalar (pkOnce packet))) (pkOnce packet) (pkPoint packet)) zeros12 ctx (pkBox packet) := by rw [unwrapL, if_neg fun q => q h32]
    rw [u1] at k
    clear u1
    generalize publicF scalar = pu at *
    rw [ext0, ext1]
    simp -zeta only [GL, b0, Bool.false_eq_true, if_false]
    obtain ⟨R1, s1, q1⟩ := Stp.newN w n1
    have hC1 := keepC hC w s1.ext n1.ext
    refine T_cut (s1.own.rn (rp.mono s1.ext.cle)) bp lp (fun hn => ?_) fun hp v1 v2 v3 g => ?_
    · rw [if_pos hn] at k
      rw [ext0, ext1]
      refine aw_allocL [.slice none 0 0, .slice none 0 0, .slice none 0 0] zr_parts rfl fun r hr => ?_
      refine aw_storeRow (ys := [.slice none 0 0, .slice none 0 0, .slice none 0 0]) sz_parts (Hp.set_same ..) rfl (by
        intro y hy
        simp only [List.mem_cons, List.not_mem_nil, or_false] at hy
        rcases hy with rfl | rfl | rfl <;> rfl) (fun i _ => by simp) ?_
      simp -zeta only [GL, Bool.not_false, if_true]
      rw [Hp.set_set]
      have s2 := Stp.ext0 s1.own (ext_set (.row t_wrap_parts [Value.slice none 0 0, .slice none 0 0, .slice none 0 0] [Value.slice none 0 0, .slice none 0 0, .slice none 0 0].length (some (0, 0))) hr)
      exact k _ R1 _ (s1.trans s2) (keepC hC1 s1.own (.refl _) (ext_set _ hr)) (by simp)
    · rw [if_neg fun q => q hp] at k
      obtain ⟨r1', r2', r3'⟩ := g R1 (rp.mono s1.ext.cle)
      rw [ext0, ext1]
      refine aw_allocL [.slice none 0 0, .slice none 0 0, .slice none 0 0] zr_parts rfl fun r hr => ?_
      refine aw_storeRow (ys := [v1, v2, v3]) sz_parts (Hp.set_same ..) rfl (by
        intro y hy
        simp only [List.mem_cons, List.not_mem_nil, or_false] at hy
        rcases hy with rfl | rfl | rfl
        · exact rn_flat r1'
        · exact rn_flat r2'
        · exact rn_flat r3') (fun i _ => by simp) ?_
      rw [Hp.set_set]
      have x2 := ext_set (.row t_wrap_parts [v1, v2, v3] [Value.slice none 0 0, .slice none 0 0, .slice none 0 0].length (some (0, 0))) hr
      have s2 := s1.trans (Stp.ext0 s1.own x2)
      have hC2 := keepC hC1 s1.own (.refl _) x2
      have e0 : (H1.set r (.row t_wrap_parts [v1, v2, v3] [Value.slice none 0 0, .slice none 0 0, .slice none 0 0].length (some (0, 0)))) r = some (.row t_wrap_parts [v1, v2, v3] 3 (some (0, 0))) := Hp.set_same ..
      generalize H1.set r (.row t_wrap_parts [v1, v2, v3] [Value.slice none 0 0, .slice none 0 0, .slice none 0 0].length (some (0, 0))) = H2 at *
      have c0 : H2.cell ⟨r, 0, none⟩ = some v1 := by rw [cell_row e0]; rfl
      have c1 : H2.cell ⟨r, 1, none⟩ = some v2 := by rw [cell_row e0]; rfl
      have lpt : (pkPoint packet).length = 32 := by have := hp.1; rw [pkPoint, List.length_drop, List.length_take]; omega
      have lon : (pkOnce packet).length = 32 := by have := hp.1; rw [pkOnce, List.length_drop, List.length_take]; omega
      have lbx : (pkBox packet).length = 48 := by have := hp.1; rw [pkBox, List.length_drop, List.length_take]; omega
      have bpt : Bytes (pkPoint packet) := (bp.take 33).drop 1
      have bon : Bytes (pkOnce packet) := (bp.take 65).drop 33
      have bbx : Bytes (pkBox packet) := (bp.take 113).drop 65
      generalize pkPoint packet = pt at *
      generalize pkOnce packet = on at *
      generalize pkBox packet = bx' at *
      simp -zeta only [GL, Bool.not_true, Bool.false_eq_true, if_false, wp0, RL, c0]
      refine T_word_Equal (s2.own.rn r1') (s2.own.rn q1) bpt (nb_bytes _) (by omega) ?_
      by_cases he : pt = nb pu
      · rw [if_neg fun q => q he] at k
        have d : decide (pt = nb pu) = true := decide_eq_true he
        simp -zeta only [d, GL, Bool.not_true, Bool.false_eq_true, if_false, wp1, RL, c1]
        refine T_Shared (s2.own.rn (rs.mono s2.ext.cle)) (s2.own.rn r2') bs bon ls (by omega) (fun hn => absurd ⟨h32, lon⟩ hn) (fun _ _ hz => ?_) fun _ _ hz r4 H4 n4 => ?_
        · rw [if_pos hz] at k
          simp -zeta only [ext0, ext1, GL, b10, if_true]
          exact k _ R1 H2 s2 hC2 (by simp)
        · rw [if_neg hz] at k
          clear hz
          generalize sharedF scalar on = sh at *
          obtain ⟨R4, s4, q4⟩ := Stp.newN s2.own n4
          have hC4 := keepC hC2 s2.own s4.ext n4.ext
          have e4 := n4.ext _ _ e0
          have c2 : ∀ {G : Hp}, Hp.ext H4 G → G.cell ⟨r, 2, none⟩ = some v3 := fun x => by rw [cell_row (x _ _ e4)]; rfl
          simp -zeta only [ext0, ext1, GL, b0, Bool.false_eq_true, if_false, wp2]
          have s24 := s2.trans s4
          rw [q_ldRow (ys := [v1, v2, v3]) u_wrap_parts rfl sz_parts e4]
          have c2H := c2 (.refl H4)
          simp -zeta only [RL, c2H, GL]
          rw [show q P emp (nilCk (.func (.method "Open") #[vc] #[])) = fun K => K (.func (.method "Open") #[vc] #[]) from funext fun K => q_of (nilOpen' hC4) K]
          have r1a := r1'.mono s4.ext.cle
          have r2a := r2'.mono s4.ext.cle
          have r3a := r3'.mono s4.ext.cle
          have lsh := nb_len sh
          refine T_key (vb := v3) (s4.own.rn r1a) (s4.own.rn r2a) (s4.own.rn q4) (rn_flat r3a) bpt bon (nb_bytes _) (by omega) (by omega) (by omega) fun v5 w5 H5 n5 c5 => ?_
          have lkw := keyW_len (nb sh) on pt
          have bkw := keyW_bytes (nb sh) on pt
          generalize keyW (nb sh) on pt = kw at *
          obtain ⟨R5, s5, q5⟩ := Stp.newN s4.own n5
          replace q5 := c5 _ q5
          have hC5 := keepC hC4 s4.own s5.ext n5.ext
          have c2a := c2 n5.ext
          refine ⟨pk_q fun K => by simp only [RL, c2a, GL], pwp2 r, ?_⟩
          refine T_wnonce fun v6 H6 n6 => ?_
          obtain ⟨R6, s6, q6⟩ := Stp.newN s5.own n6
          have hC6 := keepC hC5 s5.own s6.ext n6.ext
          have c2b := c2 (n5.ext.trans n6.ext)
          refine ⟨pk_q fun K => by simp only [RL, c2b, GL], pwp2 r, ?_⟩
          have s56 := s5.trans s6
          refine T_crOpen s6.own hC6 hf (q5.mono s6.ext.cle) q6 (rx.mono (s24.trans s56).ext.cle) (r3a.mono s56.ext.cle) bkw zeros12_bytes bx bbx (by omega) (by omega) fun v7 R7 H7 s7 hC7 r7 => ?_
          simp -zeta only [ext0, ext1]
          exact k v7 R7 H7 ((s24.trans s56).trans s7) hC7 r7
      · rw [if_pos he] at k
        have d : decide (pt = nb pu) = false := decide_eq_false he
        simp -zeta only [d, GL, Bool.not_false, if_true]
        exact k _ R1 H2 s2 hC2 (by simp)
end
end Go.Proofs.Ytoikhbagchfeoaa
set_option linter.unusedSimpArgs false
set_option linter.unusedVariables false
set_option maxRecDepth 100000
namespace Go.Pure
def okAsk (key pre : List Nat) (size : Int) : Prop := key.length = 32 ∧ pre.length = 7 ∧ 1 ≤ size ∧ size ≤ 65536
instance (key pre : List Nat) (size : Int) : Decidable (okAsk key pre size) := by unfold okAsk; infer_instance
end Go.Pure
set_option linter.unusedSimpArgs false
set_option linter.unusedVariables false
set_option maxRecDepth 100000
namespace Go.Pure
/-- A crypt that has sealed more since. -/
def Later (c c' : Cr) : Prop :=
  match c, c' with
  | .real, .real => True
  | .book _ bs, .book _ bs' => bs <+: bs'
  | _, _ => False
theorem Later.refl (c : Cr) : Later c c := by cases c <;> simp [Later]
theorem Later.trans {a b c : Cr} (x : Later a b) (y : Later b c) : Later a c := by
  cases a <;> cases b <;> cases c <;> simp only [Later] at * <;> first | trivial | exact x.elim | exact y.elim | exact x.trans y
theorem seal_later (c : Cr) (key nonce b t : List Nat) : Later c (crSeal c key nonce b t).2.2 := by
  cases c with
  | real => unfold crSeal; dsimp only; split <;> trivial
  | book ts bs =>
    unfold crSeal; dsimp only; split
    · exact List.prefix_append _ _
    · exact List.prefix_refl _
/-- How much was sealed. -/
def much (c : Cr) : Nat := match c with
  | .real => 0
  | .book _ bs => bs.length
theorem crSeal_open {c c2 : Cr} {key nonce b t : List Nat} (h0 : (crSeal c key nonce b t).1 = 0) (hl : Later (crSeal c key nonce b t).2.2 c2) (hm : much c < 18446744073709551616) : crOpen c2 key nonce b (crSeal c key nonce b t).2.1 = (0, t) := by
  cases c with
  | real =>
    unfold crSeal at h0 hl ⊢
    dsimp only at h0 hl ⊢
    by_cases hmay : may key nonce
    · rw [if_pos hmay] at hl ⊢
      cases c2 with
      | real => unfold crOpen; rw [if_pos hmay]; exact open_seal _ _ _ _
      | book _ _ => exact hl.elim
    · rw [if_neg hmay] at h0; cases h0
  | book ts bs =>
    unfold crSeal at h0 hl ⊢
    dsimp only at h0 hl ⊢
    by_cases hmay : may key nonce
    · rw [if_pos hmay] at hl ⊢
      cases c2 with
      | real => exact hl.elim
      | book ts2 bs2 =>
        unfold crOpen; rw [if_pos hmay]
        show bookOpen bs2 key nonce b (boxB bs.length (t.length + 16)) = _
        unfold bookOpen
        have hm : bs.length < 18446744073709551616 := hm
        have p8 : (256 : Nat) ^ 8 = 18446744073709551616 := rfl
        rw [if_neg (by rw [boxB_len]; omega), boxB_take8 _ _ (by omega), bval_bg, p8, Nat.mod_eq_of_lt hm]
        have hl' : bs ++ [(⟨key, nonce, b, t⟩ : Box)] <+: bs2 := hl
        obtain ⟨z, hz⟩ := hl'
        have : bs2[bs.length]? = some ⟨key, nonce, b, t⟩ := by rw [← hz]; simp
        rw [this]
        simp
    · rw [if_neg hmay] at h0; cases h0
end Go.Pure
set_option linter.unusedSimpArgs false
set_option linter.unusedVariables false
set_option maxRecDepth 100000
set_option maxHeartbeats 1000000
namespace Go.Proofs.Ytoikhbagchfeoaa
open Go Go.SL Go.Pure Go.Curve
theorem clamp_val {k : List Nat} (hb : Bytes k) (hl : k.length = 32) : ∃ m, leval (clampL k) = 8 * m ∧ 2 ^ 251 ≤ m ∧ m < 2 ^ 252 := by
  match k, hb, hl with
  | a :: t, hb, hl =>
    have lt : t.length = 31 := by rw [List.length_cons] at hl; omega
    have ha : a < 256 := hb a (by simp)
    have hz : (a :: t).getD 31 0 % 64 + 64 < 256 := by omega
    have e : clampL (a :: t) = (a / 8 * 8) :: (t.take 30 ++ [(a :: t).getD 31 0 % 64 + 64]) := by
      show (a / 8 * 8) :: t.set 30 _ = _
      rw [List.set_eq_take_append_cons_drop, if_pos (by omega), List.drop_eq_nil_of_le (by omega)]
    have br : Bytes (t.take 30) := fun x hx => hb x (List.mem_cons_of_mem _ (List.mem_of_mem_take hx))
    have lr : (t.take 30).length = 30 := by rw [List.length_take]; omega
    have v := leval_lt _ br
    rw [e, leval, leval_append]
    rw [lr] at v ⊢
    show ∃ m, a / 8 * 8 + 256 * (leval (t.take 30) + 256 ^ 30 * ((a :: t).getD 31 0 % 64 + 64 + 256 * 0)) = 8 * m ∧ _
    generalize leval (t.take 30) = r at *
    generalize (a :: t).getD 31 0 = z at *
    have p1 : (2 : Nat) ^ 251 = 2048 * 256 ^ 30 := by decide +kernel
    have p2 : (2 : Nat) ^ 252 = 4096 * 256 ^ 30 := by decide +kernel
    rw [p1, p2]
    generalize (256 : Nat) ^ 30 = B at *
    have w1 : B * 64 ≤ B * (z % 64 + 64) := Nat.mul_le_mul_left _ (by omega)
    have w2 : B * (z % 64 + 64) ≤ B * 127 := Nat.mul_le_mul_left _ (by omega)
    rw [Nat.mul_zero, Nat.add_zero]
    generalize B * (z % 64 + 64) = w at *
    refine ⟨a / 8 + 32 * (r + w), ?_, ?_, ?_⟩ <;> omega
theorem clamp_ne {k : List Nat} (hb : Bytes k) (hl : k.length = 32) : numB (bitsK (clampL k)) 0 % el ≠ 0 := by
  obtain ⟨m, e, h1, h2⟩ := clamp_val hb hl
  have p3 : (2 : Nat) ^ 255 = 8 * 2 ^ 252 := by decide +kernel
  have lt : 8 * m < 2 ^ 255 := by rw [p3]; exact Nat.mul_lt_mul_of_pos_left h2 (by decide)
  have e2 : 8 * m % 2 ^ 255 = 8 * m := Nat.mod_eq_of_lt lt
  have e3 : numB (bitsK (clampL k)) 0 = 8 * m := by rw [bitsK, numB_bits, e, Nat.zero_mul, Nat.zero_add, e2]
  rw [e3]
  exact clamped h1 h2
theorem shared_nb (k : List Nat) (x : F) : sharedF k (nb x) = xlad (bitsK (clampL k)) x := by
  have lt : x.val < 57896044618658097711785492504343953926634992332820282019728792003956564819968 := Nat.lt_trans x.isLt (by decide)
  rw [sharedF, leval_nb, Nat.mod_eq_of_lt lt, ph_self]
theorem dh {a b : List Nat} (ha : Bytes a) (hb : Bytes b) (la : a.length = 32) (lb : b.length = 32) : sharedF a (nb (publicF b)) = sharedF b (nb (publicF a)) := by
  rw [shared_nb, shared_nb]
  exact xlad_comm _ _ (clamp_ne ha la) (clamp_ne hb lb)
theorem dh0 {a b : List Nat} (ha : Bytes a) (hb : Bytes b) (la : a.length = 32) (lb : b.length = 32) : sharedF a (nb (publicF b)) ≠ 0 := by
  rw [shared_nb]
  exact xlad_ne0 _ _ (clamp_ne ha la) (clamp_ne hb lb)
def zeros32 : List Nat := List.replicate 32 0
theorem zeros32_bytes : Bytes zeros32 := fun x hx => by rw [List.eq_of_mem_replicate hx]; decide
theorem low0 : sharedF zeros32 zeros32 = 0 := by decide +kernel
/-- A packet of a public point. -/
theorem wrap_to {c : Cr} {once scalar key ctx : List Nat} (bo : Bytes once) (bs : Bytes scalar) (bk : Bytes key) (lo : once.length = 32) (ls : scalar.length = 32) (lk : key.length = 32) (hm : much c < 18446744073709551616) :
    ∃ X, (wrapL c once (nb (publicF scalar)) key ctx).1 = 0 ∧ (wrapL c once (nb (publicF scalar)) key ctx).2.1 = X ∧ X.length = 113 ∧ Bytes X ∧ isPk X ∧ pkPoint X = nb (publicF scalar) ∧ pkOnce X = nb (publicF once) ∧
      Later c (wrapL c once (nb (publicF scalar)) key ctx).2.2 ∧
      (∀ c2, Later (wrapL c once (nb (publicF scalar)) key ctx).2.2 c2 → unwrapL c2 scalar X ctx = (0, key)) ∧
      ∀ c2 other, other.length = 32 → nb (publicF other) ≠ nb (publicF scalar) → unwrapL c2 other X ctx = (9, []) := by
  have hnb := nb_len (publicF scalar)
  have hno := nb_len (publicF once)
  have e : wrapL c once (nb (publicF scalar)) key ctx = (0, [1] ++ nb (publicF scalar) ++ nb (publicF once) ++ (crSeal c (keyW (nb (sharedF once (nb (publicF scalar)))) (nb (publicF once)) (nb (publicF scalar))) zeros12 ctx key).2.1, (crSeal c (keyW (nb (sharedF once (nb (publicF scalar)))) (nb (publicF once)) (nb (publicF scalar))) zeros12 ctx key).2.2) := by
    rw [wrapL, if_neg fun q => q ⟨lk, lo, hnb⟩, if_neg (dh0 bo bs lo ls)]
  have d := dh bo bs lo ls
  have d0 := dh0 bs bo ls lo
  rw [d] at e
  rw [e]
  clear e d
  have hmay : may (keyW (nb (sharedF scalar (nb (publicF once)))) (nb (publicF once)) (nb (publicF scalar))) zeros12 := ⟨keyW_len _ _ _, rfl⟩
  have c0 : (crSeal c (keyW (nb (sharedF scalar (nb (publicF once)))) (nb (publicF once)) (nb (publicF scalar))) zeros12 ctx key).1 = 0 := by cases c <;> simp only [crSeal, if_pos hmay]
  have l6 := crSeal_len c0
  have b6 : Bytes (crSeal c (keyW (nb (sharedF scalar (nb (publicF once)))) (nb (publicF once)) (nb (publicF scalar))) zeros12 ctx key).2.1 := crSeal_bytes bk
  have op := fun c2 (hl : Later _ c2) => crSeal_open c0 hl hm
  have sl := seal_later c (keyW (nb (sharedF scalar (nb (publicF once)))) (nb (publicF once)) (nb (publicF scalar))) zeros12 ctx key
  have sh := keyW_len (nb (sharedF scalar (nb (publicF once)))) (nb (publicF once)) (nb (publicF scalar))
  have ub : ∀ c2 s X, unwrapL c2 s X ctx = if s.length ≠ 32 then (1, []) else if ¬ isPk X then (8, []) else if pkPoint X ≠ nb (publicF s) then (9, []) else if sharedF s (pkOnce X) = 0 then (10, []) else crOpen c2 (keyW (nb (sharedF s (pkOnce X))) (pkOnce X) (pkPoint X)) zeros12 ctx (pkBox X) := fun c2 s X => rfl
  have bp := nb_bytes (publicF scalar)
  have bq := nb_bytes (publicF once)
  generalize hKW : keyW (nb (sharedF scalar (nb (publicF once)))) (nb (publicF once)) (nb (publicF scalar)) = kw at *
  generalize hBX : (crSeal c kw zeros12 ctx key).2.1 = box at *
  generalize (crSeal c kw zeros12 ctx key).2.2 = c' at *
  generalize hP : nb (publicF scalar) = pt at *
  generalize hO : nb (publicF once) = on at *
  rw [lk] at l6
  have hX : ([1] ++ pt ++ on ++ box).length = 113 := by simp only [List.length_append, List.length_singleton]; omega
  have t33 : ([1] ++ pt ++ on ++ box).take 33 = [1] ++ pt := by
    rw [List.append_assoc, List.append_assoc, ← List.append_assoc [1], List.take_left' (by simp only [List.length_append, List.length_singleton]; omega)]
  have t65 : ([1] ++ pt ++ on ++ box).take 65 = [1] ++ pt ++ on := by
    rw [List.take_left' (by simp only [List.length_append, List.length_singleton]; omega)]
  have hpt : pkPoint ([1] ++ pt ++ on ++ box) = pt := by rw [pkPoint, t33]; rfl
  have hon : pkOnce ([1] ++ pt ++ on ++ box) = on := by
    rw [pkOnce, t65, List.drop_left' (by simp only [List.length_append, List.length_singleton]; omega)]
  have hbx : pkBox ([1] ++ pt ++ on ++ box) = box := by
    rw [pkBox, List.take_of_length_le (by omega), List.drop_left' (by simp only [List.length_append, List.length_singleton]; omega)]
  have hip : isPk ([1] ++ pt ++ on ++ box) := ⟨hX, rfl⟩
  have hby : Bytes ([1] ++ pt ++ on ++ box) := (((show Bytes [1] from fun x hx => by rw [List.mem_singleton.1 hx]; decide).append bp).append bq).append b6
  refine ⟨_, rfl, rfl, hX, hby, hip, hpt, hon, sl, fun c2 hl => ?_, fun c2 other lo' hne => ?_⟩
  · rw [ub, if_neg fun q => q ls, if_neg fun q => q hip, hpt, hP, if_neg fun q => q rfl, hon, if_neg d0, hbx, hKW]
    exact op c2 hl
  · rw [ub, if_neg fun q => q lo', if_neg fun q => q hip, hpt, if_pos fun q => hne q.symm]
end Go.Proofs.Ytoikhbagchfeoaa
set_option linter.unusedSimpArgs false
set_option linter.unusedVariables false
set_option maxRecDepth 100000
set_option maxHeartbeats 1000000
namespace Go.Proofs.Ytoikhbagchfeoaa
open Go Go.SL Go.Pure
/-- Bytes that were made on the way from h to h'. -/
def Res (h : Hp) (v : Value) (h' : Hp) (l : List Nat) : Prop :=
  Hp.ext h h' ∧ ((∀ R, Rn R .u8 v l) ∨ ∃ b o, h b = none ∧ h' b = some o ∧ ∀ R : Hp, R b = some o → Rn R .u8 v l)
theorem Res.rn {h : Hp} {v : Value} {h' : Hp} {l : List Nat} (r : Res h v h' l) : Rn h' .u8 v l := by
  rcases r.2 with q | ⟨b, o, _, e, q⟩
  · exact q h'
  · exact q h' e
theorem Res.up {h0 h : Hp} {v : Value} {h' : Hp} {l : List Nat} (x : Hp.ext h0 h) (r : Res h v h' l) : Res h0 v h' l := by
  refine ⟨x.trans r.1, r.2.imp id fun ⟨b, o, hb, e, q⟩ => ⟨b, o, x.none hb, e, q⟩⟩
section
variable {h : Hp} {K : Value → Hp → Prop}
end
end Go.Proofs.Ytoikhbagchfeoaa
set_option linter.unusedSimpArgs false
set_option linter.unusedVariables false
set_option maxRecDepth 100000
set_option maxHeartbeats 1000000
namespace Go.Proofs.Ytoikhbagchfeoaa
open Go Go.SL Go.Pure
theorem CrAt.ext {R R' h h' : Hp} {vc : Value} {c : Cr} {S : List Nat} (a : CrAt R h vc c S) (w : Own R h S) (e : Hp.ext R R') (x : Hp.ext h h') : CrAt R' h' vc c S := a.keep e fun b hb => by
  obtain ⟨o, eo⟩ := w.kn b hb
  rw [eo, x _ _ eo]
section
variable {h : Hp} {K : Value → Hp → Prop}
end
end Go.Proofs.Ytoikhbagchfeoaa
set_option linter.unusedSimpArgs false
set_option linter.unusedVariables false
set_option maxRecDepth 100000
set_option maxHeartbeats 1000000
namespace Go.Proofs.Ytoikhbagchfeoaa
open Go Go.SL Go.Pure
def small17 (ctx layer : List Nat) (size : Int) : Prop := ctx.length ≤ 300 ∧ layer.length ≤ 1500 ∧ (size < 1 ∨ (layer.length : Int).tdiv size ≤ 60)
instance (ctx layer : List Nat) (size : Int) : Decidable (small17 ctx layer size) := by unfold small17; infer_instance
theorem q_eqlNilI {h : Hp} {K : Value → Prop} (x y : Operand) (t : Nat) (v : Value) : q P h (eqop .eql t_crypt_Crypt x y (.iface t v) .nilIface) K = K (.bool false) := q_of (by
  unfold eqop
  rw [peek_bind]
  have : peek P h (eqGuard .eql t_crypt_Crypt x y (.iface t v) .nilIface) = some () := by rfl
  rw [this, Option.bind_some]
  show peek P h (Sem.bind (Op.equal t_crypt_Crypt (.iface t v) .nilIface) _) = _
  rw [peek_bind]
  have : peek P h (Op.equal t_crypt_Crypt (.iface t v) .nilIface) = some false := by
    show peek P h (Sem.bind (underlying t_crypt_Crypt) _) = _
    rw [peek_bind, pk_und u_crypt_Crypt]
    rfl
  rw [this]
  rfl) K
section
variable {h : Hp} {K : Value → Hp → Prop}
end
end Go.Proofs.Ytoikhbagchfeoaa
set_option linter.unusedSimpArgs false
set_option linter.unusedVariables false
set_option maxRecDepth 100000
set_option maxHeartbeats 1000000
namespace Go.Proofs.Ytoikhbagchfeoaa
open Go Go.SL Go.Pure Go.Curve
theorem few_wrap {n : Nat} {c : Cr} {once point key ctx : List Nat} (f : few n c) (lk : key.length ≤ 1099511627776) : few (n + 1) (wrapL c once point key ctx).2.2 := by
  have g := f.next (keyW (nb (sharedF once point)) (nb (publicF once)) point) zeros12 ctx key lk
  rw [wrapL]
  by_cases h1 : ¬ (key.length = 32 ∧ once.length = 32 ∧ point.length = 32)
  · rw [if_pos h1]
    exact f.mono (Nat.le_succ n)
  · rw [if_neg h1]
    generalize sharedF once point = sh at g ⊢
    by_cases h2 : sh = 0
    · rw [if_pos h2]
      exact f.mono (Nat.le_succ n)
    · rw [if_neg h2]
      dsimp only
      exact g
theorem nil_b : Bytes ([] : List Nat) := by intro y hy; cases hy
section
variable {h : Hp} {K : Value → Hp → Prop}
theorem T_awake18 (k : ∀ h', Hp.ext h h' → K (.bool true) h') : Cn P n_orloplaw18_awake #[] h K := by
  refine F_orloplaw18_awake ?_
  unfold s_orloplaw18_awake
  have w0 : Own h h [] := ⟨.refl _, fun b hb => (by cases hb), fun b hb => (by cases hb)⟩
  refine T_Book w0 fun p h1 S1 hB o1 s1 _ => ?_
  have x1 : Hp.ext h h1 := s1.own.sub
  simp -zeta only [q_eqlNilI, GL, RL, Bool.false_eq_true, if_false, if_true, Bool.true_eq_false]
  refine aw_make (n := 32) (c := 32) u_Sl_uint8 nfo_uint8 rfl (by omega) (by omega) (by omega) fun t16 h2 n2 => ?_
  rw [replicate_nv] at n2
  have n2' : Nn h1 t_uint8 .u8 t16 h2 zeros32 := n2
  obtain ⟨R2, s2, q2⟩ := Stp.newN o1 n2'
  have C2 : CrAt R2 h2 (.iface t_Pt_crypt_book (.pointer (some ⟨p, 0, none⟩))) (.book [] []) S1 := CrAt.ext (c := .book [] []) ⟨p, rfl, hB⟩ o1 s2.ext n2'.ext
  have lz : zeros32.length = 32 := rfl
  have bz := zeros32_bytes
  have f0 : few 1000000 (.book [] [] : Cr) := ⟨by simp, fun s hs => by cases hs⟩
  have e1 : wrapL (.book [] []) zeros32 zeros32 zeros32 [] = (10, [], .book [] []) := by rw [wrapL, if_neg fun q => q ⟨lz, lz, lz⟩, if_pos low0]
  obtain ⟨X, w0', w1, w2, w3, _, _, _, _, w8, _⟩ := wrap_to (c := .book [] []) (ctx := []) bz bz bz lz lz lz (by simp [much])
  have e2 : unwrapL (.book [] []) zeros32 [] [] = (8, []) := by
    rw [unwrapL, if_neg fun q => q lz, if_pos (by decide)]
  have z10 : ((((10 : Nat) : Int)) == 10) = true := rfl
  have z8 : ((((8 : Nat) : Int)) == 8) = true := rfl
  have z0 : ((((0 : Nat) : Int)) == 0) = true := rfl
  have z113 : ((((113 : Nat) : Int)) == 113) = true := rfl
  generalize zeros32 = z at *
  generalize hvc : (.iface t_Pt_crypt_book (.pointer (some ⟨p, 0, none⟩)) : Value) = vc at *
  refine T_Wrap s2.own C2 f0 q2 q2 q2 (rn_nil _ _) bz bz bz nil_b (by omega) (by omega) (by simp) fun v3 R3 h3 S3 s3 C3 _ => ?_
  rw [e1] at C3 ⊢
  rw [ext0, ext1]
  refine T_Unwrap s3.own C3 f0 (q2.mono s3.ext.cle) (rn_nil _ _) (rn_nil _ _) bz nil_b nil_b (by omega) (by simp) (by simp) fun v4 R4 h4 s4 C4 _ => ?_
  rw [e2]
  rw [ext0, ext1]
  have q4 := q2.mono (s3.ext.trans s4.ext).cle
  refine T_Public (s4.own.rn q4) bz (by omega) (fun hn => absurd lz hn) fun _ v5 h5 n5 => ?_
  obtain ⟨R5, s5, q5⟩ := Stp.newN s4.own n5
  have C5 := CrAt.ext C4 s4.own s5.ext n5.ext
  rw [ext0, ext1]
  have l5 := nb_len (publicF z)
  have q45 := q4.mono s5.ext.cle
  refine T_Wrap s5.own C5 f0 q45 q5 q45 (rn_nil _ _) bz (nb_bytes _) bz nil_b (by omega) (by omega) (by simp) fun v6 R6 h6 S6 s6 C6 r6 => ?_
  have w8' := w8 _ (.refl _)
  rw [w0', w1, if_pos rfl] at r6
  rw [w0']
  have f1 : few 1000000 (wrapL (.book [] []) z (nb (publicF z)) z []).2.2 := by
    have : few (0 + 1) (wrapL (.book [] []) z (nb (publicF z)) z []).2.2 := few_wrap ⟨Nat.le_refl _, fun s hs => by cases hs⟩ (by omega)
    exact this.mono (by omega)
  generalize (wrapL (.book [] []) z (nb (publicF z)) z []).2.2 = c6 at *
  rw [ext0, ext1]
  have q46 := q45.mono s6.ext.cle
  refine T_Unwrap s6.own C6 f1 q46 r6 (rn_nil _ _) bz w3 nil_b (by omega) (by omega) (by simp) fun v7 R7 h7 s7 C7 r7 => ?_
  rw [w8', if_pos rfl] at r7
  rw [w8']
  have r7 : Rn R7 .u8 v7 z := r7
  rw [ext0, ext1]
  obtain ⟨a6, c6', rfl, _⟩ := r6.shape
  have ln : ∀ {G : Hp} {K : Value → Prop}, q P G (Builtin.len_ #[t_Sl_uint8] t_int #[.slice a6 X.length c6']) K = K (.int .i64 ((113 : Nat) : Int)) := fun {G K} => by rw [q_lenS u_Sl_uint8, w2]
  simp -zeta only [ln, GL, z10, z8, z0, z113, if_true]
  refine T_orlopref01_Equal (s7.own.rn r7) (s7.own.rn (q46.mono s7.ext.cle)) (by omega) ?_
  rw [decide_eq_true rfl]
  exact k _ ((((((s2.ext.trans s3.ext).trans s4.ext).trans s5.ext).trans s6.ext).trans s7.ext).trans s7.own.sub)
end
end Go.Proofs.Ytoikhbagchfeoaa
set_option linter.unusedSimpArgs false
set_option linter.unusedVariables false
set_option maxRecDepth 100000
set_option maxHeartbeats 1000000
namespace Go.Proofs.Ytoikhbagchfeoaa
open Go Go.SL Go.Pure Go.Curve
theorem af18_0 {h : Hp} {K : Value → Prop} (r : Nat) : q P h (Instr.fieldAt t_orloplaw18_Ask (.pointer (some ⟨r, 0, none⟩)) 0) K = K (.pointer (some ⟨r, 0, none⟩)) := q_of (by kernel_rfl) K
theorem af18_1 {h : Hp} {K : Value → Prop} (r : Nat) : q P h (Instr.fieldAt t_orloplaw18_Ask (.pointer (some ⟨r, 0, none⟩)) 1) K = K (.pointer (some ⟨r, 32, none⟩)) := q_of (by kernel_rfl) K
theorem af18_2 {h : Hp} {K : Value → Prop} (r : Nat) : q P h (Instr.fieldAt t_orloplaw18_Ask (.pointer (some ⟨r, 0, none⟩)) 2) K = K (.pointer (some ⟨r, 64, none⟩)) := q_of (by kernel_rfl) K
theorem af18_3 {h : Hp} {K : Value → Prop} (r : Nat) : q P h (Instr.fieldAt t_orloplaw18_Ask (.pointer (some ⟨r, 0, none⟩)) 3) K = K (.pointer (some ⟨r, 96, none⟩)) := q_of (by kernel_rfl) K
theorem sl18_0 {h : Hp} {K : Value → Prop} (r : Nat) : q P h (Instr.sliceAt t_32_uint8 (.pointer (some ⟨r, 0, none⟩)) none none none) K = K (.slice (some ⟨r, 0, none⟩) 32 32) := q_of (by kernel_rfl) K
theorem sl18_1 {h : Hp} {K : Value → Prop} (r : Nat) : q P h (Instr.sliceAt t_32_uint8 (.pointer (some ⟨r, 32, none⟩)) none none none) K = K (.slice (some ⟨r, 32, none⟩) 32 32) := q_of (by kernel_rfl) K
theorem sl18_2 {h : Hp} {K : Value → Prop} (r : Nat) : q P h (Instr.sliceAt t_32_uint8 (.pointer (some ⟨r, 64, none⟩)) none none none) K = K (.slice (some ⟨r, 64, none⟩) 32 32) := q_of (by kernel_rfl) K
/-- The cells of an ask. -/
def ask18C (o s k : List Nat) (vx : Value) : List Value := nv .u8 o ++ nv .u8 s ++ nv .u8 k ++ [vx]
theorem ask18C_len {o s k : List Nat} {vx : Value} (lo : o.length = 32) (ls : s.length = 32) (lk : k.length = 32) : (ask18C o s k vx).length = 97 := by simp [ask18C, nv_len, lo, ls, lk]
/-- A row that holds an ask. -/
structure Ask18 (R : Hp) (r : Nat) (o s k : List Nat) (vx : Value) (x : List Nat) : Prop where
  row : ∃ f, R r = some (.row t_orloplaw18_Ask (ask18C o s k vx) 97 f)
  lo : o.length = 32
  ls : s.length = 32
  lk : k.length = 32
  bo : Bytes o
  bs : Bytes s
  bk : Bytes k
  bx : Bytes x
  rx : Rn R .u8 vx x
theorem rn_part {h : Hp} {r e c : Nat} {f : Option (Nat × Nat)} {A B C : List Value} {l : List Nat} {o n : Nat} (hr : h r = some (.row e (A ++ nv .u8 l ++ C) c f)) (hA : A.length = o) (hl : l.length = n) : Rn h .u8 (.slice (some ⟨r, o, none⟩) n n) l := by
  subst hl hA
  refine ⟨by rw [nv_len]; omega, some ⟨r, A.length, none⟩, l.length, rfl, Nat.le_refl _, .inr ⟨r, A.length, rfl, fun i y ey => ?_⟩⟩
  have hi := (List.getElem?_eq_some_iff.1 ey).1
  rw [cell_row hr, List.append_assoc, List.getElem?_append_right (by omega), List.getElem?_append_left (by omega), show A.length + i - A.length = i by omega]
  exact ey
theorem Ask18.facts {R h : Hp} {r : Nat} {o s k : List Nat} {vx : Value} {x : List Nat} (a : Ask18 R r o s k vx x) (e : Hp.ext R h) :
    Rn h .u8 (.slice (some ⟨r, 0, none⟩) 32 32) o ∧ Rn h .u8 (.slice (some ⟨r, 32, none⟩) 32 32) s ∧ Rn h .u8 (.slice (some ⟨r, 64, none⟩) 32 32) k ∧ h.cell ⟨r, 96, none⟩ = some vx ∧ Rn h .u8 vx x := by
  obtain ⟨⟨f, hr⟩, lo, ls, lk, _, _, _, _, rx⟩ := a
  have hr := e _ _ hr
  have lo' : (nv .u8 o).length = 32 := by rw [nv_len, lo]
  have ls' : (nv .u8 s).length = 32 := by rw [nv_len, ls]
  have lk' : (nv .u8 k).length = 32 := by rw [nv_len, lk]
  refine ⟨rn_part (e := t_orloplaw18_Ask) (c := 97) (f := f) (A := []) (B := []) (C := nv .u8 s ++ (nv .u8 k ++ [vx])) (by rw [hr]; simp [ask18C]) rfl lo, rn_part (e := t_orloplaw18_Ask) (c := 97) (f := f) (A := nv .u8 o) (B := []) (C := nv .u8 k ++ [vx]) (by rw [hr]; simp [ask18C]) lo' ls, rn_part (A := nv .u8 o ++ nv .u8 s) (B := []) (C := [vx]) hr (by rw [List.length_append, lo', ls']) lk, ?_, rx.mono e.cle⟩
  rw [cell_row hr, ask18C, List.getElem?_append_right (by simp only [List.length_append]; omega)]
  simp only [List.length_append, lo', ls', lk']
  rfl
theorem cells18 {o s k : List Nat} {vx : Value} : (Value.agg (ask18C o s k vx).toArray).cells.toList = ask18C o s k vx := rfl
theorem sizes18 {o s k : List Nat} {vx : Value} (lo : o.length = 32) (ls : s.length = 32) (lk : k.length = 32) : (Value.agg (ask18C o s k vx).toArray).cells.size = 97 := ask18C_len lo ls lk
section
variable {h : Hp} {K : Value → Hp → Prop}
end
end Go.Proofs.Ytoikhbagchfeoaa
set_option linter.unusedSimpArgs false
set_option linter.unusedVariables false
namespace Go.SL
open Go
theorem wf_u8n (n : Int) (h : (Lit.int .u8 n).wf = true) : 0 ≤ n ∧ n < (256 : Nat) := by
  simp [Lit.wf, IntKind.min, IntKind.max, IntKind.signed, IntKind.bits] at h
  omega
end Go.SL
set_option linter.unusedSimpArgs false
set_option linter.unusedVariables false
set_option maxRecDepth 100000
namespace Go.Proofs.Ytoikhbagchfeoaa
open Go Go.SL Go.Pure
open Go.ChangeShapes Go.WideShapes Go.ChangeAt Go.RowKit
/-- All cells that lie in memory, to read. -/
def readAll (w : World) : Hp := fun b => match w.heap[b]? with
  | some (.cells c e _) => some (.row e c.toList c.size none)
  | _ => none
theorem readAll_sat (w : World) : (readAll w).sat w := by
  intro b o e
  unfold readAll at e
  split at e
  · rename_i c el f hb
    cases e
    refine ⟨_, hb, rfl, rfl, by simp, fun i v hv => by simpa using hv, fun f hf => by cases hf⟩
  · cases e
theorem readAll_own (w : World) (b : Nat) : ¬ (readAll w).own b := by
  rintro ⟨o, e, hr⟩
  unfold readAll at e
  split at e
  · cases e; cases hr
  · cases e
theorem readAll_cell {w : World} {b o : Nat} {v : Value} (e : w.cell? ⟨b, o, none⟩ = some v) : (readAll w).cell ⟨b, o, none⟩ = some v := by
  unfold World.cell? at e
  unfold Hp.cell readAll
  dsimp only at e ⊢
  split at e
  · rename_i c el f hb
    rw [hb]
    simpa using e
  · cases e
theorem below_of {w w' : World} {h' : Hp} (f : Fr (readAll w) h' w w') : Below w.heap.size w w' :=
  ⟨f.os, f.tape, f.output, f.size, fun k hk => f.keep k hk (readAll_own w k)⟩
theorem ownNone : ownKnob Try.prog.godebug = none := by kernel_rfl
theorem laidOut : laidOutB Try.prog = true := by kernel_rfl
/-- The walk of a statement that tells true. -/
theorem tells_true {f : FuncId} {args : Array Value} {w : World} (c : Cn P f args (readAll w) fun v _ => v = .bool true) : Calls P f args w fun e w' => e = .returned (.bool true) ∧ Below w.heap.size w w' :=
  (c.2 w (readAll_sat w)).mono fun e w' ⟨v, h', he, _, f', hv⟩ => ⟨by rw [he, hv], below_of f'⟩
end Go.Proofs.Ytoikhbagchfeoaa
set_option linter.unusedSimpArgs false
set_option linter.unusedVariables false
set_option maxRecDepth 100000
namespace Go.Proofs.Ytoikhbagchfeoaa
open Go Go.SL Go.Pure
open Go.ChangeShapes Go.WideShapes Go.ChangeAt Go.RowKit
theorem ty_open {H : Type} {enc : TypeId × Value → H} {w : World} : ∀ (ty : Ty),
    (∀ (t : TypeId) (fuel : Nat) (cs : List Value) (x : DataW H × List MemPlace), tyB P ty (.inl t) = true → DataW.trod enc P w 0 (fun _ => true) true fuel t cs = some x → ty.Rd (readAll w) cs) ∧
    (∀ (o : Nat) (l : List Field) (n : Nat) (cs : List Value), tyB P ty (.inr (o, l)) = true → cs.length = o + ty.size → (∀ (j : Nat) (f : Field), l[j]? = some f → ∃ y, DataW.trod enc P w 0 (fun _ => true) true n f.type ((cs.drop f.offset).take (P.cellsOf f.type)) = some y) → ty.Rd (readAll w) (cs.drop o)) := by
  intro ty
  induction ty with
  | int k =>
    refine ⟨fun t fuel cs x hb h => ?_, fun o l n cs hb => by simp [tyB] at hb⟩
    unfold tyB at hb
    split at hb
    · rename_i k' hu
      obtain ⟨n, rfl, _, hw⟩ := DataW.trod_int hu h
      rw [beq_iff_eq] at hb
      subst hb
      exact ⟨n, rfl, hw⟩
    · cases hb
  | bool =>
    refine ⟨fun t fuel cs x hb h => ?_, fun o l n cs hb => by simp [tyB] at hb⟩
    unfold tyB at hb
    split at hb
    · rename_i hu
      obtain ⟨b, rfl, _⟩ := DataW.trod_bool hu h
      exact ⟨b, rfl⟩
    · cases hb
  | str =>
    refine ⟨fun t fuel cs x hb h => ?_, fun o l n cs hb => by simp [tyB] at hb⟩
    unfold tyB at hb
    split at hb
    · rename_i hu
      obtain ⟨s, rfl, _, hs⟩ := DataW.trod_string hu h
      exact ⟨s, rfl, Nat.le_trans hs (by decide)⟩
    · cases hb
  | sl e ih =>
    refine ⟨fun t fuel cs x hb h => ?_, fun o l n cs hb => by simp [tyB] at hb⟩
    unfold tyB at hb
    split at hb
    · rename_i te hu
      simp only [Bool.and_eq_true, beq_iff_eq, decide_eq_true_eq] at hb
      obtain ⟨⟨hc, h0⟩, hb⟩ := hb
      rcases DataW.trod_slice hu h with ⟨rfl, _⟩ | ⟨a', len, cap, elems, rest, m, _, rfl, _, _, hl, hm, hlen, hel, _, _⟩
      · exact ⟨_, [], rfl, ⟨none, 0, rfl, Nat.le_refl _, .inl rfl⟩, by simp, by simp⟩
      · have each : ∀ i, i < len → ∃ cs : List Value, cs.length = e.size ∧ e.Rd (readAll w) cs ∧ ∀ j y, cs[j]? = some y → w.cell? ((a'.add (i * e.size)).add j) = some y := by
          intro i hi
          have h1 := hel i hi
          rw [hc, List.getElem?_eq_getElem (by omega), Option.bind_eq_some_iff] at h1
          obtain ⟨cs, hcs, htr⟩ := h1
          obtain ⟨_, hlen, hcell⟩ := World.cells?_some hcs
          refine ⟨cs, hlen, ih.1 te m cs _ hb htr, fun j y ey => ?_⟩
          have hlt := (List.getElem?_eq_some_iff.1 ey).1
          rw [hcell j (by omega)]
          exact ey
        obtain ⟨f, hfn⟩ : ∃ f : Nat → List Value, ∀ i, i < len → (f i).length = e.size ∧ e.Rd (readAll w) (f i) ∧ ∀ j y, (f i)[j]? = some y → w.cell? ((a'.add (i * e.size)).add j) = some y := by
          refine ⟨fun i => if q : i < len then (each i q).choose else [], fun i hi => ?_⟩
          simp only [hi, dif_pos]
          exact (each i hi).choose_spec
        have hget : ∀ (i : Nat) (x : List Value), ((List.range len).map f)[i]? = some x → i < len ∧ x = f i := by
          intro i x e
          have hi : i < len := by simpa using (List.getElem?_eq_some_iff.1 e).1
          rw [List.getElem?_map, List.getElem?_range hi] at e
          exact ⟨hi, by simpa using e.symm⟩
        have ll : ((List.range len).map f).length = len := by simp
        have hm' : cap ≤ 9223372036854775807 := Nat.le_trans hm (by decide)
        refine ⟨_, (List.range len).map f, rfl, ⟨some a', cap, by rw [ll], by rw [ll]; exact hl, ?_⟩, by rw [ll]; omega, fun x hx => ?_⟩
        · by_cases hl0 : len = 0
          · left; subst hl0; rfl
          · right
            obtain ⟨l0, _, c0⟩ := hfn 0 (by omega)
            have hc0 := c0 0 _ (List.getElem?_eq_getElem (by omega))
            obtain ⟨b, o, sp⟩ := a'
            have hsp : sp = none := by
              cases sp with
              | none => rfl
              | some s =>
                unfold World.cell? Addr.add at hc0
                dsimp only at hc0
                split at hc0 <;> simp at hc0
            subst hsp
            refine ⟨b, o, rfl, fun i x e j y ey => ?_⟩
            obtain ⟨hi, rfl⟩ := hget i x e
            have := (hfn i hi).2.2 j y ey
            rw [add_off, add_off] at this
            exact readAll_cell this
        · obtain ⟨i, hi, rfl⟩ := List.mem_map.1 hx
          have hi : i < len := by simpa using hi
          exact ⟨(hfn i hi).1, (hfn i hi).2.1⟩
    · cases hb
  | arr n e ih =>
    refine ⟨fun t fuel cs x hb h => ?_, fun o l n cs hb => by simp [tyB] at hb⟩
    unfold tyB at hb
    split at hb
    · rename_i m te hu
      simp only [Bool.and_eq_true, beq_iff_eq] at hb
      obtain ⟨⟨⟨rfl, hc⟩, hct⟩, hb⟩ := hb
      obtain ⟨xs, k, _, _, hlen, hl, hel⟩ := DataW.trod_array hu h
      rw [hct] at hlen
      have piece : ∀ i, i < m → ((cs.drop (i * e.size)).take e.size).length = e.size ∧ e.Rd (readAll w) ((cs.drop (i * e.size)).take e.size) := fun i hi => by
        have h1 := hel i hi
        rw [hc, List.getElem?_eq_getElem (by omega)] at h1
        refine ⟨?_, ih.1 te k _ _ hb h1⟩
        rw [List.length_take, List.length_drop, hlen]
        have : (i + 1) * e.size ≤ m * e.size := Nat.mul_le_mul_right _ hi
        rw [Nat.succ_mul] at this
        omega
      have flat : ∀ (m : Nat) (cs : List Value), cs.length = m * e.size → ((List.range m).map fun i => (cs.drop (i * e.size)).take e.size).flatten = cs := by
        intro m
        induction m with
        | zero => intro cs hl; obtain rfl : cs = [] := List.eq_nil_of_length_eq_zero (by simpa using hl); rfl
        | succ m ihm =>
          intro cs hl
          rw [Nat.succ_mul] at hl
          rw [List.range_succ_eq_map, List.map_cons, List.map_map, List.flatten_cons, Nat.zero_mul, List.drop_zero]
          have e1 : ((fun i => (cs.drop (i * e.size)).take e.size) ∘ Nat.succ) = fun i => ((cs.drop e.size).drop (i * e.size)).take e.size := by
            funext i
            show (cs.drop ((i + 1) * e.size)).take e.size = _
            rw [List.drop_drop, Nat.succ_mul, Nat.add_comm]
          rw [e1, ihm (cs.drop e.size) (by rw [List.length_drop]; omega), List.take_append_drop]
      refine ⟨_, (flat m cs hlen).symm, by simp, fun x hx => ?_⟩
      obtain ⟨i, hi, rfl⟩ := List.mem_map.1 hx
      exact piece i (by simpa using hi)
    · cases hb
  | rcd fs ih =>
    refine ⟨fun t fuel cs x hb h => ?_, fun o l n cs hb => by simp [tyB] at hb⟩
    unfold tyB at hb
    split at hb
    · rename_i fa hu
      simp only [Bool.and_eq_true, beq_iff_eq] at hb
      obtain ⟨xs, n, _, _, hl, hlen, hf⟩ := DataW.trod_struct hu h
      have := ih.2 0 fa.toList n cs hb.2 (by rw [hl, hb.1, Nat.zero_add]) fun j f hj => by
        have := hf j f (by simpa using hj)
        have hlt : j < xs.length := by
          have := (List.getElem?_eq_some_iff.1 hj).1
          simp at this
          omega
        exact ⟨_, this.trans (List.getElem?_eq_getElem hlt)⟩
      exact this
    · cases hb
  | nil =>
    refine ⟨fun t fuel cs x hb h => by simp [tyB] at hb, fun o l n cs hb hl hf => ?_⟩
    exact List.drop_of_length_le (by rw [hl]; exact Nat.le_refl _)
  | cons a b iha ihb =>
    refine ⟨fun t fuel cs x hb h => by simp [tyB] at hb, fun o l n cs hb hl hf => ?_⟩
    unfold tyB at hb
    cases l with
    | nil => cases hb
    | cons f l =>
      simp only [Bool.and_eq_true, beq_iff_eq] at hb
      obtain ⟨⟨⟨ho, hc⟩, h1⟩, h2⟩ := hb
      have hsz : (Ty.cons a b).size = a.size + b.size := rfl
      obtain ⟨y, hy⟩ := hf 0 f rfl
      rw [ho, hc] at hy
      refine ⟨(cs.drop o).take a.size, cs.drop (o + a.size), by rw [← List.drop_drop, List.take_append_drop], ?_, iha.1 f.type n _ _ h1 hy, ihb.2 (o + a.size) l n cs h2 (by omega) fun j g hj => hf (j + 1) g hj⟩
      rw [List.length_take, List.length_drop]
      omega
/-- A thing that is handed in. -/
theorem rd_open {H : Type} {enc : TypeId × Value → H} {w : World} {v : Value} {d : DataW H} {p : List MemPlace} (ty : Ty) {t : TypeId} (hb : tyB P ty (.inl t) = true) (h : DataW.Trod enc P w 0 (fun _ => true) true t v d p) : ty.Rd (readAll w) v.cells.toList := by
  obtain ⟨fuel, hf⟩ := h
  exact (ty_open ty).1 t fuel _ _ hb hf
end Go.Proofs.Ytoikhbagchfeoaa
set_option linter.unusedSimpArgs false
set_option linter.unusedVariables false
set_option maxRecDepth 100000
namespace Go.Proofs.Ytoikhbagchfeoaa
open Go Go.SL Go.Pure
open Go.ChangeShapes Go.WideShapes Go.ChangeAt Go.RowKit
theorem okWide_ar {P : Program} {w : World} {r : Reach} {base : Nat} {t e : TypeId} {n : Nat} {v : Value} (ht : P.underlying t = some (.array n e)) (h : Value.okWide P w r base t v) : ∃ cs, v = .agg cs ∧ cs.size = P.cellsOf t := by
  simp only [Value.okWide, ht] at h
  obtain ⟨cs, h1, h2, _⟩ := h
  exact ⟨cs, h1, h2⟩
theorem arrB0 {R : Hp} : ∀ (items : List (List Value)), (∀ x ∈ items, x.length = (Ty.int .u8).size ∧ (Ty.int .u8).Rd R x) → ∃ l, items.flatten = nv .u8 l ∧ l.length = items.length ∧ Bytes l
  | [], _ => ⟨[], rfl, rfl, by intro y hy; cases hy⟩
  | x :: items, h => by
    obtain ⟨l, h1, h2, h3⟩ := arrB0 items fun y hy => h y (List.mem_cons_of_mem _ hy)
    obtain ⟨_, n, rfl, hw⟩ := h x (by simp)
    obtain ⟨g1, g2⟩ := wf_u8n n hw
    refine ⟨n.toNat :: l, ?_, by simp [h2], ?_⟩
    · rw [List.flatten_cons, h1]
      show _ = Value.int .u8 ((n.toNat : Nat) : Int) :: nv .u8 l
      rw [Int.toNat_of_nonneg g1]
      rfl
    · intro y hy
      rcases List.mem_cons.1 hy with rfl | hy
      · omega
      · exact h3 y hy
theorem arrB {R : Hp} {n : Nat} {vs : List Value} (h : (Ty.arr n (.int .u8)).Rd R vs) : ∃ l, vs = nv .u8 l ∧ l.length = n ∧ Bytes l := by
  obtain ⟨items, h1, h2, h3⟩ := h
  obtain ⟨l, g1, g2, g3⟩ := arrB0 items h3
  exact ⟨l, h1.trans g1, g2.trans h2, g3⟩
/-- An ask of packets. -/
def tyAsk18 : Ty := .rcd (.cons (.arr 32 (.int .u8)) (.cons (.arr 32 (.int .u8)) (.cons (.arr 32 (.int .u8)) (.cons (.sl (.int .u8)) .nil))))
theorem ask18_rd {R : Hp} {cs : List Value} (h : tyAsk18.Rd R cs) : ∃ (o s k : List Nat) (vx : Value) (x : List Nat), cs = ask18C o s k vx ∧ o.length = 32 ∧ s.length = 32 ∧ k.length = 32 ∧ Bytes o ∧ Bytes s ∧ Bytes k ∧ Rn R .u8 vx x ∧ Bytes x ∧ x.length ≤ 9223372036854775807 := by
  obtain ⟨a, r1, rfl, _, ha, b, r2, rfl, _, hb, c, r3, rfl, _, hc, d, r4, rfl, _, hd, rfl⟩ := h
  obtain ⟨o, rfl, lo, bo⟩ := arrB ha
  obtain ⟨s, rfl, ls, bs⟩ := arrB hb
  obtain ⟨k, rfl, lk, bk⟩ := arrB hc
  obtain ⟨v, x, rfl, rx, bx, lx⟩ := Ty.Rd.asBytes hd
  exact ⟨o, s, k, v, x, by simp [ask18C], lo, ls, lk, bo, bs, bk, rx, bx, lx⟩
end Go.Proofs.Ytoikhbagchfeoaa
set_option linter.unusedSimpArgs false
set_option linter.unusedVariables false
set_option maxRecDepth 100000
set_option maxHeartbeats 1000000
namespace Go.Proofs.Ytoikhbagchfeoaa
open Go Go.SL Go.Pure Go.Curve
theorem later_real {c : Cr} (l : Later .real c) : c = .real := by cases c with
  | real => rfl
  | book ts bs => exact l.elim
section
variable {h : Hp} {K : Value → Hp → Prop}
theorem T_WrapSame {o s kk b x : List Nat} {vx : Value} (lo : o.length = 32) (ls : s.length = 32) (lk : kk.length = 32) (lb : b.length = 32) (bo : Bytes o) (bs : Bytes s) (bk : Bytes kk) (bb : Bytes b) (bx : Bytes x) (rx : Rn h .u8 vx x)
    (k : ∀ h', K (.bool true) h') : Cn P n_orloplaw18_WrapSame #[.agg (ask18C o s kk vx).toArray, .agg (nv .u8 b).toArray] h K := by
  refine F_orloplaw18_WrapSame ?_
  unfold s_orloplaw18_WrapSame
  refine aw_box fun r1 hr1 => ?_
  rw [cells18, sizes18 lo ls lk]
  have x1 := ext_set (.row t_orloplaw18_Ask (ask18C o s kk vx) 97 (some (0, 0))) hr1
  have e1 : (h.set r1 (.row t_orloplaw18_Ask (ask18C o s kk vx) 97 (some (0, 0)))) r1 = _ := Hp.set_same ..
  generalize h.set r1 (.row t_orloplaw18_Ask (ask18C o s kk vx) 97 (some (0, 0))) = M at x1 e1
  refine aw_box fun r2 hr2 => ?_
  have c2 : (Value.agg (nv .u8 b).toArray).cells.toList = nv .u8 b := rfl
  rw [c2]
  have x2 := ext_set (.row t_32_uint8 (nv .u8 b) (Value.agg (nv .u8 b).toArray).cells.size (some (0, 0))) hr2
  have rB : Rn (M.set r2 (.row t_32_uint8 (nv .u8 b) (Value.agg (nv .u8 b).toArray).cells.size (some (0, 0)))) .u8 (.slice (some ⟨r2, 0, none⟩) 32 32) b := rn_part (A := []) (B := []) (C := []) (by rw [Hp.set_same, List.nil_append, List.append_nil]) rfl lb
  generalize M.set r2 (.row t_32_uint8 (nv .u8 b) (Value.agg (nv .u8 b).toArray).cells.size (some (0, 0))) = M2 at x2 rB
  refine T_awake18 fun h4 x4 => ?_
  have A : Ask18 h4 r1 o s kk vx x := ⟨⟨_, x4 _ _ (x2 _ _ e1)⟩, lo, ls, lk, bo, bs, bk, bx, rx.mono ((x1.trans x2).trans x4).cle⟩
  replace rB := rB.mono x4.cle
  clear x4 x2 x1 e1
  have w0 : Own h4 h4 [] := ⟨.refl _, fun b hb => (by cases hb), fun b hb => (by cases hb)⟩
  have A4 := (A.facts (.refl _)).2.2.2.1
  have rx4 := (A.facts (.refl _)).2.2.2.2
  obtain ⟨ax, cx, rfl, _⟩ := rx4.shape
  have lnx : ∀ {G : Hp} {K : Value → Prop}, q P G (Builtin.len_ #[t_Sl_uint8] t_int #[.slice ax x.length cx]) K = K (.int .i64 (x.length : Nat)) := fun {G K} => q_lenS u_Sl_uint8 _ _ _
  have d300 : decide ((300 : Int) < ((x.length : Nat) : Int)) = decide (300 < x.length) := by rw [decide_eq_decide]; omega
  simp -zeta only [GL, RL, Bool.not_true, Bool.false_eq_true, if_false, af18_3, A4, lnx, d300]
  by_cases q1 : 300 < x.length
  · simp -zeta only [q1, decide_true, if_true]
    exact k _
  simp -zeta only [q1, decide_false, Bool.false_eq_true, if_false]
  refine T_Real ?_
  have mc : much .real < 18446744073709551616 := by simp [much]
  have fc : few 1000000 .real := trivial
  obtain ⟨X, u1, u2, u3, u4, _, u6, u7, u8, _⟩ := wrap_to (c := .real) (ctx := x) bo bs bk lo ls lk mc
  obtain ⟨Z, z1, z2, z3, z4, _, z6, _, z8, _⟩ := wrap_to (c := .real) (ctx := x) bo bb bk lo lb lk mc
  obtain ⟨Y, y1, y2, y3, y4, _, _, y7, y8, _⟩ := wrap_to (c := .real) (ctx := x) bb bs bk lb ls lk mc
  replace u8 := later_real u8
  replace z8 := later_real z8
  replace y8 := later_real y8
  have C4 : CrAt h4 h4 (.iface t_crypt_actual (.agg #[])) .real [] := ⟨rfl, rfl⟩
  generalize (Value.iface t_crypt_actual (.agg #[])) = vc at C4 ⊢
  -- the points
  simp -zeta only [af18_1, sl18_1, sl18_0]
  refine T_Public (A.facts w0.sub).2.1 bs (by omega) (fun hn => absurd ls hn) fun _ vp h6 n6 => ?_
  obtain ⟨R6, s6, rp⟩ := Stp.newN w0 n6
  have C6 := CrAt.ext C4 w0 s6.ext n6.ext
  simp -zeta only [ext0, ext1, sl18_0]
  refine T_Public (rB.mono (s6.ext.trans s6.own.sub).cle) bb (by omega) (fun hn => absurd lb hn) fun _ vq h7 n7 => ?_
  obtain ⟨R7, s7, rq⟩ := Stp.newN s6.own n7
  have C7 := CrAt.ext C6 s6.own s7.ext n7.ext
  have A7 := s6.ext.trans s7.ext
  simp -zeta only [ext0, ext1, af18_0, sl18_0]
  refine T_Public (A.facts (A7.trans s7.own.sub)).1 bo (by omega) (fun hn => absurd lo hn) fun _ vo h8 n8 => ?_
  obtain ⟨R8, s8, ro⟩ := Stp.newN s7.own n8
  have C8 := CrAt.ext C7 s7.own s8.ext n8.ext
  have A8 := A7.trans s8.ext
  have lps := nb_len (publicF s)
  have lpb := nb_len (publicF b)
  have lpo := nb_len (publicF o)
  have g8 := A.facts (A8.trans s8.own.sub)
  have a8 := A.facts A8
  have rp8 := rp.mono (s7.ext.trans s8.ext).cle
  have rq8 := rq.mono s8.ext.cle
  simp -zeta only [ext0, ext1, af18_0, af18_2, af18_3, sl18_0, sl18_2, RL, g8.2.2.2.1]
  refine T_Wrap s8.own C8 fc a8.1 rp8 a8.2.2.1 a8.2.2.2.2 bo (nb_bytes _) bk bx (by omega) (by omega) (by omega) fun v9 R9 h9 S9 s9 C9 r9 => ?_
  rw [u1, u2, if_pos rfl] at r9
  rw [u8] at C9
  rw [u1]
  have A9 := A8.trans s9.ext
  have g9 := A.facts (A9.trans s9.own.sub)
  have a9 := A.facts A9
  simp -zeta only [ext0, ext1, af18_0, af18_2, af18_3, sl18_0, sl18_2, RL, g9.2.2.2.1]
  refine T_Wrap s9.own C9 fc a9.1 (rp8.mono s9.ext.cle) a9.2.2.1 a9.2.2.2.2 bo (nb_bytes _) bk bx (by omega) (by omega) (by omega) fun v10 R10 h10 S10 s10 C10 r10 => ?_
  rw [u1, u2, if_pos rfl] at r10
  rw [u8] at C10
  rw [u1]
  have A10 := A9.trans s10.ext
  have g10 := A.facts (A10.trans s10.own.sub)
  have a10 := A.facts A10
  simp -zeta only [ext0, ext1, af18_0, af18_2, af18_3, sl18_0, sl18_2, RL, g10.2.2.2.1]
  refine T_Wrap s10.own C10 fc a10.1 (rq8.mono (s9.ext.trans s10.ext).cle) a10.2.2.1 a10.2.2.2.2 bo (nb_bytes _) bk bx (by omega) (by omega) (by omega) fun v11 R11 h11 S11 s11 C11 r11 => ?_
  rw [z1, z2, if_pos rfl] at r11
  rw [z8] at C11
  rw [z1]
  have A11 := A10.trans s11.ext
  have g11 := A.facts (A11.trans s11.own.sub)
  have a11 := A.facts A11
  simp -zeta only [ext0, ext1, af18_2, af18_3, sl18_0, sl18_2, RL, g11.2.2.2.1]
  refine T_Wrap s11.own C11 fc (rB.mono A11.cle) (rp8.mono ((s9.ext.trans s10.ext).trans s11.ext).cle) a11.2.2.1 a11.2.2.2.2 bb (nb_bytes _) bk bx (by omega) (by omega) (by omega) fun v12 R12 h12 S12 s12 C12 r12 => ?_
  rw [y1, y2, if_pos rfl] at r12
  rw [y1]
  have w := s12.own
  have q9 := w.rn (r9.mono ((s10.ext.trans s11.ext).trans s12.ext).cle)
  have q10 := w.rn (r10.mono (s11.ext.trans s12.ext).cle)
  have q11 := w.rn (r11.mono s12.ext.cle)
  have q12 := w.rn r12
  have e912 := ((s9.ext.trans s10.ext).trans s11.ext).trans s12.ext
  have qp := w.rn (rp8.mono e912.cle)
  have qq := w.rn (rq8.mono e912.cle)
  have qo := w.rn (ro.mono e912.cle)
  clear r9 r10 r11 r12 rp8 rq8 s6 s7 s8 s9 s10 s11 s12 C4 C6 C7 C8 C9 C10 C11 C12 a8 a9 a10 a11 g8 g9 g10 g11 A7 A8 A9 A10 A11 u1 u2 u8 z1 z2 z8 y1 y2 y8 n6 n7 n8
  have eX : pkPoint X = (X.take 33).drop 1 := rfl
  have eX2 : pkOnce X = (X.take 65).drop 33 := rfl
  have eZ : pkPoint Z = (Z.take 33).drop 1 := rfl
  have eY : pkOnce Y = (Y.take 65).drop 33 := rfl
  rw [eX] at u6
  rw [eX2] at u7
  rw [eZ] at z6
  rw [eY] at y7
  clear eX eX2 eZ eY
  generalize nb (publicF s) = ps at *
  generalize nb (publicF b) = pb at *
  generalize nb (publicF o) = po at *
  have z0 : (((0 : Nat) : Int) != 0) = false := rfl
  simp -zeta only [ext0, ext1]
  intro J
  have qJ : J h12 := by
    simp -zeta only [J]
    clear J
    show q P h12 (Instr.sliceAt t_Sl_uint8 v9 (some (.int .i64 ((1 : Nat) : Int))) (some (.int .i64 ((33 : Nat) : Int))) none) _
    refine q_slRnLH u_Sl_uint8 z_uint8 q9 .i64 .i64 1 33 (by omega) (by omega) fun w1 g1 => ?_
    show q P h12 (Instr.sliceAt t_Sl_uint8 v11 (some (.int .i64 ((1 : Nat) : Int))) (some (.int .i64 ((33 : Nat) : Int))) none) _
    refine q_slRnLH u_Sl_uint8 z_uint8 q11 .i64 .i64 1 33 (by omega) (by omega) fun w2 g2 => ?_
    rw [u6] at g1
    rw [z6] at g2
    refine T_orlopref01_Equal g1 g2 (by omega) ?_
    refine T_orlopref01_Equal qp qq (by omega) ?_
    generalize decide (ps = pb) = d1
    rw [q_eqlB _ _ _ _ u_bool]
    simp -zeta only [GL, beq_self_eq_true, if_true]
    show q P h12 (Instr.sliceAt t_Sl_uint8 v9 (some (.int .i64 ((33 : Nat) : Int))) (some (.int .i64 ((65 : Nat) : Int))) none) _
    refine q_slRnLH u_Sl_uint8 z_uint8 q9 .i64 .i64 33 65 (by omega) (by omega) fun w3 g3 => ?_
    show q P h12 (Instr.sliceAt t_Sl_uint8 v12 (some (.int .i64 ((33 : Nat) : Int))) (some (.int .i64 ((65 : Nat) : Int))) none) _
    refine q_slRnLH u_Sl_uint8 z_uint8 q12 .i64 .i64 33 65 (by omega) (by omega) fun w4 g4 => ?_
    rw [u7] at g3
    rw [y7] at g4
    refine T_orlopref01_Equal g3 g4 (by omega) ?_
    refine T_orlopref01_Equal qo qq (by omega) ?_
    generalize decide (po = pb) = d2
    rw [q_eqlB _ _ _ _ u_bool]
    simp -zeta only [GL, beq_self_eq_true]
    exact k _
  clear_value J
  simp -zeta only [GL, z0, if_true]
  refine T_orlopref01_Equal q9 q10 (by omega) ?_
  rw [decide_eq_true rfl]
  simp -zeta only [GL, Bool.not_true, Bool.false_eq_true, if_false]
  exact qJ
end
end Go.Proofs.Ytoikhbagchfeoaa
set_option linter.unusedSimpArgs false
set_option linter.unusedVariables false
set_option maxRecDepth 100000
namespace Go.Proofs.Ytoikhbagchfeoaa
open Go Go.SL Go.Pure
open Go.ChangeShapes Go.WideShapes Go.ChangeAt Go.RowKit
namespace wrapSame
theorem lifted (os : Os) (started : os.Started) (H : Type) (enc : TypeId × Value → H) :
    ReturnsInHanded {} Try.checked os n_orloplaw18_WrapSame .any (Rows.wrapSameSpec.pre6 enc Try.prog Try.f3 Rows.wrapSameRow.domain false) (Rows.wrapSameSpec.post enc Try.prog Try.f3 false true false false) := by
  refine returnsInHanded_of_change_sized (C := Try.checked) ownNone started (by kernel_rfl) Try.func3
    (ChangeSpec.witness6 (enc := enc) (C := Try.checked) false ⟨#[], #[.agg (ask18C (List.replicate 32 0) (List.replicate 32 0) (List.replicate 32 0) (.slice none 0 0)).toArray, .agg (nv .u8 (List.replicate 32 0)).toArray], []⟩ 8 (by kernel_rfl) (by kernel_rfl) (by kernel_rfl) (by kernel_rfl)) ?_
  intro W base args ds gs before hval0 hW hcnd hsz0 _
  have hval : ∀ (j : Nat) t v, Try.f3.params[j]? = some t → args[j]? = some v → Value.okWide Try.prog W .any base t v := hval0
  have hW' := hW
  obtain ⟨p, q, hA0, hV, rfl, hfz, hnd⟩ := hW
  have hA : DataW.TrodAll enc Try.prog W 0 (fun _ => true) true Try.f3.params.toList args.toList ds p := hA0
  rw [Try.params3] at hA hval
  obtain ⟨v0, vs0, d0, ds0, p0, q0, hargs, rfl, rfl, h0, r0⟩ := trodAll_cons hA
  obtain ⟨v1, vs1, d1, ds1, p1, q1, rfl, rfl, rfl, h1, r1⟩ := trodAll_cons r0
  obtain ⟨rfl, rfl, rfl⟩ := trodAll_nil r1
  obtain rfl : args = #[v0, v1] := by cases args; simp_all
  obtain ⟨rfl, rfl⟩ := trodVars_none hV
  have lt0 : ∀ x ∈ p0, x.block < W.heap.size := by obtain ⟨m, hm⟩ := h0; exact DataW.trod_lt m _ _ _ hm
  have lt1 : ∀ x ∈ p1, x.block < W.heap.size := by obtain ⟨m, hm⟩ := h1; exact DataW.trod_lt m _ _ _ hm
  obtain ⟨cs0, rfl, hs0⟩ := okWide_struct Try.underlying25 (hval 0 25 v0 rfl rfl)
  have D0 : Ty.Rd (readAll W) tyAsk18 cs0.toList := rd_open tyAsk18 (by kernel_rfl) h0
  obtain ⟨o0, s0, k0, vx0, x0, e0, lo0, ls0, lk0, bo0, bs0, bk0, rx0, bx0, lx0⟩ := ask18_rd D0
  obtain rfl : cs0 = (ask18C o0 s0 k0 vx0).toArray := by rw [← e0]
  obtain ⟨cs1, rfl, hs1⟩ := okWide_ar Try.underlying22 (hval 1 22 v1 rfl rfl)
  have D1 : Ty.Rd (readAll W) (.arr 32 (.int .u8)) cs1.toList := rd_open (.arr 32 (.int .u8)) (by kernel_rfl) h1
  obtain ⟨l1, el1, ll1, bl1⟩ := arrB D1
  obtain rfl : cs1 = (nv .u8 l1).toArray := by rw [← el1]
  clear hA0 hval0 hsz0
  refine (tells_true (T_WrapSame lo0 ls0 lk0 ll1 bo0 bs0 bk0 bl1 bx0 rx0 (K := fun v _ => v = .bool true) fun _ => rfl)).mono fun e W' ⟨he, bel⟩ => ?_
  subst he
  exact ⟨_, rfl, _, _, _, [], _, [], hW', trodAll_mk1 (shut_bool Try.underlying4 _), (trodAll_cons_mk (Below.trod laidOut (by kernel_rfl) (of_decide_eq_true (by kernel_rfl)) h0 bel lt0) (trodAll_cons_mk (Below.trod laidOut (by kernel_rfl) (of_decide_eq_true (by kernel_rfl)) h1 bel lt1) trodAll_mk0)), rfl, bel.frame _, fun h => by cases h⟩
theorem over : Rows.wrapSameRow.holds Try.pinned (OpenSpec.ofChange Rows.wrapSameSpec) :=
  OpenClaim.holds_of_wide 3 Try.f3 rfl rfl rfl rfl rfl rfl rfl ⟨rfl, rfl, rfl, rfl, rfl⟩ rfl rfl rfl rfl rfl (by kernel_rfl) Try.func3 (by kernel_rfl)
    (of_decide_eq_true (by kernel_rfl)) (by unfold Func.isWrapper; first | (rw [if_pos (by decide +kernel)]; kernel_rfl) | (rw [if_neg (by decide +kernel)]; exact ⟨rfl, rfl⟩))
    (fun os started H enc _ => lifted os started H enc)
theorem proved : Rows.WrapSameSaid := over
end wrapSame
/-- The row, under a short name. -/
theorem wrapSame_holds : Rows.WrapSameSaid := wrapSame.proved
end Go.Proofs.Ytoikhbagchfeoaa
