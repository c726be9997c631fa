/- What a cut's chunks come to. Conditions: each names its own. -/
import Derived.Test.YtnecdbclhdbaoaaSYu
set_option linter.unusedSimpArgs false
set_option linter.unusedVariables false
set_option maxRecDepth 100000
set_option maxHeartbeats 2000000
namespace Go.Proofs.Ytnecdbclhdbaoaa
open Go Go.SL Go.Pure

theorem df0 {h : Hp} {K : Value → Prop} (r : Nat) : q P h (Instr.fieldAt t_orloplaw17_Cut (.pointer (some ⟨r, 0, none⟩)) 0) K = K (.pointer (some ⟨r, 0, none⟩)) := q_of (by kernel_rfl) K
theorem df1 {h : Hp} {K : Value → Prop} (r : Nat) : q P h (Instr.fieldAt t_orloplaw17_Cut (.pointer (some ⟨r, 0, none⟩)) 1) K = K (.pointer (some ⟨r, 1, none⟩)) := q_of (by kernel_rfl) K
theorem df2 {h : Hp} {K : Value → Prop} (r : Nat) : q P h (Instr.fieldAt t_orloplaw17_Cut (.pointer (some ⟨r, 0, none⟩)) 2) K = K (.pointer (some ⟨r, 2, none⟩)) := q_of (by kernel_rfl) K
theorem tmodN (a b : Nat) : ((a : Nat) : Int).tmod ((b : Nat) : Int) = ((a % b : Nat) : Int) := by
  rw [Int.tmod_eq_emod_of_nonneg (by omega)]; exact (Int.natCast_emod a b).symm
theorem eqN (a : Nat) (b : Nat) : (((a : Nat) : Int) == ((b : Nat) : Int)) = decide (a = b) := by rw [Bool.eq_iff_iff, beq_iff_eq, decide_eq_true_eq]; omega
theorem mem_set_of {l : List (List Nat)} {i : Nat} {x p : List Nat} (h : p ∈ l.set i x) : p ∈ l ∨ p = x := List.mem_or_eq_of_mem_set h

section
variable {h : Hp} {K : Value → Hp → Prop}
theorem T_cutChunks {R : Hp} {S : List Nat} {v0 v1 : Value} {L M : List (List Nat)} (kind A B : Nat) (hk : kind < 256) (hA : A < 65536) (hB : B < 256) (w : Own R h S) (P0 : Ps R v0 L) (P1 : Ps R v1 M) (l0 : 0 < L.length) (lb : L.length ≤ 1000000)
    (k : ∀ v' R' h' L', Stp R h R' h' S S → Hp.ext h h' → Ps R' v' L' → L'.length ≤ L.length + 1 → (∀ p ∈ L', p ∈ L ∨ p ∈ M) → (4 ≤ kind % 9 ∧ kind % 9 ≤ 7 → L' = L) → K v' h') :
    Cn P n_orloplaw17_cutChunks #[v0, v1, .agg #[.int .u8 (kind : Int), .int .u16 (A : Int), .int .u8 (B : Int)]] h K := by
  refine F_orloplaw17_cutChunks ?_
  unfold s_orloplaw17_cutChunks
  refine aw_box fun r hr => ?_
  have s0 := Stp.block (.row t_orloplaw17_Cut (Value.agg #[.int .u8 (kind : Int), .int .u16 (A : Int), .int .u8 (B : Int)]).cells.toList (Value.agg #[.int .u8 (kind : Int), .int .u16 (A : Int), .int .u8 (B : Int)]).cells.size (some (0, 0))) w hr
  have x01 := ext_set (.row t_orloplaw17_Cut (Value.agg #[.int .u8 (kind : Int), .int .u16 (A : Int), .int .u8 (B : Int)]).cells.toList (Value.agg #[.int .u8 (kind : Int), .int .u16 (A : Int), .int .u8 (B : Int)]).cells.size (some (0, 0))) hr
  have e0 : (h.set r (.row t_orloplaw17_Cut (Value.agg #[.int .u8 (kind : Int), .int .u16 (A : Int), .int .u8 (B : Int)]).cells.toList (Value.agg #[.int .u8 (kind : Int), .int .u16 (A : Int), .int .u8 (B : Int)]).cells.size (some (0, 0)))) r = some (.row t_orloplaw17_Cut [.int .u8 (kind : Int), .int .u16 (A : Int), .int .u8 (B : Int)] 3 (some (0, 0))) := Hp.set_same ..
  generalize h.set r (.row t_orloplaw17_Cut (Value.agg #[.int .u8 (kind : Int), .int .u16 (A : Int), .int .u8 (B : Int)]).cells.toList (Value.agg #[.int .u8 (kind : Int), .int .u16 (A : Int), .int .u8 (B : Int)]).cells.size (some (0, 0))) = h1 at s0 e0 x01
  generalize R.set r (.row t_orloplaw17_Cut (Value.agg #[.int .u8 (kind : Int), .int .u16 (A : Int), .int .u8 (B : Int)]).cells.toList (Value.agg #[.int .u8 (kind : Int), .int .u16 (A : Int), .int .u8 (B : Int)]).cells.size (some (0, 0))) = R1 at s0
  have c0 : h1.cell ⟨r, 0, none⟩ = some (.int .u8 (kind : Int)) := by rw [cell_row e0]; rfl
  have c1 : h1.cell ⟨r, 1, none⟩ = some (.int .u16 (A : Int)) := by rw [cell_row e0]; rfl
  have c2 : h1.cell ⟨r, 2, none⟩ = some (.int .u8 (B : Int)) := by rw [cell_row e0]; rfl
  replace P0 := P0.mono s0.ext.cle
  replace P1 := P1.mono s0.ext.cle
  have P0' := P0
  obtain ⟨ws, rw0, pv⟩ := P0
  obtain ⟨ms, rm0, pm⟩ := P1
  have rwc := rw0
  obtain ⟨_, a0, n0, ev0, hc0, q0⟩ := rwc
  subst ev0
  obtain ⟨_, a1, n1, ev1, hc1, qm⟩ := rm0
  subst ev1
  have lws := pv.1
  have ki := Nat.mod_lt A l0
  have kk := Nat.mod_lt B l0
  have k9 : kind % 9 < 9 := Nat.mod_lt _ (by omega)
  have m9 : ((kind : Nat) : Int).tmod 9 = ((kind % 9 : Nat) : Int) := tmodN kind 9
  simp (maxSteps := 3000000) (disch := omega) only [GL, RL, df0, df1, df2, c0, c1, c2, wi64, tmodN, m9]
  generalize A % L.length = i at ki
  generalize B % L.length = j at kk
  generalize kind % 9 = g at k9 k
  clear m9 c0 c1 c2 e0
  have ez0 : (((g : Nat) : Int) == 0) = decide (g = 0) := eqN g 0
  have ez1 : (((g : Nat) : Int) == 1) = decide (g = 1) := eqN g 1
  have ez2 : (((g : Nat) : Int) == 2) = decide (g = 2) := eqN g 2
  have ez3 : (((g : Nat) : Int) == 3) = decide (g = 3) := eqN g 3
  have ez8 : (((g : Nat) : Int) == 8) = decide (g = 8) := eqN g 8
  have pHi : ∀ H : Hp, peek P H (Instr.sliceAt t_Sl_Sl_uint8 (.slice a0 L.length n0) none (some (.int .i64 (i : Int))) none) = some (.slice (SL.cut a0 n0 0 1) i n0) := fun H => pk_q fun K => q_slHi u_Sl_Sl_uint8 z_Sl_uint8 a0 L.length n0 .i64 i (by omega)
  have pLo : ∀ (x : Nat), x ≤ L.length → ∀ H : Hp, peek P H (Instr.sliceAt t_Sl_Sl_uint8 (.slice a0 L.length n0) (some (.int .i64 (x : Int))) none none) = some (.slice (SL.cut a0 n0 x 1) (L.length - x) (n0 - x)) := fun x hx H => pk_q fun K => q_slLo u_Sl_Sl_uint8 z_Sl_uint8 a0 L.length n0 .i64 x hx hc0
  have rHi : Rds R1 1 (.slice (SL.cut a0 n0 0 1) i n0) (ws.take i) i := by
    have := rw0.cut 0 i (by omega) (by omega)
    simpa using this
  have rLo : ∀ x, x ≤ L.length → Rds R1 1 (.slice (SL.cut a0 n0 x 1) (L.length - x) (n0 - x)) (ws.drop x) (L.length - x) := fun x hx => by
    have := rw0.cut x L.length hx (Nat.le_refl _)
    rw [Nat.mul_one, Nat.mul_one, List.take_of_length_le (by omega)] at this
    exact this
  have fin : ∀ (hb Rb : Hp) (v : Value) (h' : Hp) (ws' : List Value) (n' : Nat) (L' : List (List Nat)), Stp R1 h1 Rb hb S S → Hp.ext h1 hb → New hb t_Sl_uint8 1 v h' ws' n' → PsV R1 ws' L' → L'.length ≤ L.length + 1 → (∀ p ∈ L', p ∈ L ∨ p ∈ M) → (4 ≤ g ∧ g ≤ 7 → L' = L) → K v h' := by
    intro hb Rb v h' ws' n' L' sb xb nw pv' q1 q2 q3
    obtain ⟨R', s', q'⟩ := Stp.new sb.own nw
    have en : n' = L'.length := by
      have := nw.1
      have := pv'.1
      omega
    exact k v R' h' L' ((s0.trans sb).trans s') ((x01.trans xb).trans nw.ext) ⟨ws', by rw [← en]; exact q', pv'.mono (sb.trans s').ext.cle⟩ q1 q2 q3
  have own1 := s0.own
  have nil0 : ∀ (H : Hp) (F : Value → Hp → Prop), (∀ v h', New H t_Sl_uint8 1 v h' [] 0 → F v h') → aw P (Instr.buildSlice t_Sl_Sl_uint8 0 #[]) F H := fun H F kk =>
    aw_lit (n := 0) (ps := []) u_Sl_Sl_uint8 z_Sl_uint8 zr_Sl_uint8 rfl (by omega) (by intro p hp; cases hp) fun v h' nn _ => kk v h' (by simpa [fillL] using nn)
  have app : ∀ (h0 H : Hp) (v y : Value) (xs ys : List Value) (n m : Nat) (F : Value → Hp → Prop), New h0 t_Sl_uint8 1 v H xs n → Rds H 1 y ys m → (∀ z ∈ ys, SL.flat z = true) → n ≤ 1000000000 → m ≤ 1000000000 → (∀ v' h', New h0 t_Sl_uint8 1 v' h' (xs ++ ys) (n + m) → F v' h') → aw P (Builtin.append_ #[t_Sl_Sl_uint8, t_Sl_Sl_uint8] t_Sl_Sl_uint8 #[v, y]) F H := fun h0 H v y xs ys n m F nw rd fl hn hm kk =>
    aw_append u_Sl_Sl_uint8 u_Sl_Sl_uint8 nfo_Sl_uint8 rfl (by omega) nw rd fl (by omega) (.refl _) kk
  have eL : L.take i ++ L.drop i = L := List.take_append_drop i L
  obtain ⟨p0, ep⟩ : ∃ p0, L[i]? = some p0 := ⟨_, List.getElem?_eq_getElem ki⟩
  obtain ⟨y0, ey, ry⟩ := pv.2 i p0 ep
  have mp0 : p0 ∈ L := List.mem_of_getElem? ep
  by_cases g0 : g = 0
  · have e1 : ((i : Nat) : Int) + 1 = ((i + 1 : Nat) : Int) := by omega
    simp (disch := omega) only [GL, RL, ez0, g0, decide_true, if_true, wi64, e1]
    rw [q_of (pHi _), q_of (pLo (i + 1) (by omega) _)]
    refine nil0 _ _ fun v29 h2 n2 => ?_
    refine ⟨pLo (i + 1) (by omega) _, pHi _, ?_⟩
    refine app h1 h2 v29 _ [] _ 0 i _ n2 (rHi.mono (own1.sub.cle.trans n2.cle)) (pv.take i).flat (by omega) (by omega) fun v33 h3 n3 => ?_
    refine ⟨pLo (i + 1) (by omega) _, ?_⟩
    refine app h1 h3 v33 _ _ _ _ _ _ n3 ((rLo (i + 1) (by omega)).mono (own1.sub.cle.trans n3.cle)) (pv.drop (i + 1)).flat (by omega) (by omega) fun v38 h4 n4 => ?_
    refine fin h1 R1 v38 h4 _ _ (([] ++ L.take i) ++ L.drop (i + 1)) (.refl own1) (.refl _) n4 (((PsV.nil R1).app (pv.take i)).app (pv.drop (i + 1))) (by simp; omega) (fun p hp => ?_) (fun q => by omega)
    rw [List.nil_append] at hp
    rcases List.mem_append.1 hp with q | q
    · exact .inl (List.mem_of_mem_take q)
    · exact .inl (List.mem_of_mem_drop q)
  by_cases g1 : g = 1
  · have d0 : (((g : Nat) : Int) == 0) = false := by rw [ez0]; exact decide_eq_false g0
    have d1 : (((g : Nat) : Int) == 1) = true := by rw [ez1]; exact decide_eq_true g1
    simp (disch := omega) only [GL, RL, d0, d1, if_true, Bool.false_eq_true, if_false]
    rcases q0 with q0 | ⟨b0, o0, rfl, hcell⟩
    · omega
    have cy : ∀ H : Hp, Hp.cle R1 H → H.cell ⟨b0, o0 + i, none⟩ = some y0 := fun H c => c _ _ (hcell i y0 ey)
    rw [q_of (pHi _)]
    have c1 := own1.sub.cle
    have fy : SL.flat y0 = true := rn_flat ry
    simp (maxSteps := 3000000) (disch := omega) only [GL, RL, cy h1 c1]
    rw [q_of (pLo i (by omega) _)]
    have lit1 : ∀ (H : Hp) (F : Value → Hp → Prop), (∀ r, H r = none → F (.slice (some ⟨r, 0, none⟩) 1 1) (H.set r (.row t_Sl_uint8 [y0] 1 (some (0, 0))))) → aw P (Instr.buildSlice t_Sl_Sl_uint8 1 #[(0, y0)]) F H := fun H F kk =>
      aw_lit (n := 1) (ps := [(0, y0)]) u_Sl_Sl_uint8 z_Sl_uint8 zr_Sl_uint8 rfl (by omega) (by intro p hp; rw [List.mem_singleton.1 hp]; exact ⟨fy, by show _ < 1; omega⟩) fun v h' _ hx => by
        obtain ⟨r, hr, rfl, rfl⟩ := hx
        exact kk r hr
    have rdr : ∀ (H : Hp) (r : Nat), Rds (H.set r (.row t_Sl_uint8 [y0] 1 (some (0, 0)))) 1 (.slice (some ⟨r, 0, none⟩) 1 1) [y0] 1 := fun H r => ⟨rfl, some ⟨r, 0, none⟩, 1, rfl, Nat.le_refl _, .inr ⟨r, 0, rfl, fun i x e => by rw [cell_row (Hp.set_same ..), Nat.zero_add]; exact e⟩⟩
    have tail : ∀ (hb Rb : Hp) (v45 v50 : Value) (H : Hp), Stp R1 h1 Rb hb S S → Hp.ext h1 hb → New hb t_Sl_uint8 1 v45 H (ws.take i) i → Rds H 1 v50 [y0] 1 →
        aw P (Builtin.append_ #[t_Sl_Sl_uint8, t_Sl_Sl_uint8] t_Sl_Sl_uint8 #[v45, v50]) (fun t51 h => peek P h (Instr.sliceAt t_Sl_Sl_uint8 (.slice (some ⟨b0, o0, none⟩) L.length n0) (some (.int .i64 (i : Int))) none none) = some (.slice (SL.cut (some ⟨b0, o0, none⟩) n0 i 1) (L.length - i) (n0 - i)) ∧ aw P (Builtin.append_ #[t_Sl_Sl_uint8, t_Sl_Sl_uint8] t_Sl_Sl_uint8 #[t51, .slice (SL.cut (some ⟨b0, o0, none⟩) n0 i 1) (L.length - i) (n0 - i)]) (fun t55 h => K t55 h) h) H := by
      intro hb Rb v45 v50 H sb xb nw rd
      refine app hb H v45 v50 _ _ _ _ _ nw rd (by intro z hz; rw [List.mem_singleton.1 hz]; exact fy) (by omega) (by omega) fun v51 h' n51 => ?_
      refine ⟨pLo i (by omega) _, ?_⟩
      refine app hb h' v51 _ _ _ _ _ _ n51 ((rLo i (by omega)).mono ((sb.ext.cle.trans sb.own.sub.cle).trans n51.cle)) (pv.drop i).flat (by omega) (by omega) fun v55 h'' n55 => ?_
      refine fin hb Rb v55 h'' _ _ ((L.take i ++ [p0]) ++ L.drop i) sb xb n55 (((pv.take i).app (PsV.one ry)).app (pv.drop i)) (by simp; omega) (fun p hp => ?_) (fun q => by omega)
      rcases List.mem_append.1 hp with q | q
      · rcases List.mem_append.1 q with q | q
        · exact .inl (List.mem_of_mem_take q)
        · rw [List.mem_singleton.1 q]; exact .inl mp0
      · exact .inl (List.mem_of_mem_drop q)
    refine ⟨?_, ?_⟩
    · refine nil0 _ _ fun v41 h2 n41 => ?_
      have c2 := c1.trans n41.cle
      refine ⟨pLo i (by omega) _, pk_ld8 (cy _ c2), pHi _, ?_, ?_⟩
      · refine app h1 h2 v41 _ [] _ 0 i _ n41 (rHi.mono c2) (pv.take i).flat (by omega) (by omega) fun v45 h3 n45 => ?_
        rw [List.nil_append, Nat.zero_add] at n45
        refine ⟨pLo i (by omega) _, pk_ld8 (cy _ (c1.trans n45.cle)), ?_⟩
        refine lit1 _ _ fun r hr => ?_
        refine ⟨pLo i (by omega) _, ?_⟩
        exact tail _ _ v45 _ _ (Stp.block _ own1 (n45.ext.none hr)) (ext_set _ (n45.ext.none hr)) (n45.add hr _) (rdr _ r)
      · refine lit1 _ _ fun r hr => ?_
        refine ⟨pLo i (by omega) _, pHi _, ?_⟩
        have sb := Stp.block (.row t_Sl_uint8 [y0] 1 (some (0, 0))) own1 (n41.ext.none hr)
        have n41' := n41.add hr (.row t_Sl_uint8 [y0] 1 (some (0, 0)))
        refine app _ _ v41 _ [] _ 0 i _ n41' (rHi.mono ((sb.ext.cle.trans sb.own.sub.cle).trans n41'.cle)) (pv.take i).flat (by omega) (by omega) fun v45 h4 n45 => ?_
        rw [List.nil_append, Nat.zero_add] at n45
        refine ⟨pLo i (by omega) _, ?_⟩
        exact tail _ _ v45 _ _ sb (ext_set _ (n41.ext.none hr)) n45 ((rdr h1 r).mono n45.cle)
    · refine lit1 _ _ fun r hr => ?_
      have sb := Stp.block (.row t_Sl_uint8 [y0] 1 (some (0, 0))) own1 hr
      refine ⟨pLo i (by omega) _, pHi _, ?_⟩
      refine nil0 _ _ fun v41 h3 n41 => ?_
      refine ⟨pLo i (by omega) _, pHi _, ?_⟩
      refine app _ _ v41 _ [] _ 0 i _ n41 (rHi.mono ((sb.ext.cle.trans sb.own.sub.cle).trans n41.cle)) (pv.take i).flat (by omega) (by omega) fun v45 h4 n45 => ?_
      rw [List.nil_append, Nat.zero_add] at n45
      refine ⟨pLo i (by omega) _, ?_⟩
      exact tail _ _ v45 _ _ sb (ext_set _ hr) n45 ((rdr h1 r).mono n45.cle)
  by_cases g2 : g = 2
  · simp (disch := omega) only [GL, RL, ez0, ez1, ez2, g0, g1, g2, decide_true, decide_false, if_true, Bool.false_eq_true, if_false]
    refine nil0 _ _ fun v58 h2 n2 => ?_
    refine app h1 h2 v58 _ [] _ 0 L.length _ n2 (rw0.mono (own1.sub.cle.trans n2.cle)) pv.flat (by omega) (by omega) fun v60 h3 n3 => ?_
    rw [List.nil_append, Nat.zero_add] at n3
    obtain ⟨b, c, f, hb, hc, rfl, hh, hf⟩ := n3.form (by omega)
    obtain ⟨p1, ep1⟩ : ∃ p1, L[j]? = some p1 := ⟨_, List.getElem?_eq_getElem kk⟩
    obtain ⟨y1, ey1, ry1⟩ := pv.2 j p1 ep1
    have hrow : h3 b = some (.row t_Sl_uint8 ws (c * 1) (some f)) := by rw [hh, Hp.set_same]
    have ci : h3.cell ⟨b, i, none⟩ = some y0 := by rw [cell_row hrow]; exact ey
    have cj : h3.cell ⟨b, j, none⟩ = some y1 := by rw [cell_row hrow]; exact ey1
    simp (disch := omega) only [GL, RL, Nat.zero_add, ci, cj]
    refine aw_storeN z_Sl_uint8 n3 (by omega) (rn_flat ry1) fun h4 n4 => ?_
    refine aw_storeN z_Sl_uint8 n4 (by omega) (rn_flat ry) fun h5 n5 => ?_
    refine fin h1 R1 _ h5 _ _ ((L.set i p1).set j p0) (.refl own1) (.refl _) n5 ((pv.set i ry1).set j ry) (by simp) (fun p hp => ?_) (fun q => by omega)
    rcases mem_set_of hp with q | q
    · rcases mem_set_of q with q | q
      · exact .inl q
      · rw [q]; exact .inl (List.mem_of_getElem? ep1)
    · rw [q]; exact .inl mp0
  by_cases g3 : g = 3
  · simp (disch := omega) only [GL, RL, ez0, ez1, ez2, ez3, g0, g1, g2, g3, decide_true, decide_false, if_true, Bool.false_eq_true, if_false]
    refine nil0 _ _ fun v58 h2 n2 => ?_
    refine app h1 h2 v58 _ [] _ 0 L.length _ n2 (rw0.mono (own1.sub.cle.trans n2.cle)) pv.flat (by omega) (by omega) fun v60 h3 n3 => ?_
    rw [List.nil_append, Nat.zero_add] at n3
    obtain ⟨b, c, f, hb, hc, rfl, hh, hf⟩ := n3.form (by omega)
    have hrow : h3 b = some (.row t_Sl_uint8 ws (c * 1) (some f)) := by rw [hh, Hp.set_same]
    have ci : h3.cell ⟨b, i, none⟩ = some y0 := by rw [cell_row hrow]; exact ey
    simp (disch := omega) only [GL, RL, Nat.zero_add, ci]
    refine aw_storeN z_Sl_uint8 n3 (by omega) (rn_flat ry) fun h4 n4 => ?_
    refine fin h1 R1 _ h4 _ _ (L.set j p0) (.refl own1) (.refl _) n4 (pv.set j ry) (by simp) (fun p hp => ?_) (fun q => by omega)
    rcases mem_set_of hp with q | q
    · exact .inl q
    · rw [q]; exact .inl mp0
  by_cases g8 : g = 8
  · simp (disch := omega) only [GL, RL, ez0, ez1, ez2, ez3, ez8, g0, g1, g2, g3, g8, decide_true, decide_false, if_true, Bool.false_eq_true, if_false]
    refine nil0 _ _ fun v58 h2 n2 => ?_
    refine app h1 h2 v58 _ [] _ 0 L.length _ n2 (rw0.mono (own1.sub.cle.trans n2.cle)) pv.flat (by omega) (by omega) fun v60 h3 n3 => ?_
    rw [List.nil_append, Nat.zero_add] at n3
    obtain ⟨b, c, f, hb, hc, rfl, hh, hf⟩ := n3.form (by omega)
    simp (disch := omega) only [GL, RL, lt_dec]
    by_cases him : i < M.length
    · obtain ⟨p1, ep1⟩ : ∃ p1, M[i]? = some p1 := ⟨_, List.getElem?_eq_getElem him⟩
      obtain ⟨y1, ey1, ry1⟩ := pm.2 i p1 ep1
      rcases qm with q0 | ⟨bm, om, rfl, hcm⟩
      · omega
      have cm : h3.cell ⟨bm, om + i, none⟩ = some y1 := (own1.sub.cle.trans n3.cle) _ _ (hcm i y1 ey1)
      simp (disch := omega) only [GL, RL, him, decide_true, if_true, cm]
      refine aw_storeN z_Sl_uint8 n3 (by omega) (rn_flat ry1) fun h4 n4 => ?_
      refine fin h1 R1 _ h4 _ _ (L.set i p1) (.refl own1) (.refl _) n4 (pv.set i ry1) (by simp) (fun p hp => ?_) (fun q => by omega)
      rcases mem_set_of hp with q | q
      · exact .inl q
      · rw [q]; exact .inr (List.mem_of_getElem? ep1)
    · simp only [him, decide_false, Bool.false_eq_true, if_false]
      exact fin h1 R1 _ h3 _ _ L (.refl own1) (.refl _) n3 pv (by omega) (fun p hp => .inl hp) (fun q => by omega)
  simp (disch := omega) only [GL, RL, ez0, ez1, ez2, ez3, ez8, g0, g1, g2, g3, g8, decide_false, Bool.false_eq_true, if_false]
  exact k _ R1 h1 L s0 x01 P0' (by omega) (fun p hp => .inl hp) fun _ => rfl
end
end Go.Proofs.Ytnecdbclhdbaoaa
