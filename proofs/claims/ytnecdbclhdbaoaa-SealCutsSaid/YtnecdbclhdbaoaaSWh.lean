/- What rows of rows come to, put together; whether rows are the same. Conditions: each names its own. -/
import Derived.Test.YtnecdbclhdbaoaaSWg
import Derived.Test.YtnecdbclhdbaoaaSPd
set_option linter.unusedSimpArgs false
set_option linter.unusedVariables false
set_option maxRecDepth 100000
namespace Go.Proofs.Ytnecdbclhdbaoaa
open Go Go.SL Go.Pure

section
variable {h : Hp} {K : Value → Hp → Prop}
theorem T_Grow0 (n : Nat) (hn : n ≤ 70368744177664) (k : ∀ v h', New h t_uint8 1 v h' [] 0 → K v h') : Cn P n_slices_Grow_byte_byte #[.slice none 0 0, .int .i64 n] h K := by
  refine F_slices_Grow_byte_byte ?_
  unfold s_slices_Grow_byte_byte
  have e0 : decide ((n : Int) < 0) = false := decide_eq_false (by omega)
  have ecap : ∀ (K : Value → Prop), q P h (Builtin.cap_ #[t_Sl_uint8] t_int #[.slice none 0 0]) K = K (.int .i64 0) := fun K => q_of (by
    show peek P h (Sem.bind (underlying t_Sl_uint8) _) = _
    rw [peek_bind, pk_und u_Sl_uint8]
    rfl) K
  simp (disch := omega) only [GL, RL, wi64, e0, Bool.false_eq_true, if_false, ecap]
  by_cases h0 : n = 0
  · subst h0
    exact k _ _ ⟨rfl, .inl ⟨rfl, rfl, rfl⟩⟩
  · have e1 : decide ((0 : Int) < (n : Int) - (((0 : Nat) : Int) - ((0 : Nat) : Int))) = true := decide_eq_true (by omega)
    have e2 : decide ((0 : Int) < (n : Int) - (0 - ((0 : Nat) : Int))) = true := decide_eq_true (by omega)
    have e3 : (n : Int) - (0 - ((0 : Nat) : Int)) = (n : Int) := by omega
    have e4 : decide ((0 : Int) < (n : Int)) = true := decide_eq_true (by omega)
    simp (disch := omega) only [e1, e2, e3, e4, if_true]
    have es : ∀ (K : Value → Prop), q P h (Instr.sliceAt t_Sl_uint8 (.slice none 0 0) none (some (.int .i64 0)) none) K = K (.slice none 0 0) := fun K => q_slHi u_Sl_uint8 z_uint8 none 0 0 .i64 0 (Nat.le_refl _)
    try rw [es]
    refine aw_growNil (n := n) u_Sl_uint8 u_int nfo_uint8 rfl (by omega) (by omega) (by omega) fun r c hr hc => ?_
    have es2 := q_slHi (P := P) (h := h.set r (.row t_uint8 [] c (some (0, 0)))) (K := fun t25 => K t25 (h.set r (.row t_uint8 [] c (some (0, 0))))) u_Sl_uint8 z_uint8 (some ⟨r, 0, none⟩) n c .i64 0 (by omega)
    refine es2.mpr ?_
    refine k _ _ ⟨rfl, .inr ⟨r, c, (0, 0), hr, Nat.zero_le _, ?_, by rw [Nat.mul_one], fun i _ => by simp⟩⟩
    unfold SL.cut
    split
    · rfl
    · rw [Option.map_some, add_off]

theorem flat_take (ps : List (List Nat)) (i : Nat) (hi : i < ps.length) : (ps.take (i + 1)).flatten = (ps.take i).flatten ++ ps.getD i [] := by
  rw [List.take_succ_eq_append_getElem hi, List.flatten_append]
  simp [List.getD_eq_getElem?_getD, hi]
theorem flat_le (ps : List (List Nat)) (i : Nat) : (ps.take i).flatten.length ≤ ps.flatten.length := by
  conv => rhs; rw [← List.take_append_drop i ps, List.flatten_append, List.length_append]
  omega

/-- The parts of a row of rows. -/
def Parts (h : Hp) (v : Value) (ps : List (List Nat)) : Prop :=
  ∃ b o c, v = .slice (some ⟨b, o, none⟩) ps.length c ∧ ps.length ≤ c ∧ ∀ i, i < ps.length → ∃ w, h.cell ⟨b, o + i, none⟩ = some w ∧ Rn h .u8 w (ps.getD i [])
theorem Parts.mono {h h' : Hp} {v : Value} {ps : List (List Nat)} (p : Parts h v ps) (c : Hp.cle h h') : Parts h' v ps := by
  obtain ⟨b, o, cc, e, hc, q⟩ := p
  exact ⟨b, o, cc, e, hc, fun i hi => let ⟨w, h1, h2⟩ := q i hi; ⟨w, c _ _ h1, h2.mono c⟩⟩

theorem T_Concat {v : Value} {ps : List (List Nat)} (hv : Parts h v ps) (hl : ps.flatten.length ≤ 70368744177664) (hn : ps.length ≤ 70368744177664) (k : ∀ r h', Nn h t_uint8 .u8 r h' ps.flatten → K r h') : Cn P n_slices_Concat_byte_byte #[v] h K := by
  refine F_slices_Concat_byte_byte ?_
  unfold s_slices_Concat_byte_byte
  obtain ⟨b, o, c, rfl, hc, hp⟩ := hv
  simp (disch := omega) only [GL, RL]
  refine Lp_mk (fun u vs h' => ∃ i : Nat, i + u = ps.length ∧ h' = h ∧ vs = [.int .i64 (((ps.take i).flatten.length : Nat) : Int), .int .i64 (i : Int)]) ps.length ⟨0, by omega, rfl, rfl⟩ ?_
  rintro u vs h' ⟨i, hi, rfl, rfl⟩
  simp (disch := omega) only [GL, RL, wi64, lt_dec]
  by_cases hlt : i < ps.length
  · obtain ⟨w, hw, hr⟩ := hp i hlt
    obtain ⟨a', c', rfl, hc'⟩ := hr.shape
    have e1 : ((((ps.take i).flatten.length : Nat) : Int) + ((ps.getD i []).length : Nat)) = (((ps.take (i + 1)).flatten.length : Nat) : Int) := by rw [flat_take ps i hlt, List.length_append]; omega
    have l1 := flat_le ps (i + 1)
    have e2 : decide ((((ps.take (i + 1)).flatten.length : Nat) : Int) < 0) = false := decide_eq_false (by omega)
    simp (disch := omega) only [GL, RL, wi64, hlt, decide_true, if_true, hw, e1, e2, Bool.false_eq_true, if_false]
    exact ⟨_, .refl _, u - 1, by omega, i + 1, by omega, rfl, rfl⟩
  obtain rfl : i = ps.length := by omega
  simp only [hlt, decide_false, Bool.false_eq_true, if_false, List.take_length]
  refine T_Grow0 _ hl fun v1 h1 hw1 => ?_
  refine Lp_mk (fun u vs h2 => ∃ (i : Nat) (v : Value), i + u = ps.length ∧ New h' t_uint8 1 v h2 (nv .u8 (ps.take i).flatten) (ps.take i).flatten.length ∧ vs = [v, .int .i64 (i : Int)]) ps.length ⟨0, v1, by omega, hw1, rfl⟩ ?_
  clear hw1 hlt
  rintro u vs h2 ⟨i, v2, hi, hw, rfl⟩
  simp (disch := omega) only [GL, RL, wi64, lt_dec]
  by_cases hlt : i < ps.length
  · obtain ⟨w, hwc, hr⟩ := hp i hlt
    have hwc2 := hw.cle _ _ hwc
    simp (disch := omega) only [GL, RL, wi64, hlt, decide_true, if_true, hwc2]
    have l1 := flat_le ps (i + 1)
    rw [flat_take ps i hlt, List.length_append] at l1
    refine aw_append u_Sl_uint8 u_Sl_uint8 nfo_uint8 rfl (by omega) hw (hr.mono hw.cle) (nv_flat _ _) (by omega) (.refl _) fun v3 h3 hw3 => ?_
    refine ⟨_, .refl _, u - 1, by omega, i + 1, v3, by omega, ?_, rfl⟩
    rw [flat_take ps i hlt, nv_app, List.length_append]
    exact hw3
  · obtain rfl : i = ps.length := by omega
    simp only [hlt, decide_false, Bool.false_eq_true, if_false]
    rw [List.take_length] at hw
    exact k _ _ hw

theorem T_padded {v : Value} {ps : List (List Nat)} (hv : Parts h v ps) (hl : ∀ i, (padL (ps.take i)).length ≤ 70368744177664) (hl2 : ∀ i, (ps.getD i []).length ≤ 35184372088832) (hn : ps.length ≤ 70368744177664) (k : ∀ r h', Nn h t_uint8 .u8 r h' (padL ps) → K r h') :
    Cn P n_aead_padded #[v] h K := by
  refine F_aead_padded ?_
  unfold s_aead_padded
  obtain ⟨b, o, c, rfl, hc, hp⟩ := hv
  simp (disch := omega) only [GL, RL]
  refine Lp_mk (fun u vs h2 => ∃ (i : Nat) (v : Value), i + u = ps.length ∧ New h t_uint8 1 v h2 (nv .u8 (padL (ps.take i))) (padL (ps.take i)).length ∧ vs = [v, .int .i64 (i : Int)]) ps.length ⟨0, .slice none 0 0, by omega, ⟨rfl, .inl ⟨rfl, rfl, rfl⟩⟩, rfl⟩ ?_
  rintro u vs h2 ⟨i, v2, hi, hw, rfl⟩
  simp (disch := omega) only [GL, RL, wi64, lt_dec]
  by_cases hlt : i < ps.length
  · obtain ⟨w, hwc, hr⟩ := hp i hlt
    have hwc2 := hw.cle _ _ hwc
    simp (disch := omega) only [GL, RL, wi64, hlt, decide_true, if_true, hwc2]
    have l1 := hl i
    have l2 := hl2 i
    refine aw_append u_Sl_uint8 u_Sl_uint8 nfo_uint8 rfl (by omega) hw (hr.mono hw.cle) (nv_flat _ _) (by omega) (.refl _) fun v3 h3 hw3 => ?_
    have hpad := padL_take ps i hlt
    rw [← nv_app] at hw3
    rw [← List.length_append] at hw3
    have l3 : (padL (ps.take i) ++ ps.getD i []).length ≤ 140737488355328 - 35184372088832 := by rw [List.length_append]; omega
    generalize padL (ps.take i) ++ ps.getD i [] = O at hw3 hpad l3
    clear hw
    refine Lp_mk (fun u' vs h' => ∃ (j : Nat) (v : Value), j + u' = need16 O.length ∧ New h t_uint8 1 v h' (nv .u8 (O ++ List.replicate j 0)) (O.length + j) ∧ vs = [v]) (need16 O.length) ⟨0, v3, by omega, by simpa using hw3, rfl⟩ ?_
    clear hw3
    rintro u' vs h' ⟨j, v4, hj, hw, rfl⟩
    have hn16 : need16 O.length < 16 := Nat.mod_lt _ (by decide)
    obtain ⟨a4, c4, rfl⟩ : ∃ a c, v4 = .slice a (O.length + j) c := by
      obtain ⟨_, a, c, e, _⟩ := hw.rds
      exact ⟨a, c, e⟩
    have e1 : (((O.length + j : Nat) : Int).tmod 16 != 0) = decide ((O.length + j) % 16 ≠ 0) := by
      have : ((O.length + j : Nat) : Int).tmod 16 = (((O.length + j) % 16 : Nat) : Int) := (Int.ofNat_tmod _ 16).symm
      rw [this, Bool.eq_iff_iff, bne_iff_ne, decide_eq_true_eq]; omega
    simp (disch := omega) only [GL, RL, wi64, e1]
    by_cases hz : (O.length + j) % 16 ≠ 0
    · simp (disch := omega) only [hz, decide_true, if_true, not_false_eq_true, ne_eq]
      refine aw_lit (ps := [(0, _)]) u_Sl_uint8 z_uint8 zr_uint8 rfl (by omega) (by intro p hp; rw [List.mem_singleton.1 hp]; exact ⟨rfl, by omega⟩) fun x h4 hx _ => ?_
      refine aw_appendN u_Sl_uint8 u_Sl_uint8 nfo_uint8 rfl (by omega) hw hx (by intro y hy; simp [fillL] at hy; subst hy; rfl) (by omega) fun v5 h5 hw5 => ?_
      have hlt2 : j < need16 O.length := by unfold need16 at hj ⊢; omega
      refine ⟨_, .refl _, u' - 1, by omega, j + 1, v5, by omega, ?_, rfl⟩
      rw [List.replicate_succ', ← List.append_assoc, nv_app]
      exact hw5
    · have hje : j = need16 O.length := by
        simp only [ne_eq, Decidable.not_not] at hz
        unfold need16 at hj ⊢; omega
      simp (disch := omega) only [hz, decide_false, Bool.false_eq_true, if_false, not_true_eq_false, ne_eq]
      refine ⟨_, .refl _, u - 1, by omega, i + 1, _, by omega, ?_, rfl⟩
      rw [hpad]
      unfold pad16
      rw [← hje, List.length_append, List.length_replicate]
      exact hw
  · obtain rfl : i = ps.length := by omega
    simp only [hlt, decide_false, Bool.false_eq_true, if_false]
    rw [List.take_length] at hw
    exact k _ _ hw
end
end Go.Proofs.Ytnecdbclhdbaoaa
