/- What the reference's filling up comes to: the same as the program's. Conditions: each names its own. -/
import Derived.Test.YtoepmfgahcbmiaaSXc
set_option linter.unusedSimpArgs false
set_option linter.unusedVariables false
set_option maxRecDepth 100000
namespace Go.Proofs.Ytoepmfgahcbmiaa
open Go Go.SL Go.Pure

section
variable {h : Hp} {K : Value → Hp → Prop}
theorem T_ref_full {v : Value} {O : List Nat} (hv : Rn h .u8 v O) (lO : O.length ≤ 70368744177664) (k : ∀ r h', Nn h t_uint8 .u8 r h' (pad16 O) → K r h') : Cn P n_orlopref06_full #[v] h K := by
  refine F_orlopref06_full ?_
  unfold s_orlopref06_full
  refine aw_lit (ps := []) (n := 0) u_Sl_uint8 z_uint8 zr_uint8 rfl (by omega) (by intro p hp; cases hp) fun v1 h1 n1 _ => ?_
  refine aw_append u_Sl_uint8 u_Sl_uint8 nfo_uint8 rfl (by omega) n1 (hv.mono n1.cle) (nv_flat _ _) (by omega) (.refl _) fun v3 h3 n3 => ?_
  have hw3 : New h t_uint8 1 v3 h3 (nv .u8 O) O.length := by simpa [fillL] using n3
  refine Lp_mk (fun u' vs h' => ∃ (j : Nat) (v : Value), j + u' = need16 O.length ∧ New h t_uint8 1 v h' (nv .u8 (O ++ List.replicate j 0)) (O.length + j) ∧ vs = [v]) (need16 O.length) ⟨0, v3, by omega, by simpa using hw3, rfl⟩ ?_
  clear hw3 n3 n1
  rintro u' vs h' ⟨j, v4, hj, hw, rfl⟩
  have hn16 : need16 O.length < 16 := Nat.mod_lt _ (by decide)
  obtain ⟨a4, c4, rfl⟩ : ∃ a c, v4 = .slice a (O.length + j) c := by
    obtain ⟨_, a, c, e, _⟩ := hw.rds
    exact ⟨a, c, e⟩
  have e1 : decide ((0 : Int) < ((O.length + j : Nat) : Int).tmod 16) = decide ((O.length + j) % 16 ≠ 0) := by
    have : ((O.length + j : Nat) : Int).tmod 16 = (((O.length + j) % 16 : Nat) : Int) := (Int.ofNat_tmod _ 16).symm
    rw [this, decide_eq_decide]; omega
  simp (disch := omega) only [GL, RL, wi64, e1]
  by_cases hz : (O.length + j) % 16 ≠ 0
  · simp (disch := omega) only [hz, decide_true, if_true, not_false_eq_true, ne_eq]
    refine aw_lit (ps := [(0, _)]) u_Sl_uint8 z_uint8 zr_uint8 rfl (by omega) (by intro p hp; rw [List.mem_singleton.1 hp]; exact ⟨rfl, by omega⟩) fun x h4 hx _ => ?_
    refine aw_appendN u_Sl_uint8 u_Sl_uint8 nfo_uint8 rfl (by omega) hw hx (by intro y hy; simp [fillL] at hy; subst hy; rfl) (by omega) fun v5 h5 hw5 => ?_
    have hlt2 : j < need16 O.length := by unfold need16 at hj ⊢; omega
    refine ⟨_, .refl _, u' - 1, by omega, j + 1, v5, by omega, ?_, rfl⟩
    rw [List.replicate_succ', ← List.append_assoc, nv_app]
    exact hw5
  · have hje : j = need16 O.length := by
      simp only [ne_eq, Decidable.not_not] at hz
      unfold need16 at hj ⊢; omega
    simp (disch := omega) only [hz, decide_false, Bool.false_eq_true, if_false, not_true_eq_false, ne_eq]
    refine k _ _ ?_
    unfold Nn pad16
    rw [← hje, List.length_append, List.length_replicate]
    exact hw
end
end Go.Proofs.Ytoepmfgahcbmiaa
