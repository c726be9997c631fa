/- What the reference's prime comes to; products. Conditions: each names its own. -/
import Derived.Test.YtoepmfgahcbmiaaSXf
set_option linter.unusedSimpArgs false
set_option linter.unusedVariables false
set_option maxRecDepth 100000
set_option maxHeartbeats 2000000
namespace Go.Proofs.Ytoepmfgahcbmiaa
open Go Go.SL Go.Pure

def primeL : List Nat := 251 :: (List.replicate 15 255 ++ [3])
theorem primeL_len : primeL.length = 17 := rfl
theorem primeL_bytes : Bytes primeL := by intro x hx; simp [primeL, List.mem_replicate] at hx; omega
theorem primeL_val : leval primeL = 2 ^ 130 - 5 := by decide

section
variable {h : Hp} {K : Value → Hp → Prop}
theorem T_ref_prime (k : ∀ r h', Nn h t_int .i64 r h' primeL → K r h') : Cn P n_orlopref05_prime #[] h K := by
  refine F_orlopref05_prime ?_
  unfold s_orlopref05_prime
  refine aw_make (n := 17) (c := 17) u_Sl_int nfo_int rfl (by omega) (by omega) (by omega) fun r h1 hw => ?_
  obtain ⟨b0, c0, f, hb0, hc0, rfl, _, _⟩ := hw.form (by omega)
  rw [replicate_nv] at hw
  refine Lp_mk (fun u vs h' => ∃ i : Nat, i + u = 16 ∧ New h t_int 1 (.slice (some ⟨b0, 0, none⟩) 17 c0) h' (nv .i64 (List.replicate i 255 ++ List.replicate (17 - i) 0)) 17 ∧ vs = [.int .i64 (i : Int)]) 16 ⟨0, rfl, by simpa using hw, rfl⟩ ?_
  clear hw
  rintro u vs h2 ⟨i, hi, hw, rfl⟩
  have e16 : decide ((i : Int) < 16) = decide (i < 16) := lt_dec i 16
  simp (disch := omega) only [GL, RL, wi64, e16]
  by_cases hlt : i < 16
  · simp only [hlt, decide_true, if_true]
    refine aw_storeN z_int hw (by omega) rfl fun h3 hw3 => ?_
    have e : (nv .i64 (List.replicate i 255 ++ List.replicate (17 - i) 0)).set i (.int .i64 255) = nv .i64 (List.replicate (i + 1) 255 ++ List.replicate (17 - (i + 1)) 0) := by
      have := nv_set .i64 (List.replicate i 255 ++ List.replicate (17 - i) 0) i 255
      refine this.trans (congrArg _ ?_)
      obtain ⟨d, hd⟩ : ∃ d, 17 - i = d + 1 := ⟨16 - i, by omega⟩
      rw [hd, List.set_append_right _ _ (by simp), List.length_replicate, Nat.sub_self, List.replicate_succ, List.set_cons_zero, List.replicate_succ', List.append_assoc, show 17 - (i + 1) = d by omega]
      rfl
    rw [e] at hw3
    exact ⟨_, .refl _, u - 1, by omega, i + 1, by omega, hw3, rfl⟩
  · obtain rfl : i = 16 := by omega
    simp only [hlt, decide_false, Bool.false_eq_true, if_false]
    refine aw_storeN (i := 0) z_int hw (by omega) rfl fun h3 hw3 => ?_
    refine aw_storeN (i := 16) z_int hw3 (by omega) rfl fun h4 hw4 => ?_
    exact k _ _ hw4
end
end Go.Proofs.Ytoepmfgahcbmiaa
