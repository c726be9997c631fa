/- What Go's own functions on rows come to. Conditions: each names its own. -/
import Derived.Test.YtnecdbclhdbaoaaSWe
set_option linter.unusedSimpArgs false
set_option linter.unusedVariables false
set_option maxRecDepth 100000
namespace Go.Proofs.Ytnecdbclhdbaoaa
open Go Go.SL Go.Pure

section
variable {h : Hp} {K : Value → Hp → Prop}
theorem T_Clone {v : Value} {l : List Nat} (hv : Rn h .u8 v l) (hl : l.length ≤ 70368744177664) (k : ∀ r h', Nn h t_uint8 .u8 r h' l → K r h') : Cn P n_slices_Clone_byte_byte #[v] h K := by
  refine F_slices_Clone_byte_byte ?_
  obtain ⟨a, c, rfl, hc⟩ := hv.shape
  unfold s_slices_Clone_byte_byte
  simp (disch := omega) only [GL, RL]
  cases a with
  | none =>
    have h0 : l = [] := by
      obtain ⟨_, a', c', e, _, h0 | ⟨b, o, e2, _⟩⟩ := hv
      · exact List.eq_nil_of_length_eq_zero h0
      · rw [e2] at e; cases e
    subst h0
    exact k _ _ (Nn.nil ..)
  | some a =>
    refine aw_lit (ps := []) (n := 0) u_Sl_uint8 z_uint8 zr_uint8 rfl (by omega) (by intro p hp; cases hp) fun r h1 hw _ => ?_
    refine aw_append u_Sl_uint8 u_Sl_uint8 nfo_uint8 rfl (by omega) hw (hv.mono hw.cle) (nv_flat _ _) (by omega) (.refl _) fun v' h2 hw2 => ?_
    refine k _ _ ?_
    unfold Nn
    simpa [fillL] using hw2

theorem T_Chunk {v : Value} {n : Nat} (hn : 0 < n) (hf : flat v = true)
    (k : ∀ r2 r3, h r2 = none → h r3 = none → r2 ≠ r3 → K (.func (.func n_slices_Chunk_byte_byte_1) #[] #[.pointer (some ⟨r2, 0, none⟩), .pointer (some ⟨r3, 0, none⟩)]) ((h.set r2 (.row t_Sl_uint8 [v] 1 (some (0, 0)))).set r3 (.row t_int [.int .i64 n] 1 (some (0, 0))))) :
    Cn P n_slices_Chunk_byte_byte #[v, .int .i64 n] h K := by
  refine F_slices_Chunk_byte_byte ?_
  unfold s_slices_Chunk_byte_byte
  refine aw_box fun r2 hr2 => ?_
  refine aw_box fun r3 hr3 => ?_
  have hne : r2 ≠ r3 := by rintro rfl; rw [Hp.set_same] at hr3; cases hr3
  rw [cells_flat hf]
  have c : ((h.set r2 (.row t_Sl_uint8 [v] 1 (some (0, 0)))).set r3 (.row t_int [.int .i64 n] 1 (some (0, 0)))).cell ⟨r3, 0, none⟩ = some (.int .i64 n) := by rw [cell_row (Hp.set_same ..)]; rfl
  simp (disch := omega) only [GL, RL]
  show withVal (((h.set r2 (.row t_Sl_uint8 [v] 1 (some (0, 0)))).set r3 (.row t_int [.int .i64 n] 1 (some (0, 0)))).cell ⟨r3, 0, none⟩) _
  rw [c]
  simp only [withVal_some]
  have e : decide ((n : Int) < 1) = false := by simp; omega
  simp (disch := omega) only [GL, RL, e, Bool.false_eq_true, if_false]
  rw [Hp.set_ne _ _ (Ne.symm hne)] at hr3
  exact k r2 r3 hr2 hr3 hne

/-- An iterator over a row's pieces. I: what holds ahead of the ith round; X: behind a round that ends it. -/
theorem T_Chunk_1 {y v : Value} {p2 p3 : Addr} {m : List Nat} {n : Nat} (hn : 0 < n) (hl : m.length ≤ 4611686018427387904) (hn2 : n ≤ 4611686018427387904) (I : Nat → Hp → Prop) (X : Hp → Prop)
    (hI : ∀ i h', I i h' → h'.cell p2 = some v ∧ h'.cell p3 = some (.int .i64 n) ∧ Rn h' .u8 v m) (h0 : I 0 h)
    (step : ∀ i h' w, n * i < m.length → I i h' → (∀ H, Rn H .u8 v m → Rn H .u8 w (chunkN n m i)) → callP P y [w] h' fun r h'' => (r = .bool true ∧ I (i + 1) h'') ∨ (r = .bool false ∧ X h''))
    (k : ∀ h', I ((m.length + n - 1) / n) h' ∨ X h' → K (.tuple #[]) h') : Cn P n_slices_Chunk_byte_byte_1 #[y, .pointer (some p2), .pointer (some p3)] h K := by
  refine F_slices_Chunk_byte_byte_1 ?_
  unfold s_slices_Chunk_byte_byte_1
  have lti : ∀ i : Nat, i < (m.length + n - 1) / n ↔ n * i < m.length := fun i => by
    rw [Nat.lt_iff_add_one_le, Nat.le_div_iff_mul_le hn, Nat.add_mul, Nat.one_mul, Nat.mul_comm i n]
    omega
  refine Lp_mk (fun u vs h' => ∃ i : Nat, i + u = (m.length + n - 1) / n ∧ I i h' ∧ vs = [.int .i64 ((n * i : Nat) : Int)]) ((m.length + n - 1) / n) ⟨0, by omega, h0, rfl⟩ ?_
  rintro u vs h' ⟨i, hi, hII, rfl⟩
  obtain ⟨c2, c3, hr⟩ := hI i h' hII
  obtain ⟨a, c, rfl, hc⟩ := hr.shape
  simp (disch := omega) only [GL, RL, wi64, c2, lt_dec]
  by_cases hlt : n * i < m.length
  · simp (disch := omega) only [GL, RL, hlt, decide_true, if_true, c3]
    refine q_slRn u_Sl_uint8 z_uint8 hr .i64 _ (by omega) fun w1 hw1 => ?_
    obtain ⟨a1, c1, rfl, hc1⟩ := hw1.shape
    have e4 : (if (((m.drop (n * i)).length : Nat) : Int) < (n : Int) then (((m.drop (n * i)).length : Nat) : Int) else (n : Int)) = ((min n (m.length - n * i) : Nat) : Int) := by
      rw [List.length_drop]; split <;> omega
    have e5 : ((n * i : Nat) : Int) + ((min n (m.length - n * i) : Nat) : Int) = ((min (n * i + n) m.length : Nat) : Int) := by omega
    simp (disch := omega) only [GL, RL, wi64, c2, c3, q_min, e4, e5]
    refine q_slRnLHM u_Sl_uint8 z_uint8 hr .i64 .i64 .i64 _ _ (by omega) (by omega) fun w hw => ?_
    refine callP_mono ?_ (step i h' w hlt hII hw)
    rintro r h'' (⟨rfl, h2⟩ | ⟨rfl, h2⟩)
    · obtain ⟨d2, d3, _⟩ := hI _ _ h2
      have e6 : ((n * i : Nat) : Int) + (n : Int) = ((n * (i + 1) : Nat) : Int) := by rw [Nat.mul_add, Nat.mul_one]; omega
      simp (disch := omega) only [GL, RL, wi64, Bool.not_true, Bool.false_eq_true, if_false, d3, e6]
      have := (lti i).2 hlt
      refine ⟨_, .refl _, u - 1, by omega, i + 1, by omega, h2, ?_⟩
      rw [← e6]
    · simp (disch := omega) only [GL, RL, Bool.not_false, if_true]
      exact k _ (.inr h2)
  · simp (disch := omega) only [GL, RL, hlt, decide_false, Bool.false_eq_true, if_false]
    have hn' := mt (lti i).1 hlt
    obtain rfl : i = (m.length + n - 1) / n := by omega
    exact k _ (.inl hII)
end
end Go.Proofs.Ytnecdbclhdbaoaa
