/- What the reference's products come to, walked. Conditions: each names its own. -/
import Derived.Test.YtoepmfgahcbmiaaSXh
set_option linter.unusedSimpArgs false
set_option linter.unusedVariables false
set_option maxRecDepth 100000
set_option maxHeartbeats 2000000
namespace Go.Proofs.Ytoepmfgahcbmiaa
open Go Go.SL Go.Pure

section
variable {h : Hp} {K : Value → Hp → Prop}
theorem T_ref_times {va vb : Value} {a b : List Nat} (ha : Rn h .i64 va a) (hb : Rn h .i64 vb b) (ba : Bytes a) (bb : Bytes b) (hl : a.length + b.length ≤ 36) (k : ∀ r h', Nn h t_int .i64 r h' (le 36 (leval a * leval b)) → K r h') :
    Cn P n_orlopref05_times #[va, vb] h K := by
  refine F_orlopref05_times ?_
  unfold s_orlopref05_times
  refine aw_make (n := 36) (c := 36) u_Sl_int nfo_int rfl (by omega) (by omega) (by omega) fun r h1 hw => ?_
  obtain ⟨b0, c0, f, hb0, hc0, rfl, _, _⟩ := hw.form (by omega)
  rw [replicate_nv] at hw
  obtain ⟨aa, ca, rfl, hca⟩ := ha.shape
  obtain ⟨ab, cb, rfl, hcb⟩ := hb.shape
  have z0 : ∀ n : Nat, leval (List.replicate n 0) = 0 := fun n => by
    induction n with
    | zero => rfl
    | succ n ih => simp [List.replicate_succ, leval, ih]
  refine Lp_mk (fun u vs h' => ∃ (i : Nat) (o : List Nat), i + u = a.length ∧ New h t_int 1 (.slice (some ⟨b0, 0, none⟩) 36 c0) h' (nv .i64 o) 36 ∧ Bytes o ∧ leval o = leval (a.take i) * leval b ∧ vs = [.int .i64 (i : Int)]) a.length
    ⟨0, List.replicate 36 0, by omega, hw, by intro x hx; rw [List.mem_replicate] at hx; omega, by rw [z0]; simp [leval], rfl⟩ ?_
  clear hw
  rintro u vs h2 ⟨i, o, hi, hw, bo, ho, rfl⟩
  have lo : o.length = 36 := by have := hw.1; rw [nv_len] at this; omega
  simp (disch := omega) only [GL, RL, wi64, lt_dec]
  by_cases hlt : i < a.length
  · simp only [hlt, decide_true, if_true]
    obtain ⟨b1, o1, rfl, hy1⟩ := ha.pos (by omega)
    refine Lp_mk (fun u' vs h' => ∃ (j c : Nat) (o : List Nat), j + u' = 36 ∧ i + j ≤ 36 ∧ New h t_int 1 (.slice (some ⟨b0, 0, none⟩) 36 c0) h' (nv .i64 o) 36 ∧ Mul a b i j c o ∧ vs = [.int .i64 (c : Int), .int .i64 (j : Int)]) 36
      ⟨0, 0, o, rfl, by omega, hw, ⟨lo, bo, by omega, by simp [ho, leval]⟩, rfl⟩ ?_
    clear hw bo ho lo
    rintro u' vs h3 ⟨j, c, o, hj, hij, hw, hm, rfl⟩
    have lo := hm.1
    have bo := hm.2.1
    have hc := hm.2.2.1
    have egt : decide ((0 : Int) < (c : Int)) = decide (0 < c) := lt_dec 0 c
    have eij : (i : Int) + (j : Int) = ((i + j : Nat) : Int) := by omega
    have h1 := bo.getD (i + j)
    have h4 : a.getD i 0 * b.getD j 0 ≤ 255 * 255 := Nat.mul_le_mul (by have := ba.getD i; omega) (by have := bb.getD j; omega)
    obtain ⟨V, hV⟩ : ∃ V, o.getD (i + j) 0 + c + a.getD i 0 * b.getD j 0 = V := ⟨_, rfl⟩
    have e1 : ((V : Nat) : Int).tmod 256 = ((V % 256 : Nat) : Int) := (Int.ofNat_tmod V 256).symm
    have e2 : ((V : Nat) : Int).tdiv 256 = ((V / 256 : Nat) : Int) := (Int.ofNat_tdiv V 256).symm
    have fin : i + j < 36 → aw P (Instr.storeAt 3 (.pointer (some ⟨b0, i + j, none⟩)) (.int .i64 ((V % 256 : Nat) : Int))) (fun _ h_1 => ∃ h0, Hp.le h0 h_1 ∧ ∃ m, m < u' ∧ ∃ (j_1 c : Nat) (o : List Nat), j_1 + m = 36 ∧ i + j_1 ≤ 36 ∧
        New h t_int 1 (.slice (some ⟨b0, 0, none⟩) 36 c0) h0 (nv .i64 o) 36 ∧ Mul a b i j_1 c o ∧ [Value.int .i64 ((V / 256 : Nat) : Int), Value.int .i64 ((j : Int) + 1)] = [.int .i64 (c : Int), .int .i64 (j_1 : Int)]) h3 := by
      intro hlt36
      refine aw_storeN z_int hw hlt36 rfl fun h4 hw4 => ?_
      rw [nv_set] at hw4
      exact ⟨_, .refl _, u' - 1, by omega, j + 1, V / 256, _, by omega, by omega, hw4, hm.step ba bb hlt36 V hV.symm, rfl⟩
    have zB : ¬ j < b.length → b.getD j 0 = 0 := fun q => by simp [List.getElem?_eq_none (show b.length ≤ j by omega)]
    obtain ⟨bw, cw, fw, hbw, _, hvw, hhw, _⟩ := hw.form (by omega)
    simp only [Value.slice.injEq, Option.some.injEq, Addr.mk.injEq] at hvw
    obtain ⟨⟨rfl, _⟩, _, rfl⟩ := hvw
    have co : i + j < 36 → h3.cell ⟨b0, i + j, none⟩ = some (.int .i64 ((o.getD (i + j) 0 : Nat) : Int)) := fun q => cellN (by rw [hhw]; exact Hp.set_same ..) (by omega)
    by_cases hjb : j < b.length
    · obtain ⟨b2, o2, rfl, hy2⟩ := hb.pos (by omega)
      have hlt36 : i + j < 36 := by omega
      have c1 := hw.cle _ _ (hy1 i hlt)
      have c2 := hw.cle _ _ (hy2 j hjb)
      have c3 := co hlt36
      have ev : ((o.getD (i + j) 0 : Nat) : Int) + (c : Int) + ((a.getD i 0 * b.getD j 0 : Nat) : Int) = (V : Int) := by rw [← hV]; push_cast; omega
      have em : ((a.getD i 0 : Nat) : Int) * ((b.getD j 0 : Nat) : Int) = ((a.getD i 0 * b.getD j 0 : Nat) : Int) := by push_cast; rfl
      simp (disch := omega) only [GL, RL, wi64, lt_dec, egt, eij, hjb, decide_true, Bool.true_eq_false, if_false, if_true, c1, c2, c3, em, ev, e1, e2]
      exact fin hlt36
    · have hz := zB hjb
      have eV : V = o.getD (i + j) 0 + c := by rw [← hV, hz, Nat.mul_zero, Nat.add_zero]
      by_cases hc0 : 0 < c
      · have hk := hm.bound ba bb hc0
        have hlt36 : i + j < 36 := by omega
        have c3 := co hlt36
        have ev : ((o.getD (i + j) 0 : Nat) : Int) + (c : Int) = (V : Int) := by rw [eV]; push_cast; rfl
        simp (disch := omega) only [GL, RL, wi64, lt_dec, egt, eij, hjb, hc0, decide_true, decide_false, Bool.false_eq_true, if_false, if_true, c3, ev, e1, e2]
        exact fin hlt36
      · simp (disch := omega) only [GL, RL, wi64, lt_dec, egt, eij, hjb, hc0, decide_false, Bool.false_eq_true, if_false, if_true]
        refine ⟨_, .refl _, u - 1, by omega, i + 1, o, by omega, hw, bo, ?_, rfl⟩
        have := hm.2.2.2
        rw [show c = 0 by omega, Nat.mul_zero, Nat.add_zero, List.take_of_length_le (l := b) (i := j) (by omega)] at this
        rw [this, leval_take_succ, Nat.add_mul, Nat.mul_assoc]
  · obtain rfl : i = a.length := by omega
    simp only [hlt, decide_false, Bool.false_eq_true, if_false]
    rw [List.take_length] at ho
    have := le_leval bo
    rw [lo, ho] at this
    refine k _ _ ?_
    unfold Nn
    rw [le_len, this]
    exact hw
end
end Go.Proofs.Ytoepmfgahcbmiaa
