/- What the reference's numbers as bytes come to: sums. Conditions: each names its own. -/
import Derived.Test.YtoepmfgahcbmiaaSXd
set_option linter.unusedSimpArgs false
set_option linter.unusedVariables false
set_option maxRecDepth 100000
set_option maxHeartbeats 2000000
namespace Go.Proofs.Ytoepmfgahcbmiaa
open Go Go.SL Go.Pure

def sumT (a b : List Nat) (i : Nat) : Nat := leval (a.take i) + leval (b.take i)
theorem sumT_succ (a b : List Nat) (i : Nat) : sumT a b (i + 1) = sumT a b i + 256 ^ i * (a.getD i 0 + b.getD i 0) := by
  unfold sumT
  rw [leval_take_succ, leval_take_succ, Nat.mul_add]
  omega
theorem leval_split (a : List Nat) (i : Nat) : leval a = leval (a.take i) + 256 ^ i * leval (a.drop i) := by
  by_cases hi : i ≤ a.length
  · conv => lhs; rw [← List.take_append_drop i a, leval_append, List.length_take, Nat.min_eq_left hi]
  · rw [List.take_of_length_le (by omega), List.drop_of_length_le (by omega)]
    simp [leval]
theorem sumT_digit (a b : List Nat) (i : Nat) : (leval a + leval b) / 256 ^ i % 256 = sumT a b (i + 1) / 256 ^ i % 256 := by
  have e : leval a + leval b = sumT a b (i + 1) + 256 ^ i * (256 * (leval (a.drop (i + 1)) + leval (b.drop (i + 1)))) := by
    rw [leval_split a (i + 1), leval_split b (i + 1), sumT, Nat.pow_succ, Nat.mul_add 256, Nat.mul_add, ← Nat.mul_assoc, ← Nat.mul_assoc]
    omega
  rw [e, Nat.add_mul_div_left _ _ (Nat.pow_pos (by decide)), Nat.add_mul_mod_self_left]
theorem sumT_carry (a b : List Nat) (i : Nat) : sumT a b i / 256 ^ i + (a.getD i 0 + b.getD i 0) = sumT a b (i + 1) / 256 ^ i := by
  rw [sumT_succ, Nat.add_mul_div_left _ _ (Nat.pow_pos (by decide))]
theorem sumT_next (a b : List Nat) (i : Nat) : sumT a b (i + 1) / 256 ^ i / 256 = sumT a b (i + 1) / 256 ^ (i + 1) := by
  rw [Nat.div_div_eq_div_mul, Nat.pow_succ]
theorem sumT_lt {a b : List Nat} (ha : Bytes a) (hb : Bytes b) (i : Nat) : sumT a b i / 256 ^ i < 2 := by
  rw [Nat.div_lt_iff_lt_mul (Nat.pow_pos (by decide))]
  have := leval_take_lt a ha i
  have := leval_take_lt b hb i
  unfold sumT
  omega

section
variable {h : Hp} {K : Value → Hp → Prop}
theorem T_ref_add {va vb : Value} {a b : List Nat} (n : Nat) (hn0 : 0 < n) (hn : n ≤ 1000) (ha : Rn h .i64 va a) (hb : Rn h .i64 vb b) (ba : Bytes a) (bb : Bytes b) (k : ∀ r h', Nn h t_int .i64 r h' (le n (leval a + leval b)) → K r h') :
    Cn P n_orlopref05_add #[va, vb, .int .i64 n] h K := by
  refine F_orlopref05_add ?_
  unfold s_orlopref05_add
  refine aw_make (n := n) (c := n) u_Sl_int nfo_int rfl (Nat.le_refl n) (by omega) (by omega) fun r h1 hw => ?_
  obtain ⟨b0, c0, f, hb0, hc0, rfl, _, _⟩ := hw.form hn0
  rw [replicate_nv] at hw
  obtain ⟨aa, ca, rfl, hca⟩ := ha.shape
  obtain ⟨ab, cb, rfl, hcb⟩ := hb.shape
  refine Lp_mk (fun u vs h' => ∃ i : Nat, i + u = n ∧ New h t_int 1 (.slice (some ⟨b0, 0, none⟩) n c0) h' (nv .i64 ((le n (leval a + leval b)).take i ++ List.replicate (n - i) 0)) n ∧ vs = [.int .i64 ((sumT a b i / 256 ^ i : Nat) : Int), .int .i64 (i : Int)]) n
    ⟨0, by omega, by simpa using hw, by simp [sumT, leval]⟩ ?_
  clear hw
  rintro u vs h2 ⟨i, hi, hw, rfl⟩
  simp (disch := omega) only [GL, RL, wi64, lt_dec]
  by_cases hlt : i < n
  · have hcl := sumT_lt ba bb i
    have hx := ba.getD i
    have hy := bb.getD i
    have hdig := sumT_digit a b i
    have hcar := sumT_carry a b i
    have hnx := sumT_next a b i
    have hst := le_step n (leval a + leval b) i hlt
    obtain ⟨c, hc⟩ : ∃ c, sumT a b i / 256 ^ i = c := ⟨_, rfl⟩
    rw [hc] at hcl hcar ⊢
    have fin : ∀ v : Nat, v = c + (a.getD i 0 + b.getD i 0) → q P h2 (binOp .rem 3 (.int .i64 (v : Int)) (Value.int .i64 256)) fun t40 => q P h2 (Instr.indexAt 45 (.slice (some ⟨b0, 0, none⟩) n c0) (.int .i64 (i : Int))) fun t41 => aw P (Instr.storeAt 3 t41 t40) (fun _ h_1 => q P h_1 (binOp .quo 3 (.int .i64 (v : Int)) (Value.int .i64 256)) fun t43 =>
        ∃ h0, Hp.le h0 h_1 ∧ ∃ m, m < u ∧ ∃ i_1 : Nat, i_1 + m = n ∧ New h t_int 1 (.slice (some ⟨b0, 0, none⟩) n c0) h0 (nv .i64 ((le n (leval a + leval b)).take i_1 ++ List.replicate (n - i_1) 0)) n ∧ [t43, Value.int .i64 ((i : Int) + 1)] = [.int .i64 ((sumT a b i_1 / 256 ^ i_1 : Nat) : Int), .int .i64 (i_1 : Int)]) h2 := by
      rintro v rfl
      rw [hcar]
      obtain ⟨V, hV⟩ : ∃ V, sumT a b (i + 1) / 256 ^ i = V := ⟨_, rfl⟩
      have hVl : V < 1000 := by rw [← hV, ← hcar]; omega
      rw [hV] at hdig hnx ⊢
      have e1 : ((V : Nat) : Int).tmod 256 = ((V % 256 : Nat) : Int) := (Int.ofNat_tmod V 256).symm
      have e2 : ((V : Nat) : Int).tdiv 256 = ((V / 256 : Nat) : Int) := (Int.ofNat_tdiv V 256).symm
      simp (disch := omega) only [GL, RL, e1, e2, wi64]
      refine aw_storeN z_int hw hlt rfl fun h3 hw3 => ?_
      rw [nv_set, ← hdig, hst] at hw3
      refine ⟨_, .refl _, u - 1, by omega, i + 1, by omega, hw3, ?_⟩
      rw [hnx]
      rfl
    have zA : ¬ i < a.length → a.getD i 0 = 0 := fun q => by simp [List.getElem?_eq_none (show a.length ≤ i by omega)]
    have zB : ¬ i < b.length → b.getD i 0 = 0 := fun q => by simp [List.getElem?_eq_none (show b.length ≤ i by omega)]
    simp only [hlt, decide_true, if_true]
    by_cases hia : i < a.length
    · obtain ⟨b1, o1, rfl, hy1⟩ := ha.pos (by omega)
      have c1 := hw.cle _ _ (hy1 i hia)
      by_cases hib : i < b.length
      · obtain ⟨b2, o2, rfl, hy2⟩ := hb.pos (by omega)
        have c2 := hw.cle _ _ (hy2 i hib)
        simp (disch := omega) only [GL, RL, wi64, lt_dec, hia, hib, decide_true, if_true, c1, c2]
        have := fin _ rfl
        simp (disch := omega) only [GL, RL, wi64] at this
        have e : ((c + (a.getD i 0 + b.getD i 0) : Nat) : Int) = (c : Int) + ((a.getD i 0 : Nat) : Int) + ((b.getD i 0 : Nat) : Int) := by push_cast; omega
        rw [e] at this
        exact this
      · simp (disch := omega) only [GL, RL, wi64, lt_dec, hia, hib, decide_true, decide_false, Bool.false_eq_true, if_false, if_true, c1]
        have := fin _ rfl
        simp (disch := omega) only [GL, RL, wi64] at this
        have e : ((c + (a.getD i 0 + b.getD i 0) : Nat) : Int) = (c : Int) + ((a.getD i 0 : Nat) : Int) := by rw [zB hib]; push_cast; omega
        rw [e] at this
        exact this
    · by_cases hib : i < b.length
      · obtain ⟨b2, o2, rfl, hy2⟩ := hb.pos (by omega)
        have c2 := hw.cle _ _ (hy2 i hib)
        simp (disch := omega) only [GL, RL, wi64, lt_dec, hia, hib, decide_true, decide_false, Bool.false_eq_true, if_false, if_true, c2]
        have := fin _ rfl
        simp (disch := omega) only [GL, RL, wi64] at this
        have e : ((c + (a.getD i 0 + b.getD i 0) : Nat) : Int) = (c : Int) + ((b.getD i 0 : Nat) : Int) := by rw [zA hia]; push_cast; omega
        rw [e] at this
        exact this
      · simp (disch := omega) only [GL, RL, wi64, lt_dec, hia, hib, decide_false, Bool.false_eq_true, if_false]
        have := fin _ rfl
        simp (disch := omega) only [GL, RL, wi64] at this
        have e : ((c + (a.getD i 0 + b.getD i 0) : Nat) : Int) = (c : Int) := by rw [zA hia, zB hib]; rfl
        rw [e] at this
        exact this
  · obtain rfl : i = n := by omega
    simp only [hlt, decide_false, Bool.false_eq_true, if_false]
    rw [List.take_of_length_le (by rw [le_len]; omega), Nat.sub_self, List.replicate_zero, List.append_nil] at hw
    refine k _ _ ?_
    unfold Nn
    rw [le_len]
    exact hw
end
end Go.Proofs.Ytoepmfgahcbmiaa
