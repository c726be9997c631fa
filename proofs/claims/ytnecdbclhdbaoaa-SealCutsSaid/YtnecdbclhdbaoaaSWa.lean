/- What the functions of numbers as bytes come to. Conditions: each names its own. -/
import Derived.Test.YtnecdbclhdbaoaaGz
import Derived.Test.YtnecdbclhdbaoaaSPa
set_option linter.unusedSimpArgs false
set_option linter.unusedVariables false
set_option maxRecDepth 100000
namespace Go.Proofs.Ytnecdbclhdbaoaa
open Go Go.SL Go.Pure

theorem T_word_at {h : Hp} {K : Value → Hp → Prop} {v : Value} {l : List Nat} (i : Nat) (hr : Rn h .u8 v l) (hb : Bytes l) (k : K (.int .u64 ((l.getD i 0 : Nat) : Int)) h) : Cn P n_word_at #[v, .int .i64 i] h K := by
  refine F_word_at ?_
  obtain ⟨a, c, rfl, hc⟩ := hr.shape
  unfold s_word_at
  by_cases hlt : i < l.length
  · obtain ⟨b, o, rfl, hy⟩ := hr.pos (by omega)
    have := hb.getD i
    simp (disch := omega) only [GL, RL, hy i hlt, wu64i]
    rw [if_pos (by simpa using hlt)]
    exact k
  · simp (disch := omega) only [GL, RL]
    rw [if_neg (by simpa using hlt)]
    simpa [List.getElem?_eq_none (show l.length ≤ i by omega)] using k

theorem T_word_get {h : Hp} {K : Value → Hp → Prop} {v : Value} {l : List Nat} (n : Nat) (hn : n ≤ 8) (hr : Rn h .u8 v l) (hb : Bytes l) (k : K (.int .u64 ((leval (l.take n) : Nat) : Int)) h) : Cn P n_word_get #[v, .int .i64 n] h K := by
  refine F_word_get ?_
  unfold s_word_get
  refine Lp_mk (fun m vs h' => ∃ i, i + m = n ∧ h' = h ∧ vs = [.int .u64 ((leval (l.take i) : Nat) : Int), .int .i64 (i : Int)]) n ⟨0, by omega, rfl, by simp [leval]⟩ ?_
  rintro m vs h1 ⟨i, hi, rfl, rfl⟩
  simp (disch := omega) only [GL, RL]
  split
  · rename_i hlt
    simp only [decide_eq_true_eq, Int.ofNat_lt] at hlt
    refine T_word_at i hr hb ?_
    have h1 := hb.getD i
    have h2 := leval_take_lt l hb i
    have h3 : 256 ^ i * l.getD i 0 < 2 ^ 64 := by
      have : 256 ^ (i + 1) ≤ 256 ^ 8 := Nat.pow_le_pow_right (by decide) (by omega)
      have h4 : 256 ^ i * l.getD i 0 < 256 ^ (i + 1) := by rw [Nat.pow_succ]; exact Nat.mul_lt_mul_of_pos_left h1 (Nat.pow_pos (by decide))
      omega
    have h4 : 256 ^ i ≤ 256 ^ 8 := Nat.pow_le_pow_right (by decide) (by omega)
    simp (disch := omega) only [GL, RL, wi64]
    refine ⟨_, .refl _, m - 1, by omega, i + 1, by omega, rfl, ?_⟩
    have e1 : min (8 * (i : Int)).toNat IntKind.u64.bits = 8 * i := by simp only [IntKind.bits]; omega
    have e2 : l.getD i 0 * 2 ^ (8 * i) = 256 ^ i * l.getD i 0 := by rw [pow256, Nat.mul_comm]
    rw [e1, mulp, e2, wu64i (by omega) (by omega), or64 (by omega) (by omega) (by omega) (by omega), Int.toNat_natCast, Int.toNat_natCast, leval_take_succ, ← e2, or_add _ _ _ (by rw [← pow256]; exact h2)]
    rfl
  · rename_i hge
    simp only [decide_eq_true_eq, Int.ofNat_lt] at hge
    obtain rfl : i = n := by omega
    exact k
theorem T_word_Get32 {h : Hp} {K : Value → Hp → Prop} {v : Value} {l : List Nat} (hr : Rn h .u8 v l) (hb : Bytes l) (k : K (.int .u32 ((leval (l.take 4) : Nat) : Int)) h) : Cn P n_word_Get32 #[v] h K := by
  refine F_word_Get32 ?_
  unfold s_word_Get32
  refine T_word_get 4 (by omega) hr hb ?_
  have := leval_take_lt l hb 4
  simp (disch := omega) only [GL, RL, wu32i]
  exact k
theorem T_word_Get64 {h : Hp} {K : Value → Hp → Prop} {v : Value} {l : List Nat} (hr : Rn h .u8 v l) (hb : Bytes l) (k : K (.int .u64 ((leval (l.take 8) : Nat) : Int)) h) : Cn P n_word_Get64 #[v] h K := by
  refine F_word_Get64 ?_
  unfold s_word_Get64
  refine T_word_get 8 (by omega) hr hb ?_
  exact k

/-- The reference: the same number. -/
theorem T_orlopref01_Get {h : Hp} {K : Value → Hp → Prop} {v : Value} {l : List Nat} (n : Nat) (hn : n ≤ 8) (hr : Rn h .u8 v l) (hb : Bytes l) (hl : l.length ≤ 9223372036854775807) (k : K (.int .u64 ((leval (l.take n) : Nat) : Int)) h) : Cn P n_orlopref01_Get #[v, .int .i64 n] h K := by
  refine F_orlopref01_Get ?_
  obtain ⟨a, c, rfl, hc⟩ := hr.shape
  unfold s_orlopref01_Get
  simp (disch := omega) only [GL, RL, wi64]
  refine Lp_mk (fun m vs h' => ∃ i : Nat, i = m ∧ i ≤ n ∧ h' = h ∧ vs = [.int .u64 ((leval ((l.take n).drop i) : Nat) : Int), .int .i64 ((i : Int) - 1)]) n ⟨n, rfl, by omega, rfl, by rw [List.drop_of_length_le (by rw [List.length_take]; exact Nat.min_le_left _ _)]; rfl⟩ ?_
  rintro m vs h1 ⟨i, rfl, hi, rfl, rfl⟩
  simp (disch := omega) only [GL, RL, wi64]
  by_cases h0 : i = 0
  · subst h0
    simpa using k
  · obtain ⟨j, rfl⟩ : ∃ j, i = j + 1 := ⟨i - 1, by omega⟩
    have hg : decide ((0 : Int) ≤ ((j + 1 : Nat) : Int) - 1) = true := by simp
    rw [if_pos hg]
    have hb1 : leval ((l.take n).drop (j + 1)) < 256 ^ (n - (j + 1)) := by
      refine Nat.lt_of_lt_of_le (leval_lt _ ((hb.take n).drop _)) (Nat.pow_le_pow_right (by decide) ?_)
      rw [List.length_drop, List.length_take]
      omega
    have hb2 : 256 ^ (n - (j + 1)) ≤ 256 ^ 7 := Nat.pow_le_pow_right (by decide) (by omega)
    have hx := hb.getD j
    have ej : ((j + 1 : Nat) : Int) - 1 = (j : Int) := by omega
    have key : leval ((l.take n).drop j) = l.getD j 0 + 256 * leval ((l.take n).drop (j + 1)) := by
      by_cases hj : j < l.length
      · have : j < (l.take n).length := by rw [List.length_take]; omega
        rw [List.drop_eq_getElem_cons this]
        simp [leval, hj]
      · rw [List.drop_of_length_le (by rw [List.length_take]; omega), List.drop_of_length_le (by rw [List.length_take]; omega)]
        simp [leval, List.getElem?_eq_none (show l.length ≤ j by omega)]
    rw [ej]
    by_cases hlt : j < l.length
    · obtain ⟨b, o, rfl, hy⟩ := hr.pos (by omega)
      have hc1 : decide ((j : Int) < ((l.length : Nat) : Int)) = true := by simpa using hlt
      rw [if_pos hc1]
      simp (disch := omega) only [GL, RL, hy j hlt, wu64i, wi64]
      refine ⟨_, .refl _, j, by omega, j, rfl, by omega, rfl, ?_⟩
      rw [key]
      congr 2
      push_cast
      omega
    · have hc1 : ¬ decide ((j : Int) < ((l.length : Nat) : Int)) = true := by simpa using hlt
      rw [if_neg hc1]
      simp (disch := omega) only [GL, RL, wu64i, wi64]
      refine ⟨_, .refl _, j, by omega, j, rfl, by omega, rfl, ?_⟩
      rw [key]
      have : l.getD j 0 = 0 := by simp [List.getElem?_eq_none (show l.length ≤ j by omega)]
      rw [this]
      congr 2
      push_cast
      omega
end Go.Proofs.Ytnecdbclhdbaoaa
