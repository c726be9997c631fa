/- What the functions of the tag come to, limb by limb. Conditions: each names its own. -/
import Derived.Test.YtnecdbclhdbaoaaSWc
import Derived.Test.YtnecdbclhdbaoaaSPc
set_option linter.unusedSimpArgs false
set_option linter.unusedVariables false
set_option maxRecDepth 100000
namespace Go.Proofs.Ytnecdbclhdbaoaa
open Go Go.SL Go.Pure

theorem set_idem {h : Hp} {g : Nat} {o : AObj} (e : h g = some o) : h.set g o = h := by
  funext j
  by_cases ej : j = g
  · subst ej; rw [Hp.set_same, e]
  · rw [Hp.set_ne _ _ ej]
theorem cellN {h : Hp} {g e cap i : Nat} {k : IntKind} {S : List Nat} {fz : Option (Nat × Nat)} (hg : h g = some (.row e (nv k S) cap fz)) (hi : i < S.length) : h.cell ⟨g, i, none⟩ = some (.int k ((S.getD i 0 : Nat) : Int)) := by
  rw [cell_row hg, nv_getD _ _ _ hi]
theorem storeN {h : Hp} {t g e cap i x : Nat} {k : IntKind} {S : List Nat} {f : Nat × Nat} {K : Unit → Hp → Prop} (hs : sz P t = some 1) (hg : h g = some (.row e (nv k S) cap (some f))) (hi : i < S.length) (hf : ¬ (f.1 ≤ i ∧ i < f.2))
    (q : K () (h.set g (.row e (nv k (S.set i x)) cap (some f)))) : aw P (Instr.storeAt t (.pointer (some ⟨g, i, none⟩)) (.int k (x : Int))) K h := by
  refine aw_store hs rfl (put_row hg (by rw [nv_len]; exact hi) hf _) ?_
  rw [nv_set]
  exact q
theorem and26 {a : Nat} (ha : a < 18446744073709551616) : iand .u64 (a : Int) 67108863 = ((a % 67108864 : Nat) : Int) := by
  rw [and64 (by omega) (by omega) (by omega) (by omega), Int.toNat_natCast]
  have := Nat.and_two_pow_sub_one_eq_mod a 26
  simp only [Nat.reducePow, Nat.add_one_sub_one, Nat.reduceSub] at this
  show ((a &&& 67108863 : Nat) : Int) = _
  rw [this]
theorem shr64 (a n : Nat) (hn : n ≤ 64) : ((a : Int).fdiv (2 ^ min ((n : Nat) : Int).toNat IntKind.u64.bits)) = ((a / 2 ^ n : Nat) : Int) := by
  have : min ((n : Nat) : Int).toNat IntKind.u64.bits = n := by simp only [IntKind.bits, Int.toNat_natCast]; omega
  rw [this, fdivp]
theorem shr26 (a : Nat) : ((a : Int).fdiv (2 ^ min ((26 : Int)).toNat IntKind.u64.bits)) = ((a / 67108864 : Nat) : Int) := shr64 a 26 (by omega)
theorem shr26' (a : Nat) : ((a : Int).fdiv (2 ^ min 26 IntKind.u64.bits)) = ((a / 67108864 : Nat) : Int) := shr64 a 26 (by omega)
theorem add64 (a b : Nat) : IntKind.u64.wrap ((a : Int) + (b : Int)) = (((a + b) % 18446744073709551616 : Nat) : Int) := by rw [← Int.natCast_add, wu64]
theorem mul64 (a b : Nat) : IntKind.u64.wrap ((a : Int) * (b : Int)) = (((a * b) % 18446744073709551616 : Nat) : Int) := by rw [← Int.natCast_mul, wu64]
theorem lt_dec (i n : Nat) : decide ((i : Int) < (n : Int)) = decide (i < n) := by
  rw [decide_eq_decide]; omega
theorem lt_dec5 (i : Nat) : decide ((i : Int) < 5) = decide (i < 5) := lt_dec i 5
theorem lt_dec4 (i : Nat) : decide ((i : Int) < 4) = decide (i < 4) := lt_dec i 4
theorem lt_dec3 (i : Nat) : decide ((i : Int) < 3) = decide (i < 3) := lt_dec i 3
theorem zero5_nv : List.replicate 5 (Value.int .u64 0) = nv .u64 zero5 := rfl

theorem zr_number : zr P t_poly_number = some (.agg (nv .u64 zero5).toArray) := by kernel_rfl

section
variable {h : Hp} {K : Value → Hp → Prop}
theorem T_add {g e cap : Nat} {f : Nat × Nat} (S M : List Nat) (hS : S.length = 5) (hM : M.length = 5) (hg : h g = some (.row e (nv .u64 S) cap (some f))) (hf : ∀ i, i < 5 → ¬ (f.1 ≤ i ∧ i < f.2))
    (k : K (.tuple #[]) (h.set g (.row e (nv .u64 (addL S M)) cap (some f)))) : Cn P n_poly_number_add #[.pointer (some ⟨g, 0, none⟩), .agg (nv .u64 M).toArray] h K := by
  refine Cn_wk (F_poly_number_add ?_)
  unfold s_poly_number_add
  refine aw_box fun r hr => ?_
  have hne : g ≠ r := by rintro rfl; rw [hr] at hg; cases hg
  have hO : ∀ T, ((h.set g (.row e (nv .u64 T) cap (some f))).set r (.row t_poly_number (nv .u64 M) 5 (some (0, 0)))) g = some (.row e (nv .u64 T) cap (some f)) := fun T => by rw [Hp.set_ne _ _ hne, Hp.set_same]
  have hR : ∀ T, ((h.set g (.row e (nv .u64 T) cap (some f))).set r (.row t_poly_number (nv .u64 M) 5 (some (0, 0)))) r = some (.row t_poly_number (nv .u64 M) 5 (some (0, 0))) := fun T => Hp.set_same ..
  have hC : (Value.agg (nv .u64 M).toArray).cells.toList = nv .u64 M := rfl
  have hC2 : (Value.agg (nv .u64 M).toArray).cells.size = 5 := by show (nv .u64 M).toArray.size = 5; simp [nv_len, hM]
  rw [hC, hC2]
  refine Lp_mk (fun m vs h' => ∃ i : Nat, i + m = 5 ∧ h' = (h.set g (.row e (nv .u64 (addN S M i)) cap (some f))).set r (.row t_poly_number (nv .u64 M) 5 (some (0, 0))) ∧ vs = [.int .i64 (i : Int)]) 5 ⟨0, rfl, by rw [addN, set_idem hg], rfl⟩ ?_
  rintro m vs h' ⟨i, hi, rfl, rfl⟩
  have lT := addN_len S M i
  simp (disch := omega) only [GL, RL, wi64, lt_dec5]
  by_cases hlt : i < 5
  · have c1 := cellN (i := i) (hO (addN S M i)) (by omega)
    have c2 := cellN (i := i) (hR (addN S M i)) (by omega)
    simp (disch := omega) only [GL, RL, wi64, hlt, decide_true, if_true, c1, c2, add64]
    refine storeN z_uint64 (hO _) (by omega) (hf i hlt) ?_
    refine ⟨_, .refl _, m - 1, by omega, i + 1, by omega, ?_, rfl⟩
    rw [Hp.set_comm _ _ _ (Ne.symm hne), Hp.set_set]
    rfl
  · obtain rfl : i = 5 := by omega
    simp only [hlt, decide_false, Bool.false_eq_true, if_false]
    exact ⟨_, le_fresh (by rw [Hp.set_ne _ _ (Ne.symm hne)]; exact hr), k⟩

theorem T_carry {g e cap : Nat} {f : Nat × Nat} (S : List Nat) (hS : S.length = 5) (wS : W64 S) (hg : h g = some (.row e (nv .u64 S) cap (some f))) (hf : ∀ i, i < 5 → ¬ (f.1 ≤ i ∧ i < f.2))
    (k : K (.tuple #[]) (h.set g (.row e (nv .u64 (carryL S)) cap (some f)))) : Cn P n_poly_number_carry #[.pointer (some ⟨g, 0, none⟩)] h K := by
  refine F_poly_number_carry ?_
  unfold s_poly_number_carry
  obtain ⟨M, hM⟩ : ∃ M : List Nat → Hp, ∀ T, h.set g (.row e (nv .u64 T) cap (some f)) = M T := ⟨_, fun T => rfl⟩
  have Mg : ∀ T, M T g = some (.row e (nv .u64 T) cap (some f)) := fun T => by rw [← hM, Hp.set_same]
  have Ms : ∀ T T', (M T).set g (.row e (nv .u64 T') cap (some f)) = M T' := fun T T' => by rw [← hM, ← hM, Hp.set_set]
  have h0 : h = M S := by rw [← hM, set_idem hg]
  rw [hM] at k
  refine Lp_mk (fun m vs h' => ∃ i : Nat, i + m = 5 ∧ h' = M (carryN S i).2 ∧ vs = [.int .u64 ((carryN S i).1 : Nat), .int .i64 (i : Int)]) 5 ⟨0, rfl, h0, rfl⟩ ?_
  rintro m vs h' ⟨i, hi, rfl, rfl⟩
  have lT := carryN_len S i
  obtain ⟨wc, wT⟩ := carryN_w wS i
  obtain ⟨c, hc⟩ : ∃ c, (carryN S i).1 = c := ⟨_, rfl⟩
  obtain ⟨T, hT⟩ : ∃ T, (carryN S i).2 = T := ⟨_, rfl⟩
  rw [hc] at wc
  rw [hT] at wT lT
  rw [hc, hT]
  simp (disch := omega) only [GL, RL, wi64, lt_dec5]
  by_cases hlt : i < 5
  · have c1 := cellN (i := i) (Mg T) (by omega)
    simp (disch := omega) only [GL, RL, wi64, hlt, decide_true, if_true, c1, add64]
    refine storeN z_uint64 (Mg _) (by omega) (hf i hlt) ?_
    rw [Ms]
    have c2 := cellN (i := i) (Mg (T.set i ((T.getD i 0 + c) % 18446744073709551616))) (by rw [List.length_set]; omega)
    have e2 : (T.set i ((T.getD i 0 + c) % 18446744073709551616)).getD i 0 = (T.getD i 0 + c) % 18446744073709551616 := by
      rw [List.getD_eq_getElem?_getD, List.getElem?_set_self (by omega)]; rfl
    rw [e2] at c2
    have lv : (T.getD i 0 + c) % 18446744073709551616 < 18446744073709551616 := Nat.mod_lt _ (by decide)
    simp (disch := omega) only [GL, RL, wi64, c2, shr26, and26 lv]
    refine storeN z_uint64 (Mg _) (by rw [List.length_set]; omega) (hf i hlt) ?_
    rw [Ms, List.set_set]
    refine ⟨_, .refl _, m - 1, by omega, i + 1, by omega, ?_, ?_⟩
    · simp only [carryN, hc, hT]
    · simp only [carryN, hc, hT]; rfl
  · obtain rfl : i = 5 := by omega
    have c1 := cellN (i := 0) (Mg T) (by omega)
    simp (disch := omega) only [GL, RL, wi64, hlt, decide_false, Bool.false_eq_true, if_false, Int.reduceToNat, c1]
    have e5 : IntKind.u64.wrap (5 * (c : Int)) = ((5 * c % 18446744073709551616 : Nat) : Int) := mul64 5 c
    simp (disch := omega) only [e5, add64]
    refine storeN (S := T) z_uint64 (Mg _) (by omega) (hf 0 (by omega)) ?_
    rw [Ms]
    have hcl : carryL S = carryE c T := by rw [carryL, hc, hT]
    unfold carryE at hcl
    dsimp only at hcl
    have w1 := wT.set 0 (Nat.mod_lt (T.getD 0 0 + 5 * c % 18446744073709551616) (show 18446744073709551616 > 0 by decide))
    generalize hA : T.set 0 ((T.getD 0 0 + 5 * c % 18446744073709551616) % 18446744073709551616) = A at hcl w1 ⊢
    have lA : A.length = 5 := by rw [← hA, List.length_set, ← hT, carryN_len]; exact hS
    have c2 := cellN (i := 0) (Mg A) (by omega)
    have c3 := cellN (i := 1) (Mg A) (by omega)
    simp (disch := omega) only [GL, RL, wi64, Int.reduceToNat, c2, c3, shr26', add64]
    refine storeN (S := A) z_uint64 (Mg A) (by omega) (hf 1 (by omega)) ?_
    rw [Ms]
    have w2 := w1.set 1 (Nat.mod_lt (A.getD 1 0 + A.getD 0 0 / 67108864) (show 18446744073709551616 > 0 by decide))
    generalize hB : A.set 1 ((A.getD 1 0 + A.getD 0 0 / 67108864) % 18446744073709551616) = B at hcl w2 ⊢
    have lB : B.length = 5 := by rw [← hB, List.length_set]; exact lA
    have c4 := cellN (i := 0) (Mg B) (by omega)
    simp (disch := omega) only [GL, RL, wi64, Int.reduceToNat, c4, and26 (w2.getD 0)]
    refine storeN z_uint64 (Mg _) (by omega) (hf 0 (by omega)) ?_
    rw [Ms, ← hcl]
    exact k

theorem T_times {g e cap : Nat} {f : Nat × Nat} (S R : List Nat) (hS : S.length = 5) (hR : R.length = 5) (wS : W64 S) (hg : h g = some (.row e (nv .u64 S) cap (some f))) (hf : ∀ i, i < 5 → ¬ (f.1 ≤ i ∧ i < f.2))
    (k : K (.tuple #[]) (h.set g (.row e (nv .u64 (timesL S R)) cap (some f)))) : Cn P n_poly_number_times #[.pointer (some ⟨g, 0, none⟩), .agg (nv .u64 R).toArray] h K := by
  refine Cn_wk (F_poly_number_times ?_)
  unfold s_poly_number_times
  refine aw_box fun r hr => ?_
  have hgr : g ≠ r := by rintro rfl; rw [hr] at hg; cases hg
  have hC : (Value.agg (nv .u64 R).toArray).cells.toList = nv .u64 R := rfl
  have hC2 : (Value.agg (nv .u64 R).toArray).cells.size = 5 := by show (nv .u64 R).toArray.size = 5; simp [nv_len, hR]
  rw [hC, hC2]
  refine aw_allocL (nv .u64 zero5) zr_number (by rfl) fun o ho => ?_
  have hro : r ≠ o := by rintro rfl; rw [Hp.set_same] at ho; cases ho
  have hgo : g ≠ o := by rintro rfl; rw [Hp.set_ne _ _ hgr, hg] at ho; cases ho
  have hor : h o = none := by rwa [Hp.set_ne _ _ (Ne.symm hro)] at ho
  obtain ⟨M, hM⟩ : ∃ M : List Nat → Hp, ∀ T, (h.set r (.row t_poly_number (nv .u64 R) 5 (some (0, 0)))).set o (.row t_poly_number (nv .u64 T) 5 (some (0, 0))) = M T := ⟨_, fun T => rfl⟩
  have Mo : ∀ T, M T o = some (.row t_poly_number (nv .u64 T) 5 (some (0, 0))) := fun T => by rw [← hM, Hp.set_same]
  have Mr : ∀ T, M T r = some (.row t_poly_number (nv .u64 R) 5 (some (0, 0))) := fun T => by rw [← hM, Hp.set_ne _ _ hro, Hp.set_same]
  have Mg : ∀ T, M T g = some (.row e (nv .u64 S) cap (some f)) := fun T => by rw [← hM, Hp.set_ne _ _ hgo, Hp.set_ne _ _ hgr, hg]
  have Ms : ∀ T T', (M T).set o (.row t_poly_number (nv .u64 T') 5 (some (0, 0))) = M T' := fun T T' => by rw [← hM, ← hM, Hp.set_set]
  have leM : ∀ T, Hp.le h (M T) := fun T => by rw [← hM]; exact (le_fresh hr).trans (le_fresh ho)
  rw [show (nv IntKind.u64 zero5).length = 5 from rfl, hM]
  refine Lp_mk (fun m vs h' => ∃ i : Nat, i + m = 5 ∧ h' = M (tout S R i) ∧ vs = [.int .i64 (i : Int)]) 5 ⟨0, rfl, rfl, rfl⟩ ?_
  rintro m vs h' ⟨i, hi, rfl, rfl⟩
  have lT := tout_len S R i
  simp (disch := omega) only [GL, RL, wi64, lt_dec5]
  by_cases hlt : i < 5
  · simp (disch := omega) only [hlt, decide_true, if_true]
    refine Lp_mk (fun m' vs h' => ∃ j : Nat, j + m' = 5 ∧ h' = M (tin S R i (tout S R i) j) ∧ vs = [.int .i64 (j : Int)]) 5 ⟨0, rfl, rfl, rfl⟩ ?_
    rintro m' vs h' ⟨j, hj, rfl, rfl⟩
    have lI : (tin S R i (tout S R i) j).length = 5 := by rw [tin_len]; exact lT
    simp (disch := omega) only [GL, RL, wi64, lt_dec5]
    by_cases hlt2 : j < 5
    · have c1 := cellN (i := i) (Mg (tin S R i (tout S R i) j)) (by omega)
      have c2 := cellN (i := j) (Mr (tin S R i (tout S R i) j)) (by omega)
      simp (disch := omega) only [GL, RL, wi64, hlt2, decide_true, if_true, c1, c2, mul64]
      have e1 : ((i : Int) + (j : Int)).tmod 5 = (((i + j) % 5 : Nat) : Int) := by rw [← Int.natCast_add]; exact (Int.ofNat_tmod (i + j) 5).symm
      have e2 : decide (5 ≤ (i : Int) + (j : Int)) = decide (5 ≤ i + j) := by rw [decide_eq_decide]; omega
      have e3 : ∀ x : Nat, IntKind.u64.wrap ((x : Int) * 5) = ((x * 5 % 18446744073709551616 : Nat) : Int) := fun x => mul64 x 5
      have hm5 : (i + j) % 5 < 5 := Nat.mod_lt _ (by decide)
      have c3 := cellN (i := (i + j) % 5) (Mo (tin S R i (tout S R i) j)) (by omega)
      have fin : ∀ v : Nat, v = tval i j S R → aw P (Instr.storeAt t_uint64 (Value.pointer (some ⟨o, (i + j) % 5, none⟩)) (.int .u64 ((((tin S R i (tout S R i) j).getD ((i + j) % 5) 0 + v) % 18446744073709551616 : Nat) : Int))) (fun _ h =>
            ∃ h0, Hp.le h0 h ∧ ∃ m, m < m' ∧ ∃ j_1 : Nat, j_1 + m = 5 ∧ h0 = M (tin S R i (tout S R i) j_1) ∧ [Value.int .i64 ((j : Int) + 1)] = [.int .i64 (j_1 : Int)]) (M (tin S R i (tout S R i) j)) := by
        rintro v rfl
        refine storeN z_uint64 (Mo _) (by omega) (by simp) ?_
        rw [Ms]
        exact ⟨_, .refl _, m' - 1, by omega, j + 1, by omega, rfl, rfl⟩
      simp only [e2, e3]
      by_cases h5 : 5 ≤ i + j
      · simp (disch := omega) only [GL, RL, wi64, h5, decide_true, if_true, e1, c3, add64]
        refine fin _ ?_
        unfold tval; rw [if_pos h5]
      · simp (disch := omega) only [GL, RL, wi64, h5, decide_false, Bool.false_eq_true, if_false, e1, c3, add64]
        refine fin _ ?_
        unfold tval; rw [if_neg h5]
    · obtain rfl : j = 5 := by omega
      simp (disch := omega) only [GL, RL, wi64, hlt2, decide_false, Bool.false_eq_true, if_false]
      exact ⟨_, .refl _, m - 1, by omega, i + 1, by omega, rfl, rfl⟩
  · obtain rfl : i = 5 := by omega
    simp (disch := omega) only [GL, RL, wi64, hlt, decide_false, Bool.false_eq_true, if_false]
    have l5 := tout_len S R 5
    have w5 := tout_w S R 5
    have ht : timesL S R = carryL (tout S R 5) := rfl
    rw [ht] at k
    generalize tout S R 5 = U at l5 w5 k lT ⊢
    have hz : sz P t_poly_number = some (nv .u64 U).length := by rw [nv_len, l5]; exact z_poly_number
    rw [q_ldRow u_poly_number rfl hz (Mo _)]
    refine aw_storeRow hz (Mg _) (by rw [nv_len, nv_len, l5, hS]) (nv_flat _ _) (fun i hi => hf i (by rwa [nv_len, hS] at hi)) ?_
    refine T_carry U l5 w5 (Hp.set_same ..) hf ?_
    rw [Hp.set_set]
    exact ⟨_, le_set (leM _), k⟩

theorem T_reduce {g e cap : Nat} {f : Nat × Nat} (S : List Nat) (hS : S.length = 5) (wS : W64 S) (hg : h g = some (.row e (nv .u64 S) cap (some f))) (hf : ∀ i, i < 5 → ¬ (f.1 ≤ i ∧ i < f.2))
    (k : K (.tuple #[]) (h.set g (.row e (nv .u64 (reduceL S)) cap (some f)))) : Cn P n_poly_number_reduce #[.pointer (some ⟨g, 0, none⟩)] h K := by
  refine Cn_wk (F_poly_number_reduce ?_)
  unfold s_poly_number_reduce
  refine T_carry S hS wS hg hf ?_
  refine T_carry (carryL S) (by rw [carryL_len, hS]) (carryL_w wS) (Hp.set_same ..) hf ?_
  rw [Hp.set_set]
  have lT : (carryL (carryL S)).length = 5 := by rw [carryL_len, carryL_len, hS]
  have wT := carryL_w (carryL_w wS)
  have hr : reduceL S = redE (carryL (carryL S)) (redN (carryL (carryL S)) 4) := rfl
  rw [hr] at k
  generalize carryL (carryL S) = T at lT wT k ⊢
  have hzz : ∀ U : List Nat, U.length = 5 → sz P t_poly_number = some (nv .u64 U).length := fun U hU => by rw [nv_len, hU]; exact z_poly_number
  simp (disch := omega) only [GL, RL]
  rw [q_ldRow u_poly_number rfl (hzz T lT) (Hp.set_same ..)]
  refine aw_allocL (nv .u64 zero5) zr_number (by rfl) fun o ho => ?_
  have hgo : g ≠ o := by rintro rfl; rw [Hp.set_same] at ho; cases ho
  refine aw_storeRow (hzz T lT) (Hp.set_same ..) (by rw [nv_len, nv_len, lT]; rfl) (nv_flat _ _) (fun i hi => by simp) ?_
  rw [Hp.set_set, show (nv IntKind.u64 zero5).length = 5 from rfl]
  obtain ⟨M, hM⟩ : ∃ M : List Nat → Hp, ∀ U, (h.set g (.row e (nv .u64 T) cap (some f))).set o (.row t_poly_number (nv .u64 U) 5 (some (0, 0))) = M U := ⟨_, fun T => rfl⟩
  have Mo : ∀ U, M U o = some (.row t_poly_number (nv .u64 U) 5 (some (0, 0))) := fun T => by rw [← hM, Hp.set_same]
  have Mg : ∀ U, M U g = some (.row e (nv .u64 T) cap (some f)) := fun U => by rw [← hM, Hp.set_ne _ _ hgo, Hp.set_same]
  have Ms : ∀ U U', (M U).set o (.row t_poly_number (nv .u64 U') 5 (some (0, 0))) = M U' := fun T T' => by rw [← hM, ← hM, Hp.set_set]
  rw [hM]
  have c0 := cellN (i := 0) (Mo T) (by omega)
  simp (disch := omega) only [GL, RL, Int.reduceToNat, c0]
  have e5 : IntKind.u64.wrap ((T.getD 0 0 : Int) + 5) = (((T.getD 0 0 + 5) % 18446744073709551616 : Nat) : Int) := add64 _ 5
  rw [e5]
  refine storeN z_uint64 (Mo _) (by omega) (by simp) ?_
  rw [Ms]
  refine Lp_mk (fun m vs h' => ∃ i : Nat, i + m = 4 ∧ h' = M (redN T i) ∧ vs = [.int .i64 (i : Int)]) 4 ⟨0, rfl, rfl, rfl⟩ ?_
  rintro m vs h' ⟨i, hi, rfl, rfl⟩
  have lU : (redN T i).length = 5 := by rw [redN_len, lT]
  have wU := redN_w wT i
  obtain ⟨U, hU⟩ : ∃ U, redN T i = U := ⟨_, rfl⟩
  rw [hU] at lU wU ⊢
  simp (disch := omega) only [GL, RL, wi64, lt_dec4]
  by_cases hlt : i < 4
  · have e1 : ((i : Int) + 1).toNat = i + 1 := by omega
    have c1 := cellN (i := i) (Mo U) (by omega)
    have c2 := cellN (i := i + 1) (Mo U) (by omega)
    simp (disch := omega) only [GL, RL, wi64, hlt, decide_true, if_true, e1, c1, c2, shr26, shr26', add64, Int.reduceToNat]
    refine storeN z_uint64 (Mo _) (by omega) (by simp) ?_
    rw [Ms]
    obtain ⟨A, hA⟩ : ∃ A, U.set (i + 1) ((U.getD (i + 1) 0 + U.getD i 0 / 67108864) % 18446744073709551616) = A := ⟨_, rfl⟩
    have lA : A.length = 5 := by rw [← hA, List.length_set]; omega
    have wA : W64 A := by rw [← hA]; exact wU.set _ (Nat.mod_lt _ (by decide))
    rw [hA]
    have c3 := cellN (i := i) (Mo A) (by omega)
    simp (disch := omega) only [GL, RL, wi64, c3, and26 (wA.getD i)]
    refine storeN z_uint64 (Mo _) (by omega) (by simp) ?_
    rw [Ms]
    refine ⟨_, .refl _, m - 1, by omega, i + 1, by omega, ?_, rfl⟩
    simp only [redN, hU, hA]
  · obtain rfl : i = 4 := by omega
    have c1 := cellN (i := 4) (Mo U) (by omega)
    rw [hU] at k
    simp (disch := omega) only [GL, RL, wi64, hlt, decide_false, Bool.false_eq_true, if_false, Int.reduceToNat, c1, shr26, shr26']
    have e0 : (((U.getD 4 0 / 67108864 : Nat) : Int) != 0) = decide (U.getD 4 0 / 67108864 ≠ 0) := by
      rw [Bool.eq_iff_iff, bne_iff_ne, decide_eq_true_eq]; omega
    rw [e0]
    by_cases h0 : U.getD 4 0 / 67108864 ≠ 0
    · rw [if_pos (by simpa using h0)]
      simp (disch := omega) only [and26 (wU.getD 4)]
      refine storeN z_uint64 (Mo _) (by omega) (by simp) ?_
      rw [Ms]
      have hE : redE T U = U.set 4 (U.getD 4 0 % 67108864) := by unfold redE; rw [if_pos h0]
      rw [← hE]
      have lE : (redE T U).length = 5 := by rw [redE_len _ _ (by omega)]; exact lT
      rw [q_ldRow u_poly_number rfl (hzz _ lE) (Mo _)]
      refine aw_storeRow (hzz _ lE) (Mg _) (by rw [nv_len, nv_len, lT, lE]) (nv_flat _ _) (fun i hi => hf i (by rwa [nv_len, lT] at hi)) ?_
      refine ⟨_, ?_, k⟩
      have : Hp.le (h.set g (.row e (nv .u64 T) cap (some f))) (M (redE T U)) := by rw [← hM]; exact le_fresh ho
      have := le_set (b := g) (o := .row e (nv .u64 (redE T U)) cap (some f)) this
      rwa [Hp.set_set] at this
    · rw [if_neg (by simpa using h0)]
      have hE : redE T U = T := by unfold redE; rw [if_neg h0]
      rw [hE] at k
      exact ⟨_, by rw [← hM]; exact le_fresh ho, k⟩
end
end Go.Proofs.Ytnecdbclhdbaoaa
