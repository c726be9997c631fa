/- What the tag's functions on bytes come to. Conditions: each names its own. -/
import Derived.Test.YtnecdbclhdbaoaaSWd
set_option linter.unusedSimpArgs false
set_option linter.unusedVariables false
set_option maxRecDepth 100000
namespace Go.Proofs.Ytnecdbclhdbaoaa
open Go Go.SL Go.Pure

theorem q_min {h : Hp} {K : Value → Prop} {t T : TypeId} {k : IntKind} (a b : Int) : q P h (Builtin.min_ #[t, t] T #[.int k a, .int k b]) K = K (.int k (if b < a then b else a)) := q_of (by simp [Builtin.min_, Builtin.min2, pk_pure]) K
theorem orN {a b : Nat} (ha : a < 18446744073709551616) (hb : b < 18446744073709551616) : ior .u64 (a : Int) (b : Int) = ((a ||| b : Nat) : Int) := by
  rw [or64 (by omega) (by omega) (by omega) (by omega), Int.toNat_natCast, Int.toNat_natCast]
theorem orN_lt {a b : Nat} (ha : a < 18446744073709551616) (hb : b < 18446744073709551616) : a ||| b < 18446744073709551616 := Nat.or_lt_two_pow (n := 64) ha hb
theorem shl64 (a n : Nat) (hn : n ≤ 64) : IntKind.u64.wrap ((a : Int) * 2 ^ min n IntKind.u64.bits) = ((a * 2 ^ n % 18446744073709551616 : Nat) : Int) := by
  have : min n IntKind.u64.bits = n := by simp only [IntKind.bits]; omega
  rw [this, mulp, wu64]
theorem shr64' (a n : Nat) (hn : n ≤ 64) : ((a : Int).fdiv (2 ^ min n IntKind.u64.bits)) = ((a / 2 ^ n : Nat) : Int) := by
  have : min n IntKind.u64.bits = n := by simp only [IntKind.bits]; omega
  rw [this, fdivp]

section
variable {h : Hp} {K : Value → Hp → Prop}
theorem T_load {v : Value} {b : List Nat} (hb : Rn h .u8 v b) (bb : Bytes b) (hl : b.length ≤ 9223372036854775807) (k : ∀ h', Hp.le h h' → K (.agg (nv .u64 (loadL b)).toArray) h) : Cn P n_poly_load #[v] h K := by
  refine Cn_wk (F_poly_load ?_)
  unfold s_poly_load
  have hzz : ∀ U : List Nat, U.length = 5 → sz P t_poly_number = some (nv .u64 U).length := fun U hU => by rw [nv_len, hU]; exact z_poly_number
  refine aw_allocL (nv .u64 zero5) zr_number (by rfl) fun r hr => ?_
  refine aw_allocL (nv .u64 zero5) zr_number (by rfl) fun o ho => ?_
  have hro : r ≠ o := by rintro rfl; rw [Hp.set_same] at ho; cases ho
  rw [show (nv IntKind.u64 zero5).length = 5 from rfl]
  obtain ⟨M, hM⟩ : ∃ M : List Nat → Hp, ∀ U, (h.set r (.row t_poly_number (nv .u64 zero5) 5 (some (0, 0)))).set o (.row t_poly_number (nv .u64 U) 5 (some (0, 0))) = M U := ⟨_, fun T => rfl⟩
  have Mo : ∀ U, M U o = some (.row t_poly_number (nv .u64 U) 5 (some (0, 0))) := fun T => by rw [← hM, Hp.set_same]
  have Mr : ∀ U, M U r = some (.row t_poly_number (nv .u64 zero5) 5 (some (0, 0))) := fun U => by rw [← hM, Hp.set_ne _ _ hro, Hp.set_same]
  have Ms : ∀ U U', (M U).set o (.row t_poly_number (nv .u64 U') 5 (some (0, 0))) = M U' := fun T T' => by rw [← hM, ← hM, Hp.set_set]
  have leM : ∀ U, Hp.le h (M U) := fun U => by rw [← hM]; exact (le_fresh hr).trans (le_fresh ho)
  have cM : ∀ U, Hp.cle h (M U) := fun U => by rw [← hM]; exact (cle_set r _ hr).trans (cle_set o _ ho)
  rw [hM]
  refine Lp_mk (fun m vs h' => ∃ i : Nat, i + m = 5 ∧ h' = M (loadN b i) ∧ vs = [.int .i64 (i : Int)]) 5 ⟨0, rfl, rfl, rfl⟩ ?_
  rintro m vs h' ⟨i, hi, rfl, rfl⟩
  have lU := loadN_len b i
  simp (disch := omega) only [GL, RL, wi64, lt_dec5]
  by_cases hlt : i < 5
  · obtain ⟨a, c, hv, hc⟩ := hb.shape
    have e1 : (26 : Int) * (i : Int) = ((26 * i : Nat) : Int) := by omega
    have e2 : ((26 * i : Nat) : Int).tdiv 8 = ((26 * i / 8 : Nat) : Int) := (Int.ofNat_tdiv (26 * i) 8).symm
    have e3 : ((26 * i : Nat) : Int).tmod 8 = ((26 * i % 8 : Nat) : Int) := (Int.ofNat_tmod (26 * i) 8).symm
    have e4 : (if ((b.length : Nat) : Int) < ((26 * i / 8 : Nat) : Int) then ((b.length : Nat) : Int) else ((26 * i / 8 : Nat) : Int)) = ((min (26 * i / 8) b.length : Nat) : Int) := by split <;> omega
    subst hv
    simp (disch := omega) only [GL, RL, wi64, hlt, decide_true, if_true, e1, e2, e3, q_min, e4]
    refine q_slRn u_Sl_uint8 z_uint8 (hb.mono (cM _)) .i64 _ (by omega) fun w hw => ?_
    refine T_word_Get64 hw (bb.drop _) ?_
    simp (disch := omega) only [GL, RL, wi64, e1, e2, e3]
    rw [shr64' _ _ (by omega)]
    have lx : leval ((b.drop (min (26 * i / 8) b.length)).take 8) / 2 ^ (26 * i % 8) < 18446744073709551616 :=
      Nat.lt_of_le_of_lt (Nat.div_le_self _ _) (Nat.lt_of_lt_of_le (leval_take_lt _ (bb.drop _) 8) (by decide))
    rw [and26 lx]
    refine storeN z_uint64 (Mo _) (by omega) (by simp) ?_
    rw [Ms]
    exact ⟨_, .refl _, m - 1, by omega, i + 1, by omega, rfl, rfl⟩
  · obtain rfl : i = 5 := by omega
    simp (disch := omega) only [GL, RL, wi64, hlt, decide_false, Bool.false_eq_true, if_false]
    have hL : loadN b 5 = loadL b := rfl
    rw [hL] at lU ⊢
    rw [q_ldRow u_poly_number rfl (hzz _ lU) (Mo _)]
    refine aw_storeRow (hzz _ lU) (Mr _) (by rw [nv_len, nv_len, lU]; rfl) (nv_flat _ _) (fun i hi => by simp) ?_
    rw [q_resRow (ys := nv .u64 (loadL b)) u_poly_number rfl (hzz _ lU) (Hp.set_same ..)]
    refine ⟨h, ?_, k h (.refl _)⟩
    have : (M (loadL b)).set r (.row t_poly_number (nv .u64 (loadL b)) 5 (some (0, 0))) = (h.set r (.row t_poly_number (nv .u64 (loadL b)) 5 (some (0, 0)))).set o (.row t_poly_number (nv .u64 (loadL b)) 5 (some (0, 0))) := by
      rw [← hM, Hp.set_comm _ _ _ (Ne.symm hro), Hp.set_set]
    rw [this]
    refine (le_fresh hr).trans (le_fresh ?_)
    rw [Hp.set_ne _ _ (Ne.symm hro)]
    rwa [Hp.set_ne _ _ (Ne.symm hro)] at ho

theorem T_bytes {g e cap : Nat} {fz : Option (Nat × Nat)} {v : Value} (S s : List Nat) (hS : S.length = 5) (wS : W64 S) (hg : h g = some (.row e (nv .u64 S) cap fz)) (hv : Rn h .u8 v s) (bs : Bytes s) (hl : 8 ≤ s.length)
    (k : ∀ r h', Nn h t_uint8 .u8 r h' (bytesL S s) → K r h') : Cn P n_poly_number_bytes #[.pointer (some ⟨g, 0, none⟩), v] h K := by
  refine F_poly_number_bytes ?_
  unfold s_poly_number_bytes
  have c0 := cellN (i := 0) hg (by omega)
  have c1 := cellN (i := 1) hg (by omega)
  have c2 := cellN (i := 2) hg (by omega)
  have c3 := cellN (i := 3) hg (by omega)
  have c4 := cellN (i := 4) hg (by omega)
  have w0 := wS.getD 0
  have w1 := wS.getD 1
  have w2 := wS.getD 2
  have w3 := wS.getD 3
  have w4 := wS.getD 4
  obtain ⟨LO, hLO⟩ : ∃ x, lowL S = x := ⟨_, rfl⟩
  obtain ⟨HI, hHI⟩ : ∃ x, highL S = x := ⟨_, rfl⟩
  obtain ⟨B, hB⟩ : ∃ B, bytesL S s = B := ⟨_, rfl⟩
  rw [hB] at k
  unfold bytesL at hB
  dsimp only at hB
  rw [hLO, hHI] at hB
  unfold lowL at hLO
  unfold highL at hHI
  generalize S.getD 0 0 = s0 at *
  generalize S.getD 1 0 = s1 at *
  generalize S.getD 2 0 = s2 at *
  generalize S.getD 3 0 = s3 at *
  generalize S.getD 4 0 = s4 at *
  simp (disch := omega) only [GL, RL, Int.reduceToNat, c0, c1, c2, c3, c4, shl64, shr64']
  have m1 := Nat.mod_lt (s1 * 2 ^ 26) (show 18446744073709551616 > 0 by decide)
  have m2 := Nat.mod_lt (s2 * 2 ^ 52) (show 18446744073709551616 > 0 by decide)
  have m3 := Nat.mod_lt (s3 * 2 ^ 14) (show 18446744073709551616 > 0 by decide)
  have m4 := Nat.mod_lt (s4 * 2 ^ 40) (show 18446744073709551616 > 0 by decide)
  have d2 : s2 / 2 ^ 12 < 18446744073709551616 := Nat.lt_of_le_of_lt (Nat.div_le_self _ _) w2
  have o1 := orN_lt w0 m1
  have o2 := orN_lt d2 m3
  have o3 := orN_lt o1 m2
  have o4 := orN_lt o2 m4
  rw [orN w0 m1, orN o1 m2, orN d2 m3, orN o2 m4, hLO, hHI]
  rw [hLO] at o3
  rw [hHI] at o4
  obtain ⟨a, c, rfl, hc⟩ := hv.shape
  have hsl : peek P h (Instr.sliceAt t_Sl_uint8 (.slice a s.length c) (some (Value.int .i64 8)) none none) = some (.slice (SL.cut a c 8 1) (s.length - 8) (c - 8)) := by
    have := q_slLo (P := P) (h := h) (K := fun x => x = .slice (SL.cut a c 8 1) (s.length - 8) (c - 8)) u_Sl_uint8 z_uint8 a s.length c .i64 8 hl hc
    obtain ⟨x, hx, e⟩ := withVal_elim (K := fun x => x = .slice (SL.cut a c 8 1) (s.length - 8) (c - 8)) (this.mpr rfl)
    rw [e] at hx
    exact hx
  have hr8 : Rn h .u8 (.slice (SL.cut a c 8 1) (s.length - 8) (c - 8)) (s.drop 8) := by
    have := hv.cut 8 s.length hl (Nat.le_refl _)
    rwa [List.take_length] at this
  rw [q_of hsl]
  refine T_word_Get64 hv bs ?_
  refine ⟨hsl, ?_⟩
  refine T_word_Get64 hr8 (bs.drop _) ?_
  obtain ⟨A, hA⟩ : ∃ A, leval (s.take 8) = A := ⟨_, rfl⟩
  obtain ⟨D, hD⟩ : ∃ D, leval ((s.drop 8).take 8) = D := ⟨_, rfl⟩
  rw [hA, hD] at hB ⊢
  simp (disch := omega) only [GL, RL, add64]
  have eD : decide ((((LO + A) % 18446744073709551616 : Nat) : Int) < (A : Int)) = decide ((LO + A) % 18446744073709551616 < A) := lt_dec _ _
  rw [eD]
  have l1 := Nat.mod_lt (LO + A) (show 18446744073709551616 > 0 by decide)
  have l2 := Nat.mod_lt (HI + D) (show 18446744073709551616 > 0 by decide)
  generalize (LO + A) % 18446744073709551616 = X at *
  generalize (HI + D) % 18446744073709551616 = Y at *
  have fin : ∀ Z : Nat, Z < 18446744073709551616 → B = le 8 X ++ le 8 Z → Cn P n_word_Put64 #[Value.int .u64 (X : Int)] h fun t59 h => Cn P n_word_Put64 #[Value.int .u64 (Z : Int)] h fun t61 h => aw P (Builtin.append_ #[t_Sl_uint8, t_Sl_uint8] t_Sl_uint8 #[t59, t61]) (fun t62 h => K t62 h) h := by
    intro Z hZ hBB
    refine T_word_Put64 X l1 fun r1 h1 n1 => T_word_Put64 Z hZ fun r2 h2 n2 => ?_
    have n1' : New h t_uint8 1 r1 h1 (nv .u8 (le 8 X)) 8 := by unfold Nn at n1; rwa [le_len] at n1
    have n2' : New h1 t_uint8 1 r2 h2 (nv .u8 (le 8 Z)) 8 := by unfold Nn at n2; rwa [le_len] at n2
    refine aw_appendN u_Sl_uint8 u_Sl_uint8 nfo_uint8 rfl (by omega) n1' n2' (nv_flat _ _) (by omega) fun v' h5 hw5 => ?_
    refine k _ _ ?_
    unfold Nn
    rw [hBB, nv_app, List.length_append, le_len, le_len]
    exact hw5
  by_cases hlt : X < A
  · rw [if_pos hlt] at hB
    have eY : IntKind.u64.wrap ((Y : Int) + 1) = (((Y + 1) % 18446744073709551616 : Nat) : Int) := add64 Y 1
    simp (disch := omega) only [hlt, decide_true, if_true, eY]
    exact fin _ (Nat.mod_lt _ (by decide)) hB.symm
  · rw [if_neg hlt] at hB
    simp (disch := omega) only [hlt, decide_false, Bool.false_eq_true, if_false]
    exact fin _ l2 hB.symm
end
end Go.Proofs.Ytnecdbclhdbaoaa
