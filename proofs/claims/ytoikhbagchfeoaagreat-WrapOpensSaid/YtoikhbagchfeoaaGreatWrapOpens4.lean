/- wrapOpens_holds wrapOpens proved lifted over: part 4 of its proof; each part's own remarks stand with its declarations. Conditions: each lemma names its own. -/
import Derived.Test.YtoikhbagchfeoaaGreatWrapOpens3
set_option linter.unusedSimpArgs false
set_option linter.unusedVariables false
set_option maxRecDepth 100000
namespace Go.Proofs.YtoikhbagchfeoaaGreat
open Go Go.SL Go.Pure
def t15 : List Nat := [3, 7, 11, 15]
def t252 : List Nat := [4, 8, 12]
theorem zrh {h : Hp} {K : Value → Prop} (i : Nat) (hi : i < 4) : q P h (Instr.index z5Z (.agg #[.int .i64 3, .int .i64 7, .int .i64 11, .int .i64 15]) (.int .i64 i)) K = K (.int .i64 ((t15.getD i 0 : Nat) : Int)) := by
 have : i = 0 ∨ i = 1 ∨ i = 2 ∨ i = 3 := by omega
 rcases this with rfl | rfl | rfl | rfl <;> exact q_of (by kernel_rfl) K
theorem zpR {h : Hp} {K : Value → Prop} (i : Nat) (hi : i < 3) : q P h (Instr.index zjJ (.agg #[.int .i64 4, .int .i64 8, .int .i64 12]) (.int .i64 i)) K = K (.int .i64 ((t252.getD i 0 : Nat) : Int)) := by
 have : i = 0 ∨ i = 1 ∨ i = 2 := by omega
 rcases this with rfl | rfl | rfl <;> exact q_of (by kernel_rfl) K
theorem zsF {h : Hp} {K : Value → Prop} : q P h (Instr.build z5Z #[(0, (Value.int .i64 3)), (1, (Value.int .i64 7)), (2, (Value.int .i64 11)), (3, (Value.int .i64 15))]) K = K (.agg #[.int .i64 3, .int .i64 7, .int .i64 11, .int .i64 15]) := q_of (by kernel_rfl) K
theorem zri {h : Hp} {K : Value → Prop} : q P h (Instr.build zjJ #[(0, (Value.int .i64 4)), (1, (Value.int .i64 8)), (2, (Value.int .i64 12))]) K = K (.agg #[.int .i64 4, .int .i64 8, .int .i64 12]) := q_of (by kernel_rfl) K
theorem zoM {a b : Nat} (ha : a < 256) (hb : b < 256) : iand .u8 (a : Int) (b : Int) = ((a &&& b : Nat) : Int) := by
 rw [and8 (by omega) (by omega) (by omega) (by omega), Int.toNat_natCast, Int.toNat_natCast]
theorem zdj (v : Nat) (l is : List Nat) (i : Nat) (hi : i < is.length) : z20 v l (is.take (i + 1)) = (z20 v l (is.take i)).set (is.getD i 0) ((z20 v l (is.take i)).getD (is.getD i 0) 0 &&& v) := by
 rw [List.take_succ_eq_append_getElem hi]
 unfold z20
 rw [List.foldl_append]
 have : is.getD i 0 = is[i] := by simp [List.getD_eq_getElem?_getD, hi]
 rw [this]
 rfl
section
variable {h : Hp} {K : Value → Hp → Prop}
theorem zl9 {vk vm : Value} {key m : List Nat} (hk : Rn h .u8 vk key) (hm : Rn h .u8 vm m) (bk : Bytes key) (bm : Bytes m) (lk : key.length = 32) (hl : m.length ≤ 70368744177664)
  (k : ∀ v h', Nn h zc .u8 v h' (tagL key m) → K (.tuple #[v, .int .i64 0]) h') : Cn P zku #[vk, vm] h K := by
 refine Cn_wk (zkI ?_)
 obtain ⟨ak, ck, rfl, hck⟩ := hk.shape
 unfold zeI
 have e32 : (((key.length : Nat) : Int) != 32) = false := by rw [lk]; rfl
 simp (disch := omega) only [GL, RL, e32, Bool.false_eq_true, if_false]
 refine z4N za zp hk .i64 16 (by omega) fun w16 hw16 => ?_
 refine zcz hw16 (by rw [List.length_take]; omega) fun r1 h1 n1 => ?_
 have l16 : (key.take 16).length = 16 := by rw [List.length_take]; omega
 have b16 : Bytes (key.take 16) := bk.take 16
 have hcl : z1i (key.take 16) = z20 252 (z20 15 (key.take 16) t15) t252 := rfl
 obtain ⟨F0, hF0⟩ : ∃ F0, key.take 16 = F0 := ⟨_, rfl⟩
 have htag : tagL key m = z4E (z31 (tagN (z28 (z1i F0)) m ((m.length + 15) / 16))) (key.drop 16) := by rw [← hF0]; rfl
 rw [hF0] at l16 b16 hcl n1
 rw [zsF]
 have n1' : New h zc 1 r1 h1 (nv .u8 F0) 16 := by unfold Nn at n1; rwa [l16] at n1
 obtain ⟨b, c, f0, hb, hc16, rfl, _, _⟩ := n1'.form (by omega)
 refine Lp_mk (fun u vs h' => ∃ i : Nat, i + u = 4 ∧ New h zc 1 (.slice (some ⟨b, 0, none⟩) 16 c) h' (nv .u8 (z20 15 F0 (t15.take i))) 16 ∧ vs = [.int .i64 (i : Int)]) 4 ⟨0, rfl, n1', rfl⟩ ?_
 clear n1 n1'
 rintro u vs h2 ⟨i, hi, hw, rfl⟩
 simp (disch := omega) only [GL, RL, wi64, z7j]
 by_cases hlt : i < 4
 ·have lC : (z20 15 F0 (t15.take i)).length = 16 := by rw [z4n, l16]
  have bC := z3A 15 (t15.take i) b16
  have hx : t15.getD i 0 < 16 := by
   have : i = 0 ∨ i = 1 ∨ i = 2 ∨ i = 3 := by omega
   rcases this with rfl | rfl | rfl | rfl <;> decide
  have hstep := zdj 15 F0 t15 i (by show i < 4; exact hlt)
  obtain ⟨x, hxx⟩ : ∃ x, t15.getD i 0 = x := ⟨_, rfl⟩
  obtain ⟨C, hC⟩ : ∃ C, z20 15 F0 (t15.take i) = C := ⟨_, rfl⟩
  rw [hC] at lC bC hw hstep
  rw [hxx] at hx hstep
  obtain ⟨b', c', f', hb', _, hv', hh', _⟩ := hw.form (by omega)
  simp only [Value.slice.injEq, Option.some.injEq, Addr.mk.injEq] at hv'
  obtain ⟨⟨rfl, _⟩, _, rfl⟩ := hv'
  have c1 := zJ (h := h2) (g := b) (i := x) (S := C) (by rw [hh']; exact Hp.set_same ..) (by omega)
  simp (disch := omega) only [GL, RL, wi64, hlt, decide_true, if_true, zrh i hlt, hxx, c1]
  have e15 : iand .u8 ((C.getD x 0 : Nat) : Int) 15 = ((C.getD x 0 &&& 15 : Nat) : Int) := zoM (bC.getD x) (by decide)
  rw [e15]
  refine z1K zp hw hx rfl fun h3 hw3 => ?_
  rw [z1O, ← hstep] at hw3
  exact ⟨_, .refl _, u - 1, by omega, i + 1, by omega, hw3, rfl⟩
 obtain rfl : i = 4 := by omega
 simp only [hlt, decide_false, Bool.false_eq_true, if_false]
 rw [zri]
 have hC1 : z20 15 F0 (t15.take 4) = z20 15 F0 t15 := rfl
 rw [hC1] at hw
 have l16' : (z20 15 F0 t15).length = 16 := by rw [z4n, l16]
 have b16' : Bytes (z20 15 F0 t15) := z3A 15 _ b16
 generalize z20 15 F0 t15 = F1 at hw l16' b16' hcl
 refine Lp_mk (fun u vs h' => ∃ i : Nat, i + u = 3 ∧ New h zc 1 (.slice (some ⟨b, 0, none⟩) 16 c) h' (nv .u8 (z20 252 F1 (t252.take i))) 16 ∧ vs = [.int .i64 (i : Int)]) 3 ⟨0, rfl, hw, rfl⟩ ?_
 clear hw hlt
 rintro u vs h2 ⟨i, hi, hw, rfl⟩
 simp (disch := omega) only [GL, RL, wi64, zjO]
 by_cases hlt : i < 3
 ·have lC : (z20 252 F1 (t252.take i)).length = 16 := by rw [z4n, l16']
  have bC := z3A 252 (t252.take i) b16'
  have hx : t252.getD i 0 < 16 := by
   have : i = 0 ∨ i = 1 ∨ i = 2 := by omega
   rcases this with rfl | rfl | rfl <;> decide
  have hstep := zdj 252 F1 t252 i (by show i < 3; exact hlt)
  obtain ⟨x, hxx⟩ : ∃ x, t252.getD i 0 = x := ⟨_, rfl⟩
  obtain ⟨C, hC⟩ : ∃ C, z20 252 F1 (t252.take i) = C := ⟨_, rfl⟩
  rw [hC] at lC bC hw hstep
  rw [hxx] at hx hstep
  obtain ⟨b', c', f', hb', _, hv', hh', _⟩ := hw.form (by omega)
  simp only [Value.slice.injEq, Option.some.injEq, Addr.mk.injEq] at hv'
  obtain ⟨⟨rfl, _⟩, _, rfl⟩ := hv'
  have c1 := zJ (h := h2) (g := b) (i := x) (S := C) (by rw [hh']; exact Hp.set_same ..) (by omega)
  simp (disch := omega) only [GL, RL, wi64, hlt, decide_true, if_true, zpR i hlt, hxx, c1]
  have e15 : iand .u8 ((C.getD x 0 : Nat) : Int) 252 = ((C.getD x 0 &&& 252 : Nat) : Int) := zoM (bC.getD x) (by decide)
  rw [e15]
  refine z1K zp hw hx rfl fun h3 hw3 => ?_
  rw [z1O, ← hstep] at hw3
  exact ⟨_, .refl _, u - 1, by omega, i + 1, by omega, hw3, rfl⟩
 obtain rfl : i = 3 := by omega
 simp only [hlt, decide_false, Bool.false_eq_true, if_false]
 have hC2 : z20 252 F1 (t252.take 3) = z20 252 F1 t252 := rfl
 rw [hC2, ← hcl] at hw
 have lCl : (z1i F0).length = 16 := by rw [hcl, z4n, l16']
 have bCl : Bytes (z1i F0) := by rw [hcl]; exact z3A 252 _ b16'
 have hwr : Rn h2 .u8 (.slice (some ⟨b, 0, none⟩) 16 c) (z1i F0) := by
  have := hw.rds
  unfold Rn
  rwa [lCl]
 refine zmu hwr bCl (by omega) fun _ _ => ?_
 have lR := z8g (z1i F0)
 have wR := zph (z1i F0)
 generalize z28 (z1i F0) = R at lR wR htag ⊢
 have hzz : ∀ U : List Nat, U.length = 5 → sz P zn = some (nv .u64 U).length := fun U hU => by rw [ze, hU]; exact z4H
 refine zS (nv .u64 zero5) z4Y (by rfl) fun r11 hr11 => ?_
 refine zD (hzz R lR) (Hp.set_same ..) (by rw [ze, ze, lR]; rfl) (zq _ _) (fun i hi => by simp) ?_
 rw [Hp.set_set]
 refine zS (nv .u64 zero5) z4Y (by rfl) fun r12 hr12 => ?_
 have n12 : r11 ≠ r12 := by rintro rfl; rw [Hp.set_same] at hr12; cases hr12
 have hr12' : h2 r12 = none := by rwa [Hp.set_ne _ _ (Ne.symm n12)] at hr12
 refine zpQ (n := 16) (by omega) (by obtain ⟨a, c, e, _⟩ := hm.shape; rw [e]; rfl) fun r2 r3 hr2 hr3 n23 => ?_
 have n2_12 : r2 ≠ r12 := by rintro rfl; rw [Hp.set_same] at hr2; cases hr2
 have n3_12 : r3 ≠ r12 := by rintro rfl; rw [Hp.set_same] at hr3; cases hr3
 have n2_11 : r2 ≠ r11 := by rintro rfl; rw [Hp.set_ne _ _ n2_12, Hp.set_same] at hr2; cases hr2
 have n3_11 : r3 ≠ r11 := by rintro rfl; rw [Hp.set_ne _ _ n3_12, Hp.set_same] at hr3; cases hr3
 have hr2' : h2 r2 = none := by rwa [Hp.set_ne _ _ n2_12, Hp.set_ne _ _ n2_11] at hr2
 have hr3' : h2 r3 = none := by rwa [Hp.set_ne _ _ n3_12, Hp.set_ne _ _ n3_11] at hr3
 rw [show (nv IntKind.u64 zero5).length = 5 from rfl]
 -- what stands beside the sum
 obtain ⟨A, hA⟩ : ∃ A : Hp, ((h2.set r11 (.row zn (nv .u64 R) 5 (some (0, 0)))).set r2 (.row zd [vm] 1 (some (0, 0)))).set r3 (.row zi [.int .i64 (16 : Nat)] 1 (some (0, 0))) = A := ⟨_, rfl⟩
 have A12 : A r12 = none := by rw [← hA, Hp.set_ne _ _ (Ne.symm n3_12), Hp.set_ne _ _ (Ne.symm n2_12), Hp.set_ne _ _ (Ne.symm n12)]; exact hr12'
 have A11 : A r11 = some (.row zn (nv .u64 R) 5 (some (0, 0))) := by rw [← hA, Hp.set_ne _ _ (Ne.symm n3_11), Hp.set_ne _ _ (Ne.symm n2_11), Hp.set_same]
 have A2 : A r2 = some (.row zd [vm] 1 (some (0, 0))) := by rw [← hA, Hp.set_ne _ _ n23, Hp.set_same]
 have A3 : A r3 = some (.row zi [.int .i64 (16 : Nat)] 1 (some (0, 0))) := by rw [← hA, Hp.set_same]
 have leA : Hp.le h2 A := by
  rw [← hA]
  refine (zP (r := r11) (by simpa using hr11)).trans ((zP ?_).trans (zP ?_))
  ·rw [Hp.set_ne _ _ n2_11]; exact hr2'
  ·rw [Hp.set_ne _ _ (Ne.symm n23), Hp.set_ne _ _ n3_11]; exact hr3'
 have cleA : Hp.cle h2 A := by
  rw [← hA]
  refine (z2c r11 _ (by simpa using hr11)).trans ((z2c r2 _ ?_).trans (z2c r3 _ ?_))
  ·rw [Hp.set_ne _ _ n2_11]; exact hr2'
  ·rw [Hp.set_ne _ _ (Ne.symm n23), Hp.set_ne _ _ n3_11]; exact hr3'
 have start : (((h2.set r11 (.row zn (nv .u64 R) 5 (some (0, 0)))).set r12 (.row zn (nv .u64 zero5) 5 (some (0, 0)))).set r2 (.row zd [vm] 1 (some (0, 0)))).set r3 (.row zi [.int .i64 (16 : Nat)] 1 (some (0, 0))) =
   A.set r12 (.row zn (nv .u64 zero5) 5 (some (0, 0))) := by
  rw [← hA, Hp.set_comm _ _ _ (Ne.symm n2_12), Hp.set_comm _ _ _ (Ne.symm n3_12)]
 intro L o hL hY
 rw [start] at hL ⊢
 have nL12 : L ≠ r12 := by rintro rfl; rw [Hp.set_same] at hL; cases hL
 have AL : A L = none := by rwa [Hp.set_ne _ _ nL12] at hL
 obtain ⟨G, hG⟩ : ∃ G : Nat → Hp, ∀ i, (A.set r12 (.row zn (nv .u64 (tagN R m i)) 5 (some (0, 0)))).set L (o .ready none) = G i := ⟨_, fun i => rfl⟩
 show zck P _ _ ((A.set r12 (.row zn (nv .u64 (tagN R m 0)) 5 (some (0, 0)))).set L (o .ready none)) _
 rw [hG]
 have cAG : ∀ i, Hp.cle A (G i) := fun i => by
  rw [← hG]; exact (z2c r12 _ A12).trans (z2c L _ (by rw [Hp.set_ne _ _ nL12]; exact AL))
 have hmA : Rn A .u8 vm m := (hm.mono hw.cle).mono cleA
 have delG : ∀ i, (G i).del L = A.set r12 (.row zn (nv .u64 (tagN R m i)) 5 (some (0, 0))) := fun i => by
  rw [← hG]
  funext j
  unfold Hp.del
  split
  ·rename_i e; subst e; rw [Hp.set_ne _ _ nL12]; exact AL.symm
  ·rename_i e; rw [Hp.set_ne _ _ e]
 unfold zck
 dsimp only
 refine zmv (v := vm) (m := m) (n := 16) (by omega) (by omega) (by omega) (fun i h' => h' = G i) (fun _ => False) ?_ rfl ?_ ?_
 ·rintro i h' rfl
  refine ⟨cAG i _ _ ?_, cAG i _ _ ?_, hmA.mono (cAG i)⟩
  ·rw [zj A2]; rfl
  ·rw [zj A3]; rfl
 ·rintro i h' w hi rfl hwc
  refine hY w (G i) _ (by rw [← hG]; exact Hp.set_same ..) ?_
  rw [delG]
  have la := z67 R m i
  have wa := zlT R m i
  have hGs : ∀ h0 : Hp, h0 = A.set r12 (.row zn (nv .u64 (tagN R m (i + 1))) 5 (some (0, 0))) → h0.set L (o .ready none) = G (i + 1) := by rintro h0 rfl; exact hG (i + 1)
  have hnext : tagN R m (i + 1) = z3z (addL (tagN R m i) (z28 (z3k m i ++ [1]))) R := rfl
  rw [hnext] at hGs
  have hwc' : Rn ((A.set r12 (.row zn (nv .u64 (tagN R m i)) 5 (some (0, 0)))).set L (o .busy none)) .u8 w (z3k m i) := hwc _ (hmA.mono ((z2c r12 _ A12).trans (z2c L _ (by rw [Hp.set_ne _ _ nL12]; exact AL))))
  have lc : (z3k m i).length ≤ 16 := z7a 16 m i
  have bc : Bytes (z3k m i) := z5l bm 16 i
  generalize z3k m i = C at hwc' lc bc hGs ⊢
  generalize tagN R m i = a at la wa hwc' hGs ⊢
  obtain ⟨Bm, hBm⟩ : ∃ Bm, (A.set r12 (.row zn (nv .u64 a) 5 (some (0, 0)))).set L (o .busy none) = Bm := ⟨_, rfl⟩
  have nL11 : L ≠ r11 := by rintro rfl; rw [AL] at A11; cases A11
  have B12 : Bm r12 = some (.row zn (nv .u64 a) 5 (some (0, 0))) := by rw [← hBm, Hp.set_ne _ _ (Ne.symm nL12), Hp.set_same]
  have B11 : Bm r11 = some (.row zn (nv .u64 R) 5 (some (0, 0))) := by rw [← hBm, Hp.set_ne _ _ (Ne.symm nL11), Hp.set_ne _ _ n12]; exact A11
  show (fun h => _) ((A.set r12 (.row zn (nv .u64 a) 5 (some (0, 0)))).set L (o .busy none))
  rw [hBm] at hwc' ⊢
  refine zcz hwc' (by omega) fun r h3 n3 => ?_
  refine zT (ps := [(0, _)]) za zp z1p rfl (by omega) (by intro p hp; rw [List.mem_singleton.1 hp]; exact ⟨rfl, by omega⟩) fun x h4 hx _ => ?_
  refine zQ za za zw rfl (by omega) n3 hx (by intro y hy; simp [z1f] at hy; subst hy; rfl) (by omega) fun v2 h5 hw5 => ?_
  have hw5' : Nn Bm zc .u8 v2 h5 (C ++ [1]) := by
   unfold Nn
   rw [z13, List.length_append]
   exact hw5
  obtain ⟨b5, c5, f5, hb5, _, _, hh5, _⟩ := New.form hw5' (by simp)
  have n5_12 : r12 ≠ b5 := by rintro rfl; rw [B12] at hb5; cases hb5
  have n5_11 : r11 ≠ b5 := by rintro rfl; rw [B11] at hb5; cases hb5
  have h5_12 : h5 r12 = some (.row zn (nv .u64 a) 5 (some (0, 0))) := by rw [hh5, Hp.set_ne _ _ n5_12, B12]
  have h5_11 : h5 r11 = some (.row zn (nv .u64 R) 5 (some (0, 0))) := by rw [hh5, Hp.set_ne _ _ n5_11, B11]
  refine zmu hw5'.rn (bc.append (by intro y hy; simp at hy; omega)) (by simp; omega) fun _ _ => ?_
  refine zsd a _ la (z8g _) h5_12 (fun i _ => by simp) ?_
  have lAdd : (addL a (z28 (C ++ [1]))).length = 5 := by rw [addL, z62, la]
  have wAdd : W64 (addL a (z28 (C ++ [1]))) := zqJ wa _ _
  rw [z1w z3m rfl (hzz R lR) (b := r11) (by rw [Hp.set_ne _ _ n12, h5_11])]
  refine Cn_wk (zpi _ R lAdd lR wAdd (Hp.set_same ..) (fun i _ => by simp) ?_)
  rw [Hp.set_set]
  refine ⟨Bm.set r12 (.row zn (nv .u64 (z3z (addL a (z28 (C ++ [1]))) R)) 5 (some (0, 0))), z4z (New.le hw5'), ?_, .inl ⟨rfl, ?_⟩⟩
  ·rw [Hp.set_ne _ _ nL12, ← hBm, Hp.set_same]
  ·have e : (Bm.set r12 (.row zn (nv .u64 (z3z (addL a (z28 (C ++ [1]))) R)) 5 (some (0, 0)))).set L (o .ready none) = (A.set r12 (.row zn (nv .u64 (z3z (addL a (z28 (C ++ [1]))) R)) 5 (some (0, 0)))).set L (o .ready none) := by
    rw [← hBm, Hp.set_comm _ _ _ nL12, Hp.set_set, Hp.set_set]
   rw [e]
   exact hGs _ rfl
 ·rintro h' (rfl | hf)
  case inr => exact hf.elim
  rw [show (m.length + 16 - 1) / 16 = (m.length + 15) / 16 by omega]
  refine ⟨.ready, by simp, by rw [← hG]; exact Hp.set_same .., ?_⟩
  rw [delG]
  have la := z67 R m ((m.length + 15) / 16)
  have wa := zlT R m ((m.length + 15) / 16)
  generalize tagN R m ((m.length + 15) / 16) = a at la wa htag ⊢
  refine znv a la wa (Hp.set_same ..) (fun i _ => by simp) ?_
  rw [Hp.set_set]
  have hkA : Rn (A.set r12 (.row zn (nv .u64 (z31 a)) 5 (some (0, 0)))) .u8 (.slice ak key.length ck) key := ((hk.mono hw.cle).mono cleA).mono (z2c r12 _ A12)
  refine z6p za zp hkA .i64 16 (by omega) fun wk hwk => ?_
  refine zpP (z31 a) (key.drop 16) (by rw [zdi, la]) (zlS wa) (Hp.set_same ..) hwk (bk.drop 16) (by rw [List.length_drop]; omega) fun v hf nf => ?_
  rw [← htag] at nf
  have leF : Hp.le h (A.set r12 (.row zn (nv .u64 (z31 a)) 5 (some (0, 0)))) := (hw.le.trans leA).trans (zP A12)
  obtain ⟨h0, l0, nf0⟩ := nf.down leF
  exact ⟨h0, l0, k v h0 nf0⟩
end
end Go.Proofs.YtoikhbagchfeoaaGreat
namespace Go.Pure
def z2z (n : Nat) : Nat := (16 - n % 16) % 16
def z2I (o : List Nat) : List Nat := o ++ List.replicate (z2z o.length) 0
def padL (ps : List (List Nat)) : List Nat := ps.foldl (fun o p => z2I (o ++ p)) []
theorem zmw (ps : List (List Nat)) (i : Nat) (hi : i < ps.length) : padL (ps.take (i + 1)) = z2I (padL (ps.take i) ++ ps.getD i []) := by
 rw [List.take_succ_eq_append_getElem hi]
 unfold padL
 rw [List.foldl_append]
 simp [List.getD_eq_getElem?_getD, hi]
theorem z8h (o : List Nat) : (z2I o).length ≤ o.length + 15 := by
 unfold z2I z2z; rw [List.length_append, List.length_replicate]; omega
theorem zdk {o : List Nat} (h : Bytes o) : Bytes (z2I o) := h.append fun x hx => by
 rw [List.mem_replicate] at hx; omega
def tagB (key nonce beside hidden : List Nat) : List Nat :=
 tagL ((z2n key nonce 0).take 32) (padL [beside, hidden] ++ (le 8 beside.length ++ le 8 hidden.length))
theorem z9N (key nonce beside hidden : List Nat) : (tagB key nonce beside hidden).length = 16 := znu _ _
theorem zeW (key nonce beside hidden : List Nat) : Bytes (tagB key nonce beside hidden) := zkU _ _
def z3a (key nonce beside text : List Nat) : List Nat := xorL key nonce 1 text ++ tagB key nonce beside (xorL key nonce 1 text)
def may (key nonce : List Nat) : Prop := key.length = 32 ∧ nonce.length = 12
instance (key nonce : List Nat) : Decidable (may key nonce) := by unfold may; infer_instance
def z2R (key nonce beside box : List Nat) : Nat × List Nat :=
 if box.length < 16 then (8, [])
 else if tagB key nonce beside (box.take (box.length - 16)) = box.drop (box.length - 16) then (0, xorL key nonce 1 (box.take (box.length - 16)))
 else (7, [])
theorem zbY (key nonce b t : List Nat) : (z3a key nonce b t).length = t.length + 16 := by simp [z3a, z2o, z9N]
theorem zjk (key nonce b : List Nat) {t : List Nat} (h : Bytes t) : Bytes (z3a key nonce b t) := (z77 h).append (zeW _ _ _ _)
theorem zgi (key nonce : List Nat) (c : Nat) (t : List Nat) : xorL key nonce c (xorL key nonce c t) = t := by
 apply List.ext_getElem
 ·rw [z2o, z2o]
 ·intro i h1 h2
  rw [z9H _ _ _ _ _ (by rw [z2o]; exact h2)]
  have : (xorL key nonce c t).getD i 0 = t.getD i 0 ^^^ (z2n key nonce ((c + i / 64) % 4294967296)).getD (i % 64) 0 := by
   rw [← z9H _ _ _ _ _ h2]
   simp [List.getD_eq_getElem?_getD, show i < (xorL key nonce c t).length by rw [z2o]; exact h2]
  rw [this, Nat.xor_assoc, Nat.xor_self, Nat.xor_zero]
  simp [List.getD_eq_getElem?_getD, h2]
theorem zmx (key nonce b t : List Nat) : z2R key nonce b (z3a key nonce b t) = (0, t) := by
 have hl := zbY key nonce b t
 have e1 : (z3a key nonce b t).take ((z3a key nonce b t).length - 16) = xorL key nonce 1 t := by
  rw [hl, Nat.add_sub_cancel, z3a, List.take_append_of_le_length (by rw [z2o]; exact Nat.le_refl _), List.take_of_length_le (by rw [z2o]; exact Nat.le_refl _)]
 have e2 : (z3a key nonce b t).drop ((z3a key nonce b t).length - 16) = tagB key nonce b (xorL key nonce 1 t) := by
  have : t.length = (xorL key nonce 1 t).length := by rw [z2o]
  rw [hl, Nat.add_sub_cancel, z3a, this, List.drop_left]
 unfold z2R
 rw [if_neg (by omega), e1, e2, if_pos rfl, zgi]
end Go.Pure
namespace Go.Proofs.YtoikhbagchfeoaaGreat
open Go Go.SL Go.Pure
section
variable {h : Hp} {K : Value → Hp → Prop}
theorem zpS (n : Nat) (hn : n ≤ 70368744177664) (k : ∀ v h', New h zc 1 v h' [] 0 → K v h') : Cn P z7W #[.slice none 0 0, .int .i64 n] h K := by
 refine z7Z ?_
 unfold z4w
 have e0 : decide ((n : Int) < 0) = false := decide_eq_false (by omega)
 have ecap : ∀ (K : Value → Prop), q P h (Builtin.cap_ #[zd] zi #[.slice none 0 0]) K = K (.int .i64 0) := fun K => q_of (by
  show peek P h (Sem.bind (underlying zd) _) = _
  rw [zh, z11 za]
  rfl) K
 simp (disch := omega) only [GL, RL, wi64, e0, Bool.false_eq_true, if_false, ecap]
 by_cases h0 : n = 0
 ·subst h0
  exact k _ _ ⟨rfl, .inl ⟨rfl, rfl, rfl⟩⟩
 ·have e1 : decide ((0 : Int) < (n : Int) - (((0 : Nat) : Int) - ((0 : Nat) : Int))) = true := decide_eq_true (by omega)
  have e2 : decide ((0 : Int) < (n : Int) - (0 - ((0 : Nat) : Int))) = true := decide_eq_true (by omega)
  have e3 : (n : Int) - (0 - ((0 : Nat) : Int)) = (n : Int) := by omega
  have e4 : decide ((0 : Int) < (n : Int)) = true := decide_eq_true (by omega)
  simp (disch := omega) only [e1, e2, e3, e4, if_true]
  have es : ∀ (K : Value → Prop), q P h (Instr.sliceAt zd (.slice none 0 0) none (some (.int .i64 0)) none) K = K (.slice none 0 0) := fun K => z6o za zp none 0 0 .i64 0 (Nat.le_refl _)
  try rw [es]
  refine zkn (n := n) za z9u zw rfl (by omega) (by omega) (by omega) fun r c hr hc => ?_
  have es2 := z6o (P := P) (h := h.set r (.row zc [] c (some (0, 0)))) (K := fun t25 => K t25 (h.set r (.row zc [] c (some (0, 0))))) za zp (some ⟨r, 0, none⟩) n c .i64 0 (by omega)
  refine es2.mpr ?_
  refine k _ _ ⟨rfl, .inr ⟨r, c, (0, 0), hr, Nat.zero_le _, ?_, by rw [Nat.mul_one], fun i _ => by simp⟩⟩
  unfold SL.cut
  split
  ·rfl
  ·rw [Option.map_some, z1d]
theorem z53 (ps : List (List Nat)) (i : Nat) (hi : i < ps.length) : (ps.take (i + 1)).flatten = (ps.take i).flatten ++ ps.getD i [] := by
 rw [List.take_succ_eq_append_getElem hi, List.flatten_append]
 simp [List.getD_eq_getElem?_getD, hi]
theorem zcA (ps : List (List Nat)) (i : Nat) : (ps.take i).flatten.length ≤ ps.flatten.length := by
 conv => rhs; rw [← List.take_append_drop i ps, List.flatten_append, List.length_append]
 omega
def Parts (h : Hp) (v : Value) (ps : List (List Nat)) : Prop :=
 ∃ b o c, v = .slice (some ⟨b, o, none⟩) ps.length c ∧ ps.length ≤ c ∧ ∀ i, i < ps.length → ∃ w, h.cell ⟨b, o + i, none⟩ = some w ∧ Rn h .u8 w (ps.getD i [])
theorem Parts.mono {h h' : Hp} {v : Value} {ps : List (List Nat)} (p : Parts h v ps) (c : Hp.cle h h') : Parts h' v ps := by
 obtain ⟨b, o, cc, e, hc, q⟩ := p
 exact ⟨b, o, cc, e, hc, fun i hi => let ⟨w, h1, h2⟩ := q i hi; ⟨w, c _ _ h1, h2.mono c⟩⟩
theorem ze4 {v : Value} {ps : List (List Nat)} (hv : Parts h v ps) (hl : ps.flatten.length ≤ 70368744177664) (hn : ps.length ≤ 70368744177664) (k : ∀ r h', Nn h zc .u8 r h' ps.flatten → K r h') : Cn P z74 #[v] h K := by
 refine z75 ?_
 unfold z46
 obtain ⟨b, o, c, rfl, hc, hp⟩ := hv
 simp (disch := omega) only [GL, RL]
 refine Lp_mk (fun u vs h' => ∃ i : Nat, i + u = ps.length ∧ h' = h ∧ vs = [.int .i64 (((ps.take i).flatten.length : Nat) : Int), .int .i64 (i : Int)]) ps.length ⟨0, by omega, rfl, rfl⟩ ?_
 rintro u vs h' ⟨i, hi, rfl, rfl⟩
 simp (disch := omega) only [GL, RL, wi64, zL]
 by_cases hlt : i < ps.length
 ·obtain ⟨w, hw, hr⟩ := hp i hlt
  obtain ⟨a', c', rfl, hc'⟩ := hr.shape
  have e1 : ((((ps.take i).flatten.length : Nat) : Int) + ((ps.getD i []).length : Nat)) = (((ps.take (i + 1)).flatten.length : Nat) : Int) := by rw [z53 ps i hlt, List.length_append]; omega
  have l1 := zcA ps (i + 1)
  have e2 : decide ((((ps.take (i + 1)).flatten.length : Nat) : Int) < 0) = false := decide_eq_false (by omega)
  simp (disch := omega) only [GL, RL, wi64, hlt, decide_true, if_true, hw, e1, e2, Bool.false_eq_true, if_false]
  exact ⟨_, .refl _, u - 1, by omega, i + 1, by omega, rfl, rfl⟩
 obtain rfl : i = ps.length := by omega
 simp only [hlt, decide_false, Bool.false_eq_true, if_false, List.take_length]
 refine zpS _ hl fun v1 h1 hw1 => ?_
 refine Lp_mk (fun u vs h2 => ∃ (i : Nat) (v : Value), i + u = ps.length ∧ New h' zc 1 v h2 (nv .u8 (ps.take i).flatten) (ps.take i).flatten.length ∧ vs = [v, .int .i64 (i : Int)]) ps.length ⟨0, v1, by omega, hw1, rfl⟩ ?_
 clear hw1 hlt
 rintro u vs h2 ⟨i, v2, hi, hw, rfl⟩
 simp (disch := omega) only [GL, RL, wi64, zL]
 by_cases hlt : i < ps.length
 ·obtain ⟨w, hwc, hr⟩ := hp i hlt
  have hwc2 := hw.cle _ _ hwc
  simp (disch := omega) only [GL, RL, wi64, hlt, decide_true, if_true, hwc2]
  have l1 := zcA ps (i + 1)
  rw [z53 ps i hlt, List.length_append] at l1
  refine z1t za za zw rfl (by omega) hw (hr.mono hw.cle) (zq _ _) (by omega) (.refl _) fun v3 h3 hw3 => ?_
  refine ⟨_, .refl _, u - 1, by omega, i + 1, v3, by omega, ?_, rfl⟩
  rw [z53 ps i hlt, z13, List.length_append]
  exact hw3
 ·obtain rfl : i = ps.length := by omega
  simp only [hlt, decide_false, Bool.false_eq_true, if_false]
  rw [List.take_length] at hw
  exact k _ _ hw
theorem zo1 {v : Value} {ps : List (List Nat)} (hv : Parts h v ps) (hl : ∀ i, (padL (ps.take i)).length ≤ 70368744177664) (hl2 : ∀ i, (ps.getD i []).length ≤ 35184372088832) (hn : ps.length ≤ 70368744177664) (k : ∀ r h', Nn h zc .u8 r h' (padL ps) → K r h') :
  Cn P zgE #[v] h K := by
 refine zgO ?_
 unfold zae
 obtain ⟨b, o, c, rfl, hc, hp⟩ := hv
 simp (disch := omega) only [GL, RL]
 refine Lp_mk (fun u vs h2 => ∃ (i : Nat) (v : Value), i + u = ps.length ∧ New h zc 1 v h2 (nv .u8 (padL (ps.take i))) (padL (ps.take i)).length ∧ vs = [v, .int .i64 (i : Int)]) ps.length ⟨0, .slice none 0 0, by omega, ⟨rfl, .inl ⟨rfl, rfl, rfl⟩⟩, rfl⟩ ?_
 rintro u vs h2 ⟨i, v2, hi, hw, rfl⟩
 simp (disch := omega) only [GL, RL, wi64, zL]
 by_cases hlt : i < ps.length
 ·obtain ⟨w, hwc, hr⟩ := hp i hlt
  have hwc2 := hw.cle _ _ hwc
  simp (disch := omega) only [GL, RL, wi64, hlt, decide_true, if_true, hwc2]
  have l1 := hl i
  have l2 := hl2 i
  refine z1t za za zw rfl (by omega) hw (hr.mono hw.cle) (zq _ _) (by omega) (.refl _) fun v3 h3 hw3 => ?_
  have hpad := zmw ps i hlt
  rw [← z13] at hw3
  rw [← List.length_append] at hw3
  have l3 : (padL (ps.take i) ++ ps.getD i []).length ≤ 140737488355328 - 35184372088832 := by rw [List.length_append]; omega
  generalize padL (ps.take i) ++ ps.getD i [] = O at hw3 hpad l3
  clear hw
  refine Lp_mk (fun u' vs h' => ∃ (j : Nat) (v : Value), j + u' = z2z O.length ∧ New h zc 1 v h' (nv .u8 (O ++ List.replicate j 0)) (O.length + j) ∧ vs = [v]) (z2z O.length) ⟨0, v3, by omega, by simpa using hw3, rfl⟩ ?_
  clear hw3
  rintro u' vs h' ⟨j, v4, hj, hw, rfl⟩
  have hn16 : z2z O.length < 16 := Nat.mod_lt _ (by decide)
  obtain ⟨a4, c4, rfl⟩ : ∃ a c, v4 = .slice a (O.length + j) c := by
   obtain ⟨_, a, c, e, _⟩ := hw.rds
   exact ⟨a, c, e⟩
  have e1 : (((O.length + j : Nat) : Int).tmod 16 != 0) = decide ((O.length + j) % 16 ≠ 0) := by
   have : ((O.length + j : Nat) : Int).tmod 16 = (((O.length + j) % 16 : Nat) : Int) := (Int.ofNat_tmod _ 16).symm
   rw [this, Bool.eq_iff_iff, bne_iff_ne, decide_eq_true_eq]; omega
  simp (disch := omega) only [GL, RL, wi64, e1]
  by_cases hz : (O.length + j) % 16 ≠ 0
  ·simp (disch := omega) only [hz, decide_true, if_true, not_false_eq_true, ne_eq]
   refine zT (ps := [(0, _)]) za zp z1p rfl (by omega) (by intro p hp; rw [List.mem_singleton.1 hp]; exact ⟨rfl, by omega⟩) fun x h4 hx _ => ?_
   refine zQ za za zw rfl (by omega) hw hx (by intro y hy; simp [z1f] at hy; subst hy; rfl) (by omega) fun v5 h5 hw5 => ?_
   have hlt2 : j < z2z O.length := by unfold z2z at hj ⊢; omega
   refine ⟨_, .refl _, u' - 1, by omega, j + 1, v5, by omega, ?_, rfl⟩
   rw [List.replicate_succ', ← List.append_assoc, z13]
   exact hw5
  ·have hje : j = z2z O.length := by
    simp only [ne_eq, Decidable.not_not] at hz
    unfold z2z at hj ⊢; omega
   simp (disch := omega) only [hz, decide_false, Bool.false_eq_true, if_false, not_true_eq_false, ne_eq]
   refine ⟨_, .refl _, u - 1, by omega, i + 1, _, by omega, ?_, rfl⟩
   rw [hpad]
   unfold z2I
   rw [← hje, List.length_append, List.length_replicate]
   exact hw
 ·obtain rfl : i = ps.length := by omega
  simp only [hlt, decide_false, Bool.false_eq_true, if_false]
  rw [List.take_length] at hw
  exact k _ _ hw
end
theorem or0 (r s : Nat) : r ||| s = 0 ↔ r = 0 ∧ s = 0 := by
 constructor
 ·intro e
  have h1 : r ≤ r ||| s := Nat.left_le_or
  have h2 : s ≤ r ||| s := Nat.right_le_or
  omega
 ·rintro ⟨rfl, rfl⟩; rfl
theorem xor0 (x y : Nat) : x ^^^ y = 0 ↔ x = y := by
 constructor
 ·intro e
  have : (x ^^^ y) ^^^ y = x := by rw [Nat.xor_assoc, Nat.xor_self, Nat.xor_zero]
  rw [e, Nat.zero_xor] at this
  exact this.symm
 ·rintro rfl; exact Nat.xor_self _
theorem zpT {h : Hp} (a : Option Addr) (n c hi : Nat) (h1 : hi ≤ c) : peek P h (Instr.sliceAt zd (.slice a n c) none (some (.int .i64 hi)) none) = some (.slice (SL.cut a c 0 1) hi c) := by
 obtain ⟨x, hx, e⟩ := z1v (K := fun x => x = .slice (SL.cut a c 0 1) hi c) ((z6o (P := P) (h := h) (K := fun x => x = .slice (SL.cut a c 0 1) hi c) za zp a n c .i64 hi h1).mpr rfl)
 rw [e] at hx
 exact hx
theorem zbZ (a b : List Nat) (i : Nat) : (padL ([a, b].take i)).length ≤ a.length + b.length + 30 := by
 have h1 := z8h ([] ++ a)
 have h2 := z8h (z2I ([] ++ a) ++ b)
 rw [List.length_append] at h2
 rcases i with _ | _ | i
 ·simp [padL]
 ·show (z2I ([] ++ a)).length ≤ _
  simp at h1; simp; omega
 ·have : [a, b].take (i + 2) = [a, b] := by simp
  rw [this]
  show (z2I (z2I ([] ++ a) ++ b)).length ≤ _
  simp at h1 h2 ⊢; omega
theorem zdl {a b : List Nat} (ha : Bytes a) (hb : Bytes b) : Bytes (padL [a, b]) := by
 show Bytes (z2I (z2I ([] ++ a) ++ b))
 exact zdk ((zdk (by simpa using ha)).append hb)
section
variable {h : Hp} {K : Value → Hp → Prop}
theorem z7U {v w : Value} {l m : List Nat} (hv : Rn h .u8 v l) (hw : Rn h .u8 w m) (bl : Bytes l) (bm : Bytes m) (hl : l.length ≤ 4611686018427387904) (k : K (.bool (decide (l = m))) h) : Cn P zhm #[v, w] h K := by
 refine zhE ?_
 obtain ⟨a, c, rfl, hc⟩ := hv.shape
 obtain ⟨a', c', rfl, hc'⟩ := hw.shape
 unfold zbf
 simp (disch := omega) only [GL, RL]
 by_cases hlen : l.length = m.length
 ·rw [if_neg (by simp [hlen])]
  refine Lp_mk (fun n vs h' => ∃ (i r : Nat), i + n = l.length ∧ h' = h ∧ r < 256 ∧ (r = 0 ↔ ∀ j, j < i → l.getD j 0 = m.getD j 0) ∧ vs = [.int .u8 (r : Int), .int .i64 (i : Int)]) l.length ⟨0, 0, by omega, rfl, by omega, ⟨fun _ j hj => by omega, fun _ => rfl⟩, rfl⟩ ?_
  rintro n vs h2 ⟨i, r, hi, rfl, hr, hs, rfl⟩
  simp (disch := omega) only [GL, RL, zL]
  by_cases hlt : i < l.length
  ·obtain ⟨b, o, rfl, hy⟩ := hv.pos (by omega)
   obtain ⟨b', o', rfl, hy'⟩ := hw.pos (by omega)
   simp (disch := omega) only [GL, RL, hlt, decide_true, if_true, hy i hlt, hy' i (by omega), wi64]
   have b1 := bl.getD i
   have b2 := bm.getD i
   have b3 : l.getD i 0 ^^^ m.getD i 0 < 256 := Nat.xor_lt_two_pow (n := 8) b1 b2
   have b4 : r ||| (l.getD i 0 ^^^ m.getD i 0) < 256 := Nat.or_lt_two_pow (n := 8) hr b3
   rw [zbG _ _ b1 b2, or8 (by omega) (by omega) (by omega) (by omega), Int.toNat_natCast, Int.toNat_natCast]
   refine ⟨_, .refl _, n - 1, by omega, i + 1, _, by omega, rfl, b4, ?_, rfl⟩
   rw [or0, xor0, hs]
   constructor
   ·rintro ⟨q, e⟩ j hj
    by_cases hji : j = i
    ·rw [hji]; exact e
    ·exact q j (by omega)
   ·exact fun q => ⟨fun j hj => q j (by omega), q i (by omega)⟩
  ·simp (disch := omega) only [GL, RL, hlt, decide_false, Bool.false_eq_true, if_false]
   have e1 : ((r : Int) == 0) = decide (l = m) := by
    rw [Bool.eq_iff_iff, beq_iff_eq, decide_eq_true_eq]
    have : (r : Int) = 0 ↔ r = 0 := by omega
    rw [this, hs]
    constructor
    ·intro q
     apply List.ext_getElem hlen
     intro j h1 h2
     have := q j (by omega)
     simpa [h1, h2] using this
    ·rintro rfl j _; rfl
   rw [e1]
   exact k
 ·rw [if_pos (by simp; omega)]
  have : l ≠ m := by rintro rfl; exact hlen rfl
  simpa [this] using k
theorem zoN {vk vn vb vh : Value} {key nonce b t : List Nat} (hk : Rn h .u8 vk key) (hn : Rn h .u8 vn nonce) (hb : Rn h .u8 vb b) (ht : Rn h .u8 vh t) (bk : Bytes key) (bn : Bytes nonce) (bb : Bytes b) (bt : Bytes t)
  (lb : b.length ≤ 1099511627776) (lt : t.length ≤ 1099511627776) (hm : key.length = 32 ∧ nonce.length = 12)
  (k : ∀ v h', Nn h zc .u8 v h' (tagB key nonce b t) → K (.tuple #[v, .int .i64 0]) h') : Cn P zkt #[vk, vn, vb, vh] h K := by
 refine Cn_wk (zkH ?_)
 obtain ⟨ab, cb, rfl, hcb⟩ := hb.shape
 obtain ⟨at', ct, rfl, hct⟩ := ht.shape
 unfold zeH
 refine zpf 0 (by omega) hk hn bk bn fun vB h1 hB => ?_
 rw [if_pos hm] at hB ⊢
 have lB := z3K key nonce 0
 have bB := z4g key nonce 0
 have htag : tagB key nonce b t = tagL ((z2n key nonce 0).take 32) (padL [b, t] ++ (le 8 b.length ++ le 8 t.length)) := rfl
 generalize z2n key nonce 0 = B at hB lB bB htag
 rw [ext0, ext1]
 simp (disch := omega) only [GL, RL, bne_self_eq_false, Bool.false_eq_true, if_false, z2j]
 refine z4f b.length (by omega) fun v25 h2 n2 => ?_
 refine z4f t.length (by omega) fun v29 h3 n3 => ?_
 have n2' : New h1 zc 1 v25 h2 (nv .u8 (le 8 b.length)) 8 := by unfold Nn at n2; rwa [zE] at n2
 have n3' : New h2 zc 1 v29 h3 (nv .u8 (le 8 t.length)) 8 := by unfold Nn at n3; rwa [zE] at n3
 refine zQ za za zw rfl (by omega) n2' n3' (zq _ _) (by omega) fun v30 h4 n4 => ?_
 have n4' : Nn h1 zc .u8 v30 h4 (le 8 b.length ++ le 8 t.length) := by
  unfold Nn; rw [z13, List.length_append, zE, zE]; exact n4
 obtain ⟨aB, cB, rfl, hcB⟩ := hB.rn.shape
 have hsl : ∀ H : Hp, peek P H (Instr.sliceAt zd (.slice aB B.length cB) none (some (Value.int .i64 32)) none) = some (.slice (SL.cut aB cB 0 1) 32 cB) := fun H => zpT aB B.length cB 32 (by omega)
 have hr32 : Rn h1 .u8 (.slice (SL.cut aB cB 0 1) 32 cB) (B.take 32) := zox hB.rn (by omega)
 rw [q_of (hsl _)]
 refine zT (ps := [(0, _), (1, _)]) z1R z2P z3b rfl (by omega) (by intro p hp; simp at hp; rcases hp with rfl | rfl <;> exact ⟨rfl, by show _ < 2; omega⟩) fun v35 h5 n5 hx => ?_
 obtain ⟨r5, hr5, rfl, hh5⟩ := hx
 have c45 : Hp.cle h4 h5 := n5.cle
 have c15 : Hp.cle h1 h5 := n4'.cle.trans c45
 have c05 : Hp.cle h h5 := hB.cle.trans c15
 have hparts : Parts h5 (.slice (some ⟨r5, 0, none⟩) 2 2) [b, t] := by
  refine ⟨r5, 0, 2, rfl, Nat.le_refl _, fun i hi => ?_⟩
  have h5r : h5 r5 = some (.row zd [.slice ab b.length cb, .slice at' t.length ct] 2 (some (0, 0))) := by rw [hh5, Hp.set_same]; rfl
  have : i = 0 ∨ i = 1 := by simp at hi; omega
  rcases this with rfl | rfl
  ·exact ⟨_, by rw [zj h5r]; rfl, hb.mono c05⟩
  ·exact ⟨_, by rw [zj h5r]; rfl, ht.mono c05⟩
 refine ⟨hsl _, ?_⟩
 refine zo1 hparts (fun i => by have := zbZ b t i; omega) (fun i => by rcases i with _ | _ | i <;> simp <;> omega) (by simp) fun v36 h6 n6 => ?_
 refine ⟨hsl _, ?_⟩
 have lp := zbZ b t 2
 simp only [List.take_succ_cons, List.take_zero] at lp
 have lle : (le 8 b.length ++ le 8 t.length).length = 16 := by rw [List.length_append, zE, zE]
 refine z1t za za zw rfl (by omega) n6 ((n4'.rn.mono c45).mono n6.cle) (zq _ _) (by rw [lle]; omega) (.refl _) fun v38 h7 n7 => ?_
 have n7' : Nn h5 zc .u8 v38 h7 (padL [b, t] ++ (le 8 b.length ++ le 8 t.length)) := by
  unfold Nn; rw [z13, List.length_append]; exact n7
 refine ⟨hsl _, ?_⟩
 have bmsg : Bytes (padL [b, t] ++ (le 8 b.length ++ le 8 t.length)) := (zdl bb bt).append ((z1s _ _).append (z1s _ _))
 refine zl9 ((hr32.mono c15).mono n7'.cle) n7'.rn (bB.take 32) bmsg (by rw [List.length_take]; omega) (by rw [List.length_append, lle]; omega) fun v h8 n8 => ?_
 rw [← htag] at n8
 rw [ext0, ext1]
 have leF : Hp.le h h7 := (((New.le hB).trans (New.le n4')).trans n5.le).trans (New.le n7')
 obtain ⟨h0, l0, nf⟩ := n8.down leF
 exact ⟨h0, l0, k v h0 nf⟩
theorem zrj {vk vn vb vt : Value} {key nonce b t : List Nat} (hk : Rn h .u8 vk key) (hn : Rn h .u8 vn nonce) (hb : Rn h .u8 vb b) (ht : Rn h .u8 vt t) (bk : Bytes key) (bn : Bytes nonce) (bb : Bytes b) (bt : Bytes t)
  (lb : b.length ≤ 1099511627776) (lt : t.length ≤ 1099511627776)
  (k : ∀ v h', (if key.length = 32 ∧ nonce.length = 12 then Nn h zc .u8 v h' (z3a key nonce b t) else v = .slice none 0 0 ∧ h' = h) → K (.tuple #[v, .int .i64 (if key.length = 32 ∧ nonce.length = 12 then 0 else 1)]) h') :
  Cn P zj8 #[vk, vn, vb, vt] h K := by
 refine Cn_wk (zjd ?_)
 unfold zde
 refine zkQ 1 (by omega) hk hn ht bk bn bt (by omega) fun vX h1 hX => ?_
 rw [ext0, ext1]
 by_cases hm : key.length = 32 ∧ nonce.length = 12
 case neg =>
  rw [if_neg hm] at hX ⊢
  obtain ⟨rfl, rfl⟩ := hX
  have e1 : ((1 : Int) != 0) = true := rfl
  simp (disch := omega) only [GL, RL, e1, if_true]
  have := k (.slice none 0 0) h1
  rw [if_neg hm, if_neg hm] at this
  exact ⟨h1, .refl _, this ⟨rfl, rfl⟩⟩
 rw [if_pos hm] at hX ⊢
 have lX := z2o key nonce 1 t
 have bX : Bytes (xorL key nonce 1 t) := z77 bt
 have hseal : z3a key nonce b t = xorL key nonce 1 t ++ tagB key nonce b (xorL key nonce 1 t) := rfl
 generalize xorL key nonce 1 t = X at hX lX bX hseal
 simp (disch := omega) only [GL, RL, bne_self_eq_false, Bool.false_eq_true, if_false]
 refine zoN (hk.mono hX.cle) (hn.mono hX.cle) (hb.mono hX.cle) hX.rn bk bn bb bX lb (by omega) hm fun vT h2 hT => ?_
 rw [ext0, ext1]
 simp (disch := omega) only [GL, RL, bne_self_eq_false, Bool.false_eq_true, if_false]
 have fX : flat vX = true := by obtain ⟨a, c, e, _⟩ := hX.rn.shape; rw [e]; rfl
 have fT : flat vT = true := by obtain ⟨a, c, e, _⟩ := hT.rn.shape; rw [e]; rfl
 refine zT (ps := [(0, _), (1, _)]) z1R z2P z3b rfl (by omega) (by intro p hp; simp at hp; exact hp.elim (fun e => by subst e; exact ⟨fX, by show _ < 2; omega⟩) (fun e => by subst e; exact ⟨fT, by show _ < 2; omega⟩)) fun v36 h3 n3 hx => ?_
 obtain ⟨r3, hr3, rfl, hh3⟩ := hx
 have c23 : Hp.cle h2 h3 := n3.cle
 have hparts : Parts h3 (.slice (some ⟨r3, 0, none⟩) 2 2) [X, tagB key nonce b X] := by
  refine ⟨r3, 0, 2, rfl, Nat.le_refl _, fun i hi => ?_⟩
  have h3r : h3 r3 = some (.row zd [vX, vT] 2 (some (0, 0))) := by rw [hh3, Hp.set_same]; rfl
  have : i = 0 ∨ i = 1 := by simp at hi; omega
  rcases this with rfl | rfl
  ·exact ⟨_, by rw [zj h3r]; rfl, (hX.rn.mono hT.cle).mono c23⟩
  ·exact ⟨_, by rw [zj h3r]; rfl, hT.rn.mono c23⟩
 have hfl : [X, tagB key nonce b X].flatten = z3a key nonce b t := by rw [hseal]; simp
 have ltag := z9N key nonce b X
 refine ze4 hparts (by simp [ltag]; omega) (by simp) fun v h4 n4 => ?_
 rw [hfl] at n4
 have leF : Hp.le h h3 := ((New.le hX).trans (New.le hT)).trans n3.le
 obtain ⟨h0, l0, nf⟩ := n4.down leF
 have := k v h0
 rw [if_pos hm, if_pos hm] at this
 exact ⟨h0, l0, this nf⟩
end
end Go.Proofs.YtoikhbagchfeoaaGreat
set_option maxHeartbeats 1000000
namespace Go.Proofs.YtoikhbagchfeoaaGreat
open Go Go.SL Go.Pure Go.Curve
def z1i (k : List Nat) : List Nat := (k.set 0 (k.getD 0 0 / 8 * 8)).set 31 (k.getD 31 0 % 64 + 64)
theorem z4o (k : List Nat) : (z1i k).length = k.length := by rw [z1i, List.length_set, List.length_set]
theorem z5r {k : List Nat} (h : Bytes k) : Bytes (z1i k) := fun x hx => by
 rcases List.mem_or_eq_of_mem_set hx with q | q
 ·rcases List.mem_or_eq_of_mem_set q with q | q
  ·exact h x q
  ·have := h.getD 0; omega
 ·have := h.getD 31; omega
theorem zla : ((List.range 256).all fun x => (x &&& 248) == x / 8 * 8) = true := by decide +kernel
theorem zo2 : ((List.range 256).all fun x => (x &&& 127) ||| 64 == x % 64 + 64) = true := by decide +kernel
theorem zrk {x : Nat} (h : x < 256) : iand .u8 (x : Int) 248 = ((x / 8 * 8 : Nat) : Int) := by
 rw [and8 (by omega) (by omega) (by omega) (by omega), Int.toNat_natCast]
 have := List.all_eq_true.1 zla x (List.mem_range.2 h)
 rw [beq_iff_eq] at this
 show ((x &&& 248 : Nat) : Int) = _
 rw [this]
theorem zpU {x : Nat} (h : x < 256) : ior .u8 (iand .u8 (x : Int) 127) 64 = ((x % 64 + 64 : Nat) : Int) := by
 have a : iand .u8 (x : Int) 127 = ((x &&& 127 : Nat) : Int) := by
  rw [and8 (by omega) (by omega) (by omega) (by omega), Int.toNat_natCast]; rfl
 have b : x &&& 127 < 256 := Nat.lt_of_le_of_lt Nat.and_le_left h
 rw [a, or8 (by omega) (by omega) (by omega) (by omega), Int.toNat_natCast]
 have := List.all_eq_true.1 zo2 x (List.mem_range.2 h)
 rw [beq_iff_eq] at this
 show ((x &&& 127 ||| 64 : Nat) : Int) = _
 rw [this]
section
variable {h : Hp} {K : Value → Hp → Prop}
theorem ne32 (n : Nat) : (((n : Nat) : Int) != 32) = decide (n ≠ 32) := by
 have := z3h n 32
 exact this
theorem zjV {v : Value} {l : List Nat} (rv : Rn h .u8 v l) (hb : Bytes l) (hl : l.length ≤ 9223372036854775807) (k0 : l.length ≠ 32 → K (.tuple #[.slice none 0 0, .int .i64 1]) h) (k1 : l.length = 32 → ∀ r h', Nn h zc .u8 r h' (z1i l) → K (.tuple #[r, .int .i64 0]) h') :
  Cn P zgy #[v] h K := by
 refine Cn_wk (zgH ?_)
 unfold za7
 obtain ⟨a, c, rfl, hc⟩ := rv.shape
 have ln : ∀ {K : Value → Prop}, q P h (Builtin.len_ #[zd] zi #[.slice a l.length c]) K = K (.int .i64 (l.length : Nat)) := fun {K} => z12 za _ _ _
 rw [ln]
 simp -zeta only [GL, ne32]
 by_cases h32 : l.length = 32
 ·have d0 : decide (l.length ≠ 32) = false := by simp [h32]
  simp -zeta only [d0, Bool.false_eq_true, if_false]
  refine zcz rv (by omega) fun r H nw => ?_
  obtain ⟨b, cc, f, hbn, hcc, rfl, hH, hf⟩ := New.form nw (by omega)
  have nw : New h zc 1 (.slice (some ⟨b, 0, none⟩) l.length cc) H (nv .u8 l) l.length := nw
  have hrow : H b = some (.row zc (nv .u8 l) (cc * 1) (some f)) := by rw [hH, Hp.set_same]
  have c0 := zJ (i := 0) hrow (by omega)
  have i0 : ((0 : Int)).toNat = 0 := rfl
  have i31 : ((31 : Int)).toNat = 31 := rfl
  simp -zeta (disch := first | omega | decide) only [GL, RL, i0, Nat.add_zero, c0, zrk (hb.getD 0)]
  refine z1K zp nw (by omega) rfl fun H2 nw2 => ?_
  rw [z1O] at nw2
  obtain ⟨b2, cc2, f2, _, _, e2, hH2, _⟩ := New.form nw2 (by omega)
  simp only [Value.slice.injEq, Option.some.injEq, Addr.mk.injEq, and_true, true_and] at e2
  obtain ⟨rfl, rfl⟩ := e2
  have hrow2 : H2 b = some (.row zc (nv .u8 (l.set 0 (l.getD 0 0 / 8 * 8))) (cc * 1) (some f2)) := by rw [hH2, Hp.set_same]
  have c31 := zJ (i := 31) hrow2 (by rw [List.length_set]; omega)
  have g31 : (l.set 0 (l.getD 0 0 / 8 * 8)).getD 31 0 = l.getD 31 0 := by
   rw [List.getD_eq_getElem?_getD, List.getElem?_set, if_neg (by omega), ← List.getD_eq_getElem?_getD]
  rw [g31] at c31
  simp -zeta (disch := first | omega | decide) only [GL, RL, i31, Nat.zero_add, c31, zpU (hb.getD 31)]
  refine z1K zp nw2 (by omega) rfl fun H3 nw3 => ?_
  rw [z1O] at nw3
  refine ⟨H3, .refl _, k1 h32 _ _ ?_⟩
  show New h zc 1 _ H3 (nv .u8 (z1i l)) (z1i l).length
  rw [z4o]
  exact nw3
 ·have d0 : decide (l.length ≠ 32) = true := by simp [h32]
  simp -zeta only [d0, if_true]
  exact ⟨h, .refl _, k0 h32⟩
def zV (kl pl : List Nat) : F := xlad (z1u (z1i kl)) (ph (z9 pl % 57896044618658097711785492504343953926634992332820282019728792003956564819968))
def zt (kl : List Nat) : F := xlad (z1u (z1i kl)) 9
theorem zpV (x : F) : decide (nb x = List.replicate 32 0) = decide (x = 0) := by
 have e : List.replicate 32 0 = nb 0 := by decide +kernel
 rw [e, decide_eq_decide]
 exact ⟨zm6, fun h => by rw [h]⟩
theorem z9O {v : Value} {l : List Nat} (rv : Rn h .u8 v l) (hb : Bytes l) (hl : l.length ≤ 9223372036854775807) (k0 : l.length ≠ 32 → K (.tuple #[.slice none 0 0, .int .i64 1]) h) (k1 : l.length = 32 → ∀ r h', Nn h zc .u8 r h' (nb (zt l)) → K (.tuple #[r, .int .i64 0]) h') :
  Cn P zfl #[v] h K := by
 refine Cn_wk (zfx ?_)
 unfold z8F
 refine zjV rv hb hl (fun h32 => ?_) fun h32 r H nw => ?_
 ·rw [ext0, ext1]
  have b0 : ((1 : Int) != 0) = true := rfl
  simp -zeta only [GL, b0, if_true]
  exact ⟨h, .refl _, k0 h32⟩
 ·rw [ext0, ext1]
  have b0 : ((0 : Int) != 0) = false := rfl
  simp -zeta only [GL, b0, Bool.false_eq_true, if_false]
  refine zir 9 (.refl H) fun w H2 rw2 x2 => ?_
  refine zil rw2 (fun x hx => by rw [List.mem_singleton.1 hx]; decide) (by decide) fun s ps => ?_
  have s1 : ph (z9 [9] % 57896044618658097711785492504343953926634992332820282019728792003956564819968) = 9 := by decide +kernel
  rw [s1] at ps
  refine zjU (nw.rn.mono x2.cle) (z5r hb) (by rw [z4o, h32]) ps fun r2 H3 nw3 => ?_
  obtain ⟨h0, l0, nw0⟩ := nw3.down (nw.ext.trans x2).le
  exact ⟨h0, l0, k1 h32 _ _ nw0⟩
theorem zis {v w : Value} {l m : List Nat} (rv : Rn h .u8 v l) (rw' : Rn h .u8 w m) (hb : Bytes l) (hm : Bytes m) (hl : l.length ≤ 9223372036854775807) (hml : m.length ≤ 9223372036854775807)
  (k0 : ¬ (l.length = 32 ∧ m.length = 32) → K (.tuple #[.slice none 0 0, .int .i64 1]) h)
  (k1 : l.length = 32 → m.length = 32 → zV l m = 0 → K (.tuple #[.slice none 0 0, .int .i64 10]) h)
  (k2 : l.length = 32 → m.length = 32 → zV l m ≠ 0 → ∀ r h', Nn h zc .u8 r h' (nb (zV l m)) → K (.tuple #[r, .int .i64 0]) h') :
  Cn P zfm #[v, w] h K := by
 refine Cn_wk (zfy ?_)
 unfold z8G
 rw [show zV l m = xlad (z1u (z1i l)) (ph (z9 m % 57896044618658097711785492504343953926634992332820282019728792003956564819968)) from rfl] at k1 k2
 obtain ⟨a, c, rfl, hc⟩ := rw'.shape
 refine zjV rv hb hl (fun h32 => ?_) fun h32 r H nw => ?_
 ·rw [ext0, ext1]
  have b0 : ((1 : Int) != 0) = true := rfl
  simp -zeta only [GL, b0, Bool.true_eq_false, if_false, if_true]
  exact ⟨h, .refl _, k0 fun q => h32 q.1⟩
 ·rw [ext0, ext1]
  have b0 : ((0 : Int) != 0) = false := rfl
  intro J
  have ln : ∀ {K : Value → Prop}, q P H (Builtin.len_ #[zd] zi #[.slice a m.length c]) K = K (.int .i64 (m.length : Nat)) := fun {K} => z12 za _ _ _
  have qJ : m.length = 32 → J H := by
   intro hm32
   simp -zeta only [J]
   clear J
   refine zil (rw'.mono nw.ext.cle) hm (by omega) fun s ps => ?_
   refine zjU nw.rn (z5r hb) (by rw [z4o, h32]) ps fun r2 H3 nw3 => ?_
   have x3 := nw.ext.trans nw3.ext
   obtain ⟨a2, c2, rfl, hc2⟩ := nw3.rn.shape
   clear ps
   generalize xlad (z1u (z1i l)) (ph (z9 m % 57896044618658097711785492504343953926634992332820282019728792003956564819968)) = S at *
   have l32 := zm S
   have ln2 : ∀ {K : Value → Prop}, q P H3 (Builtin.len_ #[zd] zi #[.slice a2 (nb S).length c2]) K = K (.int .i64 ((32 : Nat) : Int)) := fun {K} => by
    rw [z12 za, l32]
   rw [ln2]
   refine z2w za zw rfl (Nat.le_refl 32) (by decide) (by decide) fun z H4 nz => ?_
   rw [z1E] at nz
   have nz' : Nn H3 zc .u8 z H4 (List.replicate 32 0) := nz
   refine z7U (nw3.rn.mono nz'.ext.cle) nz'.rn (z1J _) (fun x hx => by rw [List.eq_of_mem_replicate hx]; decide) (by rw [l32]; omega) ?_
   rw [zpV]
   simp -zeta only [GL]
   by_cases h0 : S = 0
   ·simp -zeta only [h0, decide_true, if_true]
    exact ⟨h, (x3.trans nz'.ext).le, k1 h32 hm32 h0⟩
   ·simp -zeta only [h0, decide_false, Bool.false_eq_true, if_false]
    obtain ⟨h0', l0, nw0⟩ := nw3.down nw.ext.le
    exact ⟨h0', l0.trans nz'.ext.le, k2 h32 hm32 h0 _ _ nw0⟩
  clear_value J
  simp -zeta only [GL, b0, if_true, ln, ne32]
  by_cases hm32 : m.length = 32
  ·have d0 : decide (m.length ≠ 32) = false := by simp [hm32]
   simp -zeta only [d0, Bool.false_eq_true, if_false]
   exact qJ hm32
  ·have d0 : decide (m.length ≠ 32) = true := by simp [hm32]
   simp -zeta only [d0, if_true]
   exact ⟨h, nw.ext.le, k0 fun q => hm32 q.2⟩
end
set_option maxHeartbeats 2000000
structure Lad (h H : Hp) (r5 r6 r7 r8 : Nat) (s : F × F × F × F) : Prop where
 x : Hp.ext h H
 a5 : LN H r5 (nb s.1)
 a6 : LN H r6 (nb s.2.1)
 a7 : LN H r7 (nb s.2.2.1)
 a8 : LN H r8 (nb s.2.2.2)
structure LadN (h : Hp) (r3 r4 r5 r6 r7 r8 : Nat) : Prop where
 n4 : h r4 = none
 n5 : h r5 = none
 n6 : h r6 = none
 n7 : h r7 = none
 n8 : h r8 = none
 d3 : r3 ≠ r5 ∧ r3 ≠ r6 ∧ r3 ≠ r7 ∧ r3 ≠ r8
 d4 : r4 ≠ r5 ∧ r4 ≠ r6 ∧ r4 ≠ r7 ∧ r4 ≠ r8
 d5 : r5 ≠ r6 ∧ r5 ≠ r7 ∧ r5 ≠ r8
 d6 : r6 ≠ r7 ∧ r6 ≠ r8
 d7 : r7 ≠ r8
theorem Lad.set5 {h H H' : Hp} {r3 r4 r5 r6 r7 r8 : Nat} {s : F × F × F × F} (l : Lad h H r5 r6 r7 r8 s) (n : LadN h r3 r4 r5 r6 r7 r8) {v : F} (a : LN H' r5 (nb v)) (f : ∀ b, b ≠ r5 → H' b = H b) : Lad h H' r5 r6 r7 r8 (v, s.2) :=
 ⟨z1m l.x n.n5 f, a, l.a6.off f n.d5.1.symm, l.a7.off f n.d5.2.1.symm, l.a8.off f n.d5.2.2.symm⟩
theorem Lad.set6 {h H H' : Hp} {r3 r4 r5 r6 r7 r8 : Nat} {s : F × F × F × F} (l : Lad h H r5 r6 r7 r8 s) (n : LadN h r3 r4 r5 r6 r7 r8) {v : F} (a : LN H' r6 (nb v)) (f : ∀ b, b ≠ r6 → H' b = H b) : Lad h H' r5 r6 r7 r8 (s.1, v, s.2.2) :=
 ⟨z1m l.x n.n6 f, l.a5.off f n.d5.1, a, l.a7.off f n.d6.1.symm, l.a8.off f n.d6.2.symm⟩
theorem Lad.set7 {h H H' : Hp} {r3 r4 r5 r6 r7 r8 : Nat} {s : F × F × F × F} (l : Lad h H r5 r6 r7 r8 s) (n : LadN h r3 r4 r5 r6 r7 r8) {v : F} (a : LN H' r7 (nb v)) (f : ∀ b, b ≠ r7 → H' b = H b) : Lad h H' r5 r6 r7 r8 (s.1, s.2.1, v, s.2.2.2) :=
 ⟨z1m l.x n.n7 f, l.a5.off f n.d5.2.1, l.a6.off f n.d6.1, a, l.a8.off f n.d7.symm⟩
theorem Lad.set8 {h H H' : Hp} {r3 r4 r5 r6 r7 r8 : Nat} {s : F × F × F × F} (l : Lad h H r5 r6 r7 r8 s) (n : LadN h r3 r4 r5 r6 r7 r8) {v : F} (a : LN H' r8 (nb v)) (f : ∀ b, b ≠ r8 → H' b = H b) : Lad h H' r5 r6 r7 r8 (s.1, s.2.1, s.2.2.1, v) :=
 ⟨z1m l.x n.n8 f, l.a5.off f n.d5.2.2, l.a6.off f n.d6.2, l.a7.off f n.d7, a⟩
theorem Lad.ext {h H H' : Hp} {r5 r6 r7 r8 : Nat} {s : F × F × F × F} (l : Lad h H r5 r6 r7 r8 s) (x : Hp.ext H H') : Lad h H' r5 r6 r7 r8 s :=
 ⟨l.x.trans x, l.a5.ext x, l.a6.ext x, l.a7.ext x, l.a8.ext x⟩
theorem LN.pk {h : Hp} {r : Nat} {l : List Nat} (a : LN h r l) (hl : l.length = 32) : peek P h (Instr.loadAt zo (.pointer (some ⟨r, 0, none⟩))) = some (NV l) := pk_q fun K => a.ld hl
section
variable {h : Hp} {K : Value → Hp → Prop}
theorem zit {H : Hp} {r3 r4 r5 r6 r7 r8 : Nat} {u : F} {s : F × F × F × F} (n : LadN h r3 r4 r5 r6 r7 r8) (l : Lad h H r5 r6 r7 r8 s) (a3 : LN H r3 (nb u)) (a4 : LN H r4 (List.replicate 32 0)) {X : Hp → Prop}
  (k : ∀ H', Lad h H' r5 r6 r7 r8 (z1D true s) → LN H' r3 (nb u) → LN H' r4 (List.replicate 32 0) → X H') :
  q P H (Instr.loadAt zo (.pointer (some ⟨r7, 0, none⟩))) fun t38 => q P H (Instr.loadAt zo (.pointer (some ⟨r5, 0, none⟩))) fun t39 =>
   aw P (Instr.storeAt zo (.pointer (some ⟨r5, 0, none⟩)) t38) (fun _ h => aw P (Instr.storeAt zo (.pointer (some ⟨r7, 0, none⟩)) t39) (fun _ h =>
    q P h (Instr.loadAt zo (.pointer (some ⟨r8, 0, none⟩))) fun t40 => q P h (Instr.loadAt zo (.pointer (some ⟨r6, 0, none⟩))) fun t41 =>
     aw P (Instr.storeAt zo (.pointer (some ⟨r6, 0, none⟩)) t40) (fun _ h => aw P (Instr.storeAt zo (.pointer (some ⟨r8, 0, none⟩)) t41) (fun _ h => X h) h) h) h) H := by
 rw [l.a7.ld (zm _), l.a5.ld (zm _)]
 refine z1b l.a5 (zm _) (zm _) fun H1 b1 f1 => ?_
 have l1 := l.set5 n b1 f1
 refine z1b l1.a7 (zm _) (zm _) fun H2 b2 f2 => ?_
 have l2 := l1.set7 n b2 f2
 rw [l2.a8.ld (zm _), l2.a6.ld (zm _)]
 refine z1b l2.a6 (zm _) (zm _) fun H3 b3 f3 => ?_
 have l3 := l2.set6 n b3 f3
 refine z1b l3.a8 (zm _) (zm _) fun H4 b4 f4 => ?_
 have l4 := l3.set8 n b4 f4
 refine k H4 ?_ ((((a3.off f1 n.d3.1).off f2 n.d3.2.2.1).off f3 n.d3.2.1).off f4 n.d3.2.2.2) ((((a4.off f1 n.d4.1).off f2 n.d4.2.2.1).off f3 n.d4.2.1).off f4 n.d4.2.2.2)
 exact l4
theorem Lad.off4 {h H : Hp} {r r5 r6 r7 r8 : Nat} {s : F × F × F × F} (l : Lad h H r5 r6 r7 r8 s) (n : H r = none) : r ≠ r5 ∧ r ≠ r6 ∧ r ≠ r7 ∧ r ≠ r8 :=
 ⟨(l.a5.ne n).symm, (l.a6.ne n).symm, (l.a7.ne n).symm, (l.a8.ne n).symm⟩
theorem zmy {H : Hp} {x y z : F} {r7 r8 rb : Nat} {f : FuncId} (cf : ∀ {h : Hp} {K : Value → Hp → Prop}, K (NV (nb z)) h → Cn P f #[NV (nb x), NV (nb y)] h K) {w : F} (a7 : LN H r7 (nb x)) (a8 : LN H r8 (nb y)) (ab : LN H rb (nb w)) {J : Value → Hp → Prop}
  (k : ∀ r H', H r = none → Hp.ext H H' → LN H' r (nb (z * w)) → J (.pointer (some ⟨r, 0, none⟩)) H') :
  q P H (Instr.loadAt zo (.pointer (some ⟨r7, 0, none⟩))) fun t57 => q P H (Instr.loadAt zo (.pointer (some ⟨r8, 0, none⟩))) fun t58 => q P H (Instr.loadAt zo (.pointer (some ⟨rb, 0, none⟩))) fun t60 =>
  (Cn P f #[t57, t58] H fun t59 h => peek P h (Instr.loadAt zo (.pointer (some ⟨rb, 0, none⟩))) = some t60 ∧ (Cn P z3e #[t59, t60] h fun t61 h => aw P (Instr.alloc zo true (.tuple #[])) (fun t16 h => aw P (Instr.storeAt zo t16 t61) (fun _ h => J t16 h) h) h) ∧
   (aw P (Instr.alloc zo true (.tuple #[])) (fun t16 h => peek P h (Instr.loadAt zo (.pointer (some ⟨rb, 0, none⟩))) = some t60 ∧ Cn P z3e #[t59, t60] h fun t61 h => aw P (Instr.storeAt zo t16 t61) (fun _ h => J t16 h) h) h)) ∧
  (aw P (Instr.alloc zo true (.tuple #[])) (fun t16 h => peek P h (Instr.loadAt zo (.pointer (some ⟨rb, 0, none⟩))) = some t60 ∧ peek P h (Instr.loadAt zo (.pointer (some ⟨r8, 0, none⟩))) = some t58 ∧ peek P h (Instr.loadAt zo (.pointer (some ⟨r7, 0, none⟩))) = some t57 ∧
   Cn P f #[t57, t58] h fun t59 h => peek P h (Instr.loadAt zo (.pointer (some ⟨rb, 0, none⟩))) = some t60 ∧ Cn P z3e #[t59, t60] h fun t61 h => aw P (Instr.storeAt zo t16 t61) (fun _ h => J t16 h) h) H) := by
 rw [a7.ld (zm _), a8.ld (zm _), ab.ld (zm _)]
 refine ⟨cf ⟨ab.pk (zm _), z3s _ _ (z3C (zm _) k), z2q fun r H' n x a f => ⟨(ab.ext x).pk (zm _), z3s _ _ (z1b a (by simp) (zm _) fun H2 a2 f2 => k r H2 n (z1m x n f2) a2)⟩⟩,
  z2q fun r H' n x a f => ⟨(ab.ext x).pk (zm _), (a8.ext x).pk (zm _), (a7.ext x).pk (zm _), cf ⟨(ab.ext x).pk (zm _), z3s _ _ (z1b a (by simp) (zm _) fun H2 a2 f2 => k r H2 n (z1m x n f2) a2)⟩⟩⟩
theorem zpW (n : Nat) : (((n : Nat) : Int) == 1) = decide (n = 1) := by
 rw [Bool.eq_iff_iff, beq_iff_eq, decide_eq_true_eq]; omega
theorem zrl : ph 1 = 1 := by decide +kernel
theorem zmz : ph 0 = 0 := by decide +kernel
theorem zrm : ph 9 = 9 := by decide +kernel
theorem zjl : ph 121665 = 121665 := by decide +kernel
theorem zeX {kv : Value} {kl : List Nat} {u : F} (rk : Rn h .u8 kv kl) (bk : Bytes kl) (lk : kl.length = 32) (k : K (NV (nb (xlad (z1u kl) u))) h) : Cn P zal #[kv, NV (nb u)] h K := by
 refine Cn_wk (zay ?_)
 unfold z5E
 refine z32 (zm u) fun r3 H3 n3 x3 a3 _ => ?_
 refine z2q fun r4 H4 n4 x4 a4 _ => ?_
 refine z3E (n := 1) (by decide) ?_
 refine z3C (zm _) fun r5 H5 n5 x5 a5 => ?_
 refine z3E (n := 0) (by decide) ?_
 refine z3C (zm _) fun r6 H6 n6 x6 a6 => ?_
 rw [(((a3.ext x4).ext x5).ext x6).ld (zm _)]
 refine z3C (zm _) fun r7 H7 n7 x7 a7 => ?_
 refine z3E (n := 1) (by decide) ?_
 refine z3C (zm _) fun r8 H8 n8 x8 a8 => ?_
 rw [zrl] at a5 a8
 rw [zmz] at a6
 have N : LadN h r3 r4 r5 r6 r7 r8 := {
  n4 := x3.none n4
  n5 := (x3.trans x4).none n5
  n6 := ((x3.trans x4).trans x5).none n6
  n7 := (((x3.trans x4).trans x5).trans x6).none n7
  n8 := ((((x3.trans x4).trans x5).trans x6).trans x7).none n8
  d3 := ⟨(a3.ext x4).ne n5, ((a3.ext x4).ext x5).ne n6, (((a3.ext x4).ext x5).ext x6).ne n7, ((((a3.ext x4).ext x5).ext x6).ext x7).ne n8⟩
  d4 := ⟨a4.ne n5, (a4.ext x5).ne n6, ((a4.ext x5).ext x6).ne n7, (((a4.ext x5).ext x6).ext x7).ne n8⟩
  d5 := ⟨a5.ne n6, (a5.ext x6).ne n7, ((a5.ext x6).ext x7).ne n8⟩
  d6 := ⟨a6.ne n7, (a6.ext x7).ne n8⟩
  d7 := a7.ne n8 }
 have L0 : Lad h H8 r5 r6 r7 r8 (1, 0, u, 1) := ⟨((((x3.trans x4).trans x5).trans x6).trans x7).trans x8, ((a5.ext x6).ext x7).ext x8, (a6.ext x7).ext x8, a7.ext x8, a8⟩
 have c3 := ((((a3.ext x4).ext x5).ext x6).ext x7).ext x8
 have c4 := (((a4.ext x5).ext x6).ext x7).ext x8
 clear n3 n4 n5 n6 n7 n8 x3 x4 x5 x6 x7 x8 a3 a4 a5 a6 a7 a8
 have lb := zbV (z9 kl) 255
 refine Lp_mk (fun m vs H => m ≤ 255 ∧ Lad h H r5 r6 r7 r8 (ladF 121665 u ((z1u kl).take (255 - m)) (1, 0, u, 1)) ∧ LN H r3 (nb u) ∧ LN H r4 (List.replicate 32 0) ∧ vs = [.int .i64 ((m : Int) - 1)]) 255
  ⟨by omega, by rw [Nat.sub_self, List.take_zero]; exact L0, c3, c4, rfl⟩ ?_
 clear L0 c3 c4
 rintro m vs H ⟨hm, l, b3, b4, rfl⟩
 simp -zeta (disch := omega) only [GL, RL, ge0]
 match m, hm, l with
 | 0, _, l =>
  simp -zeta (disch := omega) only [GL, Nat.lt_irrefl, decide_false, Bool.false_eq_true, if_false]
  rw [List.take_of_length_le (by rw [z1u, lb]; omega)] at l
  unfold xlad at k
  generalize ladF 121665 u (z1u kl) (1, 0, u, 1) = s at *
  rw [l.a5.ld (zm _), l.a6.ld (zm _)]
  refine zrg _ ⟨l.a5.pk (zm _), z3s _ _ ?_⟩
  generalize zm (s.1 * invP s.2.1) = ln at *
  generalize nb (s.1 * invP s.2.1) = z at *
  refine z1b b4 (by simp) ln fun H5 b5 f5 => ?_
  rw [b5.res ln]
  exact ⟨h, (z1m l.x N.n4 f5).le, k⟩
 | m + 1, hm, l =>
  rw [decide_eq_true (by omega)]
  have i1 : ((m + 1 : Nat) : Int) - 1 = (m : Int) := by omega
  obtain ⟨d1, d2, d3⟩ := zmr (i := m) (by omega)
  have gx := bk.getD (m / 8)
  obtain ⟨p, hp1, hp2⟩ := z6i (P := P) (i := m / 8) (y := .int .u8 ((kl.getD (m / 8) 0 : Nat) : Int)) za zp (rk.mono l.x.cle) (z1g _ _ _ (by omega))
  have hb : decide (kl.getD (m / 8) 0 / 2 ^ (m % 8) % 2 = 1) = (z9 kl).testBit m := by
   have := zbX bk (q := m / 8) (r := m % 8) (by omega) (by omega)
   rw [← this]
   congr 1
   omega
  have md : ∀ x : Nat, ((x : Int)).tmod 2 = ((x % 2 : Nat) : Int) := fun x => (Int.ofNat_tmod x 2).symm
  simp -zeta (maxSteps := 3000000) (disch := first | omega | decide) only [GL, RL, if_true, i1, d1, d2, d3, hp1, hp2, zoK, md, zpW, hb]
  have st := zbW (z9 kl) 255 (254 - m) (by omega)
  have tk : (z1u kl).take (255 - m) = (z1u kl).take (255 - (m + 1)) ++ [(z9 kl).testBit m] := by
   rw [show 255 - m = (254 - m) + 1 by omega, show 255 - (m + 1) = 254 - m by omega, List.take_succ_eq_append_getElem (by rw [z1u, lb]; omega)]
   congr 2
   rw [List.getElem?_eq_getElem (by rw [lb]; omega), show 255 - 1 - (254 - m) = m by omega] at st
   exact Option.some.inj st
  have ec := ze3 121665 u ((z1u kl).take (255 - (m + 1))) ((z9 kl).testBit m) (1, 0, u, 1)
  rw [← tk] at ec
  have fin : ∀ H', Lad h H' r5 r6 r7 r8 (bitF 121665 u ((z9 kl).testBit m) (ladF 121665 u ((z1u kl).take (255 - (m + 1))) (1, 0, u, 1))) → LN H' r3 (nb u) → LN H' r4 (List.replicate 32 0) →
    ∃ h0, Hp.le h0 H' ∧ ∃ m_1, m_1 < m + 1 ∧ m_1 ≤ 255 ∧ Lad h h0 r5 r6 r7 r8 (ladF 121665 u ((z1u kl).take (255 - m_1)) (1, 0, u, 1)) ∧ LN h0 r3 (nb u) ∧ LN h0 r4 (List.replicate 32 0) ∧ [Value.int .i64 ((m : Int) - 1)] = [.int .i64 ((m_1 : Int) - 1)] := fun H' l b3 b4 =>
   ⟨H', .refl _, m, by omega, by omega, by rw [ec]; exact l, b3, b4, rfl⟩
  clear ec tk st hb hp1 hp2 gx
  generalize (z9 kl).testBit m = bit at *
  generalize ladF 121665 u ((z1u kl).take (255 - (m + 1))) (1, 0, u, 1) = s0 at *
  have w1 : IntKind.i64.wrap ((m : Int) - 1) = (m : Int) - 1 := by rw [wi64 (by omega) (by omega)]
  intro J13
  have qJ : ∀ H, Lad h H r5 r6 r7 r8 (z1D bit s0) → LN H r3 (nb u) → LN H r4 (List.replicate 32 0) → J13 H := by
   intro H l b3 b4
   simp -zeta only [J13]
   clear J13
   have fin2 : ∀ H', Lad h H' r5 r6 r7 r8 (z1D bit (z4I 121665 u (z1D bit s0))) → LN H' r3 (nb u) → LN H' r4 (List.replicate 32 0) → _ := fin
   clear fin
   generalize z1D bit s0 = s at *
   rw [l.a5.ld (zm _), l.a6.ld (zm _)]
   refine zbN _ _ (z3C (zm _) fun r11 H11 n11 x11 a11 => ?_)
   replace l := l.ext x11
   rw [l.a5.ld (zm _), l.a6.ld (zm _)]
   refine zbO _ _ (z3C (zm _) fun r12 H12 n12 x12 a12 => ?_)
   replace l := l.ext x12
   replace a11 := a11.ext x12
   rw [a11.ld (zm _), a11.ld (zm _)]
   refine z3s _ _ (z3C (zm _) fun r13 H13 n13 x13 a13 => ?_)
   have o13 := l.off4 n13
   replace l := l.ext x13
   replace a11 := a11.ext x13
   replace a12 := a12.ext x13
   rw [a12.ld (zm _), a12.ld (zm _)]
   refine z3s _ _ (z3C (zm _) fun r14 H14 n14 x14 a14 => ?_)
   have o14 := l.off4 n14
   replace l := l.ext x14
   replace a11 := a11.ext x14
   replace a12 := a12.ext x14
   replace a13 := a13.ext x14
   rw [a13.ld (zm _), a14.ld (zm _)]
   refine zbO _ _ (z3C (zm _) fun r15 H15 n15 x15 a15 => ?_)
   have o15 := l.off4 n15
   replace l := l.ext x15
   replace a11 := a11.ext x15
   replace a12 := a12.ext x15
   replace a13 := a13.ext x15
   replace a14 := a14.ext x15
   replace b3 := ((((b3.ext x11).ext x12).ext x13).ext x14).ext x15
   replace b4 := ((((b4.ext x11).ext x12).ext x13).ext x14).ext x15
   clear x11 x12 x13 x14 x15 n11 n12 n13 n14 n15
   intro J21
   have q21 : ∀ r16 H', H15 r16 = none → Hp.ext H15 H' → LN H' r16 (nb ((s.2.2.1 - s.2.2.2) * (s.1 + s.2.1))) → J21 (.pointer (some ⟨r16, 0, none⟩)) H' := by
    intro r16 H' n16 x16 a16
    simp -zeta only [J21]
    clear J21
    have o16 := l.off4 n16
    replace l := l.ext x16
    replace a12 := a12.ext x16
    replace a13 := a13.ext x16
    replace a14 := a14.ext x16
    replace a15 := a15.ext x16
    replace b3 := b3.ext x16
    replace b4 := b4.ext x16
    intro J22
    have q22 : ∀ r17 H'', H' r17 = none → Hp.ext H' H'' → LN H'' r17 (nb ((s.2.2.1 + s.2.2.2) * (s.1 - s.2.1))) → J22 (.pointer (some ⟨r17, 0, none⟩)) H'' := by
     intro r17 H'' n17 x17 a17
     simp -zeta only [J22]
     clear J22
     have o17 := l.off4 n17
     replace l := l.ext x17
     replace a13 := a13.ext x17
     replace a14 := a14.ext x17
     replace a15 := a15.ext x17
     replace a16 := a16.ext x17
     replace b3 := b3.ext x17
     replace b4 := b4.ext x17
     have L32 := zm
     rw [a16.ld (L32 _), a17.ld (L32 _), a16.ld (L32 _), a17.ld (L32 _)]
     refine zbN _ _ ⟨a17.pk (L32 _), a16.pk (L32 _), zbN _ _ (z3s _ _ (z1b l.a7 (L32 _) (L32 _) fun G1 g1 f1 => ?_))⟩
     have l1 := l.set7 N g1 f1
     replace a13 := a13.off f1 o13.2.2.1
     replace a14 := a14.off f1 o14.2.2.1
     replace a15 := a15.off f1 o15.2.2.1
     replace a16 := a16.off f1 o16.2.2.1
     replace a17 := a17.off f1 o17.2.2.1
     replace b3 := b3.off f1 N.d3.2.2.1
     replace b4 := b4.off f1 N.d4.2.2.1
     clear l g1 f1
     rw [b3.ld (L32 _), a16.ld (L32 _), a17.ld (L32 _), a16.ld (L32 _), a17.ld (L32 _)]
     refine zbO _ _ ⟨a17.pk (L32 _), a16.pk (L32 _), b3.pk (L32 _), zbO _ _ ⟨b3.pk (L32 _), z3s _ _ ⟨b3.pk (L32 _), z3s _ _ (z1b l1.a8 (L32 _) (L32 _) fun G2 g2 f2 => ?_)⟩⟩⟩
     have l2 := l1.set8 N g2 f2
     replace a13 := a13.off f2 o13.2.2.2
     replace a14 := a14.off f2 o14.2.2.2
     replace a15 := a15.off f2 o15.2.2.2
     replace b3 := b3.off f2 N.d3.2.2.2
     replace b4 := b4.off f2 N.d4.2.2.2
     clear l1 g2 f2 a16 a17
     rw [a13.ld (L32 _), a14.ld (L32 _)]
     refine z3s _ _ (z1b l2.a5 (L32 _) (L32 _) fun G3 g3 f3 => ?_)
     have l3 := l2.set5 N g3 f3
     replace a13 := a13.off f3 o13.1
     replace a15 := a15.off f3 o15.1
     replace b3 := b3.off f3 N.d3.1
     replace b4 := b4.off f3 N.d4.1
     clear l2 g3 f3 a14
     rw [a15.ld (L32 _), a13.ld (L32 _), a15.ld (L32 _)]
     refine z3E (n := 121665) (by decide) ?_
     rw [zjl]
     refine ⟨a15.pk (L32 _), a13.pk (L32 _), a15.pk (L32 _), z3s _ _ ⟨a13.pk (L32 _), a15.pk (L32 _), zbN _ _ ⟨a15.pk (L32 _), z3s _ _ (z1b l3.a6 (L32 _) (L32 _) fun G4 g4 f4 => ?_)⟩⟩⟩
     have l4 := l3.set6 N g4 f4
     replace b3 := b3.off f4 N.d3.2.1
     replace b4 := b4.off f4 N.d4.2.1
     clear l3 g4 f4 a13 a15
     have l5 : Lad h G4 r5 r6 r7 r8 (z4I 121665 u s) := l4
     cases bit
     ·simp -zeta only [Bool.false_eq_true, if_false, GL, w1]
      exact fin2 G4 l5 b3 b4
     ·simp -zeta only [if_true]
      refine zit N l5 b3 b4 fun H' l6 b3 b4 => ?_
      simp -zeta only [GL, w1]
      exact fin2 H' l6 b3 b4
    clear_value J22
    exact zmy (fun k => zbN _ _ k) l.a7 l.a8 a12 q22
   clear_value J21
   exact zmy (fun k => zbO _ _ k) l.a7 l.a8 a11 q21
  clear_value J13
  cases bit
  ·simp -zeta only [Bool.false_eq_true, if_false]
   exact qJ H l b3 b4
  ·simp -zeta only [if_true]
   exact zit N l b3 b4 qJ
end
end Go.Proofs.YtoikhbagchfeoaaGreat
namespace Go.SL
open Go
section
variable {P : Program} {h : Hp}
theorem zeY {d n : Nat} {elem : TypeId} {xs ys : Array Value} (e : Nat → Bool) : ∀ (l : List Nat), (∀ i ∈ l, ∃ x y, peek P h (part elem xs (i * n)) = some x ∧ peek P h (part elem ys (i * n)) = some y ∧ peek P h (Op.equalIn d elem x y) = some (e i)) →
  peek P h (forIn l ((none : Option Bool), ()) fun (i : Nat) (_ : Option Bool × Unit) =>
    (part elem xs (i * n)).bind fun u => (part elem ys (i * n)).bind fun w => (Op.equalIn d elem u w).bind fun z =>
     if (!z) = true then pure (ForInStep.done (some false, ())) else pure (ForInStep.yield (none, ()))) = some (if l.all e then none else some false, ())
 | [], _ => by simp only [List.forIn_nil, List.all_nil, if_true]; rfl
 | i :: l, H => by
  have ih := zeY e l fun g hg => H g (List.mem_cons_of_mem _ hg)
  obtain ⟨x, y, h1, h2, h3⟩ := H i (by simp)
  simp only [List.forIn_cons, bind, zh, h1, h2, h3, Option.bind_some]
  cases q : e i with
  | true =>
   simp only [Bool.not_true, Bool.false_eq_true, if_false, z2a, Option.bind_some]
   rw [List.all_cons, q, Bool.true_and]
   exact ih
  | false =>
   simp only [Bool.not_false, if_true, z2a, Option.bind_some, List.all_cons, q, Bool.false_and, Bool.false_eq_true, if_false]
theorem zo3 {t elem : TypeId} {len n : Nat} {xs ys : Array Value} (e : Nat → Bool) (ht : P.underlying t = some (.array len elem)) (hs : sz P elem = some n)
  (H : ∀ i, i < len → ∃ x y, peek P h (part elem xs (i * n)) = some x ∧ peek P h (part elem ys (i * n)) = some y ∧ peek P h (Op.equalIn 9999 elem x y) = some (e i)) :
  peek P h (Op.equal t (.agg xs) (.agg ys)) = some ((List.range len).all e) := by
 unfold Op.equal Op.maxDepth Op.equalIn
 have hu : peek P h (underlying t) = some _ := z11 ht
 have hz : peek P h (sizeOf elem) = some n := z1S hs
 simp only [bind, zh, hu, hz, Option.bind_some]
 have := zeY (P := P) (h := h) (n := n) (d := 9999) (elem := elem) (xs := xs) (ys := ys) e (List.range len) fun i hi => H i (List.mem_range.1 hi)
 rw [Std.Legacy.Range.forIn_eq_forIn_range']
 have er : List.range' 0 ([:len] : Std.Legacy.Range).size 1 = List.range len := by simp [Std.Legacy.Range.size, List.range_eq_range']
 rw [er]
 rw [this, Option.bind_some]
 cases (List.range len).all e <;> rfl
theorem zo4 {t elem : TypeId} {len n : Nat} {xs ys : Array Value} {K : Value → Prop} (x y : Operand) (e : Nat → Bool) (ht : P.underlying t = some (.array len elem)) (hs : sz P elem = some n) (hg : P.eqGuardType P.depth t = false)
  (H : ∀ i, i < len → ∃ x y, peek P h (part elem xs (i * n)) = some x ∧ peek P h (part elem ys (i * n)) = some y ∧ peek P h (Op.equalIn 9999 elem x y) = some (e i)) :
  q P h (eqop .eql t x y (.agg xs) (.agg ys)) K = K (.bool ((List.range len).all e)) := q_of (by
 have hp : peek P h program = some P := rfl
 unfold eqop
 rw [zh]
 have g : peek P h (eqGuard .eql t x y (.agg xs) (.agg ys)) = some () := by
  simp only [eqGuard, bind]
  rw [if_neg (by simp)]
  simp only [zh, hp, Option.bind_some, hg, Bool.not_false, if_true]
  rfl
 rw [g, Option.bind_some]
 show peek P h ((Op.equal t (.agg xs) (.agg ys)).bind fun r => pure (Value.bool r)) = _
 rw [zh, zo3 e ht hs H]
 rfl) K
end
end Go.SL
namespace Go.Proofs.YtoikhbagchfeoaaGreat
open Go Go.SL Go.Pure
section
variable {h : Hp} {K : Value → Hp → Prop}
theorem z9e (k : ∀ v h', Nn h zc .u8 v h' [] → K v h') : aw P (Instr.buildSlice zd 0 #[]) K h :=
 zT (ps := []) (n := 0) za zp z1p rfl (by omega) (by intro p hp; cases hp) fun v h' n _ => k v h' n
theorem zcB (x : Nat) (k : ∀ v h', Nn h zc .u8 v h' [x] → K v h') : aw P (Instr.buildSlice zd 1 #[(0, .int .u8 (x : Int))]) K h :=
 zT (ps := [(0, _)]) za zp z1p rfl (by omega) (by intro p hp; rw [List.mem_singleton.1 hp]; exact ⟨rfl, by omega⟩) fun v h' n _ => k v h' n
theorem z3X {base : Hp} {v w : Value} {xs ys : List Nat} (n : Nn base zc .u8 v h xs) (r : Rn h .u8 w ys) (l : xs.length + ys.length ≤ 70368744177664) (k : ∀ v' h', Nn base zc .u8 v' h' (xs ++ ys) → K v' h') :
  aw P (Builtin.append_ #[zd, zd] zd #[v, w]) K h :=
 z1t za za zw rfl (by omega) n r (zq _ _) (by omega) (.refl _) fun v' h' n' => k v' h' (by
  show New base zc 1 v' h' (nv .u8 (xs ++ ys)) (xs ++ ys).length
  rw [z13, List.length_append]
  exact n')
theorem zjW {base h1 : Hp} {v w : Value} {xs ys : List Nat} (n : Nn base zc .u8 v h1 xs) (r : Nn h1 zc .u8 w h ys) (l : xs.length + ys.length ≤ 70368744177664) (k : ∀ v' h', Nn base zc .u8 v' h' (xs ++ ys) → K v' h') :
  aw P (Builtin.append_ #[zd, zd] zd #[v, w]) K h :=
 zQ za za zw rfl (by omega) n r (zq _ _) (by omega) fun v' h' n' => k v' h' (by
  show New base zc 1 v' h' (nv .u8 (xs ++ ys)) (xs ++ ys).length
  rw [z13, List.length_append]
  exact n')
theorem z9P {k1 k2 : IntKind} (m : Nat) (hm : m ≤ 70368744177664) (k : ∀ v h', Nn h zc .u8 v h' (List.replicate m 0) → K v h') : aw P (Instr.makeSlice zd (.int k1 (m : Int)) (.int k2 (m : Int))) K h :=
 z2w za zw rfl (Nat.le_refl m) (by omega) (by omega) fun v h' n => k v h' (by
  show New h zc 1 v h' (nv .u8 (List.replicate m 0)) (List.replicate m 0).length
  rw [← z1E, List.length_replicate]
  exact n)
theorem ziu {v : Value} {xs : List Nat} {S : List Nat} (x : Nat) (o : OutAt zc 1 h v (nv .u8 xs) xs.length S) (l : xs.length ≤ 70368744177663)
  (k : ∀ v' h' S', OutAt zc 1 h' v' (nv .u8 (xs ++ [x])) (xs ++ [x]).length S' → (∀ b o, b ∉ S → h b = some o → h' b = some o) → (∀ b o, b ∉ S → h b = some o → b ∉ S') → K v' h') :
  aw P (Instr.buildSlice zd 1 #[(0, .int .u8 (x : Int))]) (fun t h => aw P (Builtin.append_ #[zd, zd] zd #[v, t]) (fun w h => K w h) h) h := by
 refine zcB x fun w h1 n1 => ?_
 have e1 := n1.ext
 have o1 : OutAt zc 1 h1 v (nv .u8 xs) xs.length S := o.keep fun b hb => by
  rcases o with ⟨_, _, _, rfl⟩ | ⟨b', c, f, hb', _, _, _, rfl, _⟩
  ·cases hb
  ·rw [List.mem_singleton.1 hb, hb', e1 _ _ hb']
 refine z9E za za zw rfl (by omega) o1 n1.rn (zq _ _) (by simp; omega) fun v' h' S' o' kp fr => ?_
 refine k v' h' S' ?_ (fun b o nb e => kp b o nb (e1 _ _ e)) fun b o nb e => fr b o nb (e1 _ _ e)
 rw [z13, List.length_append]
 exact o'
theorem zfU {v w : Value} {xs ys : List Nat} {S : List Nat} (o : OutAt zc 1 h v (nv .u8 xs) xs.length S) (r : Rn h .u8 w ys) (l : xs.length + ys.length ≤ 70368744177664)
  (k : ∀ v' h' S', OutAt zc 1 h' v' (nv .u8 (xs ++ ys)) (xs ++ ys).length S' → (∀ b o, b ∉ S → h b = some o → h' b = some o) → (∀ b o, b ∉ S → h b = some o → b ∉ S') → K v' h') :
  aw P (Builtin.append_ #[zd, zd] zd #[v, w]) K h :=
 z9E za za zw rfl (by omega) o r (zq _ _) (by omega) fun v' h' S' o' kp fr => k v' h' S' (by rw [z13, List.length_append]; exact o') kp fr
theorem ziv {v : Value} {xs : List Nat} {S : List Nat} (o : OutAt zc 1 h v (nv .u8 xs) xs.length S) : Rn h .u8 v xs := OutAt.rds o
theorem ziw : OutAt zc 1 h (.slice none 0 0) (nv .u8 []) ([] : List Nat).length [] := .inl ⟨rfl, rfl, rfl, rfl⟩
def Bs (base h : Hp) (S : List Nat) : Prop := Hp.ext base h ∧ ∀ b, b ∈ S → base b = none
theorem Bs.step {base h h' : Hp} {S S' : List Nat} (a : Bs base h S) (kp : ∀ b o, b ∉ S → h b = some o → h' b = some o) (fr : ∀ b o, b ∉ S → h b = some o → b ∉ S') : Bs base h' S' := by
 refine ⟨fun b o e => kp b o (fun hb => ?_) (a.1 _ _ e), fun b hb => ?_⟩
 ·rw [a.2 b hb] at e; cases e
 ·cases e : base b with
  | none => rfl
  | some o => exact absurd hb (fr b o (fun hs => by rw [a.2 b hs] at e; cases e) (a.1 _ _ e))
theorem Bs.ext {base h h' : Hp} {S : List Nat} (a : Bs base h S) (x : Hp.ext h h') : Bs base h' S := ⟨a.1.trans x, a.2⟩
theorem z9Q {h' : Hp} {v : Value} {xs : List Value} {n : Nat} {S T T' : List Nat} (o : OutAt zc 1 h v xs n S) (d : ∀ b, b ∈ S → b ∉ T) (kp : ∀ b o, b ∉ T → h b = some o → h' b = some o) (fr : ∀ b o, b ∉ T → h b = some o → b ∉ T') : OutAt zc 1 h' v xs n S ∧ ∀ b, b ∈ S → b ∉ T' := by
 rcases o with ⟨rfl, rfl, rfl, rfl⟩ | ⟨b', c, f, hb', rfl, a1, a2, rfl, a3⟩
 ·exact ⟨.inl ⟨rfl, rfl, rfl, rfl⟩, by simp⟩
 ·have nb := d b' (by simp)
  exact ⟨.inr ⟨b', c, f, kp _ _ nb hb', rfl, a1, a2, rfl, a3⟩, fun b hb => by rw [List.mem_singleton.1 hb]; exact fr _ _ nb hb'⟩
theorem zmA {h' : Hp} {v : Value} {xs : List Value} {n : Nat} {S : List Nat} (o : OutAt zc 1 h v xs n S) (x : Hp.ext h h') : OutAt zc 1 h' v xs n S := by
 rcases o with ⟨rfl, rfl, rfl, rfl⟩ | ⟨b', c, f, hb', rfl, a1, a2, rfl, a3⟩
 ·exact .inl ⟨rfl, rfl, rfl, rfl⟩
 ·exact .inr ⟨b', c, f, x _ _ hb', rfl, a1, a2, rfl, a3⟩
end
end Go.Proofs.YtoikhbagchfeoaaGreat
set_option maxHeartbeats 1000000
namespace Go.Proofs.YtoikhbagchfeoaaGreat
open Go Go.SL Go.Pure Go.Curve
theorem zmB {h : Hp} {l : List Nat} {i : Nat} (hi : i < l.length) : peek P h (part zi (nv .i64 l).toArray (i * 1)) = some (.int .i64 ((l.getD i 0 : Nat) : Int)) := by
 have hz : peek P h (isAgg zi) = some false := z9l z9u
 unfold part
 simp only [bind, zh, hz, Option.bind_some, Bool.false_eq_true, if_false, Nat.mul_one]
 have : (nv .i64 l).toArray[i]? = some (.int .i64 ((l.getD i 0 : Nat) : Int)) := by
  rw [List.getElem?_toArray, z1g _ _ _ hi]
 rw [this]
 rfl
theorem zo5 {a b : List Nat} {n : Nat} (la : a.length = n) (lb : b.length = n) (h : ∀ i, i < n → a.getD i 0 = b.getD i 0) : a = b := by
 apply List.ext_getElem (by rw [la, lb])
 intro i h1 h2
 have := h i (by omega)
 rw [List.getD_eq_getElem?_getD, List.getD_eq_getElem?_getD, List.getElem?_eq_getElem h1, List.getElem?_eq_getElem h2] at this
 exact this
theorem zrn {h : Hp} {K : Value → Prop} {x y : Operand} {a b : List Nat} (la : a.length = 32) (lb : b.length = 32) : q P h (eqop .eql zo x y (NV a) (NV b)) K = K (.bool (decide (a = b))) := by
 unfold NV
 refine (zo4 x y (fun i => a.getD i 0 == b.getD i 0) z4Q z1U (by kernel_rfl) fun i hi => ⟨_, _, zmB (by omega), zmB (by omega), ?_⟩).trans ?_
 ·unfold Op.equalIn
  have hu : peek P h (underlying zi) = some _ := z11 z9u
  simp only [bind, zh, hu, Option.bind_some]
  show peek P h (pure (((a.getD i 0 : Nat) : Int) == ((b.getD i 0 : Nat) : Int))) = _
  rw [z2a]
  congr 1
  rw [Bool.eq_iff_iff, beq_iff_eq, beq_iff_eq]
  omega
 ·congr 2
  rw [Bool.eq_iff_iff, decide_eq_true_eq, List.all_eq_true]
  constructor
  ·intro H
   refine zo5 la lb fun i hi => ?_
   have := H i (List.mem_range.2 hi)
   rwa [beq_iff_eq] at this
  ·rintro rfl i _
   rw [beq_iff_eq]
section
variable {h : Hp} {K : Value → Hp → Prop}
theorem zgj {v : Value} {l : List Nat} (rv : Rn h .u8 v l) (hb : Bytes l) (h32 : l.length = 32) (k1 : ∀ r h', Nn h zc .u8 r h' (z1i l) → K r h') :
  Cn P zaZ #[v] h K := by
 refine Cn_wk (zbh ?_)
 unfold z6t
 refine z9e fun v0 H0 n0 => z3X n0 (rv.mono n0.cle) (by simp; omega) fun v1 H1 nw => ?_
 rw [List.nil_append] at nw
 obtain ⟨b, cc, f, hbn, hcc, rfl, hH, hf⟩ := New.form nw (by omega)
 have nw : New h zc 1 (.slice (some ⟨b, 0, none⟩) l.length cc) H1 (nv .u8 l) l.length := nw
 have hrow : H1 b = some (.row zc (nv .u8 l) (cc * 1) (some f)) := by rw [hH, Hp.set_same]
 have c0 := zJ (i := 0) hrow (by omega)
 have i0 : ((0 : Int)).toNat = 0 := rfl
 have i31 : ((31 : Int)).toNat = 31 := rfl
 have g0 := hb.getD 0
 have g31' := hb.getD 31
 have a1 : IntKind.u8.wrap (IntKind.u8.wrap (((l.getD 0 0 : Nat) : Int).tdiv 8) * 8) = ((l.getD 0 0 / 8 * 8 : Nat) : Int) := by
  have e : ((l.getD 0 0 : Nat) : Int).tdiv 8 = ((l.getD 0 0 / 8 : Nat) : Int) := (Int.ofNat_tdiv _ 8).symm
  have q1 : IntKind.u8.wrap ((l.getD 0 0 / 8 : Nat) : Int) = ((l.getD 0 0 / 8 : Nat) : Int) := wu8i (by omega) (by omega)
  rw [e, q1, wu8i (by omega) (by omega)]
  omega
 have a2 : IntKind.u8.wrap (((l.getD 31 0 : Nat) : Int).tmod 64 + 64) = ((l.getD 31 0 % 64 + 64 : Nat) : Int) := by
  have e : ((l.getD 31 0 : Nat) : Int).tmod 64 = ((l.getD 31 0 % 64 : Nat) : Int) := (Int.ofNat_tmod _ 64).symm
  rw [e, wu8i (by omega) (by omega)]
  omega
 simp -zeta (disch := first | omega | decide) only [GL, RL, i0, Nat.add_zero, c0, a1]
 refine z1K zp nw (by omega) rfl fun H2 nw2 => ?_
 rw [z1O] at nw2
 obtain ⟨b2, cc2, f2, _, _, e2, hH2, _⟩ := New.form nw2 (by omega)
 simp only [Value.slice.injEq, Option.some.injEq, Addr.mk.injEq, and_true, true_and] at e2
 obtain ⟨rfl, rfl⟩ := e2
 have hrow2 : H2 b = some (.row zc (nv .u8 (l.set 0 (l.getD 0 0 / 8 * 8))) (cc * 1) (some f2)) := by rw [hH2, Hp.set_same]
 have c31 := zJ (i := 31) hrow2 (by rw [List.length_set]; omega)
 have g31 : (l.set 0 (l.getD 0 0 / 8 * 8)).getD 31 0 = l.getD 31 0 := by
  rw [List.getD_eq_getElem?_getD, List.getElem?_set, if_neg (by omega), ← List.getD_eq_getElem?_getD]
 rw [g31] at c31
 simp -zeta (disch := first | omega | decide) only [GL, RL, i31, Nat.zero_add, c31, a2]
 refine z1K zp nw2 (by omega) rfl fun H3 nw3 => ?_
 rw [z1O] at nw3
 refine ⟨H3, .refl _, k1 _ _ ?_⟩
 show New h zc 1 _ H3 (nv .u8 (z1i l)) (z1i l).length
 rw [z4o]
 exact nw3
theorem zeZ {v : Value} {l : List Nat} (rv : Rn h .u8 v l) (hb : Bytes l) (h32 : l.length = 32) (k1 : ∀ r h', Nn h zc .u8 r h' (nb (zt l)) → K (.tuple #[r, .int .i64 0]) h') :
  Cn P zak #[v] h K := by
 refine Cn_wk (zax ?_)
 unfold z5D
 obtain ⟨a, c, rfl, hc⟩ := rv.shape
 have ln : ∀ {K : Value → Prop}, q P h (Builtin.len_ #[zd] zi #[.slice a l.length c]) K = K (.int .i64 ((32 : Nat) : Int)) := fun {K} => by rw [z12 za, h32]
 have d0 : (((32 : Nat) : Int) != 32) = false := rfl
 simp -zeta only [ln, GL, d0, Bool.false_eq_true, if_false]
 refine zgj rv hb h32 fun r H nw => ?_
 refine z3E (n := 9) (by decide) ?_
 rw [zrm]
 refine zeX nw.rn (z5r hb) (by rw [z4o, h32]) ?_
 refine zge (z1J _) (zm _) fun r2 H3 nw3 => ?_
 obtain ⟨h0, l0, nw0⟩ := nw3.down nw.ext.le
 exact ⟨h0, l0, k1 _ _ nw0⟩
theorem zf0 {v w : Value} {l m : List Nat} (rv : Rn h .u8 v l) (rw' : Rn h .u8 w m) (hb : Bytes l) (hm : Bytes m) (l32 : l.length = 32) (m32 : m.length = 32)
  (k1 : zV l m = 0 → K (.tuple #[.slice none 0 0, .int .i64 10]) h)
  (k2 : zV l m ≠ 0 → ∀ r h', Nn h zc .u8 r h' (nb (zV l m)) → K (.tuple #[r, .int .i64 0]) h') :
  Cn P zaj #[v, w] h K := by
 refine Cn_wk (zaw ?_)
 unfold z5C
 rw [show zV l m = xlad (z1u (z1i l)) (ph (z9 m % 57896044618658097711785492504343953926634992332820282019728792003956564819968)) from rfl] at k1 k2
 obtain ⟨a, c, rfl, hc⟩ := rv.shape
 obtain ⟨a', c', rfl, hc'⟩ := rw'.shape
 have ln : ∀ {K : Value → Prop}, q P h (Builtin.len_ #[zd] zi #[.slice a l.length c]) K = K (.int .i64 ((32 : Nat) : Int)) := fun {K} => by rw [z12 za, l32]
 have ln' : ∀ {K : Value → Prop}, q P h (Builtin.len_ #[zd] zi #[.slice a' m.length c']) K = K (.int .i64 ((32 : Nat) : Int)) := fun {K} => by rw [z12 za, m32]
 have d0 : (((32 : Nat) : Int) != 32) = false := rfl
 intro J
 have qJ : J h := by
  simp -zeta only [J]
  clear J
  refine zgj rv hb l32 fun r H nw => ?_
  refine znM (rw'.mono nw.ext.cle) hm m32 ?_
  refine zeX nw.rn (z5r hb) (by rw [z4o, l32]) ?_
  generalize xlad (z1u (z1i l)) (ph (z9 m % 57896044618658097711785492504343953926634992332820282019728792003956564819968)) = S at *
  refine z3C (zm _) fun r6 H6 n6 x6 a6 => ?_
  rw [a6.ld (zm _)]
  refine z3E (n := 0) (by decide) ?_
  rw [zmz]
  refine ⟨a6.pk (zm _), ?_⟩
  rw [zrn (zm _) (zm _)]
  simp -zeta only [GL]
  by_cases h0 : S = 0
  ·subst h0
   simp -zeta only [decide_true, if_true]
   exact ⟨h, (nw.ext.trans x6).le, k1 rfl⟩
  ·have : nb S ≠ nb 0 := fun e => h0 (zm6 e)
   rw [decide_eq_false this]
   simp -zeta only [Bool.false_eq_true, if_false]
   rw [a6.ld (zm _)]
   refine zge (z1J _) (zm _) fun r2 H3 nw3 => ?_
   obtain ⟨h0', l0, nw0⟩ := nw3.down (nw.ext.trans x6).le
   exact ⟨h0', l0, k2 h0 _ _ nw0⟩
 clear_value J
 simp -zeta only [ln, ln', GL, d0, Bool.true_eq_false, Bool.false_eq_true, if_true, if_false]
 exact qJ
end
end Go.Proofs.YtoikhbagchfeoaaGreat
namespace Go.Proofs.YtoikhbagchfeoaaGreat
open Go Go.SL Go.Pure
section
variable {h : Hp} {K : Value → Hp → Prop}
def z4J (key nonce b x : List Nat) : Nat := if key.length = 32 ∧ nonce.length = 12 then (z2R key nonce b x).1 else 1
theorem zro {vk vn vb vx : Value} {key nonce b x : List Nat} (hk : Rn h .u8 vk key) (hn : Rn h .u8 vn nonce) (hb : Rn h .u8 vb b) (hx : Rn h .u8 vx x) (bk : Bytes key) (bn : Bytes nonce) (bb : Bytes b) (bx : Bytes x)
  (lb : b.length ≤ 1099511627776) (lx : x.length ≤ 1099511627776)
  (k : ∀ v h', (if z4J key nonce b x = 0 then Nn h zc .u8 v h' (z2R key nonce b x).2 else v = .slice none 0 0 ∧ h' = h) → K (.tuple #[v, .int .i64 ((z4J key nonce b x : Nat) : Int)]) h') :
  Cn P zj7 #[vk, vn, vb, vx] h K := by
 refine Cn_wk (zjc ?_)
 unfold zdd
 refine zkQ 1 (by omega) hk hn (z3y h .u8) bk bn (by intro y hy; cases hy) (by simp) fun vX h1 hX => ?_
 rw [ext0, ext1]
 unfold z4J at k
 by_cases hm : key.length = 32 ∧ nonce.length = 12
 case neg =>
  simp only [if_neg hm] at hX k ⊢
  obtain ⟨rfl, rfl⟩ := hX
  have e1 : ((1 : Int) != 0) = true := rfl
  simp (disch := omega) only [GL, RL, e1, if_true]
  exact ⟨h1, .refl _, k (.slice none 0 0) h1 (by simp)⟩
 simp only [if_pos hm] at hX k ⊢
 have le1 : Hp.le h h1 := New.le hX
 have c1 := hX.cle
 obtain ⟨ax, cx, rfl, hcx⟩ := hx.shape
 have e26 : decide (((x.length : Nat) : Int) - 16 < 0) = decide (x.length < 16) := by rw [decide_eq_decide]; omega
 simp (disch := omega) only [GL, RL, wi64, bne_self_eq_false, Bool.false_eq_true, if_false, e26]
 by_cases h16 : x.length < 16
 ·simp only [h16, decide_true, if_true]
  have ho : z2R key nonce b x = (8, []) := by unfold z2R; rw [if_pos h16]
  rw [ho] at k
  exact ⟨h, le1, k (.slice none 0 0) h (by simp)⟩
 simp only [h16, decide_false, Bool.false_eq_true, if_false]
 have e16 : ((x.length : Nat) : Int) - 16 = ((x.length - 16 : Nat) : Int) := by omega
 rw [e16]
 refine z4N za zp (hx.mono c1) .i64 (x.length - 16) (by omega) fun w hw => ?_
 refine zoN (hk.mono c1) (hn.mono c1) (hb.mono c1) hw bk bn bb (bx.take _) lb (by rw [List.length_take]; omega) hm fun vT h2 hT => ?_
 rw [ext0, ext1]
 have c2 := c1.trans hT.cle
 refine z6p za zp (hx.mono c2) .i64 (x.length - 16) (by omega) fun w2 hw2 => ?_
 have ltag := z9N key nonce b (x.take (x.length - 16))
 refine z7U hT.rn hw2 (zeW _ _ _ _) (bx.drop _) (by omega) ?_
 have le2 : Hp.le h h2 := le1.trans (New.le hT)
 by_cases heq : tagB key nonce b (x.take (x.length - 16)) = x.drop (x.length - 16)
 ·have ho : z2R key nonce b x = (0, xorL key nonce 1 (x.take (x.length - 16))) := by unfold z2R; rw [if_neg h16, if_pos heq]
  rw [ho] at k
  simp (disch := omega) only [GL, RL, heq, decide_true, Bool.not_true, Bool.false_eq_true, if_false]
  refine z4N za zp (hx.mono c2) .i64 (x.length - 16) (by omega) fun w3 hw3 => ?_
  refine zkQ 1 (by omega) (hk.mono c2) (hn.mono c2) hw3 bk bn (bx.take _) (by rw [List.length_take]; omega) fun v3 h3 n3 => ?_
  simp only [if_pos hm] at n3 ⊢
  rw [ext0, ext1]
  obtain ⟨h0, l0, nf⟩ := n3.down le2
  exact ⟨h0, l0, k v3 h0 (by simpa using nf)⟩
 ·have ho : z2R key nonce b x = (7, []) := by unfold z2R; rw [if_neg h16, if_neg heq]
  rw [ho] at k
  simp (disch := omega) only [GL, RL, heq, decide_false, Bool.not_false, if_true]
  exact ⟨h, le2, k (.slice none 0 0) h (by simp)⟩
end
end Go.Proofs.YtoikhbagchfeoaaGreat
namespace Go.Proofs.YtoikhbagchfeoaaGreat
open Go Go.SL
theorem zoO {h : Hp} {K : Value → Prop} {v : Value} {l : List Nat} (hv : Rn h .u8 v l) : q P h (convert zd z9s v) K = K (.string (strL l)) := q_of (by
 obtain ⟨hl, a, c, rfl, hc, hr⟩ := hv
 show peek P h (Sem.bind (underlying zd) _) = _
 rw [zh, z11 za, Option.bind_some]
 show peek P h (Sem.bind (underlying z9s) _) = _
 rw [zh, z11 znn, Option.bind_some]
 show peek P h (Sem.bind (underlying zc) _) = _
 rw [zh, z11 z8D, Option.bind_some]
 show peek P h (Conv.bytesToString _) = _
 rcases hr with h0 | ⟨b, o, rfl, hy⟩
 ·rw [List.eq_nil_of_length_eq_zero h0]
  cases a <;> rfl
 ·unfold Conv.bytesToString
  show peek P h (Sem.bind (loadCellsFrom ⟨b, o, none⟩ 0 l.length #[]) _) = _
  have := zaX (P := P) (h := h) (b := b) (o := o) (nv .u8 l) 0 #[] (fun j x e => by simpa using hy j x e)
  rw [ze] at this
  rw [zh, this, Option.bind_some]
  have key : ∀ (l : List Nat) (s : ByteArray), peek P h (forIn (nv .u8 l) s fun c r => (match c with
    | .int .u8 n => Sem.pure (ForInStep.yield (r.push (UInt8.ofNat n.toNat)))
    | _ => stuck "bytesToString: byte expected" : Sem (ForInStep ByteArray))) = some (l.foldl (fun s x => s.push (UInt8.ofNat x)) s) := by
   intro l
   induction l with
   | nil => intro s; rfl
   | cons x l ih =>
    intro s
    rw [zp5, List.forIn_cons]
    exact ih _
  have e0 : (#[] ++ (nv .u8 l).toArray) = (nv .u8 l).toArray := by simp
  rw [e0]
  show peek P h (Sem.bind (forIn (nv .u8 l).toArray ByteArray.empty _) _) = _
  rw [List.forIn_toArray, zh]
  refine (congrArg (fun x => Option.bind x _) (key l ByteArray.empty)).trans ?_
  rfl) K
theorem zrp {h : Hp} {K : Value → Prop} (x y : Operand) (a b : ByteArray) : q P h (eqop .eql z9s x y (.string a) (.string b)) K = K (.bool (a.toList == b.toList)) := q_of (by
 unfold eqop
 rw [zh]
 have : peek P h (eqGuard .eql z9s x y (.string a) (.string b)) = some () := rfl
 rw [this, Option.bind_some]
 simp only [binOp, Op.stringOp]; rfl) K
theorem zjX {h : Hp} {b n : Nat} {xs : List Value} {K : Value → Hp → Prop} (hb : h b = none) (hx : xs.length = n) (k : ∀ h'', New h zc 1 (.slice (some ⟨b, 0, none⟩) n n) h'' xs n → K (.slice (some ⟨b, 0, none⟩) n n) h'') :
  aw P (convert zd zd (.slice (some ⟨b, 0, none⟩) n n)) K (h.set b (.row zc xs n (some (0, 0)))) := by
 refine z4k ?_
 show awp P (Sem.bind (underlying zd) _) K _
 rw [zl, zC P _ _ _ (z11 za)]
 show awp P (Sem.bind (underlying zd) _) K _
 rw [zl, zC P _ _ _ (z11 za)]
 show awp P (Sem.bind (underlying zc) _) K _
 rw [zl, zC P _ _ _ (z11 z8D)]
 show awp P (Sem.bind (markStringish ⟨b, 0, none⟩) _) K _
 rw [zl]
 show awp P (Sem.bind (shape b) _) _ _
 rw [zl]
 have hs : (h.set b (.row zc xs n (some (0, 0)))).shape b = some (some (zc, n)) := by simp [Hp.shape]
 have : peek P (h.set b (.row zc xs n (some (0, 0)))) (shape b) = some (some (zc, n)) := by
  unfold shape
  simp only [peek, hs]
 rw [zC P _ _ _ this]
 show awp P (freeze ⟨b, n, none⟩ 1) _ _
 have hfz : (h.set b (.row zc xs n (some (0, 0)))).freeze ⟨b, n, none⟩ 1 = some (h.set b (.row zc xs n (some (n, n + 1)))) := by simp [Hp.freeze, Hp.set_set, frz]
 simp only [awp, freeze, hfz]
 refine k _ ⟨by rw [Nat.mul_one]; exact hx, .inr ⟨b, n, (n, n + 1), hb, Nat.le_refl _, rfl, by rw [Nat.mul_one], fun i hi => by omega⟩⟩
end Go.Proofs.YtoikhbagchfeoaaGreat
namespace Go.Pure
def bg (n v : Nat) : List Nat := (le n v).reverse
theorem z2p (n v : Nat) : (bg n v).length = n := by simp [bg, zE]
theorem z9R (n v : Nat) : Bytes (bg n v) := fun x hx => z1s n v x (List.mem_reverse.1 hx)
def bval (l : List Nat) : Nat := l.foldl (fun v x => v * 256 + x) 0
theorem zgk (a : List Nat) (x : Nat) : bval (a ++ [x]) = bval a * 256 + x := by simp [bval, List.foldl_append]
theorem zix (l : List Nat) : bval l.reverse = z9 l := by
 induction l with
 | nil => rfl
 | cons x l ih => rw [List.reverse_cons, zgk, ih, z9]; omega
theorem zjY {l : List Nat} (h : Bytes l) : bval l < 256 ^ l.length := by
 have := z27 l.reverse (fun x hx => h x (List.mem_reverse.1 hx))
 rwa [← zix, List.reverse_reverse, List.length_reverse] at this
theorem zjZ (n v : Nat) : bval (bg n v) = v % 256 ^ n := by unfold bg; rw [zix, z2C]
def boxB (n len : Nat) : List Nat := (List.range len).map fun i => (bg 8 n).getD (i % 8) 0
theorem z2M (n len : Nat) : (boxB n len).length = len := by simp [boxB]
theorem zf1 (n len : Nat) : Bytes (boxB n len) := by
 intro x hx
 obtain ⟨i, _, rfl⟩ := List.mem_map.1 hx
 exact (z9R 8 n).getD _
theorem zf2 (n len : Nat) (h : 8 ≤ len) : (boxB n len).take 8 = bg 8 n := by
 apply List.ext_getElem
 ·rw [List.length_take, z2M, z2p]; omega
 ·intro i h1 h2
  rw [z2p] at h2
  rw [List.getElem_take]
  simp only [boxB, List.getElem_map, List.getElem_range, Nat.mod_eq_of_lt h2]
  simp [List.getD_eq_getElem?_getD, z2p, h2]
structure Box where
 key : List Nat
 nonce : List Nat
 beside : List Nat
 text : List Nat
 deriving DecidableEq
inductive Cr where
 | real
 | book (texts : List (List Nat)) (boxes : List Box)
def zN (c : Cr) (key nonce beside text : List Nat) : Nat × List Nat × Cr :=
 match c with
 | .real => if may key nonce then (0, z3a key nonce beside text, .real) else (1, [], .real)
 | .book ts bs => if may key nonce then (0, boxB bs.length (text.length + 16), .book ts (bs ++ [⟨key, nonce, beside, text⟩])) else (1, [], .book ts bs)
def z2N (bs : List Box) (key nonce beside box : List Nat) : Nat × List Nat :=
 if box.length < 16 then (8, [])
 else match bs[bval (box.take 8)]? with
  | none => (7, [])
  | some s => if s.key = key ∧ s.nonce = nonce ∧ s.beside = beside ∧ boxB (bval (box.take 8)) (s.text.length + 16) = box then (0, s.text) else (7, [])
def z1G (c : Cr) (key nonce beside box : List Nat) : Nat × List Nat :=
 if may key nonce then
  match c with
  | .real => z2R key nonce beside box
  | .book _ bs => z2N bs key nonce beside box
 else (1, [])
def z4p (bs : List Box) (key nonce beside box : List Nat) : Nat → Option (List Nat)
 | i => match bs with
  | [] => none
  | s :: bs => if s.key = key ∧ s.nonce = nonce ∧ s.beside = beside ∧ boxB i (s.text.length + 16) = box then some s.text else z4p bs key nonce beside box (i + 1)
theorem zlb (bs : List Box) (key nonce beside box : List Nat) (hl : 16 ≤ box.length) (i : Nat) (hi : i + bs.length ≤ 18446744073709551616) :
  z4p bs key nonce beside box i = if i ≤ bval (box.take 8) then (match bs[bval (box.take 8) - i]? with
   | none => none
   | some s => if s.key = key ∧ s.nonce = nonce ∧ s.beside = beside ∧ boxB (bval (box.take 8)) (s.text.length + 16) = box then some s.text else none) else none := by
 induction bs generalizing i with
 | nil => simp [z4p]
 | cons s bs ih =>
  simp only [List.length_cons] at hi
  simp only [z4p]
  have hb : ∀ n t, n < 18446744073709551616 → boxB n (t + 16) = box → bval (box.take 8) = n := fun n t hn e => by
   rw [← e, zf2 _ _ (by omega), zjZ, Nat.mod_eq_of_lt (by exact hn)]
  rw [ih (i + 1) (by omega)]
  by_cases h1 : i = bval (box.take 8)
  ·subst h1
   simp only [Nat.le_refl, if_true, Nat.sub_self, List.getElem?_cons_zero]
   rw [if_neg (show ¬ bval (box.take 8) + 1 ≤ bval (box.take 8) by omega)]
  ·have : ¬ (s.key = key ∧ s.nonce = nonce ∧ s.beside = beside ∧ boxB i (s.text.length + 16) = box) := fun q => h1 (hb i _ (by omega) q.2.2.2).symm
   rw [if_neg this]
   by_cases h2 : i ≤ bval (box.take 8)
   ·rw [if_pos (show i + 1 ≤ bval (box.take 8) by omega), if_pos h2]
    obtain ⟨d, hd⟩ : ∃ d, bval (box.take 8) - i = d + 1 := ⟨bval (box.take 8) - i - 1, by omega⟩
    rw [hd, List.getElem?_cons_succ, show bval (box.take 8) - (i + 1) = d by omega]
   ·rw [if_neg h2, if_neg (by omega)]
theorem zgS (bs : List Box) (key nonce beside box : List Nat) (hb : bs.length ≤ 18446744073709551616) :
  z2N bs key nonce beside box = if box.length < 16 then (8, []) else match z4p bs key nonce beside box 0 with
   | some t => (0, t)
   | none => (7, []) := by
 unfold z2N
 split
 ·rfl
 ·rename_i h16
  rw [zlb bs key nonce beside box (by omega) 0 (by omega), if_pos (Nat.zero_le _), Nat.sub_zero]
  cases bs[bval (box.take 8)]? with
  | none => rfl
  | some s =>
   dsimp only
   split <;> rfl
end Go.Pure
namespace Go.Proofs.YtoikhbagchfeoaaGreat
open Go Go.SL Go.Pure
theorem ze0 (s : ByteArray) : s.toList = s.data.toList := by
 have key : ∀ (n i : Nat) (r : List UInt8), s.size - i = n → i ≤ s.size → ByteArray.toList.loop s i r = r.reverse ++ s.data.toList.drop i := by
  intro n
  induction n with
  | zero =>
   intro i r h h2
   rw [ByteArray.toList.loop.eq_def, if_neg (by omega), List.drop_of_length_le (by rw [Array.length_toList]; show s.size ≤ i; omega)]
   simp
  | succ n ih =>
   intro i r h h2
   have hlt : i < s.data.toList.length := by rw [Array.length_toList]; show i < s.size; omega
   rw [ByteArray.toList.loop.eq_def, if_pos (by omega), ih (i + 1) _ (by omega) (by omega), List.drop_eq_getElem_cons hlt]
   have : s.get! i = s.data.toList[i] := by
    show s.data[i]! = _
    rw [getElem!_pos s.data i (by show i < s.size; omega)]
    simp
   rw [this]
   simp
 have := key s.size 0 [] (by omega) (by omega)
 show ByteArray.toList.loop s 0 [] = _
 rw [this]
 simp
theorem zbM (l : List Nat) : (strL l).data.toList = l.map UInt8.ofNat := by
 have key : ∀ (l : List Nat) (s : ByteArray), (l.foldl (fun s x => s.push (UInt8.ofNat x)) s).data.toList = s.data.toList ++ l.map UInt8.ofNat := by
  intro l
  induction l with
  | nil => intro s; simp
  | cons x l ih =>
   intro s
   rw [List.foldl_cons, ih]
   show (s.data.push (UInt8.ofNat x)).toList ++ _ = _
   simp
 have := key l ByteArray.empty
 simpa [strL] using this
theorem zm8 {l m : List Nat} (hl : Bytes l) (hm : Bytes m) (e : l.map UInt8.ofNat = m.map UInt8.ofNat) : l = m := by
 induction l generalizing m with
 | nil => cases m with
  | nil => rfl
  | cons y m => cases e
 | cons x l ih => cases m with
  | nil => cases e
  | cons y m =>
   simp only [List.map_cons, List.cons.injEq] at e
   have hx := hl x (List.mem_cons_self ..)
   have hy := hm y (List.mem_cons_self ..)
   have : x = y := by
    have := congrArg UInt8.toNat e.1
    simpa [UInt8.toNat_ofNat', Nat.mod_eq_of_lt hx, Nat.mod_eq_of_lt hy] using this
   rw [this, ih (fun z hz => hl z (List.mem_cons_of_mem _ hz)) (fun z hz => hm z (List.mem_cons_of_mem _ hz)) e.2]
theorem zpX {l m : List Nat} (hl : Bytes l) (hm : Bytes m) : ((strL l).toList == (strL m).toList) = decide (l = m) := by
 rw [ze0, ze0, zbM, zbM, Bool.eq_iff_iff, beq_iff_eq, decide_eq_true_eq]
 exact ⟨zm8 hl hm, fun e => by rw [e]⟩
theorem zrq (n v i : Nat) (hi : i < n) : (bg n v).getD (n - 1 - i) 0 = v / 256 ^ i % 256 := by
 unfold bg
 rw [List.getD_eq_getElem?_getD, List.getElem?_reverse (by rw [zE]; omega), zE, ← List.getD_eq_getElem?_getD, show n - 1 - (n - 1 - i) = i by omega, zhU n v i hi]
theorem zpY (n v i : Nat) (hi : i < n) : (List.replicate (n - i) 0 ++ (bg n v).drop (n - i)).set (n - 1 - i) (v / 256 ^ i % 256) = List.replicate (n - (i + 1)) 0 ++ (bg n v).drop (n - (i + 1)) := by
 rw [show n - i = (n - (i + 1)) + 1 by omega, show n - 1 - i = n - (i + 1) by omega, List.replicate_succ', List.append_assoc, List.set_append_right _ _ (by simp), List.length_replicate, Nat.sub_self]
 rw [List.singleton_append, List.set_cons_zero]
 congr 1
 have hlt : n - (i + 1) < (bg n v).length := by rw [z2p]; omega
 rw [List.drop_eq_getElem_cons hlt]
 congr 1
 have := zrq n v i hi
 rw [show n - 1 - i = n - (i + 1) by omega] at this
 rw [← this]
 simp [List.getD_eq_getElem?_getD, hlt]
section
variable {h : Hp} {K : Value → Hp → Prop}
theorem zf3 (v n : Nat) (hv : v < 2 ^ 64) (hn : n ≤ 8) (h0 : 0 < n) (k : ∀ r h', Nn h zc .u8 r h' (bg n v) → K r h') : Cn P zks #[.int .u64 v, .int .i64 n] h K := by
 refine zkG ?_
 unfold zeD
 refine z2w za zw rfl (Nat.le_refl n) (by omega) (by omega) fun r h1 hw => ?_
 obtain ⟨b, c, f, hb, hc, rfl, _, _⟩ := hw.form h0
 rw [z1E] at hw
 refine Lp_mk (fun m vs h' => ∃ i : Nat, i + m = n ∧ New h zc 1 (.slice (some ⟨b, 0, none⟩) n c) h' (nv .u8 (List.replicate (n - i) 0 ++ (bg n v).drop (n - i))) n ∧ vs = [.int .i64 (i : Int)]) n
  ⟨0, by omega, by rw [Nat.sub_zero, List.drop_of_length_le (by rw [z2p]; omega), List.append_nil]; exact hw, rfl⟩ ?_
 rintro m vs h2 ⟨i, hi, hw, rfl⟩
 simp (disch := omega) only [GL, RL, wi64, zL]
 by_cases hlt : i < n
 ·have e1 : (n : Int) - 1 - (i : Int) = ((n - 1 - i : Nat) : Int) := by omega
  have e8 : (8 : Int) * (i : Int) = ((8 * i : Nat) : Int) := by omega
  have es : ((v : Int).fdiv (2 ^ min (8 * i) IntKind.u64.bits)) = ((v / 256 ^ i : Nat) : Int) := by
   rw [show min (8 * i) IntKind.u64.bits = 8 * i by simp only [IntKind.bits]; omega, z4l, zbE]
  simp (disch := omega) only [GL, RL, wi64, hlt, decide_true, if_true, e1, e8, es, wu8]
  refine z1K zp hw (by omega) rfl fun h3 hw3 => ?_
  rw [z1O, zpY n v i hlt] at hw3
  exact ⟨_, .refl _, m - 1, by omega, i + 1, by omega, hw3, rfl⟩
 ·obtain rfl : i = n := by omega
  simp only [hlt, decide_false, Bool.false_eq_true, if_false]
  refine k _ _ ?_
  rw [Nat.sub_self, List.replicate_zero, List.nil_append, List.drop_zero] at hw
  unfold Nn
  rw [z2p]
  exact hw
theorem zc0 (v : Nat) (hv : v < 2 ^ 64) (k : ∀ r h', Nn h zc .u8 r h' (bg 8 v) → K r h') : Cn P zhs #[.int .u64 v] h K := by
 refine zhO ?_
 unfold zby
 exact zf3 v 8 hv (by omega) (by omega) k
theorem ziy (v : Nat) (hv : v < 2 ^ 32) (k : ∀ r h', Nn h zc .u8 r h' (bg 4 v) → K r h') : Cn P zht #[.int .u32 v] h K := by
 refine zhP ?_
 unfold zbz
 simp (disch := omega) only [GL, RL, z2j]
 exact zf3 v 4 (by omega) (by omega) (by omega) k
theorem z9f (l : List Nat) (i : Nat) (hi : i < l.length) : bval (l.take (i + 1)) = bval (l.take i) * 256 + l.getD i 0 := by
 rw [List.take_succ_eq_append_getElem hi, zgk]
 simp [List.getD_eq_getElem?_getD, hi]
theorem z5s {l : List Nat} (h : Bytes l) (i : Nat) : bval (l.take i) < 256 ^ i := by
 refine Nat.lt_of_lt_of_le (zjY (h.take i)) (Nat.pow_le_pow_right (by decide) ?_)
 rw [List.length_take]; exact Nat.min_le_left _ _
theorem zag {v : Value} {l : List Nat} (n : Nat) (hn : n ≤ 8) (hr : Rn h .u8 v l) (hb : Bytes l) (hl : n ≤ l.length) (k : K (.int .u64 ((bval (l.take n) : Nat) : Int)) h) : Cn P zgB #[v, .int .i64 n] h K := by
 refine zgL ?_
 unfold zab
 refine Lp_mk (fun m vs h' => ∃ i, i + m = n ∧ h' = h ∧ vs = [.int .u64 ((bval (l.take i) : Nat) : Int), .int .i64 (i : Int)]) n ⟨0, by omega, rfl, rfl⟩ ?_
 rintro m vs h1 ⟨i, hi, rfl, rfl⟩
 simp (disch := omega) only [GL, RL, zL]
 by_cases hlt : i < n
 ·simp only [hlt, decide_true, if_true]
  refine zg9 i hr hb ?_
  have b1 := z5s hb i
  have b2 := hb.getD i
  have bi : 256 ^ i ≤ 256 ^ 7 := Nat.pow_le_pow_right (by decide) (by omega)
  have p7 : (256 : Nat) ^ 7 = 72057594037927936 := rfl
  have e1 : IntKind.u64.wrap (((bval (l.take i) : Nat) : Int) * 2 ^ min (Int.toNat 8) IntKind.u64.bits) = ((bval (l.take i) * 2 ^ 8 : Nat) : Int) := by
   rw [show min (Int.toNat 8) IntKind.u64.bits = 8 from rfl, mulp, wu64, Nat.mod_eq_of_lt (by omega)]
  have e2 : ior .u64 ((bval (l.take i) * 2 ^ 8 : Nat) : Int) ((l.getD i 0 : Nat) : Int) = ((bval (l.take (i + 1)) : Nat) : Int) := by
   rw [orN (by omega) (by omega), Nat.or_comm, z7R _ _ 8 b2, z9f l i (by omega)]
   congr 1
   omega
  simp (disch := omega) only [GL, RL, wi64, e1, e2]
  exact ⟨_, .refl _, m - 1, by omega, i + 1, by omega, rfl, rfl⟩
 ·obtain rfl : i = n := by omega
  simp only [hlt, decide_false, Bool.false_eq_true, if_false]
  exact k
theorem zf4 {v : Value} {l : List Nat} (hr : Rn h .u8 v l) (hb : Bytes l) (hl : 8 ≤ l.length) (k : K (.int .u64 ((bval (l.take 8) : Nat) : Int)) h) : Cn P zer #[v] h K := by
 refine zeF ?_
 unfold z8c
 exact zag 8 (by omega) hr hb hl k
theorem zf5 {v : Value} {l : List Nat} (hr : Rn h .u8 v l) (hb : Bytes l) (hl : 4 ≤ l.length) (k : K (.int .u32 ((bval (l.take 4) : Nat) : Int)) h) : Cn P zeq #[v] h K := by
 refine zeE ?_
 unfold z8b
 refine zag 4 (by omega) hr hb hl ?_
 have b1 := z5s hb 4
 have e : IntKind.u32.wrap ((bval (l.take 4) : Nat) : Int) = ((bval (l.take 4) : Nat) : Int) := by rw [wu32, Nat.mod_eq_of_lt (by omega)]
 simp (disch := omega) only [GL, RL, e]
 exact k
theorem z3U {v : Value} {l : List Nat} (hv : Rn h .u8 v l) (hl : l.length ≤ 70368744177664) (k : ∀ r h', Nn h zc .u8 r h' l → K r h') : Cn P zgD #[v] h K := by
 refine zgN ?_
 unfold zad
 obtain ⟨a, c, rfl, hc⟩ := hv.shape
 simp (disch := omega) only [GL, RL]
 cases a with
 | none =>
  have : l = [] := by
   obtain ⟨_, a', c', e, _, h0 | ⟨b, o, ha, _⟩⟩ := hv
   ·exact List.eq_nil_of_length_eq_zero h0
   ·simp only [Value.slice.injEq] at e
    rw [ha] at e
    cases e.1
  subst this
  simp only [Option.isNone_none, if_true]
  exact k _ _ (Nn.nil ..)
 | some a =>
  simp only [Option.isNone_some, Bool.false_eq_true, if_false]
  refine zT (ps := []) (n := 0) za zp z1p rfl (by omega) (by intro p hp; cases hp) fun v1 h1 n1 _ => ?_
  refine z1t za za zw rfl (by omega) n1 (hv.mono n1.cle) (zq _ _) (by omega) (.refl _) fun v3 h3 n3 => ?_
  refine k _ _ ?_
  unfold Nn
  simpa [z1f] using n3
theorem z4K {v w : Value} {l m : List Nat} (hv : Rn h .u8 v l) (hw : Rn h .u8 w m) (bl : Bytes l) (bm : Bytes m) (k : K (.bool (decide (l = m))) h) : Cn P zgC #[v, w] h K := by
 refine zgM ?_
 unfold zac
 rw [zoO hv, zoO hw, zrp, zpX bl bm]
 exact k
theorem zdm {vk vn : Value} {key nonce : List Nat} (hk : Rn h .u8 vk key) (hn : Rn h .u8 vn nonce) (k : K (.bool (decide (may key nonce))) h) : Cn P zj6 #[vk, vn] h K := by
 refine zjb ?_
 unfold zdc
 obtain ⟨a, c, rfl, hc⟩ := hk.shape
 obtain ⟨a', c', rfl, hc'⟩ := hn.shape
 have e1 : (((key.length : Nat) : Int) == 32) = decide (key.length = 32) := by rw [Bool.eq_iff_iff, beq_iff_eq, decide_eq_true_eq]; omega
 have e2 : (((nonce.length : Nat) : Int) == 12) = decide (nonce.length = 12) := by rw [Bool.eq_iff_iff, beq_iff_eq, decide_eq_true_eq]; omega
 simp (disch := omega) only [GL, RL, e1, e2]
 unfold may at k
 by_cases h1 : key.length = 32
 ·simpa [h1] using k
 ·simpa [h1] using k
end
section
variable {h : Hp} {K : Value → Hp → Prop}
theorem z8i (x n : Nat) (hx : x < 4294967296) (hn : 0 < n) (hn2 : n < 32) (k : K (.int .u32 ((rotl x n : Nat) : Int)) h) : Cn P zdC #[.int .u32 x, .int .i64 n] h K := by
 refine zdT ?_
 unfold z7M
 simp (disch := omega) only [GL, RL, z2j, wi64]
 have e1 : min n IntKind.u32.bits = n := by simp only [IntKind.bits]; omega
 have e2 : min ((32 : Int) - n).toNat IntKind.u32.bits = 32 - n := by simp only [IntKind.bits]; omega
 have h1 : x / 2 ^ (32 - n) ≤ x := Nat.div_le_self _ _
 rw [e1, e2, mulp, z4l, wu32]
 unfold rotl at k
 generalize x / 2 ^ (32 - n) = y at h1 k ⊢
 rw [or32 (by omega) (by omega) (by omega) (by omega)]
 exact k
theorem zah (a b c d : Nat) (ha : a < 4294967296) (hb : b < 4294967296) (hc : c < 4294967296) (hd : d < 4294967296)
  (k : K (.tuple #[.int .u32 ((qr a b c d).1 : Nat), .int .u32 ((qr a b c d).2.1 : Nat), .int .u32 ((qr a b c d).2.2.1 : Nat), .int .u32 ((qr a b c d).2.2.2 : Nat)]) h) : Cn P z9q #[.int .u32 a, .int .u32 b, .int .u32 c, .int .u32 d] h K := by
 refine z9C ?_
 unfold z5i
 unfold qr at k
 dsimp only at k
 have m : ∀ x : Nat, x % 4294967296 < 4294967296 := fun x => Nat.mod_lt _ (by decide)
 simp (disch := omega) only [GL, RL, z3J]
 have a1 := m (a + b)
 generalize (a + b) % 4294967296 = A1 at a1 k ⊢
 rw [z1P hd a1]
 refine z8i _ 16 (z4R hd a1) (by omega) (by omega) ?_
 have d1 := z98 _ 16 (z4R hd a1)
 generalize rotl (d ^^^ A1) 16 = D1 at d1 k ⊢
 simp (disch := omega) only [GL, RL, z3J]
 have c1 := m (c + D1)
 generalize (c + D1) % 4294967296 = C1 at c1 k ⊢
 rw [z1P hb c1]
 refine z8i _ 12 (z4R hb c1) (by omega) (by omega) ?_
 have b1 := z98 _ 12 (z4R hb c1)
 generalize rotl (b ^^^ C1) 12 = B1 at b1 k ⊢
 simp (disch := omega) only [GL, RL, z3J]
 have a2 := m (A1 + B1)
 generalize (A1 + B1) % 4294967296 = A2 at a2 k ⊢
 rw [z1P d1 a2]
 refine z8i _ 8 (z4R d1 a2) (by omega) (by omega) ?_
 have d2 := z98 _ 8 (z4R d1 a2)
 generalize rotl (D1 ^^^ A2) 8 = D2 at d2 k ⊢
 simp (disch := omega) only [GL, RL, z3J]
 have c2 := m (C1 + D2)
 generalize (C1 + D2) % 4294967296 = C2 at c2 k ⊢
 rw [z1P b1 c2]
 exact z8i _ 7 (z4R b1 c2) (by omega) (by omega) k
theorem e4_0 {K : Value → Prop} (a b c d : Value) : q P emp (Instr.extract (.tuple #[a, b, c, d]) 0) K = K a := zcn #[a, b, c, d] 0 a rfl
theorem e4_1 {K : Value → Prop} (a b c d : Value) : q P emp (Instr.extract (.tuple #[a, b, c, d]) 1) K = K b := zcn #[a, b, c, d] 1 b rfl
theorem e4_2 {K : Value → Prop} (a b c d : Value) : q P emp (Instr.extract (.tuple #[a, b, c, d]) 2) K = K c := zcn #[a, b, c, d] 2 c rfl
theorem e4_3 {K : Value → Prop} (a b c d : Value) : q P emp (Instr.extract (.tuple #[a, b, c, d]) 3) K = K d := zcn #[a, b, c, d] 3 d rfl
theorem zgl (j : Nat) (hj : j < 8) : quads[j]? = some (if j < 4 then (j, 4 + j, 8 + j, 12 + j) else (j - 4, 4 + (j - 4 + 1) % 4, 8 + (j - 4 + 2) % 4, 12 + (j - 4 + 3) % 4)) := by
 have : j = 0 ∨ j = 1 ∨ j = 2 ∨ j = 3 ∨ j = 4 ∨ j = 5 ∨ j = 6 ∨ j = 7 := by omega
 rcases this with rfl | rfl | rfl | rfl | rfl | rfl | rfl | rfl <;> rfl
theorem zf6 (S : List Nat) (j : Nat) (hj : j < 8) (q : Nat × Nat × Nat × Nat) (hq : quads[j]? = some q) : (quads.take (j + 1)).foldl z37 S = z37 ((quads.take j).foldl z37 S) q := by
 have hl : j < quads.length := hj
 rw [List.take_succ_eq_append_getElem hl, List.foldl_append]
 have : quads[j] = q := by
  have := List.getElem?_eq_getElem hl
  rw [this] at hq
  exact Option.some.inj hq
 rw [this]
 rfl
theorem z8B {v vx : Value} {hx : Hp} {b X : List Nat} (i : Nat) (hb : Rn hx .u8 v b) (bb : Bytes b) (hi : 4 * i + 4 ≤ b.length) (hl : b.length ≤ 1000) (hw : New h zk 1 vx hx (nv .u32 X) X.length) (lX : X.length ≤ 1000) {K' : Value → Hp → Prop}
  (k : ∀ v' h', New h zk 1 v' h' (nv .u32 (X ++ [z9 ((b.drop (4 * i)).take 4)])) (X ++ [z9 ((b.drop (4 * i)).take 4)]).length → K' v' h') :
  q P hx (Instr.sliceAt zd v (some (.int .i64 ((4 * i : Nat) : Int))) none none) fun t28 => Cn P z7s #[t28, (Value.int .i64 4)] hx fun t29 h => q P h (convert z7u zk t29) fun t30 => aw P (Instr.buildSlice z17 1 #[(0, t30)]) (fun t31 h => aw P (Builtin.append_ #[z17, z17] z17 #[vx, t31]) (fun t32 h => K' t32 h) h) h := by
 refine z6p za zp hb .i64 (4 * i) (by omega) fun w hw' => ?_
 refine zdX 4 (by omega) hw' (bb.drop _) (by rw [List.length_drop]; omega) ?_
 have := z18 (b.drop (4 * i)) (bb.drop _) 4
 simp (disch := omega) only [GL, RL, zkl]
 refine zT (ps := [(0, _)]) z1h z1y z3q rfl (by omega) (by intro p hp; rw [List.mem_singleton.1 hp]; exact ⟨rfl, by show _ < 1; omega⟩) fun x h4 hx' _ => ?_
 refine zQ z1h z1h z5c rfl (by omega) hw hx' (by intro y hy; simp [z1f] at hy; subst hy; rfl) (by omega) fun v2 h5 hw5 => ?_
 refine k _ _ ?_
 rw [z13, List.length_append]
 exact hw5
end
end Go.Proofs.YtoikhbagchfeoaaGreat
namespace Go.Pure
def rotr (x n : Nat) : Nat := rotl x (32 - n)
theorem z19 (x n : Nat) (hx : x < 4294967296) : rotr x n < 4294967296 := z98 x _ hx
theorem zpZ (x n : Nat) (h : n ≤ 32) : (x / 2 ^ n) ||| (x * 2 ^ (32 - n) % 4294967296) = rotr x n := by
 unfold rotr rotl
 rw [Nat.or_comm, show 32 - (32 - n) = n by omega]
def sgS0 (x : Nat) : Nat := (rotr x 7 ^^^ rotr x 18) ^^^ (x / 2 ^ 3)
def sgS1 (x : Nat) : Nat := (rotr x 17 ^^^ rotr x 19) ^^^ (x / 2 ^ 10)
def bS1 (x : Nat) : Nat := (rotr x 6 ^^^ rotr x 11) ^^^ rotr x 25
def bS0 (x : Nat) : Nat := (rotr x 2 ^^^ rotr x 13) ^^^ rotr x 22
theorem x32 {a b : Nat} (ha : a < 4294967296) (hb : b < 4294967296) : a ^^^ b < 4294967296 := Nat.xor_lt_two_pow (n := 32) ha hb
theorem a32 {a b : Nat} (ha : a < 4294967296) : a &&& b < 4294967296 := Nat.lt_of_le_of_lt Nat.and_le_left ha
def chS (e f g : Nat) : Nat := (e &&& f) ^^^ ((4294967295 ^^^ e) &&& g)
def majS (a b c : Nat) : Nat := ((a &&& b) ^^^ (a &&& c)) ^^^ (b &&& c)
theorem m32 (x : Nat) : x % 4294967296 < 4294967296 := Nat.mod_lt _ (by decide)
def z3Y (l : List Nat) : Nat := (((l.getD (l.length - 16) 0 + sgS0 (l.getD (l.length - 15) 0)) % 4294967296 + l.getD (l.length - 7) 0) % 4294967296 + sgS1 (l.getD (l.length - 2) 0)) % 4294967296
def schF (w : List Nat) : Nat → List Nat
 | 0 => w
 | n + 1 => schF w n ++ [z3Y (schF w n)]
theorem z9S (w : List Nat) : ∀ n, (schF w n).length = w.length + n
 | 0 => rfl
 | n + 1 => by simp only [schF, List.length_append, z9S w n, List.length_singleton]; omega
theorem zf7 {w : List Nat} (h : W32 w) : ∀ n, W32 (schF w n)
 | 0 => h
 | n + 1 => (zf7 h n).append fun x hx => by rw [List.mem_singleton.1 hx]; exact m32 _
def z36 (b : List Nat) : Nat → List Nat
 | 0 => []
 | n + 1 => z36 b n ++ [bval ((b.drop (4 * n)).take 4)]
theorem z4q (b : List Nat) : ∀ n, (z36 b n).length = n
 | 0 => rfl
 | n + 1 => by simp [z36, z4q b n]
theorem ziz {b : List Nat} (h : Bytes b) (i : Nat) : bval ((b.drop i).take 4) < 4294967296 := by
 have h1 := zjY ((h.drop i).take 4)
 have h2 : ((b.drop i).take 4).length ≤ 4 := by rw [List.length_take]; exact Nat.min_le_left _ _
 have h3 : 256 ^ ((b.drop i).take 4).length ≤ 256 ^ 4 := Nat.pow_le_pow_right (by decide) h2
 have h4 : (256 : Nat) ^ 4 = 4294967296 := by decide
 omega
theorem z9T {b : List Nat} (h : Bytes b) : ∀ n, W32 (z36 b n)
 | 0 => fun x hx => by cases hx
 | n + 1 => (z9T h n).append fun x hx => by rw [List.mem_singleton.1 hx]; exact ziz h _
def schL (b : List Nat) : List Nat := schF (z36 b 16) 48
theorem ze5 (b : List Nat) : (schL b).length = 64 := by rw [schL, z9S, z4q]
theorem zmC {b : List Nat} (h : Bytes b) : W32 (schL b) := zf7 (z9T h 16) 48
def t1S (k w e f g h : Nat) : Nat := ((((h + bS1 e) % 4294967296 + chS e f g) % 4294967296 + k) % 4294967296 + w) % 4294967296
def t2S (a b c : Nat) : Nat := (bS0 a + majS a b c) % 4294967296
def rnd (k w : Nat) (s : List Nat) : List Nat :=
 [(t1S k w (s.getD 4 0) (s.getD 5 0) (s.getD 6 0) (s.getD 7 0) + t2S (s.getD 0 0) (s.getD 1 0) (s.getD 2 0)) % 4294967296, s.getD 0 0, s.getD 1 0, s.getD 2 0,
  (s.getD 3 0 + t1S k w (s.getD 4 0) (s.getD 5 0) (s.getD 6 0) (s.getD 7 0)) % 4294967296, s.getD 4 0, s.getD 5 0, s.getD 6 0]
theorem zsG {k w : Nat} {s : List Nat} (h : W32 s) : W32 (rnd k w s) := by
 intro x hx
 simp only [rnd, List.mem_cons, List.not_mem_nil, or_false] at hx
 rcases hx with rfl | rfl | rfl | rfl | rfl | rfl | rfl | rfl <;> first | exact m32 _ | exact h.getD _
def rnds (K w s : List Nat) : Nat → List Nat
 | 0 => s
 | n + 1 => rnd (K.getD n 0) (w.getD n 0) (rnds K w s n)
theorem ziA {K w s : List Nat} (h : W32 s) : ∀ n, W32 (rnds K w s n)
 | 0 => h
 | n + 1 => zsG (ziA h n)
theorem ziB {K w s : List Nat} (h : s.length = 8) : ∀ n, (rnds K w s n).length = 8
 | 0 => h
 | n + 1 => rfl
def addS (s v : List Nat) (n : Nat) : List Nat := (List.range n).map fun i => (s.getD i 0 + v.getD i 0) % 4294967296
theorem ziC (s v : List Nat) (n : Nat) : (addS s v n).length = n := by simp [addS]
theorem zrr (s v : List Nat) (n : Nat) : W32 (addS s v n) := by
 intro x hx
 obtain ⟨i, _, rfl⟩ := List.mem_map.1 hx
 exact m32 _
theorem zmD (s v : List Nat) (n : Nat) : addS s v (n + 1) = addS s v n ++ [(s.getD n 0 + v.getD n 0) % 4294967296] := by simp [addS, List.range_succ]
def z6j (K s b : List Nat) : List Nat := addS s (rnds K (schL b) s 64) 8
theorem zgm (K s b : List Nat) : (z6j K s b).length = 8 := ziC _ _ _
theorem zq0 (K s b : List Nat) : W32 (z6j K s b) := zrr _ _ _
def z48 (K s b : List Nat) : Nat → List Nat
 | 0 => s
 | n + 1 => z6j K (z48 K s b n) ((b.drop (64 * n)).take 64)
theorem zc1 {K s b : List Nat} (h : s.length = 8) : ∀ n, (z48 K s b n).length = 8
 | 0 => h
 | n + 1 => zgm _ _ _
theorem zfV {K s b : List Nat} (h : W32 s) : ∀ n, W32 (z48 K s b n)
 | 0 => h
 | n + 1 => zq0 _ _ _
theorem zc2 (K s a b : List Nat) : ∀ n, 64 * n ≤ a.length → z48 K s (a ++ b) n = z48 K s a n
 | 0, _ => rfl
 | n + 1, h => by
  simp only [z48]
  rw [zc2 K s a b n (by omega), List.drop_append_of_le_length (by omega), List.take_append_of_le_length (by rw [List.length_drop]; omega)]
def shaK : List Nat := [1116352408, 1899447441, 3049323471, 3921009573, 961987163, 1508970993, 2453635748, 2870763221, 3624381080, 310598401, 607225278, 1426881987, 1925078388, 2162078206, 2614888103, 3248222580, 3835390401, 4022224774, 264347078, 604807628, 770255983, 1249150122, 1555081692, 1996064986, 2554220882, 2821834349, 2952996808, 3210313671, 3336571891, 3584528711, 113926993, 338241895, 666307205, 773529912, 1294757372, 1396182291, 1695183700, 1986661051, 2177026350, 2456956037, 2730485921, 2820302411, 3259730800, 3345764771, 3516065817, 3600352804, 4094571909, 275423344, 430227734, 506948616, 659060556, 883997877, 958139571, 1322822218, 1537002063, 1747873779, 1955562222, 2024104815, 2227730452, 2361852424, 2428436474, 2756734187, 3204031479, 3329325298]
def shaH : List Nat := [1779033703, 3144134277, 1013904242, 2773480762, 1359893119, 2600822924, 528734635, 1541459225]
theorem shaK_w : W32 shaK := by
 intro x hx
 have : (shaK.all fun x => decide (x < 4294967296)) = true := by decide +kernel
 exact of_decide_eq_true (List.all_eq_true.1 this x hx)
theorem ziD : W32 shaH := by
 intro x hx
 have : (shaH.all fun x => decide (x < 4294967296)) = true := by decide +kernel
 exact of_decide_eq_true (List.all_eq_true.1 this x hx)
theorem z2O : shaK.length = 64 := rfl
theorem ze6 : shaH.length = 8 := rfl
def padE (n : Nat) : List Nat := [128] ++ List.replicate ((119 - n % 64) % 64) 0
def padS (b : List Nat) : List Nat := (b ++ padE b.length) ++ bg 8 (8 * b.length)
theorem zo6 (b : List Nat) : (padS b).length % 64 = 0 := by
 unfold padS padE
 rw [List.length_append, List.length_append, List.length_append, List.length_replicate, z2p, List.length_singleton]
 omega
theorem zf8 (n : Nat) : Bytes (padE n) := by
 intro x hx
 rcases List.mem_append.1 hx with h | h
 ·rw [List.mem_singleton.1 h]; decide
 ·rw [(List.mem_replicate.1 h).2]; decide
theorem zlc {b : List Nat} (h : Bytes b) : Bytes (padS b) := (h.append (zf8 _)).append (z9R _ _)
def outS (st : List Nat) : Nat → List Nat
 | 0 => []
 | n + 1 => outS st n ++ bg 4 (st.getD n 0)
theorem z9U (st : List Nat) : ∀ n, (outS st n).length = 4 * n
 | 0 => rfl
 | n + 1 => by simp only [outS, List.length_append, z9U st n, z2p]; omega
theorem zf9 (st : List Nat) : ∀ n, Bytes (outS st n)
 | 0 => fun x hx => by cases hx
 | n + 1 => (zf9 st n).append (z9R _ _)
def shaL (b : List Nat) : List Nat := outS (z48 shaK shaH (padS b) ((padS b).length / 64)) 8
theorem z4U (b : List Nat) : (shaL b).length = 32 := z9U _ _
theorem z5t (b : List Nat) : Bytes (shaL b) := zf9 _ _
def Hst (M st wt : List Nat) (many : Nat) : Prop := st = z48 shaK shaH M (M.length / 64) ∧ many = M.length % 64 ∧ wt.length = 64 ∧ wt.take many = M.drop (64 * (M.length / 64))
theorem Hst.nil : Hst [] shaH (List.replicate 64 0) 0 := ⟨rfl, rfl, by rw [List.length_replicate], rfl⟩
theorem ziE {M wt : List Nat} {many : Nat} (hw : wt.length = 64) (e : wt.take many = M.drop (64 * (M.length / 64))) (hm : many = M.length % 64) (c : List Nat) (hc : c.length ≤ 64 - many) :
  (wt.take many ++ c ++ wt.drop (many + c.length)).take (many + c.length) = (M ++ c).drop (64 * (M.length / 64)) := by
 have hl : (wt.take many).length = many := by rw [List.length_take]; omega
 rw [List.take_append_of_le_length (by rw [List.length_append, hl]; exact Nat.le_refl _), List.take_of_length_le (by rw [List.length_append, hl]; exact Nat.le_refl _), e,
  List.drop_append_of_le_length (by omega)]
theorem Hst.part {M st wt : List Nat} {many : Nat} (h : Hst M st wt many) (c : List Nat) (hc : many + c.length < 64) : Hst (M ++ c) st (wt.take many ++ c ++ wt.drop (many + c.length)) (many + c.length) := by
 obtain ⟨h1, h2, h3, h4⟩ := h
 have e1 : (M ++ c).length / 64 = M.length / 64 := by rw [List.length_append]; omega
 refine ⟨?_, by rw [List.length_append]; omega, ?_, ?_⟩
 ·rw [e1, zc2 _ _ _ _ _ (by omega)]; exact h1
 ·rw [List.length_append, List.length_append, List.length_take, List.length_drop]; omega
 ·rw [e1]; exact ziE h3 h4 h2 c (by omega)
theorem Hst.full {M st wt : List Nat} {many : Nat} (h : Hst M st wt many) (c : List Nat) (hc : many + c.length = 64) : Hst (M ++ c) (z6j shaK st (wt.take many ++ c ++ wt.drop (many + c.length))) (wt.take many ++ c ++ wt.drop (many + c.length)) 0 := by
 obtain ⟨h1, h2, h3, h4⟩ := h
 have e1 : (M ++ c).length / 64 = M.length / 64 + 1 := by rw [List.length_append]; omega
 have hl : (wt.take many ++ c ++ wt.drop (many + c.length)).length = 64 := by rw [List.length_append, List.length_append, List.length_take, List.length_drop]; omega
 have hw := ziE h3 h4 h2 c (by omega)
 generalize wt.take many ++ c ++ wt.drop (many + c.length) = W at hl hw ⊢
 have eW : W.take (many + c.length) = W := List.take_of_length_le (by omega)
 rw [eW] at hw
 refine ⟨?_, by rw [List.length_append]; omega, hl, ?_⟩
 ·have eW2 : W.take 64 = W := List.take_of_length_le (by omega)
  rw [e1, z48, zc2 _ _ _ _ _ (by omega), ← h1, ← hw, eW2]
 ·have e2 : 64 * ((M ++ c).length / 64) = (M ++ c).length := by
   have : (M ++ c).length = M.length + c.length := List.length_append
   omega
  rw [e2, List.drop_length, List.take_zero]
theorem Hst.many_lt {M st wt : List Nat} {many : Nat} (h : Hst M st wt many) : many < 64 := by rw [h.2.1]; exact Nat.mod_lt _ (by decide)
theorem Hst.len {M st wt : List Nat} {many : Nat} (h : Hst M st wt many) : st.length = 8 := by rw [h.1]; exact zc1 rfl _
theorem Hst.w {M st wt : List Nat} {many : Nat} (h : Hst M st wt many) : W32 st := by rw [h.1]; exact zfV ziD _
end Go.Pure
set_option maxHeartbeats 4000000
namespace Go.Proofs.YtoikhbagchfeoaaGreat
open Go Go.SL Go.Pure
theorem zmE {h : Hp} {K : Value → Prop} (a : Int) : q P h (Op.unary .xor (.int .u32 a)) K = K (.int .u32 (ixor .u32 ((4294967295 : Nat) : Int) a)) := q_of rfl K
theorem z4G {h : Hp} {K : Value → Hp → Prop} (x n : Nat) (hx : x < 4294967296) (hn : 0 < n) (hn2 : n < 32) (k : K (.int .u32 ((rotr x n : Nat) : Int)) h) : Cn P z1Q #[.int .u32 x, .int .i64 (-(n : Int))] h K := by
 refine z5M ?_
 unfold z42
 have ew : IntKind.u64.wrap (-(n : Int)) = ((18446744073709551616 - n : Nat) : Int) := by
  unfold IntKind.wrap; simp [IntKind.bits, IntKind.signed]; omega
 have e0 : iand .u64 ((18446744073709551616 - n : Nat) : Int) 31 = ((32 - n : Nat) : Int) := by
  rw [z83 (by omega) (by omega) (by omega) (by omega), Int.toNat_natCast]
  have : (18446744073709551616 - n) &&& 31 = 32 - n := by
   have := Nat.and_two_pow_sub_one_eq_mod (18446744073709551616 - n) 5
   simp only [Nat.reducePow, Nat.add_one_sub_one, Nat.reduceSub] at this
   rw [this]; omega
  show ((((18446744073709551616 - n) &&& 31 : Nat)) : Int) = _
  rw [this]
 have e3 : (32 : Int) - ((32 - n : Nat) : Int) = (n : Int) := by omega
 simp (disch := omega) only [GL, RL, ew, e0, e3, z2j]
 have e1 : min (32 - n) IntKind.u32.bits = 32 - n := by simp only [IntKind.bits]; omega
 have e2 : min n IntKind.u32.bits = n := by simp only [IntKind.bits]; omega
 have h1 : x / 2 ^ n ≤ x := Nat.div_le_self _ _
 rw [e1, e2, mulp, z4l, wu32]
 unfold rotr rotl at k
 rw [show 32 - (32 - n) = n by omega] at k
 generalize x / 2 ^ n = y at h1 k ⊢
 rw [or32 (by omega) (by omega) (by omega) (by omega)]
 exact k
theorem z9V : zr P z1F = some (.agg (List.replicate 64 (Value.int .u32 0)).toArray) := by kernel_rfl
theorem zk0 : zr P zZ = some (.agg (List.replicate 8 (Value.int .u32 0)).toArray) := by kernel_rfl
section
variable {h : Hp} {K : Value → Hp → Prop}
theorem zld {v : Value} {b : List Nat} (hv : Rn h .u8 v b) (bb : Bytes b) (lb : b.length = 64) (k : K (.agg (nv .u32 (schL b)).toArray) h) : Cn P zfr #[v] h K := by
 refine Cn_wk (zfD ?_)
 unfold z93
 refine zS (List.replicate 64 (Value.int .u32 0)) z9V rfl fun r2 hr2 => ?_
 obtain ⟨O, hO⟩ : ∃ O, AObj.row z1F (List.replicate 64 (Value.int .u32 0)) (List.replicate 64 (Value.int .u32 0)).length (some (0, 0)) = O := ⟨_, rfl⟩
 rw [hO]
 refine zS (List.replicate 64 (Value.int .u32 0)) z9V rfl fun r3 hr3 => ?_
 have hne : r3 ≠ r2 := by rintro rfl; rw [Hp.set_same] at hr3; cases hr3
 have hr3' : h r3 = none := by rwa [Hp.set_ne _ _ hne] at hr3
 have key1 : ∀ o : AObj, Hp.cle h ((h.set r2 O).set r3 o) := fun o => (z2c r2 O hr2).trans (z2c r3 o hr3)
 refine Lp_mk (fun m vs h' => ∃ i : Nat, i + m = 16 ∧ h' = (h.set r2 O).set r3 (.row z1F (nv .u32 (z36 b i ++ List.replicate (64 - i) 0)) 64 (some (0, 0))) ∧ vs = [.int .i64 (i : Int)]) 16 ⟨0, rfl, by rw [zqG]; rfl, rfl⟩ ?_
 rintro m vs h' ⟨i, hi, rfl, rfl⟩
 simp (disch := omega) only [GL, RL, wi64, zL]
 have e4 : (4 * (i : Int)) = ((4 * i : Nat) : Int) := by push_cast; rfl
 have e44 : (((4 * i : Nat) : Int) + 4) = ((4 * i + 4 : Nat) : Int) := by push_cast; rfl
 have e16 : decide ((i : Int) < 16) = decide (i < 16) := zL i 16
 rw [e4, e16]
 by_cases hlt : i < 16
 ·simp only [hlt, decide_true, if_true]
  rw [e44]
  refine zhh za zp (hv.mono (key1 _)) .i64 .i64 (4 * i) (4 * i + 4) (by omega) (by omega) fun w' hw' => ?_
  refine zf5 hw' ((bb.take _).drop _) (by rw [List.length_drop, List.length_take]; omega) ?_
  have eb : bval (((b.take (4 * i + 4)).drop (4 * i)).take 4) = bval ((b.drop (4 * i)).take 4) := by
   rw [List.drop_take, List.take_take, show 4 * i + 4 - 4 * i = 4 by omega]; rfl
  rw [eb]
  have lw := z4q b i
  refine z26 z1y rfl (z2b (Hp.set_same ..) (by rw [ze, List.length_append, lw, List.length_replicate]; omega) (by simp) _) ?_
  refine ⟨_, .refl _, m - 1, by omega, i + 1, by omega, ?_, rfl⟩
  have es := z97 (z36 b i) (64 - (i + 1)) (bval ((b.drop (4 * i)).take 4))
  rw [lw] at es
  rw [Hp.set_set, z1O, show 64 - i = (64 - (i + 1)) + 1 by omega, es]
  rfl
 obtain rfl : i = 16 := by omega
 simp only [hlt, decide_false, Bool.false_eq_true, if_false]
 have lw0 : (z36 b 16).length = 16 := z4q b 16
 have ww0 : W32 (z36 b 16) := z9T bb 16
 show Lp _ _ _
 generalize hw0 : z36 b 16 = w0 at lw0 ww0
 refine Lp_mk (fun m vs h' => ∃ n : Nat, n + m = 48 ∧ h' = (h.set r2 O).set r3 (.row z1F (nv .u32 (schF w0 n ++ List.replicate (48 - n) 0)) 64 (some (0, 0))) ∧ vs = [.int .i64 ((16 + n : Nat) : Int)]) 48 ⟨0, rfl, by rw [show 64 - 16 = 48 - 0 from rfl]; rfl, rfl⟩ ?_
 rintro m vs h' ⟨n, hn, rfl, rfl⟩
 have ls : (schF w0 n).length = 16 + n := by rw [z9S, lw0]
 have ws := zf7 ww0 n
 have e64 : decide ((((16 + n : Nat)) : Int) < 64) = decide (16 + n < 64) := zL (16 + n) 64
 have e15 : ((16 + n : Nat) : Int) - 15 = ((n + 1 : Nat) : Int) := by omega
 have e2 : ((16 + n : Nat) : Int) - 2 = ((n + 14 : Nat) : Int) := by omega
 have e16' : ((16 + n : Nat) : Int) - 16 = ((n : Nat) : Int) := by omega
 have e7 : ((16 + n : Nat) : Int) - 7 = ((n + 9 : Nat) : Int) := by omega
 have cell : ∀ j, j < 16 + n → ((h.set r2 O).set r3 (.row z1F (nv .u32 (schF w0 n ++ List.replicate (48 - n) 0)) 64 (some (0, 0)))).cell ⟨r3, j, none⟩ = some (.int .u32 (((schF w0 n).getD j 0 : Nat) : Int)) := fun j hj => by
  rw [zj (Hp.set_same ..), z1g _ _ _ (by rw [List.length_append]; omega), zgP _ _ _ (by omega)]
 simp (disch := omega) only [GL, RL, wi64, e64]
 by_cases hlt2 : 16 + n < 64
 ·simp only [hlt2, decide_true, if_true]
  simp (disch := omega) only [GL, RL, wi64, e15, e2, cell]
  have hx := ws.getD (n + 1)
  have hy := ws.getD (n + 14)
  have es : z3Y (schF w0 n) = ((((schF w0 n).getD n 0 + sgS0 ((schF w0 n).getD (n + 1) 0)) % 4294967296 + (schF w0 n).getD (n + 9) 0) % 4294967296 + sgS1 ((schF w0 n).getD (n + 14) 0)) % 4294967296 := by
   unfold z3Y
   rw [ls, show 16 + n - 16 = n by omega, show 16 + n - 15 = n + 1 by omega, show 16 + n - 7 = n + 9 by omega, show 16 + n - 2 = n + 14 by omega]
  generalize hX : (schF w0 n).getD (n + 1) 0 = X at hx es
  generalize hY : (schF w0 n).getD (n + 14) 0 = Y at hy es
  refine z4G X 7 hx (by omega) (by omega) ?_
  refine z4G X 18 hx (by omega) (by omega) ?_
  simp (disch := omega) only [GL, RL]
  rw [z1P (z19 _ _ hx) (z19 _ _ hx)]
  have sh3 : ((X : Int).fdiv (2 ^ min (Int.toNat 3) IntKind.u32.bits)) = ((X / 2 ^ 3 : Nat) : Int) := z4l X 3
  rw [sh3, z1P (x32 (z19 _ _ hx) (z19 _ _ hx)) (Nat.lt_of_le_of_lt (Nat.div_le_self _ _) hx)]
  refine z4G Y 17 hy (by omega) (by omega) ?_
  refine z4G Y 19 hy (by omega) (by omega) ?_
  simp (disch := omega) only [GL, RL, wi64, e16', e7, cell]
  rw [z1P (z19 _ _ hy) (z19 _ _ hy)]
  have sh10 : ((Y : Int).fdiv (2 ^ min (Int.toNat 10) IntKind.u32.bits)) = ((Y / 2 ^ 10 : Nat) : Int) := z4l Y 10
  rw [sh10, z1P (x32 (z19 _ _ hy) (z19 _ _ hy)) (Nat.lt_of_le_of_lt (Nat.div_le_self _ _) hy)]
  simp only [z3J]
  have eS : ((((schF w0 n).getD n 0 + (rotr X 7 ^^^ rotr X 18 ^^^ X / 2 ^ 3)) % 4294967296 + (schF w0 n).getD (n + 9) 0) % 4294967296 + (rotr Y 17 ^^^ rotr Y 19 ^^^ Y / 2 ^ 10)) % 4294967296 = z3Y (schF w0 n) := by
   rw [es]; rfl
  rw [eS]
  refine z26 z1y rfl (z2b (Hp.set_same ..) (by rw [ze, List.length_append, ls, List.length_replicate]; omega) (by simp) _) ?_
  refine ⟨_, .refl _, m - 1, by omega, n + 1, by omega, ?_, by rw [show ((16 + n : Nat) : Int) + 1 = ((16 + (n + 1) : Nat) : Int) by omega]⟩
  have es2 := z97 (schF w0 n) (48 - (n + 1)) (z3Y (schF w0 n))
  rw [ls] at es2
  rw [Hp.set_set, z1O, show 48 - n = (48 - (n + 1)) + 1 by omega, es2]
  rfl
 have hn48 : n = 48 := by omega
 simp only [hlt2, decide_false, Bool.false_eq_true, if_false]
 have hfin : schF w0 n ++ List.replicate (48 - n) 0 = schL b := by
  have e1 : 48 - n = 0 := by omega
  have e2 : schL b = schF w0 n := by unfold schL; rw [hw0, hn48]
  rw [e1, e2, List.replicate_zero, List.append_nil]
 rw [hfin]
 have hl64 : (nv .u32 (schL b)).length = 64 := by rw [ze, ze5]
 generalize schL b = W at hl64 k ⊢
 rw [z1w z8q rfl (by rw [hl64]; exact z3V) (Hp.set_same ..)]
 refine zD (xs := List.replicate 64 (Value.int .u32 0)) (f := (0, 0)) (cap := 64) (e := z1F) (by rw [hl64]; exact z3V) (by rw [Hp.set_ne _ _ (Ne.symm hne), Hp.set_same, ← hO]; rfl) (by rw [hl64, List.length_replicate]) (zq _ _) (fun i _ => by simp) ?_
 rw [z33 z8q rfl (by rw [hl64]; exact z3V) (Hp.set_same ..)]
 refine ⟨h, fun b o e => ?_, k⟩
 have n6 : b ≠ r2 := by rintro rfl; rw [hr2] at e; cases e
 have n7 : b ≠ r3 := by rintro rfl; rw [hr3'] at e; cases e
 exact ⟨o, by rw [Hp.set_ne _ _ n6, Hp.set_ne _ _ n7, Hp.set_ne _ _ n6]; exact e, .refl _⟩
end
def z5u (wt : List Nat) (many : Nat) (all : Nat) : List Value := nv .u32 shaK ++ (nv .u8 wt ++ [.int .i64 (many : Int), .int .u64 (all : Int)])
def zU (st wt : List Nat) (many all : Nat) : List Value := nv .u32 st ++ z5u wt many all
theorem zmF {wt : List Nat} (lw : wt.length = 64) (many all : Nat) : (z5u wt many all).length = 130 := by
 simp only [z5u, List.length_append, ze, lw, z2O, List.length_cons, List.length_nil]
theorem z3G {st wt : List Nat} (ls : st.length = 8) (lw : wt.length = 64) (many all : Nat) : (zU st wt many all).length = 138 := by
 rw [zU, List.length_append, ze, ls, zmF lw]
theorem ht0 {h : Hp} {K : Value → Prop} (r : Nat) : q P h (Instr.fieldAt zI (.pointer (some ⟨r, 0, none⟩)) 0) K = K (.pointer (some ⟨r, 0, none⟩)) := q_of (by kernel_rfl) K
theorem ht1 {h : Hp} {K : Value → Prop} (r : Nat) : q P h (Instr.fieldAt zI (.pointer (some ⟨r, 0, none⟩)) 1) K = K (.pointer (some ⟨r, 8, none⟩)) := q_of (by kernel_rfl) K
theorem ht2 {h : Hp} {K : Value → Prop} (r : Nat) : q P h (Instr.fieldAt zI (.pointer (some ⟨r, 0, none⟩)) 2) K = K (.pointer (some ⟨r, 72, none⟩)) := q_of (by kernel_rfl) K
theorem ht3 {h : Hp} {K : Value → Prop} (r : Nat) : q P h (Instr.fieldAt zI (.pointer (some ⟨r, 0, none⟩)) 3) K = K (.pointer (some ⟨r, 136, none⟩)) := q_of (by kernel_rfl) K
theorem ht4 {h : Hp} {K : Value → Prop} (r : Nat) : q P h (Instr.fieldAt zI (.pointer (some ⟨r, 0, none⟩)) 4) K = K (.pointer (some ⟨r, 137, none⟩)) := q_of (by kernel_rfl) K
theorem s8lo {h : Hp} {K : Value → Prop} (r : Nat) : q P h (Instr.sliceAt zZ (.pointer (some ⟨r, 0, none⟩)) (some (.int .i64 1)) none none) K = K (.slice (some ⟨r, 1, none⟩) 7 7) := q_of (by kernel_rfl) K
theorem s8hi {h : Hp} {K : Value → Prop} (r : Nat) : q P h (Instr.sliceAt zZ (.pointer (some ⟨r, 0, none⟩)) none (some (.int .i64 7)) none) K = K (.slice (some ⟨r, 0, none⟩) 7 8) := q_of (by kernel_rfl) K
theorem zq1 {st wt : List Nat} {many all : Nat} (ls : st.length = 8) (i : Nat) (hi : i < 64) : (zU st wt many all)[8 + i]? = some (.int .u32 ((shaK.getD i 0 : Nat) : Int)) := by
 have l1 : (nv .u32 st).length = 8 := by rw [ze, ls]
 rw [zU, List.getElem?_append_right (by omega), l1, Nat.add_sub_cancel_left, z5u, List.getElem?_append_left (by rw [ze, z2O]; exact hi), z1g _ _ _ (by rw [z2O]; exact hi)]
theorem zo7 {st wt : List Nat} {many all : Nat} (i : Nat) (hi : i < st.length) : (zU st wt many all)[i]? = some (.int .u32 ((st.getD i 0 : Nat) : Int)) := by
 rw [zU, List.getElem?_append_left (by rw [ze]; exact hi), z1g _ _ _ hi]
theorem zmG {st wt : List Nat} {many all : Nat} (i x : Nat) (hi : i < st.length) : (zU st wt many all).set i (.int .u32 (x : Int)) = zU (st.set i x) wt many all := by
 rw [zU, List.set_append_left _ _ (by rw [ze]; exact hi), z1O]; rfl
section
variable {h : Hp} {K : Value → Hp → Prop}
theorem zo8 {base : Hp} {r5 p r4 : Nat} {s w : List Nat} {i : Nat} (hs : W32 s) (ls : s.length = 8) (hw : W32 w) (lw : w.length = 64) (hi : i < 64)
  (b4 : base r4 = some (.row z1F (nv .u32 w) 64 (some (0, 0)))) (n45 : r4 ≠ r5) (n5p : p ≠ r5) (cK : base.cell ⟨p, 8 + i, none⟩ = some (.int .u32 ((shaK.getD i 0 : Nat) : Int)))
  {F : Value → Hp → Prop} (k : F (.int .i64 ((i + 1 : Nat) : Int)) (base.set r5 (.row zZ (nv .u32 (rnd (shaK.getD i 0) (w.getD i 0) s)) 8 (some (0, 0))))) :
  (fun (h : Hp) => q P emp (Instr.indexAt zZ (.pointer (some ⟨r5, 0, none⟩)) (Value.int .i64 0)) fun t22 => q P h (Instr.loadAt zk t22) fun t23 => q P emp (Instr.indexAt zZ (.pointer (some ⟨r5, 0, none⟩)) (Value.int .i64 4)) fun t24 => q P h (Instr.loadAt zk t24) fun t25 => Cn P z1Q #[t25, (Value.int .i64 (-6))] h fun t27 h => Cn P z1Q #[t25, (Value.int .i64 (-11))] h fun t29 h => q P h (binOp .xor zk t27 t29) fun t30 => Cn P z1Q #[t25, (Value.int .i64 (-25))] h fun t32 h => q P h (binOp .xor zk t30 t32) fun t33 => q P emp (Instr.indexAt zZ (.pointer (some ⟨r5, 0, none⟩)) (Value.int .i64 7)) fun t34 => q P h (Instr.loadAt zk t34) fun t35 => q P emp (binOp .add zk t35 t33) fun t37 => q P emp (Instr.indexAt zZ (.pointer (some ⟨r5, 0, none⟩)) (Value.int .i64 5)) fun t39 => q P h (Instr.loadAt zk t39) fun t40 => q P emp (binOp .and zk t25 t40) fun t41 => q P emp (Op.unary .xor t25) fun t43 => q P emp (Instr.indexAt zZ (.pointer (some ⟨r5, 0, none⟩)) (Value.int .i64 6)) fun t44 => q P h (Instr.loadAt zk t44) fun t45 => q P emp (binOp .and zk t43 t45) fun t46 => q P emp (binOp .xor zk t41 t46) fun t47 => q P emp (binOp .add zk t37 t47) fun t48 => q P emp (zv (.pointer (some ⟨p, 0, none⟩))) fun t51 => q P h (Instr.fieldAt zI t51 1) fun t52 => q P emp (Instr.indexAt z1F t52 (Value.int .i64 (i : Int))) fun t53 => q P h (Instr.loadAt zk t53) fun t54 => q P emp (binOp .add zk t48 t54) fun t55 => q P emp (Instr.indexAt z1F (.pointer (some ⟨r4, 0, none⟩)) (Value.int .i64 (i : Int))) fun t57 => q P h (Instr.loadAt zk t57) fun t58 => q P emp (binOp .add zk t55 t58) fun t59 => Cn P z1Q #[t23, (Value.int .i64 (-2))] h fun t61 h => Cn P z1Q #[t23, (Value.int .i64 (-13))] h fun t63 h => q P h (binOp .xor zk t61 t63) fun t64 => Cn P z1Q #[t23, (Value.int .i64 (-22))] h fun t66 h => q P h (binOp .xor zk t64 t66) fun t67 => q P h (Instr.indexAt zZ (.pointer (some ⟨r5, 0, none⟩)) (Value.int .i64 1)) fun t70 => q P h (Instr.loadAt zk t70) fun t71 => q P h (binOp .and zk t23 t71) fun t72 => q P h (Instr.indexAt zZ (.pointer (some ⟨r5, 0, none⟩)) (Value.int .i64 2)) fun t74 => q P h (Instr.loadAt zk t74) fun t75 => q P h (binOp .and zk t23 t75) fun t76 => q P h (binOp .xor zk t72 t76) fun t77 => q P h (Instr.indexAt zZ (.pointer (some ⟨r5, 0, none⟩)) (Value.int .i64 1)) fun t78 => q P h (Instr.loadAt zk t78) fun t79 => q P h (Instr.indexAt zZ (.pointer (some ⟨r5, 0, none⟩)) (Value.int .i64 2)) fun t80 => q P h (Instr.loadAt zk t80) fun t81 => q P h (binOp .and zk t79 t81) fun t82 => q P h (binOp .xor zk t77 t82) fun t83 => q P h (binOp .add zk t67 t83) fun t84 => q P h (Instr.sliceAt zZ (.pointer (some ⟨r5, 0, none⟩)) (some (Value.int .i64 1)) none none) fun t85 => q P h (Instr.sliceAt zZ (.pointer (some ⟨r5, 0, none⟩)) none (some (Value.int .i64 7)) none) fun t86 => aw P (Builtin.copy_ #[z17, z17] zi #[t85, t86]) (fun t87 h => q P h (Instr.indexAt zZ (.pointer (some ⟨r5, 0, none⟩)) (Value.int .i64 4)) fun t88 => q P h (Instr.loadAt zk t88) fun t89 => q P h (binOp .add zk t89 t59) fun t91 => q P h (Instr.indexAt zZ (.pointer (some ⟨r5, 0, none⟩)) (Value.int .i64 4)) fun t92 => aw P (Instr.storeAt zk t92 t91) (fun _ h => q P h (binOp .add zk t59 t84) fun t95 => q P h (Instr.indexAt zZ (.pointer (some ⟨r5, 0, none⟩)) (Value.int .i64 0)) fun t96 => aw P (Instr.storeAt zk t96 t95) (fun _ h => q P h (binOp .add zi (Value.int .i64 (i : Int)) (Value.int .i64 1)) fun t97 => F t97 h) h) h) h) (base.set r5 (.row zZ (nv .u32 s) 8 (some (0, 0)))) := by
 match s, ls with
 | [a, b, c, d, e, f, g, z], _ =>
 have ha : a < 4294967296 := hs.getD 0
 have hb : b < 4294967296 := hs.getD 1
 have hc : c < 4294967296 := hs.getD 2
 have hd : d < 4294967296 := hs.getD 3
 have he : e < 4294967296 := hs.getD 4
 have hf : f < 4294967296 := hs.getD 5
 have hg : g < 4294967296 := hs.getD 6
 have hz : z < 4294967296 := hs.getD 7
 have hwi := hw.getD i
 have hki := shaK_w.getD i
 have ernd : rnd (shaK.getD i 0) (w.getD i 0) [a, b, c, d, e, f, g, z] = [(t1S (shaK.getD i 0) (w.getD i 0) e f g z + t2S a b c) % 4294967296, a, b, c, (d + t1S (shaK.getD i 0) (w.getD i 0) e f g z) % 4294967296, e, f, g] := rfl
 rw [ernd] at k
 generalize hkk : shaK.getD i 0 = kq at *
 have c4 : base.cell ⟨r4, i, none⟩ = some (.int .u32 ((w.getD i 0 : Nat) : Int)) := by rw [zj b4, z1g _ _ _ (by omega)]
 generalize w.getD i 0 = wq at *
 have cells : ∀ (X : List Nat) (j x : Nat), X[j]? = some x → (base.set r5 (.row zZ (nv .u32 X) 8 (some (0, 0)))).cell ⟨r5, j, none⟩ = some (.int .u32 (x : Int)) := fun X j x e => by
  rw [zj (Hp.set_same ..), nv, List.getElem?_map, e]; rfl
 have ck : ∀ X, (base.set r5 X).cell ⟨p, 8 + i, none⟩ = some (.int .u32 (kq : Int)) := fun X => by
  unfold Hp.cell at cK ⊢; rw [Hp.set_ne _ _ n5p]; exact cK
 have cw : ∀ X, (base.set r5 X).cell ⟨r4, i, none⟩ = some (.int .u32 (wq : Int)) := fun X => by
  unfold Hp.cell at c4 ⊢; rw [Hp.set_ne _ _ n45]; exact c4
 have z0 := cells [a, b, c, d, e, f, g, z] 0 a rfl
 have z1 := cells [a, b, c, d, e, f, g, z] 1 b rfl
 have z2 := cells [a, b, c, d, e, f, g, z] 2 c rfl
 have z4 := cells [a, b, c, d, e, f, g, z] 4 e rfl
 have z5 := cells [a, b, c, d, e, f, g, z] 5 f rfl
 have z6 := cells [a, b, c, d, e, f, g, z] 6 g rfl
 have z7 := cells [a, b, c, d, e, f, g, z] 7 z rfl
 have tn : ∀ x : Nat, Int.toNat (OfNat.ofNat x) = x := fun x => rfl
 simp (disch := omega) only [GL, RL, Int.reduceToNat, z0, z4]
 refine z4G e 6 he (by omega) (by omega) ?_
 refine z4G e 11 he (by omega) (by omega) ?_
 simp (disch := omega) only [GL, RL]
 refine z4G e 25 he (by omega) (by omega) ?_
 simp (disch := omega) only [GL, RL, Int.reduceToNat, zmE, ht1, z5, z6, z7, ck, cw]
 rw [z1P (z19 e 6 he) (z19 e 11 he), z1P (x32 (z19 e 6 he) (z19 e 11 he)) (z19 e 25 he), z4D he hf, z1P (by decide) he, z4D (x32 (by decide) he) hg, z1P (a32 he) (a32 (x32 (by decide) he))]
 simp only [z3J]
 have e1 : ((((z + (rotr e 6 ^^^ rotr e 11 ^^^ rotr e 25)) % 4294967296 + (e &&& f ^^^ (4294967295 ^^^ e) &&& g)) % 4294967296 + kq) % 4294967296 + wq) % 4294967296 = t1S kq wq e f g z := rfl
 rw [e1]
 have ht : t1S kq wq e f g z < 4294967296 := m32 _
 generalize t1S kq wq e f g z = T at ht k ⊢
 refine z4G a 2 ha (by omega) (by omega) ?_
 refine z4G a 13 ha (by omega) (by omega) ?_
 simp (disch := omega) only [GL, RL]
 refine z4G a 22 ha (by omega) (by omega) ?_
 simp (disch := omega) only [GL, RL, Int.reduceToNat, z1, z2, s8lo, s8hi]
 rw [z1P (z19 a 2 ha) (z19 a 13 ha), z1P (x32 (z19 a 2 ha) (z19 a 13 ha)) (z19 a 22 ha), z4D ha hb, z4D ha hc, z4D hb hc, z1P (a32 ha) (a32 ha), z1P (x32 (a32 ha) (a32 ha)) (a32 hb)]
 simp only [z3J]
 have e2 : ((rotr a 2 ^^^ rotr a 13 ^^^ rotr a 22) + (a &&& b ^^^ a &&& c ^^^ b &&& c)) % 4294967296 = t2S a b c := rfl
 rw [e2]
 generalize t2S a b c = U at k ⊢
 refine znp (o := 1) (xs := nv .u32 [a, b, c, d, e, f, g, z]) (f := (0, 0)) (dl := 7) (dc := 7) (n := 7) (ys := nv .u32 [a, b, c, d, e, f, g]) z1h z1y (Hp.set_same ..) ⟨rfl, _, 8, rfl, by omega, .inr ⟨r5, 0, rfl, fun j x ex => ?_⟩⟩ (zq _ _) (by omega) (by simp [ze]) (fun j _ => by simp) ?_
 ·rw [zj (Hp.set_same ..), Nat.zero_add]
  have hj : j < 7 := (List.getElem?_eq_some_iff.1 ex).1
  rw [← ex]
  show (nv .u32 ([a, b, c, d, e, f, g] ++ [z]))[j]? = _
  rw [z13, List.getElem?_append_left hj]
 rw [Hp.set_set]
 have eput : putL (nv .u32 [a, b, c, d, e, f, g, z]) 1 (nv .u32 [a, b, c, d, e, f, g]) = nv .u32 [a, a, b, c, d, e, f, g] := rfl
 rw [eput]
 have y4 := cells [a, a, b, c, d, e, f, g] 4 d rfl
 simp (disch := omega) only [GL, RL, Int.reduceToNat, y4, z3J]
 refine z26 z1y rfl (z2b (Hp.set_same ..) (by simp [ze]) (by simp) _) ?_
 rw [Hp.set_set, z1O]
 refine z26 z1y rfl (z2b (Hp.set_same ..) (by simp [ze]) (by simp) _) ?_
 rw [Hp.set_set, z1O, wi64 (by omega) (by omega)]
 exact k
end
set_option maxHeartbeats 1000000
theorem zmH (n len j : Nat) (hj : 8 * j < len) :
  ((boxB n len).take (8 * j) ++ List.replicate (len - 8 * j) 0).take (8 * j) ++ (bg 8 n).take (len - 8 * j) ++ ((boxB n len).take (8 * j) ++ List.replicate (len - 8 * j) 0).drop (8 * j + ((bg 8 n).take (len - 8 * j)).length) =
   (boxB n len).take (8 * (j + 1)) ++ List.replicate (len - 8 * (j + 1)) 0 := by
 have lt : ((boxB n len).take (8 * j)).length = 8 * j := by rw [List.length_take, z2M]; omega
 have lb : ((bg 8 n).take (len - 8 * j)).length = min (len - 8 * j) 8 := by rw [List.length_take, z2p]
 rw [List.take_append_of_le_length (by omega), List.take_of_length_le (by omega), lb, List.drop_append, lt, List.drop_of_length_le (by omega), List.nil_append, List.drop_replicate, Nat.add_sub_cancel_left]
 have e1 : (boxB n len).take (8 * (j + 1)) = (boxB n len).take (8 * j) ++ (bg 8 n).take (len - 8 * j) := by
  apply List.ext_getElem
  ·rw [List.length_append, lt, lb, List.length_take, z2M]; omega
  ·intro i h1 h2
   rw [List.length_take, z2M] at h1
   rw [List.getElem_take]
   by_cases hi : i < 8 * j
   ·rw [List.getElem_append_left (by omega), List.getElem_take]
   ·rw [List.getElem_append_right (by omega), List.getElem_take]
    simp only [lt]
    have hl : i - 8 * j < (bg 8 n).length := by rw [z2p]; omega
    simp only [boxB, List.getElem_map, List.getElem_range]
    rw [show i % 8 = i - 8 * j by omega]
    simp [List.getD_eq_getElem?_getD, hl]
 rw [e1, show len - 8 * j - min (len - 8 * j) 8 = len - 8 * (j + 1) by omega]
section
variable {h : Hp} {K : Value → Hp → Prop}
theorem zgn (n len : Nat) (hn : n < 9223372036854775808) (hl : len ≤ 70368744177664) (k : ∀ r h', Nn h zc .u8 r h' (boxB n len) → K r h') : Cn P zes #[.int .i64 n, .int .i64 len] h K := by
 refine Cn_wk (zeG ?_)
 unfold z8d
 refine z2w za zw rfl (Nat.le_refl len) (by omega) (by omega) fun r h1 hw => ?_
 rw [z1E] at hw
 by_cases h00 : len = 0
 ·subst h00
  refine Lp_mk (fun m vs h' => m = 0 ∧ h' = h1 ∧ vs = [.int .i64 0]) 0 ⟨rfl, rfl, rfl⟩ ?_
  rintro m vs h2 ⟨rfl, rfl, rfl⟩
  have e0 : decide ((0 : Int) < ((0 : Nat) : Int)) = false := rfl
  simp (disch := omega) only [GL, RL, e0, Bool.false_eq_true, if_false]
  exact ⟨h2, .refl _, k _ _ hw⟩
 obtain ⟨b, c, f, hb, hc, rfl, hh1, _⟩ := hw.form (by omega)
 refine Lp_mk (fun m vs h' => ∃ j : Nat, m = (len + 7) / 8 - j ∧ j ≤ (len + 7) / 8 ∧ New h zc 1 (.slice (some ⟨b, 0, none⟩) len c) h' (nv .u8 ((boxB n len).take (8 * j) ++ List.replicate (len - 8 * j) 0)) len ∧ vs = [.int .i64 ((8 * j : Nat) : Int)]) ((len + 7) / 8)
  ⟨0, rfl, Nat.zero_le _, by simpa using hw, rfl⟩ ?_
 clear hw hh1
 rintro m vs h2 ⟨j, hm, hj, hw, rfl⟩
 simp (disch := omega) only [GL, RL, wi64, zL]
 by_cases hlt : 8 * j < len
 ·simp only [hlt, decide_true, if_true]
  obtain ⟨b', c', f', hb', _, hv', hh', hfz⟩ := hw.form (by omega)
  simp only [Value.slice.injEq, Option.some.injEq, Addr.mk.injEq] at hv'
  obtain ⟨⟨rfl, _⟩, _, rfl⟩ := hv'
  have hcut : SL.cut (some ⟨b, 0, none⟩) c (8 * j) 1 = some ⟨b, 8 * j, none⟩ := by
   unfold SL.cut
   rw [if_neg (by omega), Option.map_some, z1d]
   simp
  have esl : ∀ H : Hp, peek P H (Instr.sliceAt zd (.slice (some ⟨b, 0, none⟩) len c) (some (.int .i64 ((8 * j : Nat) : Int))) none none) = some (.slice (some ⟨b, 8 * j, none⟩) (len - 8 * j) (c - 8 * j)) := fun H => by
   obtain ⟨x, hx, e⟩ := z1v (K := fun x => x = .slice (some ⟨b, 8 * j, none⟩) (len - 8 * j) (c - 8 * j)) ((zaW (P := P) (h := H) (K := fun x => x = .slice (some ⟨b, 8 * j, none⟩) (len - 8 * j) (c - 8 * j)) za zp (some ⟨b, 0, none⟩) len c .i64 (8 * j) (by omega) (by omega)).mpr (by rw [hcut]))
   rw [e] at hx
   exact hx
  rw [q_of (esl _)]
  simp (disch := omega) only [GL, RL, z2j]
  refine zc0 n (by omega) fun t19 h3 n3 => ?_
  refine ⟨esl _, ?_⟩
  have hb3 : h3 b = some (.row zc (nv .u8 ((boxB n len).take (8 * j) ++ List.replicate (len - 8 * j) 0)) (c * 1) (some f')) := n3.ext _ _ (by rw [hh']; exact Hp.set_same ..)
  have lx : ((boxB n len).take (8 * j) ++ List.replicate (len - 8 * j) 0).length = len := by rw [List.length_append, List.length_take, z2M, List.length_replicate]; omega
  have r3 : Rds h3 1 t19 (nv .u8 (bg 8 n)) 8 := by have := n3.rn; unfold Rn at this; rwa [z2p] at this
  refine zkL za zp hb3 r3 (zq _ _) (by rw [ze, lx]; omega) (fun i hi => hfz i (by rw [ze, lx] at hi; omega)) ?_
  have e8 : ((8 * j : Nat) : Int) + 8 = ((8 * (j + 1) : Nat) : Int) := by omega
  simp (disch := omega) only [GL, RL, wi64, e8]
  rw [zcp, zfH _ _ _ (by rw [List.length_take, z2p, lx]; omega), zmH n len j hlt]
  refine ⟨h.set b (.row zc (nv .u8 ((boxB n len).take (8 * (j + 1)) ++ List.replicate (len - 8 * (j + 1)) 0)) (c * 1) (some f')), z4z ((New.le hw).trans n3.le), m - 1, by omega, j + 1, by omega, by omega, ⟨?_, .inr ⟨b, c, f', hb', by omega, rfl, rfl, hfz⟩⟩, rfl⟩
  rw [ze, List.length_append, List.length_take, z2M, List.length_replicate]; omega
 ·simp only [hlt, decide_false, Bool.false_eq_true, if_false]
  refine ⟨h2, .refl _, k _ _ ?_⟩
  rw [List.take_of_length_le (by rw [z2M]; omega), show len - 8 * j = 0 by omega, List.replicate_zero, List.append_nil] at hw
  unfold Nn
  rw [z2M]
  exact hw
end
set_option maxHeartbeats 4000000
theorem zk1 : sz P zI = some 138 := by kernel_rfl
def zHash : List Value := nv .u32 (List.replicate 72 0) ++ (nv .u8 (List.replicate 64 0) ++ [.int .i64 0, .int .u64 0])
theorem zq2 : zr P zI = some (.agg zHash.toArray) := by kernel_rfl
theorem zgo : zHash.length = 138 := by decide +kernel
theorem bldK {h : Hp} {K : Value → Prop} : q P h (Instr.build z1F #[(0, (Value.int .u32 1116352408)), (1, (Value.int .u32 1899447441)), (2, (Value.int .u32 3049323471)), (3, (Value.int .u32 3921009573)), (4, (Value.int .u32 961987163)), (5, (Value.int .u32 1508970993)), (6, (Value.int .u32 2453635748)), (7, (Value.int .u32 2870763221)), (8, (Value.int .u32 3624381080)), (9, (Value.int .u32 310598401)), (10, (Value.int .u32 607225278)), (11, (Value.int .u32 1426881987)), (12, (Value.int .u32 1925078388)), (13, (Value.int .u32 2162078206)), (14, (Value.int .u32 2614888103)), (15, (Value.int .u32 3248222580)), (16, (Value.int .u32 3835390401)), (17, (Value.int .u32 4022224774)), (18, (Value.int .u32 264347078)), (19, (Value.int .u32 604807628)), (20, (Value.int .u32 770255983)), (21, (Value.int .u32 1249150122)), (22, (Value.int .u32 1555081692)), (23, (Value.int .u32 1996064986)), (24, (Value.int .u32 2554220882)), (25, (Value.int .u32 2821834349)), (26, (Value.int .u32 2952996808)), (27, (Value.int .u32 3210313671)), (28, (Value.int .u32 3336571891)), (29, (Value.int .u32 3584528711)), (30, (Value.int .u32 113926993)), (31, (Value.int .u32 338241895)), (32, (Value.int .u32 666307205)), (33, (Value.int .u32 773529912)), (34, (Value.int .u32 1294757372)), (35, (Value.int .u32 1396182291)), (36, (Value.int .u32 1695183700)), (37, (Value.int .u32 1986661051)), (38, (Value.int .u32 2177026350)), (39, (Value.int .u32 2456956037)), (40, (Value.int .u32 2730485921)), (41, (Value.int .u32 2820302411)), (42, (Value.int .u32 3259730800)), (43, (Value.int .u32 3345764771)), (44, (Value.int .u32 3516065817)), (45, (Value.int .u32 3600352804)), (46, (Value.int .u32 4094571909)), (47, (Value.int .u32 275423344)), (48, (Value.int .u32 430227734)), (49, (Value.int .u32 506948616)), (50, (Value.int .u32 659060556)), (51, (Value.int .u32 883997877)), (52, (Value.int .u32 958139571)), (53, (Value.int .u32 1322822218)), (54, (Value.int .u32 1537002063)), (55, (Value.int .u32 1747873779)), (56, (Value.int .u32 1955562222)), (57, (Value.int .u32 2024104815)), (58, (Value.int .u32 2227730452)), (59, (Value.int .u32 2361852424)), (60, (Value.int .u32 2428436474)), (61, (Value.int .u32 2756734187)), (62, (Value.int .u32 3204031479)), (63, (Value.int .u32 3329325298))]) K = K (.agg (nv .u32 shaK).toArray) := q_of (by kernel_rfl) K
theorem bldH {h : Hp} {K : Value → Prop} : q P h (Instr.build zZ #[(0, (Value.int .u32 1779033703)), (1, (Value.int .u32 3144134277)), (2, (Value.int .u32 1013904242)), (3, (Value.int .u32 2773480762)), (4, (Value.int .u32 1359893119)), (5, (Value.int .u32 2600822924)), (6, (Value.int .u32 528734635)), (7, (Value.int .u32 1541459225))]) K = K (.agg (nv .u32 shaH).toArray) := q_of (by kernel_rfl) K
theorem zrs {h : Hp} {K : Value → Prop} : q P h (Instr.build zI #[(0, .agg (nv .u32 shaH).toArray), (1, .agg (nv .u32 shaK).toArray)]) K = K (.agg (zU shaH (List.replicate 64 0) 0 0).toArray) := q_of (by kernel_rfl) K
theorem s64 {h : Hp} {K : Value → Prop} (r : Nat) : q P h (Instr.sliceAt zkw (.pointer (some ⟨r, 72, none⟩)) none none none) K = K (.slice (some ⟨r, 72, none⟩) 64 64) := q_of (by kernel_rfl) K
theorem zo9 {st wt : List Nat} {many all : Nat} (ls : st.length = 8) (lw : wt.length = 64) (i : Nat) (hi : i < 64) : (zU st wt many all)[72 + i]? = some (.int .u8 ((wt.getD i 0 : Nat) : Int)) := by
 have l1 : (nv .u32 st).length = 8 := by rw [ze, ls]
 have l2 : (nv .u32 shaK).length = 64 := by rw [ze, z2O]
 rw [zU, List.getElem?_append_right (by omega), l1, z5u, List.getElem?_append_right (by omega), l2, List.getElem?_append_left (by rw [ze]; omega), show 72 + i - 8 - 64 = i by omega, z1g _ _ _ (by omega)]
theorem zgp {st wt : List Nat} {many all : Nat} (ls : st.length = 8) (lw : wt.length = 64) : (zU st wt many all)[136]? = some (.int .i64 (many : Int)) := by
 have l1 : (nv .u32 st).length = 8 := by rw [ze, ls]
 have l2 : (nv .u32 shaK).length = 64 := by rw [ze, z2O]
 have l3 : (nv .u8 wt).length = 64 := by rw [ze, lw]
 rw [zU, List.getElem?_append_right (by omega), l1, z5u, List.getElem?_append_right (by omega), l2, List.getElem?_append_right (by omega), l3]
 rfl
theorem zgq {st wt : List Nat} {many all : Nat} (ls : st.length = 8) (lw : wt.length = 64) : (zU st wt many all)[137]? = some (.int .u64 (all : Int)) := by
 have l1 : (nv .u32 st).length = 8 := by rw [ze, ls]
 have l2 : (nv .u32 shaK).length = 64 := by rw [ze, z2O]
 have l3 : (nv .u8 wt).length = 64 := by rw [ze, lw]
 rw [zU, List.getElem?_append_right (by omega), l1, z5u, List.getElem?_append_right (by omega), l2, List.getElem?_append_right (by omega), l3]
 rfl
theorem zc3 {st wt : List Nat} {many all : Nat} (ls : st.length = 8) (lw : wt.length = 64) (x : Nat) : (zU st wt many all).set 136 (.int .i64 (x : Int)) = zU st wt x all := by
 have l1 : (nv .u32 st).length = 8 := by rw [ze, ls]
 have l2 : (nv .u32 shaK).length = 64 := by rw [ze, z2O]
 have l3 : (nv .u8 wt).length = 64 := by rw [ze, lw]
 rw [zU, List.set_append_right _ _ (by omega), l1, z5u, List.set_append_right _ _ (by omega), l2, List.set_append_right _ _ (by omega), l3]
 rfl
theorem ziF {st wt : List Nat} {many all : Nat} (ls : st.length = 8) (lw : wt.length = 64) (x : Nat) : (zU st wt many all).set 137 (.int .u64 (x : Int)) = zU st wt many x := by
 have l1 : (nv .u32 st).length = 8 := by rw [ze, ls]
 have l2 : (nv .u32 shaK).length = 64 := by rw [ze, z2O]
 have l3 : (nv .u8 wt).length = 64 := by rw [ze, lw]
 rw [zU, List.set_append_right _ _ (by omega), l1, z5u, List.set_append_right _ _ (by omega), l2, List.set_append_right _ _ (by omega), l3]
 rfl
theorem zmI {st wt c : List Nat} {many all : Nat} (ls : st.length = 8) (lw : wt.length = 64) (hm : many + c.length ≤ 64) : putL (zU st wt many all) (72 + many) (nv .u8 c) = zU st (wt.take many ++ c ++ wt.drop (many + c.length)) many all := by
 have l1 : (nv .u32 st).length = 8 := by rw [ze, ls]
 have l2 : (nv .u32 shaK).length = 64 := by rw [ze, z2O]
 rw [zco _ _ _ (by rw [z3G ls lw, ze]; omega)]
 have e1 : (zU st wt many all) = (nv .u32 st ++ nv .u32 shaK) ++ (nv .u8 wt ++ [.int .i64 (many : Int), .int .u64 (all : Int)]) := by simp only [zU, z5u, List.append_assoc]
 have l12 : (nv .u32 st ++ nv .u32 shaK).length = 72 := by rw [List.length_append]; omega
 have lt : (nv .u8 wt).length = 64 := by rw [ze, lw]
 rw [e1, List.take_append, List.take_of_length_le (by omega), l12, Nat.add_sub_cancel_left, List.take_append_of_le_length (by omega), List.drop_append, List.drop_of_length_le (by omega), List.nil_append, l12, show 72 + many + (nv .u8 c).length - 72 = many + c.length by rw [ze]; omega, List.drop_append_of_le_length (by omega)]
 simp only [zU, z5u, z13, zcp, List.append_assoc]
 have : List.drop (many + c.length) (nv .u8 wt) = nv .u8 (wt.drop (many + c.length)) := by unfold nv; rw [List.map_drop]
 rw [this]
section
variable {h : Hp} {K : Value → Hp → Prop}
theorem zjm (k : K (.agg (nv .u32 shaK).toArray) h) : Cn P zep #[] h K := by
 refine Cn_wk (zeC ?_)
 unfold z8a
 refine zS (List.replicate 64 (Value.int .u32 0)) z9V rfl fun r hr => ?_
 have hl : (nv .u32 shaK).length = 64 := by rw [ze, z2O]
 rw [bldK]
 refine zD (ys := nv .u32 shaK) (by rw [hl]; exact z3V) (Hp.set_same ..) (by rw [hl, List.length_replicate]) (zq _ _) (fun i _ => by simp) ?_
 rw [z33 (ys := nv .u32 shaK) z8q rfl (by rw [hl]; exact z3V) (Hp.set_same ..)]
 refine ⟨h, ?_, k⟩
 rw [Hp.set_set]
 exact zP hr
theorem zjn (k : K (.agg (nv .u32 shaH).toArray) h) : Cn P zeo #[] h K := by
 refine Cn_wk (zeB ?_)
 unfold z89
 refine zS (List.replicate 8 (Value.int .u32 0)) zk0 rfl fun r hr => ?_
 have hl : (nv .u32 shaH).length = 8 := by rw [ze, ze6]
 rw [bldH]
 refine zD (ys := nv .u32 shaH) (by rw [hl]; exact z5d) (Hp.set_same ..) (by rw [hl, List.length_replicate]) (zq _ _) (fun i _ => by simp) ?_
 rw [z33 (ys := nv .u32 shaH) z9x rfl (by rw [hl]; exact z5d) (Hp.set_same ..)]
 refine ⟨h, ?_, k⟩
 rw [Hp.set_set]
 exact zP hr
def HashRow (h : Hp) (p : Nat) (st wt : List Nat) (many all : Nat) : Prop := h p = some (.row zI (zU st wt many all) 138 (some (0, 0)))
theorem zle {p : Nat} {v1 : Value} {st wt b : List Nat} {many all : Nat} (hb : HashRow h p st wt many all) (ws : W32 st) (ls : st.length = 8) (lw : wt.length = 64) (hv : Rn h .u8 v1 b) (bb : Bytes b) (lb : b.length = 64)
  (k : K (.tuple #[]) (h.set p (.row zI (zU (z6j shaK st b) wt many all) 138 (some (0, 0))))) : Cn P zdE #[.pointer (some ⟨p, 0, none⟩), v1] h K := by
 refine Cn_wk (zdV ?_)
 unfold z7O
 refine zld hv bb lb ?_
 have lW := ze5 b
 have wW := zmC bb
 unfold z6j at k
 generalize schL b = W at lW wW k ⊢
 have lnW : (nv .u32 W).length = 64 := by rw [ze, lW]
 have lnS : (nv .u32 st).length = 8 := by rw [ze, ls]
 refine zS (List.replicate 64 (Value.int .u32 0)) z9V rfl fun r4 hr4 => ?_
 refine zD (ys := nv .u32 W) (by rw [lnW]; exact z3V) (Hp.set_same ..) (by rw [lnW, List.length_replicate]) (zq _ _) (fun i _ => by simp) ?_
 rw [Hp.set_set, List.length_replicate]
 have n4 : p ≠ r4 := by rintro rfl; rw [HashRow, hr4] at hb; cases hb
 have hb4 : (h.set r4 (.row z1F (nv .u32 W) 64 (some (0, 0)))) p = some (.row zI (zU st wt many all) 138 (some (0, 0))) := by rw [Hp.set_ne _ _ n4]; exact hb
 have b4 : (h.set r4 (.row z1F (nv .u32 W) 64 (some (0, 0)))) r4 = some (.row z1F (nv .u32 W) 64 (some (0, 0))) := Hp.set_same ..
 have le4 : ∀ r5 o, (h.set r4 (.row z1F (nv .u32 W) 64 (some (0, 0)))) r5 = none → Hp.le h ((h.set r4 (.row z1F (nv .u32 W) 64 (some (0, 0)))).set r5 o) := fun r5 o e => (zP hr4).trans (zP e)
 generalize h.set r4 (.row z1F (nv .u32 W) 64 (some (0, 0))) = base at hb4 b4 le4 ⊢
 simp (disch := omega) only [GL, RL, ht0]
 rw [z7i (ys := nv .u32 st) z9x rfl (by rw [lnS]; exact z5d) fun j x e => by
  rw [zj hb4, Nat.zero_add, zU, List.getElem?_append_left (List.getElem?_eq_some_iff.1 e).1]; exact e]
 refine zS (List.replicate 8 (Value.int .u32 0)) zk0 rfl fun r5 hr5 => ?_
 refine zD (ys := nv .u32 st) (by rw [lnS]; exact z5d) (Hp.set_same ..) (by rw [lnS, List.length_replicate]) (zq _ _) (fun i _ => by simp) ?_
 rw [Hp.set_set, List.length_replicate]
 have n5 : p ≠ r5 := by rintro rfl; rw [hr5] at hb4; cases hb4
 have n45 : r4 ≠ r5 := by rintro rfl; rw [hr5] at b4; cases b4
 refine Lp_mk (fun m vs h' => ∃ i : Nat, i + m = 64 ∧ h' = base.set r5 (.row zZ (nv .u32 (rnds shaK W st i)) 8 (some (0, 0))) ∧ vs = [.int .i64 (i : Int)]) 64 ⟨0, rfl, rfl, rfl⟩ ?_
 rintro m vs h' ⟨i, hi, rfl, rfl⟩
 have e64 : decide ((i : Int) < 64) = decide (i < 64) := zL i 64
 simp only [List.getD_cons_zero]
 refine (zkj _ _ _ _).mpr ?_
 refine (z5W _ _ _).mpr ?_
 rw [e64]
 have wr := ziA (K := shaK) (w := W) ws i
 have lr := ziB (K := shaK) (w := W) ls i
 by_cases hlt : i < 64
 ·rw [if_pos (by simp [hlt])]
  exact zo8 wr lr wW lW hlt b4 n45 n5 (by rw [zj hb4]; exact zq1 ls i hlt) ⟨_, .refl _, m - 1, by omega, i + 1, by omega, rfl, rfl⟩
 rw [if_neg (by simp [hlt])]
 obtain rfl : i = 64 := by omega
 generalize rnds shaK W st 64 = V at wr lr k ⊢
 have hb5 : (base.set r5 (.row zZ (nv .u32 V) 8 (some (0, 0)))) p = some (.row zI (zU st wt many all) 138 (some (0, 0))) := by rw [Hp.set_ne _ _ n5]; exact hb4
 have v5 : ∀ X : AObj, ((base.set r5 (.row zZ (nv .u32 V) 8 (some (0, 0)))).set p X) r5 = some (.row zZ (nv .u32 V) 8 (some (0, 0))) := fun X => by rw [Hp.set_ne _ _ (Ne.symm n5), Hp.set_same]
 have le5 := le4 r5 (.row zZ (nv .u32 V) 8 (some (0, 0))) hr5
 generalize base.set r5 (.row zZ (nv .u32 V) 8 (some (0, 0))) = B5 at hb5 v5 le5 ⊢
 refine Lp_mk (fun m vs h' => ∃ i : Nat, i + m = 8 ∧ h' = B5.set p (.row zI (zU (addS st V i ++ st.drop i) wt many all) 138 (some (0, 0))) ∧ vs = [.int .i64 (i : Int)]) 8 ⟨0, rfl, (Hp.set_id hb5).symm, rfl⟩ ?_
 rintro m vs h' ⟨i, hi, rfl, rfl⟩
 have e8 : decide ((i : Int) < 8) = decide (i < 8) := zL i 8
 have lA := ziC st V i
 by_cases hlt : i < 8
 ·have lS : (addS st V i ++ st.drop i).length = 8 := by rw [List.length_append, lA, List.length_drop]; omega
  have c1 : ∀ o, (B5.set p (.row zI (zU (addS st V i ++ st.drop i) wt many all) 138 o)).cell ⟨p, i, none⟩ = some (.int .u32 ((st.getD i 0 : Nat) : Int)) := fun o => by
   rw [zj (Hp.set_same ..), zo7 _ (by omega)]
   congr 3
   rw [List.getD_eq_getElem?_getD, List.getElem?_append_right (by omega), lA, Nat.sub_self, List.getElem?_drop, Nat.add_zero, List.getD_eq_getElem?_getD]
  have c2 : ∀ X, (B5.set p X).cell ⟨r5, i, none⟩ = some (.int .u32 ((V.getD i 0 : Nat) : Int)) := fun X => by
   rw [zj (v5 X), z1g _ _ _ (by omega)]
  simp (disch := omega) only [GL, RL, e8, hlt, decide_true, if_true, ht0, c1, c2, z3J, wi64]
  refine z26 z1y rfl (z2b (Hp.set_same ..) (by rw [z3G lS lw]; omega) (by simp) _) ?_
  refine ⟨_, .refl _, m - 1, by omega, i + 1, by omega, ?_, rfl⟩
  rw [Hp.set_set, zmG _ _ (by omega)]
  have e1 : (addS st V i ++ st.drop i).set i ((st.getD i 0 + V.getD i 0) % 4294967296) = addS st V (i + 1) ++ st.drop (i + 1) := by
   rw [List.set_append_right _ _ (by omega), lA, Nat.sub_self, List.drop_eq_getElem_cons (by omega), List.set_cons_zero, zmD, List.append_assoc]
   rfl
  rw [e1]
 obtain rfl : i = 8 := by omega
 simp (disch := omega) only [GL, RL, e8, hlt, decide_false, Bool.false_eq_true, if_false]
 rw [List.drop_of_length_le (by omega), List.append_nil]
 exact ⟨_, z4z le5, k⟩
end
theorem zq3 (h : Hp) (p : Nat) (X : AObj) : Hp.cle (h.del p) (h.set p X) := fun a v e => by
 unfold Hp.cell at e ⊢
 by_cases q : a.block = p
 ·rw [q, Hp.del_same] at e
  split at e
  ·cases e
  ·cases e
 ·rw [Hp.del_ne _ q] at e
  rw [Hp.set_ne _ _ q]
  exact e
theorem zrt {h : Hp} {p : Nat} {st wt : List Nat} {many all : Nat} (ls : st.length = 8) (lw : wt.length = 64) (e : HashRow h p st wt many all) : Rn h .u8 (.slice (some ⟨p, 72, none⟩) 64 64) wt :=
 ⟨by rw [ze]; omega, _, 64, by rw [lw], by omega, .inr ⟨p, 72, rfl, fun j x ex => by
  have hj : j < wt.length := by have := (List.getElem?_eq_some_iff.1 ex).1; rwa [ze] at this
  rw [z1g _ _ _ hj] at ex
  rw [zj e, zo9 ls lw j (by omega)]
  exact ex⟩⟩
section
variable {h : Hp} {K : Value → Hp → Prop}
theorem ziG (k : ∀ p, h p = none → K (.pointer (some ⟨p, 0, none⟩)) (h.set p (.row zI (zU shaH (List.replicate 64 0) 0 0) 138 (some (0, 0))))) : Cn P zlL #[] h K := by
 refine zlO ?_
 unfold zg8
 refine zjn ?_
 refine zjm ?_
 rw [zrs]
 refine z2S fun p hp => ?_
 have e : (Value.agg (zU shaH (List.replicate 64 0) 0 0).toArray).cells.size = 138 := by
  show (zU shaH (List.replicate 64 0) 0 0).toArray.size = 138
  rw [List.size_toArray, z3G rfl (by rw [List.length_replicate])]
 rw [e]
 exact k p hp
theorem z9W {p : Nat} {v : Value} {st wt M b : List Nat} {many all : Nat} (hb : HashRow h p st wt many all) (hs : Hst M st wt many) (bw : Bytes wt) (hv : Rn (h.del p) .u8 v b) (bb : Bytes b) (lb : b.length ≤ 1099511627776) (la : all < 18446744073709551616)
  (k : ∀ st' wt' many', Hst (M ++ b) st' wt' many' → Bytes wt' → K (.tuple #[]) (h.set p (.row zI (zU st' wt' many' ((all + b.length) % 18446744073709551616)) 138 (some (0, 0))))) :
  Cn P zfn #[.pointer (some ⟨p, 0, none⟩), v] h K := by
 refine zfz ?_
 unfold z8Z
 have ls := hs.len
 have lw := hs.2.2.1
 obtain ⟨a0, c0, rfl, hc0⟩ := hv.shape
 have c137 : h.cell ⟨p, 137, none⟩ = some (.int .u64 (all : Int)) := by rw [zj hb]; exact zgq ls lw
 have ea : ((all : Int) + (b.length : Int)) = ((all + b.length : Nat) : Int) := by omega
 simp (disch := omega) only [GL, RL, ht4, c137, z2j, ea, wu64]
 refine z26 z14 rfl (z2b hb (by rw [z3G ls lw]; omega) (by simp) _) ?_
 rw [ziF ls lw]
 generalize (all + b.length) % 18446744073709551616 = all' at k ⊢
 refine Lp_mk (fun m vs h' => ∃ (i : Nat) (st wt : List Nat) (many : Nat) (v' : Value), m = b.length - i ∧ i ≤ b.length ∧ h' = h.set p (.row zI (zU st wt many all') 138 (some (0, 0))) ∧ Hst (M ++ b.take i) st wt many ∧ Bytes wt ∧ Rn (h.del p) .u8 v' (b.drop i) ∧ vs = [v']) b.length
  ⟨0, st, wt, many, _, rfl, by omega, rfl, by simpa using hs, bw, by simpa using hv, rfl⟩ ?_
 clear hs bw ls lw c137 hb
 rintro m vs h' ⟨i, st, wt, many, v', rfl, hi, rfl, hs, bw, hr, rfl⟩
 have ls := hs.len
 have ws := hs.w
 have lw := hs.2.2.1
 have hm := hs.many_lt
 obtain ⟨a1, c1, rfl, hc1⟩ := hr.shape
 have ld : (b.drop i).length = b.length - i := List.length_drop ..
 have e0 : decide ((0 : Int) < (((b.drop i).length : Nat) : Int)) = decide (i < b.length) := by rw [decide_eq_decide, ld]; omega
 simp (disch := omega) only [GL, RL, e0]
 by_cases hlt : i < b.length
 case neg =>
  simp only [hlt, decide_false, Bool.false_eq_true, if_false]
  rw [List.take_of_length_le (by omega)] at hs
  exact k _ _ _ hs bw
 simp only [hlt, decide_true, if_true]
 have q136 : ∀ st wt many, st.length = 8 → wt.length = 64 → (h.set p (.row zI (zU st wt many all') 138 (some (0, 0)))).cell ⟨p, 136, none⟩ = some (.int .i64 (many : Int)) := fun st wt many ls lw => by
  rw [zj (Hp.set_same ..)]; exact zgp ls lw
 have q1 := q136 st wt many ls lw
 simp (disch := omega) only [GL, RL, ht2, ht3, q1]
 rw [zga (n := 64) (s := 1) zkA zp _ _ many (by omega), if_neg (by omega)]
 simp only [z1d, Nat.mul_one]
 obtain ⟨c, hcc⟩ : ∃ c, (b.drop i).take (64 - many) = c := ⟨_, rfl⟩
 have lc : c.length = min (64 - many) (b.length - i) := by rw [← hcc, List.length_take, ld]
 have hr' := hr.mono (zq3 h p (.row zI (zU st wt many all') 138 (some (0, 0))))
 refine zdg (xs := zU st wt many all') (f := (0, 0)) (n := (b.drop i).length) (ys := nv .u8 (b.drop i)) za zp (Hp.set_same ..) hr' (zq _ _) (by rw [z3G ls lw]; omega) (fun j _ => by simp) ?_
 rw [zcp, hcc, zmI ls lw (by omega), Hp.set_set]
 have en : Nat.min (b.drop i).length (64 - many) = c.length := by rw [lc, ld]; exact Nat.min_comm _ _
 rw [en]
 obtain ⟨wt', hwt'⟩ : ∃ wt', wt.take many ++ c ++ wt.drop (many + c.length) = wt' := ⟨_, rfl⟩
 have bc : Bytes c := by rw [← hcc]; exact (bb.drop _).take _
 have bw' : Bytes wt' := by rw [← hwt']; exact ((bw.take _).append bc).append (bw.drop _)
 have lw' : wt'.length = 64 := by rw [← hwt', List.length_append, List.length_append, List.length_take, List.length_drop]; omega
 have etk : b.take (i + c.length) = b.take i ++ c := by
  have h1 := List.take_append_drop i b
  have h2 : c = (b.drop i).take c.length := by
   rcases Nat.le_total (64 - many) (b.drop i).length with q | q
   ·rw [show c.length = 64 - many by omega]; exact hcc.symm
   ·rw [show c.length = (b.drop i).length by omega, List.take_length, ← hcc, List.take_of_length_le q]
  conv => lhs; rw [← h1]
  have l1 : (b.take i).length = i := by rw [List.length_take]; omega
  rw [List.take_append, List.take_of_length_le (by omega), l1, Nat.add_sub_cancel_left, ← h2]
 have q2 := q136 st wt' many ls lw'
 have es : ((many : Int) + (c.length : Int)) = ((many + c.length : Nat) : Int) := by omega
 rw [hwt']
 simp (disch := omega) only [GL, RL, ht3, q2, es, wi64]
 refine z26 z1U rfl (z2b (Hp.set_same ..) (by rw [z3G ls lw']; omega) (by simp) _) ?_
 rw [Hp.set_set, zc3 ls lw']
 rw [zaW (lo := c.length) za zp a1 (b.drop i).length c1 .i64 (by omega) (by omega)]
 have hr2 : Rn (h.del p) .u8 (.slice (SL.cut a1 c1 c.length 1) ((b.drop i).length - c.length) (c1 - c.length)) (b.drop (i + c.length)) := by
  have := hr.cut c.length (b.drop i).length (by omega) (Nat.le_refl _)
  rwa [List.take_length, List.drop_drop] at this
 have q3 := q136 st wt' (many + c.length) ls lw'
 have e64 : ((((many + c.length : Nat) : Int)) == 64) = decide (many + c.length = 64) := by rw [Bool.eq_iff_iff, beq_iff_eq, decide_eq_true_eq]; omega
 simp (disch := omega) only [GL, RL, ht3, q3, e64]
 have c0' : 0 < c.length := by omega
 by_cases hf : many + c.length = 64
 ·simp (disch := omega) only [hf, decide_true, if_true, GL, RL, ht2, s64]
  have hR : HashRow (h.set p (.row zI (zU st wt' 64 all') 138 (some (0, 0)))) p st wt' 64 all' := Hp.set_same ..
  refine zle hR ws ls lw' (zrt ls lw' hR) bw' lw' ?_
  have lwk := zgm shaK st wt'
  refine z26 z1U rfl (z2b (Hp.set_same ..) (by rw [z3G lwk lw']; omega) (by simp) _) ?_
  have e136 := zc3 (many := 64) (all := all') lwk lw' 0
  rw [Hp.set_set, Hp.set_set]
  refine ⟨_, .refl _, b.length - (i + c.length), by omega, i + c.length, z6j shaK st wt', wt', 0, _, rfl, by omega, by rw [← e136]; rfl, ?_, bw', hr2, rfl⟩
  have := hs.full c hf
  rw [hwt', List.append_assoc, ← etk] at this
  exact this
 ·simp (disch := omega) only [hf, decide_false, Bool.false_eq_true, if_false]
  refine ⟨_, .refl _, b.length - (i + c.length), by omega, i + c.length, st, wt', many + c.length, _, rfl, by omega, rfl, ?_, bw', hr2, rfl⟩
  have := hs.part c (by omega)
  rw [hwt', List.append_assoc, ← etk] at this
  exact this
theorem ziH {p : Nat} {st wt M : List Nat} {many : Nat} (hb : HashRow h p st wt many M.length) (hs : Hst M st wt many) (bw : Bytes wt) (lM : M.length ≤ 1099511627776)
  (k : ∀ r h', Nn h zc .u8 r h' (shaL M) → K r h') : Cn P zfo #[.pointer (some ⟨p, 0, none⟩)] h K := by
 refine Cn_wk (zfA ?_)
 unfold z90
 have ls := hs.len
 have lw := hs.2.2.1
 have hm := hs.many_lt
 have lC := z3G (many := many) (all := M.length) ls lw
 refine (z9m _).mpr ?_
 rw [z1w (ys := zU st wt many M.length) zkB rfl (by rw [lC]; exact zk1) hb]
 refine zS zHash zq2 rfl fun r3 hr3 => ?_
 have flC : ∀ y ∈ zU st wt many M.length, flat y = true := by
  intro y hy
  rcases List.mem_append.1 hy with q | q
  ·exact zq _ _ y q
  rcases List.mem_append.1 q with q | q
  ·exact zq _ _ y q
  rcases List.mem_append.1 q with q | q
  ·exact zq _ _ y q
  ·simp only [List.mem_cons, List.not_mem_nil, or_false] at q
   rcases q with rfl | rfl <;> rfl
 refine zD (ys := zU st wt many M.length) (by rw [lC]; exact zk1) (Hp.set_same ..) (by rw [lC, zgo]) flC (fun i _ => by simp) ?_
 rw [Hp.set_set, zgo]
 have n3 : p ≠ r3 := by rintro rfl; rw [HashRow, hr3] at hb; cases hb
 have hb3 : HashRow (h.set r3 (.row zI (zU st wt many M.length) 138 (some (0, 0)))) p st wt many M.length := by rw [HashRow, Hp.set_ne _ _ n3]; exact hb
 have c136 : (h.set r3 (.row zI (zU st wt many M.length) 138 (some (0, 0)))).cell ⟨p, 136, none⟩ = some (.int .i64 (many : Int)) := by rw [zj hb3]; exact zgp ls lw
 have e119 : (119 : Int) - (many : Int) = ((119 - many : Nat) : Int) := by omega
 have em : ((119 - many : Nat) : Int).tmod 64 = (((119 - many) % 64 : Nat) : Int) := by rw [Int.tmod_eq_emod_of_nonneg (by omega)]; exact (Int.natCast_emod _ 64).symm
 have e1 : (1 : Int) + (((119 - many) % 64 : Nat) : Int) = ((1 + (119 - many) % 64 : Nat) : Int) := by omega
 have hlt64 : (119 - many) % 64 < 64 := Nat.mod_lt _ (by omega)
 simp (disch := omega) only [GL, RL, ht3, c136, e119, wi64, em, e1]
 obtain ⟨np, hnp⟩ : ∃ np, (119 - many) % 64 = np := ⟨_, rfl⟩
 rw [hnp] at hlt64 ⊢
 refine z2w (n := 1 + np) (c := 1 + np) za zw rfl (Nat.le_refl _) (by omega) (by omega) fun t18 h4 n4 => ?_
 obtain ⟨bb, cb, fb, hbb, _, rfl, _, _⟩ := n4.form (by omega)
 rw [z1E] at n4
 simp (disch := omega) only [GL, RL, Int.toNat_zero]
 refine z1K (i := 0) zp n4 (by omega) rfl fun h5 n5 => ?_
 have epad : (List.replicate (1 + np) 0).set 0 128 = padE M.length := by
  rw [Nat.add_comm, List.replicate_succ, List.set_cons_zero]
  unfold padE
  rw [← hs.2.1]
  have : (119 - many) % 64 = np := hnp
  have e : (119 - M.length % 64) % 64 = np := by rw [← hs.2.1]; exact this
  rw [← hnp]; rfl
 have h128 : (128 : Int) = ((128 : Nat) : Int) := rfl
 rw [h128, z1O, epad] at n5
 have lpad : (padE M.length).length = 1 + np := by
  rw [← epad, List.length_set, List.length_replicate]
 have n5' : Nn (h.set r3 (.row zI (zU st wt many M.length) 138 (some (0, 0)))) zc .u8 (.slice (some ⟨bb, 0, none⟩) (1 + np) cb) h5 (padE M.length) := by unfold Nn; rw [lpad]; exact n5
 have x5 := n5'.ext
 have nb3 : bb ≠ r3 := by rintro rfl; rw [Hp.set_same] at hbb; cases hbb
 have hb5 : HashRow h5 r3 st wt many M.length := x5 _ _ (Hp.set_same ..)
 have hp5 : HashRow h5 p st wt many M.length := x5 _ _ hb3
 have rn5 : Rn (h5.del r3) .u8 (.slice (some ⟨bb, 0, none⟩) (1 + np) cb) (padE M.length) := by
  obtain ⟨e1, a, c, e2, e3, e4⟩ := n5'.rn
  refine ⟨e1, a, c, e2, e3, ?_⟩
  rcases e4 with e4 | ⟨b', o', ea, e4⟩
  ·exact .inl e4
  ·refine .inr ⟨b', o', ea, fun j x ex => ?_⟩
   have := e4 j x ex
   simp only [Value.slice.injEq] at e2
   rw [← e2.1] at ea
   simp only [Option.some.injEq, Addr.mk.injEq] at ea
   unfold Hp.cell at this ⊢
   rw [Hp.del_ne _ (by show b' ≠ r3; rw [← ea.1]; exact nb3)]
   exact this
 refine z9W hb5 hs bw rn5 (zf8 _) (by omega) (by omega) fun st1 wt1 many1 hs1 bw1 => ?_
 have c137 : (h5.set r3 (.row zI (zU st1 wt1 many1 ((M.length + (padE M.length).length) % 18446744073709551616)) 138 (some (0, 0)))).cell ⟨p, 137, none⟩ = some (.int .u64 ((M.length : Nat) : Int)) := by
  unfold Hp.cell
  rw [Hp.set_ne _ _ n3, hp5]
  exact zgq ls lw
 have e8 : (8 : Int) * (M.length : Int) = ((8 * M.length : Nat) : Int) := by omega
 simp (disch := omega) only [GL, RL, ht4, c137, e8, z2j]
 have lh5 : Hp.le h h5 := (zP hr3).trans x5.le
 have le5 : ∀ X, Hp.le h (h5.set r3 X) := fun X b o e => by
  have : b ≠ r3 := by rintro rfl; rw [hr3] at e; cases e
  rw [Hp.set_ne _ _ this]
  exact lh5 b o e
 obtain ⟨all1, hall1⟩ : ∃ a, (M.length + (padE M.length).length) % 18446744073709551616 = a := ⟨_, rfl⟩
 have hal : all1 < 18446744073709551616 := by rw [← hall1]; exact Nat.mod_lt _ (by decide)
 rw [hall1]
 have hb6 : HashRow (h5.set r3 (.row zI (zU st1 wt1 many1 all1) 138 (some (0, 0)))) r3 st1 wt1 many1 all1 := Hp.set_same ..
 have le6 := le5 (.row zI (zU st1 wt1 many1 all1) 138 (some (0, 0)))
 have none6 : (h5.set r3 (.row zI (zU st1 wt1 many1 all1) 138 (some (0, 0)))) r3 ≠ none := by rw [Hp.set_same]; simp
 generalize h5.set r3 (.row zI (zU st1 wt1 many1 all1) 138 (some (0, 0))) = h6 at hb6 le6 none6 ⊢
 refine zc0 (8 * M.length) (by omega) fun t28 h7 n7 => ?_
 have hb7 : HashRow h7 r3 st1 wt1 many1 all1 := n7.ext _ _ hb6
 obtain ⟨b7, c7, f7, hb7n, _, e7, hh7, _⟩ := n7.form (by rw [z2p]; omega)
 have nb7 : b7 ≠ r3 := by rintro rfl; exact none6 hb7n
 have rn7 : Rn (h7.del r3) .u8 t28 (bg 8 (8 * M.length)) := by
  obtain ⟨e1, a, c, e2, e3, e4⟩ := n7.rn
  refine ⟨e1, a, c, e2, e3, ?_⟩
  rcases e4 with e4 | ⟨b', o', ea, e4⟩
  ·exact .inl e4
  ·refine .inr ⟨b', o', ea, fun j x ex => ?_⟩
   have := e4 j x ex
   rw [e2] at e7
   simp only [Value.slice.injEq] at e7
   rw [ea] at e7
   simp only [Option.some.injEq, Addr.mk.injEq] at e7
   unfold Hp.cell at this ⊢
   rw [Hp.del_ne _ (by show b' ≠ r3; rw [e7.1.1]; exact nb7)]
   exact this
 refine z9W hb7 hs1 bw1 rn7 (z9R _ _) (by rw [z2p]; omega) hal fun st2 wt2 many2 hs2 bw2 => ?_
 have le7 : Hp.le h (h7.set r3 (.row zI (zU st2 wt2 many2 ((all1 + (bg 8 (8 * M.length)).length) % 18446744073709551616)) 138 (some (0, 0)))) := fun b o e => by
  have : b ≠ r3 := by rintro rfl; rw [hr3] at e; cases e
  rw [Hp.set_ne _ _ this]
  exact (le6.trans n7.ext.le) b o e
 have hrow : HashRow (h7.set r3 (.row zI (zU st2 wt2 many2 ((all1 + (bg 8 (8 * M.length)).length) % 18446744073709551616)) 138 (some (0, 0)))) r3 st2 wt2 many2 ((all1 + (bg 8 (8 * M.length)).length) % 18446744073709551616) := Hp.set_same ..
 generalize h7.set r3 (.row zI (zU st2 wt2 many2 ((all1 + (bg 8 (8 * M.length)).length) % 18446744073709551616)) 138 (some (0, 0))) = h8 at le7 hrow ⊢
 have ls2 := hs2.len
 have ws2 := hs2.w
 have lnS : (nv .u32 st2).length = 8 := by rw [ze, ls2]
 have hsha : shaL M = outS st2 8 := by
  have e : st2 = z48 shaK shaH (padS M) ((padS M).length / 64) := by
   have := hs2.1
   unfold padS
   exact this
  rw [e]; rfl
 rw [hsha] at k
 simp (disch := omega) only [GL, RL, ht0]
 rw [z7i (ys := nv .u32 st2) z9x rfl (by rw [lnS]; exact z5d) fun j x e => by
  rw [zj hrow, Nat.zero_add, zU, List.getElem?_append_left (List.getElem?_eq_some_iff.1 e).1]; exact e]
 refine Lp_mk (fun m vs h' => ∃ (i : Nat) (vo : Value), i + m = 8 ∧ Nn h8 zc .u8 vo h' (outS st2 i) ∧ vs = [vo, .int .i64 (i : Int)]) 8 ⟨0, .slice none 0 0, rfl, Nn.nil .., rfl⟩ ?_
 rintro m vs h9 ⟨i, vo, hi, nO, rfl⟩
 have e8' : decide ((i : Int) < 8) = decide (i < 8) := zL i 8
 simp (disch := omega) only [GL, RL, e8']
 by_cases hlt : i < 8
 ·simp only [hlt, decide_true, if_true]
  have idx : ∀ {H : Hp} {K : Value → Prop}, q P H (Instr.index zZ (.agg (nv .u32 st2).toArray) (.int .i64 (i : Int))) K = K (.int .u32 ((st2.getD i 0 : Nat) : Int)) := fun {H K} => by
   match st2, ls2, i, hlt with
   | [a, b, c, d, e, f, g, z], _, i, hlt =>
    have : i = 0 ∨ i = 1 ∨ i = 2 ∨ i = 3 ∨ i = 4 ∨ i = 5 ∨ i = 6 ∨ i = 7 := by omega
    rcases this with rfl | rfl | rfl | rfl | rfl | rfl | rfl | rfl <;> exact q_of (by kernel_rfl) K
  rw [idx]
  have hw := ws2.getD i
  refine ziy _ hw fun r hA nA => ?_
  have lo := z9U st2 i
  refine zQ za za zw rfl (by omega) nO nA (zq _ _) (by rw [lo, z2p]; omega) fun vo' hB nB => ?_
  simp (disch := omega) only [GL, RL, wi64]
  refine ⟨hB, .refl _, m - 1, by omega, i + 1, vo', by omega, ?_, rfl⟩
  rw [← z13] at nB
  unfold Nn
  rw [outS, List.length_append]
  exact nB
 simp only [hlt, decide_false, Bool.false_eq_true, if_false]
 obtain rfl : i = 8 := by omega
 obtain ⟨h0, l0, n0⟩ := Nn.down le7 nO
 exact ⟨h0, l0, k _ _ n0⟩
theorem zq4 {v : Value} {b : List Nat} (hv : Rn h .u8 v b) (bb : Bytes b) (lb : b.length ≤ 1099511627776) (k : ∀ r h', Nn h zc .u8 r h' (shaL b) → K r h') : Cn P znm #[v] h K := by
 refine Cn_wk (zno ?_)
 unfold zhL
 refine ziG fun p hp => ?_
 have hR : HashRow (h.set p (.row zI (zU shaH (List.replicate 64 0) 0 0) 138 (some (0, 0)))) p shaH (List.replicate 64 0) 0 0 := Hp.set_same ..
 have hd : Hp.cle h ((h.set p (.row zI (zU shaH (List.replicate 64 0) 0 0) 138 (some (0, 0)))).del p) := fun a x e => by
  unfold Hp.cell at e ⊢
  by_cases q : a.block = p
  ·rw [q, hp] at e
   split at e <;> cases e
  ·rw [Hp.del_ne _ q, Hp.set_ne _ _ q]; exact e
 refine z9W hR Hst.nil (by intro x hx; rw [(List.mem_replicate.1 hx).2]; decide) (hv.mono hd) bb lb (by decide) fun st wt many hs bw => ?_
 rw [Hp.set_set, List.nil_append] at *
 have e0 : (0 + b.length) % 18446744073709551616 = b.length := by omega
 rw [e0]
 refine ziH (M := b) (Hp.set_same ..) hs bw lb fun r h' n => ?_
 obtain ⟨h0, l0, n0⟩ := Nn.down (zP hp) n
 exact ⟨h0, l0, k _ _ n0⟩
end
set_option maxHeartbeats 1000000
def padK (key : List Nat) : List Nat := key ++ List.replicate (64 - key.length) 0
def z7c (key : List Nat) (x : Nat) : List Nat := (padK key).map (· ^^^ x)
def keyL (key : List Nat) : List Nat := if 64 < key.length then shaL key else key
def z2k (key m : List Nat) : List Nat := shaL (z7c (keyL key) 92 ++ shaL (z7c (keyL key) 54 ++ m))
def z6d (secret salt info : List Nat) : List Nat := z2k (z2k salt secret) (info ++ [1])
theorem z9X (key : List Nat) : (keyL key).length ≤ 64 := by
 unfold keyL
 split
 ·rw [z4U]; decide
 ·omega
theorem z7d {key : List Nat} (h : Bytes key) : Bytes (keyL key) := by
 unfold keyL
 split
 ·exact z5t _
 ·exact h
theorem ze7 {key : List Nat} (h : key.length ≤ 64) : (padK key).length = 64 := by rw [padK, List.length_append, List.length_replicate]; omega
theorem z9Y {key : List Nat} (h : Bytes key) : Bytes (padK key) := Bytes.append h fun x hx => by rw [List.eq_of_mem_replicate hx]; decide
theorem zc4 {key : List Nat} (h : key.length ≤ 64) (x : Nat) : (z7c key x).length = 64 := by rw [z7c, List.length_map, ze7 h]
theorem zdn {key : List Nat} (h : Bytes key) {x : Nat} (hx : x < 256) : Bytes (z7c key x) := fun y hy => by
 obtain ⟨z, hz, rfl⟩ := List.mem_map.1 hy
 exact Nat.xor_lt_two_pow (n := 8) (z9Y h z hz) hx
theorem z54 (key m : List Nat) : (z2k key m).length = 32 := z4U _
theorem zdo (key m : List Nat) : Bytes (z2k key m) := z5t _
def mskN (A : List Nat) (x i : Nat) : List Nat := (A.take i).map (· ^^^ x) ++ A.drop i
theorem zoa (A : List Nat) (x i : Nat) : (mskN A x i).length = A.length := by rw [mskN, List.length_append, List.length_map, ← List.length_append, List.take_append_drop]
theorem zob {A : List Nat} (x : Nat) {i : Nat} (hi : i < A.length) : (mskN A x i).getD i 0 = A.getD i 0 := by
 rw [mskN, List.getD_eq_getElem?_getD, List.getElem?_append_right (by rw [List.length_map, List.length_take]; omega), List.length_map, List.length_take, Nat.min_eq_left (by omega), Nat.sub_self, List.getElem?_drop, Nat.add_zero, List.getD_eq_getElem?_getD]
theorem zoc {A : List Nat} (x : Nat) {i : Nat} (hi : i < A.length) : (mskN A x i).set i (A.getD i 0 ^^^ x) = mskN A x (i + 1) := by
 have e : A.drop i = A.getD i 0 :: A.drop (i + 1) := by
  rw [List.getD_eq_getElem?_getD, List.getElem?_eq_getElem hi]
  exact List.drop_eq_getElem_cons hi
 rw [mskN, mskN, e, List.set_append, if_neg (by rw [List.length_map, List.length_take]; omega), List.length_map, List.length_take, Nat.min_eq_left (by omega), Nat.sub_self, List.set_cons_zero, List.take_succ_eq_append_getElem hi, List.map_append, List.append_assoc]
 congr 1
 show _ :: _ = _ :: _
 rw [List.getD_eq_getElem?_getD, List.getElem?_eq_getElem hi]
 rfl
theorem zru (A : List Nat) (x : Nat) : mskN A x 0 = A := by simp [mskN]
theorem zod {A : List Nat} (x : Nat) {n : Nat} (h : A.length = n) : mskN A x n = A.map (· ^^^ x) := by
 rw [mskN, List.take_of_length_le (by omega), List.drop_of_length_le (by omega), List.append_nil]
section
variable {h : Hp} {K : Value → Hp → Prop}
theorem ziI {r : Nat} {kv : Value} {key : List Nat} {x : Nat} (hx : x < 256) (hc : h.cell ⟨r, 0, none⟩ = some kv) (rk : Rn h .u8 kv key) (bk : Bytes key) (lk : key.length ≤ 64) (k : ∀ v h', Nn h zc .u8 v h' (z7c key x) → K v h') :
  Cn P zhq #[.int .u8 (x : Int), .pointer (some ⟨r, 0, none⟩)] h K := by
 refine zhM ?_
 unfold zbv
 refine z2w (n := 64) (c := 64) za zw rfl (by omega) (by decide) (by decide) fun v H nw => ?_
 have hc2 := nw.cle _ _ hc
 have rk2 : Rn H .u8 kv key := rk.mono nw.cle
 obtain ⟨b, c, f, hb, hcc, rfl, hH, hf⟩ := New.form nw (by omega)
 have ln : ∀ {G : Hp} {K : Value → Prop}, q P G (Builtin.len_ #[zd] zi #[.slice (some ⟨b, 0, none⟩) 64 c]) K = K (.int .i64 ((64 : Nat) : Int)) := fun {G K} => z12 za _ _ _
 simp -zeta (disch := omega) only [RL, hc2, GL]
 rw [z1E] at hH
 refine zpc (e := zc) za zp (by rw [hH, Hp.set_same]) rk2 (zq _ _) lk (by rw [ze, List.length_replicate]; omega) (fun i hi => hf i (by rw [ze, List.length_replicate] at hi; omega)) ?_
 have ep : putL (nv .u8 (List.replicate 64 0)) 0 (nv .u8 key) = nv .u8 (padK key) := by
  rw [zfH _ _ _ (by rw [List.length_replicate]; omega), List.take_zero, List.nil_append, List.drop_replicate, padK, Nat.zero_add]
 rw [ep, hH, Hp.set_set]
 have lA := ze7 lk
 have bA := z9Y bk
 have ex : (padK key).map (· ^^^ x) = z7c key x := rfl
 generalize padK key = A at *
 refine Lp_mk (fun m vs H' => ∃ i : Nat, i + m = 64 ∧ H' = h.set b (.row zc (nv .u8 (mskN A x i)) (c * 1) (some f)) ∧ vs = [.int .i64 (i : Int)]) 64
  ⟨0, rfl, by rw [zru], rfl⟩ ?_
 rintro m vs H' ⟨i, hi, rfl, rfl⟩
 have ed : decide ((i : Int) < ((64 : Nat) : Int)) = decide (i < 64) := zL i 64
 have lM := zoa A x i
 have hrow : (h.set b (.row zc (nv .u8 (mskN A x i)) (c * 1) (some f))) b = some (.row zc (nv .u8 (mskN A x i)) (c * 1) (some f)) := Hp.set_same ..
 simp -zeta (disch := omega) only [GL, RL, ed]
 by_cases hlt : i < 64
 ·have c1 := zJ (i := i) hrow (by omega)
  rw [zob x (by omega)] at c1
  have gA := bA.getD i
  have hxr : ixor .u8 ((A.getD i 0 : Nat) : Int) (x : Int) = ((A.getD i 0 ^^^ x : Nat) : Int) := by
   rw [xor8 (by omega) (by omega) (by omega) (by omega), Int.toNat_natCast, Int.toNat_natCast]
  have ei : IntKind.i64.wrap ((i : Int) + 1) = ((i + 1 : Nat) : Int) := by rw [wi64 (by omega) (by omega)]; omega
  simp -zeta (disch := omega) only [hlt, decide_true, if_true, GL, RL, Nat.zero_add, c1, hxr, ei]
  refine z1a zp hrow (by omega) (hf i (by omega)) ?_
  rw [zoc x (by omega), Hp.set_set]
  exact ⟨_, .refl _, m - 1, by omega, i + 1, by omega, rfl, rfl⟩
 ·obtain rfl : i = 64 := by omega
  simp -zeta (disch := omega) only [hlt, decide_false, Bool.false_eq_true, if_false]
  refine k _ _ ?_
  rw [zod x lA, ex]
  have lm : (z7c key x).length = 64 := zc4 lk x
  refine ⟨by rw [ze, lm], .inr ⟨b, c, f, hb, by rw [lm]; exact hcc, by rw [lm], rfl, hf⟩⟩
theorem ziJ {pv : Value} {ps : List (List Nat)} (rp : Parts h pv ps) (bp : ∀ p ∈ ps, Bytes p) (lp : ps.flatten.length ≤ 549755813888) (np : ps.length ≤ 1000000) (k : ∀ r h', Nn h zc .u8 r h' (shaL ps.flatten) → K r h') : Cn P zhr #[pv] h K := by
 refine Cn_wk (zhN ?_)
 unfold zbw
 refine ziG fun p hp => ?_
 obtain ⟨b, o, c, rfl, hc, hcl⟩ := rp
 have ln : ∀ {G : Hp} {K : Value → Prop}, q P G (Builtin.len_ #[za5] zi #[.slice (some ⟨b, o, none⟩) ps.length c]) K = K (.int .i64 (ps.length : Nat)) := fun {G K} => z12 z1R _ _ _
 rw [ln]
 have cd : ∀ st wt many all, Hp.cle h ((h.set p (.row zI (zU st wt many all) 138 (some (0, 0)))).del p) := fun st wt many all a x e => by
  unfold Hp.cell at e ⊢
  by_cases q : a.block = p
  ·rw [q, hp] at e
   split at e <;> cases e
  ·rw [Hp.del_ne _ q, Hp.set_ne _ _ q]; exact e
 have cs : ∀ st wt many all, Hp.cle h (h.set p (.row zI (zU st wt many all) 138 (some (0, 0)))) := fun st wt many all => (z1x _ hp).cle
 refine Lp_mk (fun m vs H => ∃ (i : Nat) (st wt : List Nat) (many : Nat), i + m = ps.length ∧ Hst (ps.take i).flatten st wt many ∧ Bytes wt ∧ H = h.set p (.row zI (zU st wt many (ps.take i).flatten.length) 138 (some (0, 0))) ∧ vs = [.int .i64 (i : Int)]) ps.length
  ⟨0, _, _, _, by omega, Hst.nil, by intro x hx; rw [(List.mem_replicate.1 hx).2]; decide, rfl, rfl⟩ ?_
 rintro m vs H ⟨i, st, wt, many, hi, hs, bw, rfl, rfl⟩
 have ed : decide ((i : Int) < ((ps.length : Nat) : Int)) = decide (i < ps.length) := zL i _
 have lf := zcA ps i
 simp -zeta (disch := omega) only [GL, RL, ed]
 by_cases hlt : i < ps.length
 ·obtain ⟨w, hw, rw'⟩ := hcl i hlt
  have lf1 := zcA ps (i + 1)
  rw [z53 ps i hlt, List.length_append] at lf1
  have ix : ∀ {G : Hp} {K : Value → Prop}, q P G (Instr.indexAt za5 (.slice (some ⟨b, o, none⟩) ps.length c) (.int .i64 (i : Int))) K = K (.pointer (some ⟨b, o + i, none⟩)) := fun {G K} => by
   rw [z6n z1R z2P _ _ _ _ _ (by omega) (by omega), Int.toNat_natCast, z1d, Nat.mul_one]
  have hw2 := cs st wt many (ps.take i).flatten.length _ _ hw
  have ei : IntKind.i64.wrap ((i : Int) + 1) = ((i + 1 : Nat) : Int) := by rw [wi64 (by omega) (by omega)]; omega
  simp -zeta (disch := omega) only [hlt, decide_true, if_true, ix, GL, RL, hw2]
  refine z9W (M := (ps.take i).flatten) (Hp.set_same ..) hs bw (rw'.mono (cd _ _ _ _)) (bp _ (by rw [List.getD_eq_getElem?_getD, List.getElem?_eq_getElem hlt]; exact List.getElem_mem hlt)) (by omega) (by omega) fun st' wt' many' hs' bw' => ?_
  simp -zeta (disch := omega) only [GL, RL, ei]
  refine ⟨_, .refl _, m - 1, by omega, i + 1, st', wt', many', by omega, by rw [z53 ps i hlt]; exact hs', bw', ?_, rfl⟩
  rw [Hp.set_set, z53 ps i hlt, List.length_append, Nat.mod_eq_of_lt (by omega)]
 ·obtain rfl : i = ps.length := by omega
  simp -zeta (disch := omega) only [hlt, decide_false, Bool.false_eq_true, if_false]
  rw [List.take_of_length_le (Nat.le_refl _)] at hs ⊢
  refine ziH (M := ps.flatten) (Hp.set_same ..) hs bw (by omega) fun r h' n => ?_
  obtain ⟨h0, l0, n0⟩ := Nn.down (zP hp) n
  exact ⟨h0, l0, k _ _ n0⟩
theorem zmJ {h h' : Hp} {v a : Value} {x : List Nat} (n : New h zd 1 v h' [a] 1) (ra : Rn h .u8 a x) : Parts h' v [x] := by
 obtain ⟨b, c, f, hb, hc, rfl, hh, _⟩ := New.form n (by omega)
 refine ⟨b, 0, c, rfl, hc, fun i hi => ?_⟩
 have hrow : h' b = some (.row zd [a] (c * 1) (some f)) := by rw [hh, Hp.set_same]
 match i with
 | 0 => exact ⟨a, by rw [zj hrow]; rfl, ra.mono n.cle⟩
 | i + 1 => simp at hi
theorem zk2 {h h' : Hp} {v a b : Value} {x y : List Nat} (n : New h zd 1 v h' [a, b] 2) (ra : Rn h .u8 a x) (rb : Rn h .u8 b y) : Parts h' v [x, y] := by
 obtain ⟨bb, c, f, hb, hc, rfl, hh, _⟩ := New.form n (by omega)
 refine ⟨bb, 0, c, rfl, hc, fun i hi => ?_⟩
 have hrow : h' bb = some (.row zd [a, b] (c * 1) (some f)) := by rw [hh, Hp.set_same]
 match i with
 | 0 => exact ⟨a, by rw [zj hrow]; rfl, ra.mono n.cle⟩
 | 1 => exact ⟨b, by rw [zj hrow]; rfl, rb.mono n.cle⟩
 | i + 2 => exact absurd hi (by show ¬ i + 2 < 2; omega)
theorem zjo {h : Hp} {v : Value} {ps : List (List Nat)} (p : Parts h v ps) : ∃ ys : List Value, ys.length = ps.length ∧ Rds h 1 v ys ps.length ∧ (∀ y ∈ ys, flat y = true) ∧ ∀ i, i < ps.length → ∃ w, ys[i]? = some w ∧ Rn h .u8 w (ps.getD i []) := by
 obtain ⟨b, o, c, rfl, hc, q⟩ := p
 have key : ∀ n, n ≤ ps.length → ∃ ys : List Value, ys.length = n ∧ ∀ i, i < n → ∃ w, ys[i]? = some w ∧ h.cell ⟨b, o + i, none⟩ = some w ∧ Rn h .u8 w (ps.getD i []) := by
  intro n
  induction n with
  | zero => exact fun _ => ⟨[], rfl, fun i hi => by omega⟩
  | succ n ih =>
   intro hn
   obtain ⟨ys, l, a⟩ := ih (by omega)
   obtain ⟨w, h1, h2⟩ := q n (by omega)
   refine ⟨ys ++ [w], by simp [l], fun i hi => ?_⟩
   rcases Nat.lt_or_ge i n with g | g
   ·obtain ⟨u, u1, u2⟩ := a i g
    exact ⟨u, by rw [List.getElem?_append_left (by omega)]; exact u1, u2⟩
   ·obtain rfl : i = n := by omega
    exact ⟨w, by rw [List.getElem?_append_right (by omega), l, Nat.sub_self]; rfl, h1, h2⟩
 obtain ⟨ys, l, a⟩ := key ps.length (Nat.le_refl _)
 refine ⟨ys, l, ⟨by omega, some ⟨b, o, none⟩, c, rfl, hc, .inr ⟨b, o, rfl, fun i x e => ?_⟩⟩, fun y hy => ?_, fun i hi => ?_⟩
 ·have hi : i < ys.length := (List.getElem?_eq_some_iff.1 e).1
  obtain ⟨w, w1, w2, _⟩ := a i (by omega)
  rw [e] at w1
  rw [Option.some.inj w1]; exact w2
 ·obtain ⟨i, hi⟩ := List.mem_iff_getElem?.1 hy
  have hl : i < ys.length := (List.getElem?_eq_some_iff.1 hi).1
  obtain ⟨w, w1, _, w2⟩ := a i (by omega)
  rw [hi] at w1
  rw [Option.some.inj w1]
  exact zO w2
 ·obtain ⟨w, w1, _, w2⟩ := a i hi
  exact ⟨w, w1, w2⟩
theorem zmK {kv pv : Value} {key : List Nat} {ps : List (List Nat)} (rk : Rn h .u8 kv key) (bk : Bytes key) (lk : key.length ≤ 1099511627776) (rp : Parts h pv ps) (bp : ∀ p ∈ ps, Bytes p) (lp : ps.flatten.length ≤ 274877906944) (np : ps.length ≤ 1000)
  (k : ∀ r h', Nn h zc .u8 r h' (z2k key ps.flatten) → K r h') : Cn P zkr #[kv, pv] h K := by
 refine Cn_wk (zkF ?_)
 unfold zez
 refine z2S fun r hr => ?_
 have hfl := zO rk
 have hC : kv.cells.toList = [kv] := by rw [z5b hfl]
 have hC2 : kv.cells.size = 1 := by rw [z5b hfl]; rfl
 rw [hC, hC2]
 have x0 : Hp.ext h (h.set r (.row zd [kv] 1 (some (0, 0)))) := z1x _ hr
 have e0 : (h.set r (.row zd [kv] 1 (some (0, 0)))) r = some (.row zd [kv] 1 (some (0, 0))) := Hp.set_same ..
 intro J
 have qJ : ∀ (H : Hp) (v : Value), Hp.ext h H → H.cell ⟨r, 0, none⟩ = some v → Rn H .u8 v (keyL key) → J H := by
  intro H v xH hc rv
  simp -zeta only [J]
  clear J
  refine zij (by kernel_rfl) ?_
  refine ziI (x := 54) (by omega) hc rv (z7d bk) (z9X key) fun v1 H1 n1 => ?_
  have e1 : z1f [(0, v1)] (List.replicate 1 (.slice none 0 0)) = [v1] := rfl
  refine zT (ps := [(0, v1)]) z1R z2P z3b rfl (by omega) (by intro p hp; rw [List.mem_singleton.1 hp]; exact ⟨zO n1.rn, by show _ < 1; omega⟩) fun v2 H2 n2 _ => ?_
  rw [e1] at n2
  have P1 := zmJ n2 n1.rn
  have x2 := n1.ext.trans n2.ext
  obtain ⟨ys, ly, ry, fy, gy⟩ := zjo (rp.mono (xH.trans n1.ext).cle)
  refine z1t (h0 := H1) z1R z1R zhy rfl (by omega) n2 (ry.mono n2.cle) fy (by omega) (.refl _) fun v3 H3 n3 => ?_
  have P3 : Parts H3 v3 (z7c (keyL key) 54 :: ps) := by
   obtain ⟨b, c, f, hb, hcc, rfl, hh, _⟩ := New.form n3 (by omega)
   refine ⟨b, 0, c, by rw [List.length_cons, Nat.add_comm], by rw [List.length_cons]; omega, fun i hi => ?_⟩
   have hrow : H3 b = some (.row zd ([v1] ++ ys) (c * 1) (some f)) := by rw [hh, Hp.set_same]
   match i with
   | 0 => exact ⟨v1, by rw [zj hrow]; rfl, n1.rn.mono n3.cle⟩
   | i + 1 =>
    obtain ⟨w, w1, w2⟩ := gy i (by simpa using hi)
    refine ⟨w, by rw [zj hrow, Nat.zero_add]; exact w1, ?_⟩
    exact w2.mono n3.cle
  refine ziJ P3 (fun p hp => by
   rcases List.mem_cons.1 hp with rfl | hp
   ·exact zdn (z7d bk) (by decide)
   ·exact bp p hp) (by rw [List.flatten_cons, List.length_append, zc4 (z9X key)]; omega) (by rw [List.length_cons]; omega) fun v4 H4 n4 => ?_
  have x4 : Hp.ext H H4 := (n1.ext.trans n3.ext).trans n4.ext
  have hc4 : H4.cell ⟨r, 0, none⟩ = some v := x4.cle _ _ hc
  refine zij (by kernel_rfl) ?_
  refine ziI (x := 92) (by omega) hc4 (rv.mono x4.cle) (z7d bk) (z9X key) fun v5 H5 n5 => ?_
  have e2 : z1f [(0, v5), (1, v4)] (List.replicate 2 (.slice none 0 0)) = [v5, v4] := rfl
  have r4 : Rn H5 .u8 v4 _ := n4.rn.mono n5.ext.cle
  refine zT (ps := [(0, v5), (1, v4)]) z1R z2P z3b rfl (by omega) (by
   intro p hp
   simp only [List.mem_cons, List.not_mem_nil, or_false] at hp
   rcases hp with rfl | rfl
   ·exact ⟨zO n5.rn, by show 0 < 2; omega⟩
   ·exact ⟨zO r4, by show 1 < 2; omega⟩) fun v6 H6 n6 _ => ?_
  rw [e2] at n6
  have P6 := zk2 n6 n5.rn r4
  refine ziJ P6 (fun p hp => by
   simp only [List.mem_cons, List.not_mem_nil, or_false] at hp
   rcases hp with rfl | rfl
   ·exact zdn (z7d bk) (by decide)
   ·exact z5t _) (by simp only [List.flatten_cons, List.flatten_nil, List.length_append, List.length_nil, zc4 (z9X key), z4U]; omega) (by show 2 ≤ 1000000; omega) fun v7 H7 n7 => ?_
  have x6 : Hp.ext h H6 := ((xH.trans x4).trans n5.ext).trans n6.ext
  obtain ⟨h0, l0, nw0⟩ := n7.down x6.le
  refine ⟨h0, l0, k _ _ ?_⟩
  simp only [List.flatten_cons, List.flatten_nil, List.append_nil] at nw0
  exact nw0
 clear_value J
 have c0 : (h.set r (.row zd [kv] 1 (some (0, 0)))).cell ⟨r, 0, none⟩ = some kv := by rw [zj e0]; rfl
 obtain ⟨a, c, rfl, hc⟩ := rk.shape
 have ln : ∀ {G : Hp} {K : Value → Prop}, q P G (Builtin.len_ #[zd] zi #[.slice a key.length c]) K = K (.int .i64 (key.length : Nat)) := fun {G K} => z12 za _ _ _
 have g64 : decide ((64 : Int) < ((key.length : Nat) : Int)) = decide (64 < key.length) := by rw [decide_eq_decide]; omega
 simp -zeta only [GL, RL, c0, ln, g64]
 by_cases h64 : 64 < key.length
 ·simp -zeta only [h64, decide_true, if_true]
  refine zq4 (rk.mono x0.cle) bk lk fun v1 H1 n1 => ?_
  have e1 := n1.ext _ _ e0
  have hp : H1.put ⟨r, 0, none⟩ v1 = some (H1.set r (.row zd [v1] 1 (some (0, 0)))) := z2b (off := 0) e1 (by show 0 < 1; omega) (by simp) v1
  refine z26 z2P (zO n1.rn) hp ?_
  have xs : Hp.ext h (H1.set r (.row zd [v1] 1 (some (0, 0)))) := fun b o e => by
   have hb : b ≠ r := by rintro rfl; rw [hr] at e; cases e
   rw [Hp.set_ne _ _ hb]
   exact n1.ext _ _ (x0 _ _ e)
  refine qJ _ v1 xs (by rw [zj (Hp.set_same ..)]; rfl) ?_
  have kk : keyL key = shaL key := by rw [keyL, if_pos h64]
  rw [kk]
  obtain ⟨b, cc, f, hb, hcc, rfl, hh, hf⟩ := New.form n1 (by rw [z4U]; omega)
  have hbr : b ≠ r := by rintro rfl; rw [e0] at hb; cases hb
  refine ⟨by rw [ze]; omega, some ⟨b, 0, none⟩, cc, rfl, hcc, .inr ⟨b, 0, rfl, fun i x e => ?_⟩⟩
  have hrow : (H1.set r (.row zd [.slice (some ⟨b, 0, none⟩) (shaL key).length cc] 1 (some (0, 0)))) b = some (.row zc (nv .u8 (shaL key)) (cc * 1) (some f)) := by rw [Hp.set_ne _ _ hbr, hh, Hp.set_same]
  rw [zj hrow, Nat.zero_add]
  exact e
 ·simp -zeta only [h64, decide_false, Bool.false_eq_true, if_false]
  have kk : keyL key = key := by rw [keyL, if_neg h64]
  refine qJ _ _ x0 c0 ?_
  rw [kk]
  exact rk.mono x0.cle
theorem zlf {sv av iv : Value} {secret salt info : List Nat} (rs : Rn h .u8 sv secret) (ra : Rn h .u8 av salt) (ri : Rn h .u8 iv info) (bs : Bytes secret) (ba : Bytes salt) (bi : Bytes info) (ls : secret.length ≤ 1000000) (la : salt.length ≤ 1000000) (li : info.length ≤ 1000000)
  (k : ∀ r w h', Nn h zc .u8 w h' (z6d secret salt info) → (∀ H, Rn H .u8 w (z6d secret salt info) → Rn H .u8 r (z6d secret salt info)) → K (.tuple #[r, .int .i64 0]) h') : Cn P zhn #[sv, av, iv, .int .i64 32] h K := by
 refine Cn_wk (zhF ?_)
 unfold zbg
 refine Cn_wk (zgJ ?_)
 unfold za9
 have e1 : z1f [(0, sv)] (List.replicate 1 (.slice none 0 0)) = [sv] := rfl
 refine zT (ps := [(0, sv)]) z1R z2P z3b rfl (by omega) (by intro p hp; rw [List.mem_singleton.1 hp]; exact ⟨zO rs, by show _ < 1; omega⟩) fun v1 H1 n1 _ => ?_
 rw [e1] at n1
 have P1 := zmJ n1 rs
 refine zmK (ra.mono n1.ext.cle) ba (by omega) P1 (fun p hp => by rw [List.mem_singleton.1 hp]; exact bs) (by simp only [List.flatten_cons, List.flatten_nil, List.append_nil]; omega) (by show 1 ≤ 1000; omega) fun v2 H2 n2 => ?_
 simp only [List.flatten_cons, List.flatten_nil, List.append_nil] at n2
 obtain ⟨g2, le2, n2⟩ := n2.down n1.ext.le
 refine ⟨g2, le2, ?_⟩
 have lk2 := z54 salt secret
 have bk2 := zdo salt secret
 have dl : z6d secret salt info = z2k (z2k salt secret) (info ++ [1]) := rfl
 rw [dl] at k
 generalize z2k salt secret = key at *
 refine Cn_wk (zhH ?_)
 unfold zbm
 have b1 : decide ((32 : Int) < 0) = false := rfl
 have b2 : decide ((8160 : Int) < 32) = false := rfl
 simp -zeta only [GL, b1, b2, Bool.false_eq_true, if_false, if_true]
 refine Lp_mk (fun m vs H => ∃ i : Nat, i + m = 1 ∧ ((i = 0 ∧ H = g2 ∧ vs = [.slice none 0 0, .slice none 0 0, .int .i64 1]) ∨ (i = 1 ∧ ∃ v w, Nn g2 zc .u8 w H (z2k key (info ++ [1])) ∧ vs = [v, w, .int .i64 2]))) 1
  ⟨0, rfl, .inl ⟨rfl, rfl, rfl⟩⟩ ?_
 rintro m vs H ⟨i, hi, ⟨rfl, rfl, rfl⟩ | ⟨rfl, v, w, nw, rfl⟩⟩
 ·have ln0 : ∀ {K : Value → Prop}, q P H (Builtin.len_ #[zd] zi #[.slice none 0 0]) K = K (.int .i64 ((0 : Nat) : Int)) := fun {K} => z12 za _ _ _
  have c0 : decide ((((0 : Nat) : Int)) < 32) = true := rfl
  have w1 : IntKind.u8.wrap 1 = ((1 : Nat) : Int) := rfl
  simp -zeta only [GL, RL, ln0, c0, if_true, w1]
  have e1 : z1f [(0, Value.int .u8 ((1 : Nat) : Int))] (List.replicate 1 (.int .u8 0)) = nv .u8 [1] := rfl
  refine zT (ps := [(0, .int .u8 ((1 : Nat) : Int))]) za zp z1p rfl (by omega) (by intro p hp; rw [List.mem_singleton.1 hp]; exact ⟨rfl, by show _ < 1; omega⟩) fun v3 H3 n3 _ => ?_
  rw [e1] at n3
  have n3' : Nn H zc .u8 v3 H3 [1] := n3
  have xg : Hp.ext h H := n2.ext
  have ri3 : Rn H3 .u8 iv info := ri.mono (xg.trans n3'.ext).cle
  have e4 : z1f [(0, Value.slice none 0 0), (1, iv), (2, v3)] (List.replicate 3 (.slice none 0 0)) = [.slice none 0 0, iv, v3] := rfl
  refine zT (ps := [(0, .slice none 0 0), (1, iv), (2, v3)]) z1R z2P z3b rfl (by omega) (by
   intro p hp
   simp only [List.mem_cons, List.not_mem_nil, or_false] at hp
   rcases hp with rfl | rfl | rfl
   ·exact ⟨rfl, by show 0 < 3; omega⟩
   ·exact ⟨zO ri3, by show 1 < 3; omega⟩
   ·exact ⟨zO n3'.rn, by show 2 < 3; omega⟩) fun v4 H4 n4 _ => ?_
  rw [e4] at n4
  have P4 : Parts H4 v4 [[], info, [1]] := by
   obtain ⟨bb, c, f, hb, hc, rfl, hh, _⟩ := New.form n4 (by omega)
   refine ⟨bb, 0, c, rfl, hc, fun i hi => ?_⟩
   have hrow : H4 bb = some (.row zd [.slice none 0 0, iv, v3] (c * 1) (some f)) := by rw [hh, Hp.set_same]
   match i with
   | 0 => exact ⟨_, by rw [zj hrow]; rfl, z3y _ _⟩
   | 1 => exact ⟨iv, by rw [zj hrow]; rfl, ri3.mono n4.cle⟩
   | 2 => exact ⟨v3, by rw [zj hrow]; rfl, n3'.rn.mono n4.cle⟩
   | i + 3 => exact absurd hi (by show ¬ i + 3 < 3; omega)
  have xg4 : Hp.ext H H4 := n3'.ext.trans n4.ext
  refine zmK (n2.rn.mono xg4.cle) bk2 (by omega) P4 (fun p hp => by
   simp only [List.mem_cons, List.not_mem_nil, or_false] at hp
   rcases hp with rfl | rfl | rfl
   ·intro x hx; cases hx
   ·exact bi
   ·intro x hx; rw [List.mem_singleton.1 hx]; decide) (by simp only [List.flatten_cons, List.flatten_nil, List.append_nil, List.length_append, List.length_nil, List.length_cons]; omega) (by show 3 ≤ 1000; omega) fun v5 H5 n5 => ?_
  have fe : [[], info, [1]].flatten = info ++ [1] := by simp
  rw [fe] at n5
  have n5l := z54 key (info ++ [1])
  have n5' : New H4 zc 1 v5 H5 (nv .u8 (z2k key (info ++ [1]))) (z2k key (info ++ [1])).length := n5
  refine zQ (h0 := H4) (xs := []) (n := 0) za za zw rfl (by omega) (Nn.nil H4 zc .u8) n5' (zq _ _) (by omega) fun v6 H6 n6 => ?_
  rw [List.nil_append, Nat.zero_add] at n6
  have n6' : Nn H4 zc .u8 v6 H6 (z2k key (info ++ [1])) := n6
  obtain ⟨g6, l6, n7⟩ := n6'.down xg4.le
  have w2 : IntKind.i64.wrap (1 + 1) = 2 := rfl
  simp -zeta only [GL, RL, w2]
  exact ⟨g6, l6, 0, by omega, 1, rfl, .inr ⟨rfl, v5, v6, n7, rfl⟩⟩
 ·have nl := z54 key (info ++ [1])
  obtain ⟨b, c, f, hb, hcc, rfl, hh, hf⟩ := New.form nw (by omega)
  have ln0 : ∀ {K : Value → Prop}, q P H (Builtin.len_ #[zd] zi #[.slice (some ⟨b, 0, none⟩) (z2k key (info ++ [1])).length c]) K = K (.int .i64 ((32 : Nat) : Int)) := fun {K} => by rw [z12 za, nl]
  have c0 : decide ((((32 : Nat) : Int)) < 32) = false := rfl
  have sl : ∀ {K : Value → Prop}, q P H (Instr.sliceAt zd (.slice (some ⟨b, 0, none⟩) (z2k key (info ++ [1])).length c) none (some (.int .i64 32)) (some (.int .i64 32))) K = K (.slice (some ⟨b, 0, none⟩) 32 32) := fun {K} => by
   have := zr8 (P := P) (h := H) (K := K) za zp (some ⟨b, 0, none⟩) (z2k key (info ++ [1])).length c .i64 .i64 32 32 (Nat.le_refl _) (by omega)
   exact this
  simp -zeta only [GL, RL, ln0, c0, Bool.false_eq_true, if_false, sl]
  obtain ⟨h0, l0, nw0⟩ := Nn.down n2.ext.le nw
  refine ⟨h0, l0, ?_⟩
  rw [ext0, ext1]
  refine ⟨h0, .refl _, k _ _ _ nw0 fun G r => ?_⟩
  have : Rds G 1 (.slice (some ⟨b, 0, none⟩) (z2k key (info ++ [1])).length c) (nv .u8 (z2k key (info ++ [1]))) (z2k key (info ++ [1])).length := r
  show Rds G 1 _ (nv .u8 (z2k key (info ++ [1]))) (z2k key (info ++ [1])).length
  have q2 := this.capped (c' := 32) (by omega)
  rw [nl] at q2 ⊢
  exact q2
end
def BoxCells (R : Hp) : List Value → List Box → Prop
 | [], [] => True
 | vk :: vn :: vb :: vt :: xs, b :: bs => (Rn R .u8 vk b.key ∧ Rn R .u8 vn b.nonce ∧ Rn R .u8 vb b.beside ∧ Rn R .u8 vt b.text) ∧ BoxCells R xs bs
 | _, _ => False
theorem BoxCells.mono {R R' : Hp} (c : Hp.cle R R') : ∀ {xs : List Value} {bs : List Box}, BoxCells R xs bs → BoxCells R' xs bs
 | [], [], _ => trivial
 | _ :: _ :: _ :: _ :: _, _ :: _, h => ⟨⟨h.1.1.mono c, h.1.2.1.mono c, h.1.2.2.1.mono c, h.1.2.2.2.mono c⟩, BoxCells.mono c h.2⟩
 | [], _ :: _, h => h.elim
 | [_], _, h => by cases ‹List Box› <;> exact h.elim
 | [_, _], _, h => by cases ‹List Box› <;> exact h.elim
 | [_, _, _], _, h => by cases ‹List Box› <;> exact h.elim
 | _ :: _ :: _ :: _ :: _, [], h => h.elim
theorem BoxCells.len {R : Hp} : ∀ {xs : List Value} {bs : List Box}, BoxCells R xs bs → xs.length = bs.length * 4
 | [], [], _ => rfl
 | _ :: _ :: _ :: _ :: xs, _ :: bs, h => by have := BoxCells.len h.2; simp only [List.length_cons]; omega
 | [], _ :: _, h => h.elim
 | [_], _, h => by cases ‹List Box› <;> exact h.elim
 | [_, _], _, h => by cases ‹List Box› <;> exact h.elim
 | [_, _, _], _, h => by cases ‹List Box› <;> exact h.elim
 | _ :: _ :: _ :: _ :: _, [], h => h.elim
theorem BoxCells.flat {R : Hp} : ∀ {xs : List Value} {bs : List Box}, BoxCells R xs bs → ∀ y ∈ xs, SL.flat y = true
 | [], [], _ => by intro y hy; cases hy
 | vk :: vn :: vb :: vt :: xs, _ :: bs, h => by
  intro y hy
  rcases List.mem_cons.1 hy with rfl | hy
  ·exact zO h.1.1
  rcases List.mem_cons.1 hy with rfl | hy
  ·exact zO h.1.2.1
  rcases List.mem_cons.1 hy with rfl | hy
  ·exact zO h.1.2.2.1
  rcases List.mem_cons.1 hy with rfl | hy
  ·exact zO h.1.2.2.2
  ·exact BoxCells.flat h.2 y hy
 | [], _ :: _, h => h.elim
 | [_], _, h => by cases ‹List Box› <;> exact h.elim
 | [_, _], _, h => by cases ‹List Box› <;> exact h.elim
 | [_, _, _], _, h => by cases ‹List Box› <;> exact h.elim
 | _ :: _ :: _ :: _ :: _, [], h => h.elim
theorem BoxCells.snoc {R : Hp} {vk vn vb vt : Value} {b : Box} (hb : Rn R .u8 vk b.key ∧ Rn R .u8 vn b.nonce ∧ Rn R .u8 vb b.beside ∧ Rn R .u8 vt b.text) :
  ∀ {xs : List Value} {bs : List Box}, BoxCells R xs bs → BoxCells R (xs ++ [vk, vn, vb, vt]) (bs ++ [b])
 | [], [], _ => ⟨hb, trivial⟩
 | _ :: _ :: _ :: _ :: _, _ :: _, h => ⟨h.1, BoxCells.snoc hb h.2⟩
 | [], _ :: _, h => h.elim
 | [_], _, h => by cases ‹List Box› <;> exact h.elim
 | [_, _], _, h => by cases ‹List Box› <;> exact h.elim
 | [_, _, _], _, h => by cases ‹List Box› <;> exact h.elim
 | _ :: _ :: _ :: _ :: _, [], h => h.elim
theorem BoxCells.get {R : Hp} : ∀ {xs : List Value} {bs : List Box} (i : Nat) {b : Box}, BoxCells R xs bs → bs[i]? = some b →
  ∃ vk vn vb vt, (∀ (j : Nat) (x : Value), [vk, vn, vb, vt][j]? = some x → xs[i * 4 + j]? = some x) ∧ Rn R .u8 vk b.key ∧ Rn R .u8 vn b.nonce ∧ Rn R .u8 vb b.beside ∧ Rn R .u8 vt b.text
 | [], [], i, b, _, hb => by simp at hb
 | vk :: vn :: vb :: vt :: xs, _ :: bs, 0, b, h, hb => by
  simp only [List.getElem?_cons_zero, Option.some.injEq] at hb
  subst hb
  refine ⟨vk, vn, vb, vt, fun j x e => ?_, h.1⟩
  match j, e with
  | 0, e => simpa using e
  | 1, e => simpa using e
  | 2, e => simpa using e
  | 3, e => simpa using e
  | j + 4, e => simp at e
 | vk :: vn :: vb :: vt :: xs, _ :: bs, i + 1, b, h, hb => by
  obtain ⟨wk, wn, wb, wt, q, r⟩ := BoxCells.get i h.2 (by simpa using hb)
  refine ⟨wk, wn, wb, wt, fun j x e => ?_, r⟩
  have := q j x e
  rw [show (i + 1) * 4 + j = (i * 4 + j) + 1 + 1 + 1 + 1 by omega]
  simpa using this
 | [], _ :: _, _, _, h, _ => h.elim
 | [_], _, _, _, h, _ => by cases ‹List Box› <;> exact h.elim
 | [_, _], _, _, _, h, _ => by cases ‹List Box› <;> exact h.elim
 | [_, _, _], _, _, _, h, _ => by cases ‹List Box› <;> exact h.elim
 | _ :: _ :: _ :: _ :: _, [], _, _, h, _ => h.elim
def TextsOf (es : Array MapEntry) (ts : List (List Nat)) : Prop :=
 es.size = ts.length ∧ zpb es.toList ∧ ts.Nodup ∧ (∀ t ∈ ts, Bytes t) ∧ ∀ t, Bytes t → (mget es.toList (strL t)) = (ts.idxOf? t).map fun (i : Nat) => (i, Value.int .i64 (i : Int))
def BoxesAt (R h : Hp) (bx : Value) (bs : List Box) (Sb : List Nat) : Prop :=
 (bx = .slice none 0 0 ∧ bs = [] ∧ Sb = []) ∨
 ∃ b c f xs, bx = .slice (some ⟨b, 0, none⟩) bs.length c ∧ bs.length ≤ c ∧ h b = some (.row z16 xs (c * 4) (some f)) ∧ (∀ i, i < c * 4 → ¬ (f.1 ≤ i ∧ i < f.2)) ∧ BoxCells R xs bs ∧ Sb = [b]
def BookAt (R h : Hp) (p : Nat) (ts : List (List Nat)) (bs : List Box) (S : List Nat) : Prop :=
 ∃ r bx es c Sb, h p = some (.row z3g [.map (some r), bx] 2 (some (0, 0))) ∧ h r = some (.obj (.map es c)) ∧ TextsOf es ts ∧ BoxesAt R h bx bs Sb ∧ S = p :: r :: Sb ∧ p ≠ r ∧ p ∉ Sb ∧ r ∉ Sb ∧ ∀ b ∈ bs, Bytes b.key ∧ Bytes b.nonce ∧ Bytes b.beside ∧ Bytes b.text
theorem BoxesAt.keep {R R' h h' : Hp} {bx : Value} {bs : List Box} {Sb : List Nat} (a : BoxesAt R h bx bs Sb) (e : Hp.ext R R') (k : ∀ b, b ∈ Sb → h' b = h b) : BoxesAt R' h' bx bs Sb := by
 rcases a with a | ⟨b, c, f, xs, h1, h2, h3, h4, h5, h6⟩
 ·exact .inl a
 ·exact .inr ⟨b, c, f, xs, h1, h2, by rw [k b (by rw [h6]; exact List.mem_singleton.2 rfl)]; exact h3, h4, h5.mono e.cle, h6⟩
theorem BookAt.keep {R R' h h' : Hp} {p : Nat} {ts : List (List Nat)} {bs : List Box} {S : List Nat} (a : BookAt R h p ts bs S) (e : Hp.ext R R') (k : ∀ b, b ∈ S → h' b = h b) : BookAt R' h' p ts bs S := by
 obtain ⟨r, bx, es, c, Sb, h1, h2, h3, h4, rfl, h6⟩ := a
 exact ⟨r, bx, es, c, Sb, by rw [k p (by simp)]; exact h1, by rw [k r (by simp)]; exact h2, h3, h4.keep e fun b hb => k b (by simp [hb]), rfl, h6⟩
theorem bf1 {h : Hp} {K : Value → Prop} (r : Nat) : q P h (Instr.fieldAt z3g (.pointer (some ⟨r, 0, none⟩)) 1) K = K (.pointer (some ⟨r, 1, none⟩)) := q_of (by kernel_rfl) K
theorem pbf1 {h : Hp} (r : Nat) : peek P h (Instr.fieldAt z3g (.pointer (some ⟨r, 0, none⟩)) 1) = some (.pointer (some ⟨r, 1, none⟩)) := by kernel_rfl
theorem sf0 {h : Hp} {K : Value → Prop} (r : Nat) : q P h (Instr.fieldAt z16 (.pointer (some ⟨r, 0, none⟩)) 0) K = K (.pointer (some ⟨r, 0, none⟩)) := q_of (by kernel_rfl) K
theorem sf1 {h : Hp} {K : Value → Prop} (r : Nat) : q P h (Instr.fieldAt z16 (.pointer (some ⟨r, 0, none⟩)) 1) K = K (.pointer (some ⟨r, 1, none⟩)) := q_of (by kernel_rfl) K
theorem sf2 {h : Hp} {K : Value → Prop} (r : Nat) : q P h (Instr.fieldAt z16 (.pointer (some ⟨r, 0, none⟩)) 2) K = K (.pointer (some ⟨r, 2, none⟩)) := q_of (by kernel_rfl) K
theorem sf3 {h : Hp} {K : Value → Prop} (r : Nat) : q P h (Instr.fieldAt z16 (.pointer (some ⟨r, 0, none⟩)) 3) K = K (.pointer (some ⟨r, 3, none⟩)) := q_of (by kernel_rfl) K
theorem zmL {h : Hp} {K : Value → Prop} (a b c d : Option Addr) (n1 n2 n3 n4 c1 c2 c3 c4 : Nat) : q P h (Instr.build z16 #[(0, .slice a n1 c1), (1, .slice b n2 c2), (2, .slice c n3 c3), (3, .slice d n4 c4)]) K = K (.agg #[.slice a n1 c1, .slice b n2 c2, .slice c n3 c3, .slice d n4 c4]) := q_of (by kernel_rfl) K
theorem zq5 {h : Hp} {K : Value → Prop} (r : Nat) : q P h (Instr.build z3g #[(0, .map (some r))]) K = K (.agg #[.map (some r), .slice none 0 0]) := q_of (by kernel_rfl) K
abbrev nil4 : List Value := [.slice none 0 0, .slice none 0 0, .slice none 0 0, .slice none 0 0]
theorem zgr : zr P z16 = some (.agg nil4.toArray) := by kernel_rfl
theorem zlg : (P.info? z16).map (fun i => (i.zero, i.size, i.bytes)) = some (some (.agg nil4.toArray), 4, 96) := by kernel_rfl
theorem z8j : sz P z16 = some 4 := by kernel_rfl
theorem ziK {R h H : Hp} {bx : Value} {bs : List Box} {Sb : List Nat} {K : Value → Prop} (a : BoxesAt R h bx bs Sb) : q P H (Builtin.len_ #[z6H] zi #[bx]) K = K (.int .i64 bs.length) := by
 rcases a with ⟨rfl, rfl, _⟩ | ⟨b, c, f, xs, rfl, _⟩
 ·exact z12 z2r none 0 0
 ·exact z12 z2r (some ⟨b, 0, none⟩) bs.length c
section
variable {h : Hp} {K : Value → Hp → Prop}
theorem zmM {R : Hp} {S : List Nat} (w : Own R h S) (k : ∀ p h' S', BookAt R h' p [] [] S' → Own R h' S' → Stp R h R h' S S → (∀ b ∈ S', b ∉ S) → K (.iface z45 (.pointer (some ⟨p, 0, none⟩))) h') : Cn P zhi #[] h K := by
 refine zhA ?_
 unfold zbb
 refine zkK fun r hr => ?_
 rw [zq5]
 refine z2S fun p hp => ?_
 rw [zow zeu rfl]
 have hpr : p ≠ r := by rintro rfl; rw [Hp.set_same] at hp; cases hp
 have hp0 : h p = none := by rwa [Hp.set_ne _ _ hpr] at hp
 have hE : (Value.agg #[.map (some r), .slice none 0 0]).cells.toList = [.map (some r), .slice none 0 0] := rfl
 have hS : (Value.agg #[.map (some r), .slice none 0 0]).cells.size = 2 := rfl
 rw [hE, hS]
 have kp : ∀ x o, h x = some o → ((h.set r (.obj (.map #[] 0))).set p (.row z3g [.map (some r), .slice none 0 0] 2 (some (0, 0)))) x = some o := fun x o e => by
  rw [Hp.set_ne _ _ (by rintro rfl; rw [hp0] at e; cases e), Hp.set_ne _ _ (by rintro rfl; rw [hr] at e; cases e)]; exact e
 refine k p _ [p, r] ⟨r, .slice none 0 0, #[], 0, [], Hp.set_same .., ?_, ⟨rfl, (by intro e he; simp at he), List.nodup_nil, (by intro t ht; cases ht), fun t _ => rfl⟩, .inl ⟨rfl, rfl, rfl⟩, rfl, hpr, (by simp), (by simp), (by intro b hb; cases hb)⟩ ⟨fun x o e => kp x o (w.sub x o e), fun b hb => ?_, fun b hb => ?_⟩
  ⟨.refl _, fun x o _ e => kp x o e, fun x o hn _ => hn, fun x o _ _ e => e, ⟨fun x o e => kp x o (w.sub x o e), w.dis, fun b hb => let ⟨o, e⟩ := w.kn b hb; ⟨o, kp b o e⟩⟩⟩ fun b hb hbS => ?_
 ·rw [Hp.set_ne _ _ (Ne.symm hpr), Hp.set_same]
 ·simp only [List.mem_cons, List.not_mem_nil, or_false] at hb
  rcases hb with rfl | rfl
  ·exact w.sub.none hp0
  ·exact w.sub.none hr
 ·simp only [List.mem_cons, List.not_mem_nil, or_false] at hb
  rcases hb with rfl | rfl
  ·exact ⟨_, Hp.set_same ..⟩
  ·exact ⟨_, by rw [Hp.set_ne _ _ (Ne.symm hpr), Hp.set_same]⟩
 ·simp only [List.mem_cons, List.not_mem_nil, or_false] at hb
  obtain ⟨o, e⟩ := w.kn b hbS
  rcases hb with rfl | rfl
  ·rw [hp0] at e; cases e
  ·rw [hr] at e; cases e
end
theorem zc5 {h : Hp} {a : Addr} {v : Value} (e : h.cell a = some v) : peek P h (Instr.loadAt z6H (.pointer (some a))) = some v := by
 obtain ⟨x, hx, e⟩ := z1v (K := fun x => x = v) ((q_ld (P := P) (h := h) (K := fun x => x = v) z2r rfl a).mpr (by rw [e]; rfl))
 rw [e] at hx
 exact hx
section
variable {h : Hp} {K : Value → Hp → Prop}
theorem zjp {R : Hp} {p : Nat} {ts : List (List Nat)} {bs : List Box} {S : List Nat} {vk vn vb vt : Value} {key nonce b t : List Nat} (w : Own R h S) (hB : BookAt R h p ts bs S) (nb : bs.length ≤ 1000000)
  (hk : Rn R .u8 vk key) (hn : Rn R .u8 vn nonce) (hb : Rn R .u8 vb b) (ht : Rn R .u8 vt t) (bk : Bytes key) (bn : Bytes nonce) (bb : Bytes b) (bt : Bytes t)
  (lb : b.length ≤ 1099511627776) (lt : t.length ≤ 1099511627776)
  (k : ∀ v R' h' S', Stp R h R' h' S S' → BookAt R' h' p ts (if may key nonce then bs ++ [⟨key, nonce, b, t⟩] else bs) S' → (if may key nonce then Rn R' .u8 v (boxB bs.length (t.length + 16)) else v = .slice none 0 0) → K (.tuple #[v, .int .i64 (if may key nonce then 0 else 1)]) h') :
  Cn P z4y #[.pointer (some ⟨p, 0, none⟩), vk, vn, vb, vt] h K := by
 refine zd7 ?_
 unfold z6W
 refine zdm (w.rn hk) (w.rn hn) ?_
 by_cases hm : may key nonce
 case neg =>
  simp only [if_neg hm] at k
  simp only [hm, decide_false, GL, RL, Bool.not_false, if_true]
  exact k _ R h S (.refl w) hB rfl
 simp only [if_pos hm] at k
 simp (disch := omega) only [hm, decide_true, GL, RL, Bool.not_true, Bool.false_eq_true, if_false, bf1]
 obtain ⟨r, bx, es, c, Sb, hp, hr, hT, hX, rfl, hpr, hpS, hrS, hby⟩ := hB
 have c1 : h.cell ⟨p, 1, none⟩ = some bx := by rw [zj hp]; rfl
 simp (disch := omega) only [GL, RL, c1, ziK hX]
 refine z3U (w.rn hk) (by unfold may at hm; omega) fun v28 h1 n1 => ?_
 obtain ⟨R1, s1, r28⟩ := Stp.newN w n1
 refine ⟨zc5 (n1.cle _ _ c1), pbf1 p, ?_⟩
 refine z3U (s1.own.rn (hn.mono s1.ext.cle)) (by unfold may at hm; omega) fun v30 h2 n2 => ?_
 obtain ⟨R2, s2, r30⟩ := Stp.newN s1.own n2
 refine ⟨zc5 (n2.cle _ _ (n1.cle _ _ c1)), pbf1 p, ?_⟩
 refine z3U (s2.own.rn (hb.mono (s1.trans s2).ext.cle)) (by omega) fun v32 h3 n3 => ?_
 obtain ⟨R3, s3, r32⟩ := Stp.newN s2.own n3
 refine ⟨zc5 (n3.cle _ _ (n2.cle _ _ (n1.cle _ _ c1))), pbf1 p, ?_⟩
 refine z3U (s3.own.rn (ht.mono ((s1.trans s2).trans s3).ext.cle)) (by omega) fun v34 h4 n4 => ?_
 obtain ⟨R4, s4, r34⟩ := Stp.newN s3.own n4
 have c4 := n4.cle _ _ (n3.cle _ _ (n2.cle _ _ (n1.cle _ _ c1)))
 refine ⟨zc5 c4, pbf1 p, ?_⟩
 have st4 := ((s1.trans s2).trans s3).trans s4
 have x4 : Hp.ext h h4 := ((n1.ext.trans n2.ext).trans n3.ext).trans n4.ext
 have q28 := r28.mono ((s2.trans s3).trans s4).ext.cle
 have q30 := r30.mono (s3.trans s4).ext.cle
 have q32 := r32.mono s4.ext.cle
 have hX4 : BoxesAt R4 h4 bx bs Sb := hX.keep st4.ext fun x hx => by
  obtain ⟨o, e⟩ := w.kn x (by simp [hx])
  rw [e, x4 _ _ e]
 have hp4 := x4 _ _ hp
 have hr4 := x4 _ _ hr
 have ow := st4.own
 clear n1 n2 n3 n4 s1 s2 s3 s4 r28 r30 r32 hX
 have hf28 := zO q28
 have hf30 := zO q30
 have hf32 := zO q32
 have hf34 := zO r34
 obtain ⟨a28, c28, e28, _⟩ := q28.shape
 obtain ⟨a30, c30, e30, _⟩ := q30.shape
 obtain ⟨a32, c32, e32, _⟩ := q32.shape
 obtain ⟨a34, c34, e34, _⟩ := r34.shape
 rw [show q P emp (Instr.build z16 #[(0, v28), (1, v30), (2, v32), (3, v34)]) = fun K => K (.agg #[v28, v30, v32, v34]) from by
  funext K; rw [e28, e30, e32, e34]; exact zmL ..]
 refine zjL (ys := [v28, v30, v32, v34]) z2r z8j zgr rfl rfl (by omega) (by omega) fun v36 h5 n5 => ?_
 refine ⟨zc5 (n5.cle _ _ c4), pbf1 p, ?_⟩
 have hfl : ∀ y ∈ [v28, v30, v32, v34], flat y = true := by
  intro y hy
  simp only [List.mem_cons, List.not_mem_nil, or_false] at hy
  rcases hy with rfl | rfl | rfl | rfl <;> assumption
 -- the row of boxes, in what stands beside
 have app : ∃ X xs, New X z16 4 bx h5 xs bs.length ∧ BoxCells R4 xs bs ∧ (∀ x, x ∉ Sb → X x = h5 x) ∧ (∀ x, x ∈ Sb → X x = none) := by
  rcases hX4 with ⟨rfl, rfl, rfl⟩ | ⟨bb', cc, ff, xs, rfl, hle, hbb, hfz, hxs, rfl⟩
  ·exact ⟨h5, [], ⟨rfl, .inl ⟨rfl, rfl, rfl⟩⟩, trivial, fun _ _ => rfl, fun x hx => by cases hx⟩
  ·refine ⟨h5.del bb', xs, New.at (n5.ext _ _ hbb) hxs.len hle hfz, hxs, fun x hx => ?_, fun x hx => ?_⟩
   ·simp only [List.mem_singleton] at hx
    exact Hp.del_ne _ hx
   ·rw [List.mem_singleton.1 hx]; exact zhV _ _
 obtain ⟨X, xs, nX, hxs, X1, X2⟩ := app
 have r36 : Rds h5 4 v36 [v28, v30, v32, v34] 1 := n5.rds
 refine z1t z2r z2r zlg rfl (by omega) nX r36 hfl (by omega) (.refl _) fun v37 h6 n6 => ?_
 obtain ⟨b6, c6, f6, hb6, hc6, rfl, rfl, hf6⟩ := n6.form (by omega)
 have hpX : X p = some (.row z3g [.map (some r), bx] 2 (some (0, 0))) := by rw [X1 p hpS]; exact n5.ext _ _ hp4
 have hrX : X r = some (.obj (.map es c)) := by rw [X1 r hrS]; exact n5.ext _ _ hr4
 have np : p ≠ b6 := by rintro rfl; rw [hb6] at hpX; cases hpX
 have nr : r ≠ b6 := by rintro rfl; rw [hb6] at hrX; cases hrX
 refine z26 (zcS) rfl (z2b (off := 1) (by rw [Hp.set_ne _ _ np]; exact hpX) (by simp) (by simp) _) ?_
 obtain ⟨at', ct, rfl, _⟩ := ht.shape
 have e16 : ((t.length : Nat) : Int) + 16 = ((t.length + 16 : Nat) : Int) := by omega
 simp (disch := omega) only [GL, RL, wi64, e16]
 refine zgn bs.length (t.length + 16) (by omega) (by omega) fun v44 h8 n8 => ?_
 obtain ⟨h7, hh7⟩ : ∃ h7, (X.set b6 (.row z16 (xs ++ [v28, v30, v32, v34]) (c6 * 4) (some f6))).set p (.row z3g ([Value.map (some r), bx].set 1 (.slice (some ⟨b6, 0, none⟩) (bs.length + 1) c6)) 2 (some (0, 0))) = h7 := ⟨_, rfl⟩
 rw [hh7] at n8
 have k7 : ∀ x o, x ∉ p :: r :: Sb → h4 x = some o → h7 x = some o := fun x o hx e => by
  simp only [List.mem_cons, not_or] at hx
  have e5 := n5.ext _ _ e
  have eX : X x = some o := by rw [X1 x hx.2.2]; exact e5
  rw [← hh7, Hp.set_ne _ _ hx.1, Hp.set_ne _ _ (by rintro rfl; rw [hb6] at eX; cases eX)]
  exact eX
 have b6n : ∀ x o, x ∉ p :: r :: Sb → h4 x = some o → x ≠ b6 := fun x o hx e => by
  rintro rfl
  simp only [List.mem_cons, not_or] at hx
  have eX : X x = some o := by rw [X1 x hx.2.2]; exact n5.ext _ _ e
  rw [hb6] at eX; cases eX
 have st7 : Stp R4 h4 R4 h7 (p :: r :: Sb) [p, r, b6] := by
  refine ⟨.refl _, k7, fun x o hx e => ?_, fun x o _ _ e => e, ⟨fun x o e => ?_, fun x hx => ?_, fun x hx => ?_⟩⟩
  ·have := b6n x o hx e
   simp only [List.mem_cons, not_or] at hx ⊢
   exact ⟨hx.1, hx.2.1, this, by simp⟩
  ·refine k7 x o (fun hx => ?_) (ow.sub x o e)
   rw [ow.dis x hx] at e; cases e
  ·simp only [List.mem_cons, List.not_mem_nil, or_false] at hx
   rcases hx with rfl | rfl | rfl
   ·exact ow.dis _ (by simp)
   ·exact ow.dis _ (by simp)
   ·cases e : R4 x with
    | none => rfl
    | some o =>
     refine absurd rfl (b6n x o (fun hx => ?_) (ow.sub x o e))
     rw [ow.dis x hx] at e; cases e
  ·simp only [List.mem_cons, List.not_mem_nil, or_false] at hx
   rcases hx with rfl | rfl | rfl
   ·exact ⟨_, by rw [← hh7]; exact Hp.set_same ..⟩
   ·exact ⟨_, by rw [← hh7, Hp.set_ne _ _ (Ne.symm hpr), Hp.set_ne _ _ nr]; exact hrX⟩
   ·exact ⟨_, by rw [← hh7, Hp.set_ne _ _ (Ne.symm np)]; exact Hp.set_same ..⟩
 obtain ⟨R8, s8, r44⟩ := Stp.newN st7.own n8
 have key8 : BookAt R4 h7 p ts (bs ++ [⟨key, nonce, b, t⟩]) [p, r, b6] := by
  refine ⟨r, .slice (some ⟨b6, 0, none⟩) (bs.length + 1) c6, es, c, [b6], ?_, ?_, hT, .inr ⟨b6, c6, f6, xs ++ [v28, v30, v32, v34], ?_, ?_, ?_, hf6, BoxCells.snoc ⟨q28, q30, q32, r34⟩ hxs, rfl⟩, rfl, hpr, by simpa using np, by simpa using nr, fun bx hbx => ?_⟩
  ·rw [← hh7]; exact Hp.set_same ..
  ·rw [← hh7, Hp.set_ne _ _ (Ne.symm hpr), Hp.set_ne _ _ nr]; exact hrX
  ·rw [List.length_append]; rfl
  ·rw [List.length_append]; exact hc6
  ·rw [← hh7, Hp.set_ne _ _ (Ne.symm np)]; exact Hp.set_same ..
  ·rcases List.mem_append.1 hbx with q | q
   ·exact hby bx q
   ·rw [List.mem_singleton.1 q]; exact ⟨bk, bn, bb, bt⟩
 refine k v44 R8 h8 [p, r, b6] ((st4.trans st7).trans s8) (key8.keep s8.ext fun x hx => ?_) r44
 obtain ⟨o, e⟩ := st7.own.kn x hx
 rw [e, n8.ext _ _ e]
theorem zjq {R : Hp} {p : Nat} {ts : List (List Nat)} {bs : List Box} {S : List Nat} {vk vn vb vx : Value} {key nonce b x : List Nat} (w : Own R h S) (hB : BookAt R h p ts bs S) (nb : bs.length ≤ 1000000)
  (hk : Rn R .u8 vk key) (hn : Rn R .u8 vn nonce) (hb : Rn R .u8 vb b) (hx : Rn R .u8 vx x) (bk : Bytes key) (bn : Bytes nonce) (bb : Bytes b) (bx : Bytes x) (lx : x.length ≤ 1099511627776) (lbs : ∀ s ∈ bs, s.text.length ≤ 1099511627776)
  (k : ∀ v R' h', Stp R h R' h' S S → BookAt R' h' p ts bs S → (if (z1G (.book ts bs) key nonce b x).1 = 0 then Rn R' .u8 v (z1G (.book ts bs) key nonce b x).2 else v = .slice none 0 0) → K (.tuple #[v, .int .i64 (((z1G (.book ts bs) key nonce b x).1 : Nat) : Int)]) h') :
  Cn P z4x #[.pointer (some ⟨p, 0, none⟩), vk, vn, vb, vx] h K := by
 refine zd6 ?_
 unfold z6V
 refine zdm (w.rn hk) (w.rn hn) ?_
 by_cases hm : may key nonce
 case neg =>
  have e : z1G (.book ts bs) key nonce b x = (1, []) := by unfold z1G; rw [if_neg hm]
  rw [e] at k
  simp only [hm, decide_false, GL, RL, Bool.not_false, if_true]
  exact k _ R h (.refl w) hB rfl
 have eo : z1G (.book ts bs) key nonce b x = z2N bs key nonce b x := by unfold z1G; rw [if_pos hm]
 rw [eo] at k
 simp (disch := omega) only [hm, decide_true, GL, RL, Bool.not_true, Bool.false_eq_true, if_false]
 obtain ⟨ax, cx, rfl, hcx⟩ := hx.shape
 have e16 : decide (((x.length : Nat) : Int) < 16) = decide (x.length < 16) := zL _ 16
 simp (disch := omega) only [GL, RL, e16]
 by_cases h16 : x.length < 16
 ·have e : z2N bs key nonce b x = (8, []) := by unfold z2N; rw [if_pos h16]
  rw [e] at k
  simp only [h16, decide_true, if_true]
  exact k _ R h (.refl w) hB rfl
 simp only [h16, decide_false, Bool.false_eq_true, if_false]
 refine zf4 (w.rn hx) bx (by omega) ?_
 have eb : z2N bs key nonce b x = match bs[bval (x.take 8)]? with
  | none => (7, [])
  | some s => if s.key = key ∧ s.nonce = nonce ∧ s.beside = b ∧ boxB (bval (x.take 8)) (s.text.length + 16) = x then (0, s.text) else (7, []) := by unfold z2N; rw [if_neg h16] <;> rfl
 rw [eb] at k
 have hnlt := z5s bx 8
 generalize bval (x.take 8) = n at k hnlt
 have p8 : (256 : Nat) ^ 8 = 18446744073709551616 := rfl
 rw [p8] at hnlt
 have hB0 := hB
 obtain ⟨r, bxv, es, c, Sb, hp, hr, hT, hX, rfl, hpr, hpS, hrS, hby⟩ := hB
 have c1 : h.cell ⟨p, 1, none⟩ = some bxv := by rw [zj hp]; rfl
 have eg : decide (((bs.length : Nat) : Int) ≤ ((n : Nat) : Int)) = decide (bs.length ≤ n) := by rw [decide_eq_decide]; omega
 simp (disch := omega) only [GL, RL, bf1, c1, ziK hX, z2j, eg]
 by_cases hge : bs.length ≤ n
 ·rw [List.getElem?_eq_none hge] at k
  simp only [hge, decide_true, if_true]
  exact k _ R h (.refl w) hB0 rfl
 simp only [hge, decide_false, Bool.false_eq_true, if_false]
 have hlt : n < bs.length := by omega
 rw [List.getElem?_eq_getElem hlt] at k
 have hs : bs[n]? = some bs[n] := List.getElem?_eq_getElem hlt
 have bys := hby bs[n] (List.getElem_mem hlt)
 have lbt := lbs bs[n] (List.getElem_mem hlt)
 generalize bs[n] = s at k hs bys lbt
 rcases hX with ⟨_, rfl, _⟩ | ⟨bb', cc, ff, xs, rfl, hle, hbb, hfz, hxs, rfl⟩
 ·simp at hlt
 obtain ⟨wk, wn, wb, wt, hcells, rk, rn, rb, rt⟩ := hxs.get n hs
 rw [z6n z2r z8j ⟨bb', 0, none⟩ bs.length cc .u64 n (by omega) (by omega), Int.toNat_natCast, z1d, Nat.zero_add]
 rw [z7i (ys := [wk, wn, wb, wt]) zfw rfl z8j (b := bb') (o := n * 4) (fun j y e => by rw [zj hbb]; exact hcells j y e)]
 refine zS nil4 zgr rfl fun r13 hr13 => ?_
 have hflat : ∀ y ∈ [wk, wn, wb, wt], flat y = true := by
  intro y hy
  simp only [List.mem_cons, List.not_mem_nil, or_false] at hy
  rcases hy with rfl | rfl | rfl | rfl
  ·exact zO rk
  ·exact zO rn
  ·exact zO rb
  ·exact zO rt
 refine zD (ys := [wk, wn, wb, wt]) z8j (Hp.set_same ..) rfl hflat (fun i _ => by simp) ?_
 rw [Hp.set_set]
 have s0 := Stp.block (.row z16 [wk, wn, wb, wt] 4 (some (0, 0))) w hr13
 have x0 : Hp.ext h (h.set r13 (.row z16 [wk, wn, wb, wt] 4 (some (0, 0)))) := z1x _ hr13
 have hM : (h.set r13 (.row z16 [wk, wn, wb, wt] 4 (some (0, 0)))) r13 = some (.row z16 [wk, wn, wb, wt] 4 (some (0, 0))) := Hp.set_same ..
 generalize h.set r13 (.row z16 [wk, wn, wb, wt] 4 (some (0, 0))) = M at s0 x0 hM
 generalize R.set r13 (.row z16 [wk, wn, wb, wt] 4 (some (0, 0))) = R0 at s0
 have d0 : M.cell ⟨r13, 0, none⟩ = some wk := by rw [zj hM]; rfl
 have d1 : M.cell ⟨r13, 1, none⟩ = some wn := by rw [zj hM]; rfl
 have d2 : M.cell ⟨r13, 2, none⟩ = some wb := by rw [zj hM]; rfl
 have d3 : M.cell ⟨r13, 3, none⟩ = some wt := by rw [zj hM]; rfl
 have up : ∀ {v : Value} {l : List Nat}, Rn R .u8 v l → Rn M .u8 v l := fun r => s0.own.rn (r.mono s0.ext.cle)
 have kB : ∀ R' h', Hp.ext R R' → Hp.ext h h' → BookAt R' h' p ts bs (p :: r :: [bb']) := fun R' h' xR xh => hB0.keep xR fun x hx => by
  obtain ⟨o, e⟩ := w.kn x hx
  rw [e, xh _ _ e]
 have fin7 : ∀ R' h', Stp R0 M R' h' (p :: r :: [bb']) (p :: r :: [bb']) → Hp.ext M h' → ¬ (s.key = key ∧ s.nonce = nonce ∧ s.beside = b ∧ boxB n (s.text.length + 16) = x) → K (.tuple #[.slice none 0 0, .int .i64 7]) h' := fun R' h' st xt hne => by
  dsimp only at k
  simp only [if_neg hne] at k
  exact k _ R' h' (s0.trans st) (kB R' h' (s0.ext.trans st.ext) (x0.trans xt)) rfl
 simp (disch := omega) only [GL, RL, sf0, sf1, sf2, sf3, d0]
 refine z4K (up rk) (up hk) bys.1 bk ?_
 by_cases g1 : s.key = key
 case neg =>
  simp only [g1, decide_false, GL, RL, Bool.not_false, Bool.true_eq_false, if_false, if_true]
  exact fin7 _ _ (.refl s0.own) (.refl _) (fun q => g1 q.1)
 simp (disch := omega) only [g1, decide_true, GL, RL, Bool.not_true, if_true, sf1, d1]
 refine z4K (up rn) (up hn) bys.2.1 bn ?_
 by_cases g2 : s.nonce = nonce
 case neg =>
  simp only [g2, decide_false, GL, RL, Bool.not_false, Bool.true_eq_false, if_false, if_true]
  exact fin7 _ _ (.refl s0.own) (.refl _) (fun q => g2 q.2.1)
 simp (disch := omega) only [g2, decide_true, GL, RL, Bool.not_true, if_true, sf2, d2]
 refine z4K (up rb) (up hb) bys.2.2.1 bb ?_
 by_cases g3 : s.beside = b
 case neg =>
  simp only [g3, decide_false, GL, RL, Bool.not_false, Bool.true_eq_false, if_false, if_true]
  exact fin7 _ _ (.refl s0.own) (.refl _) (fun q => g3 q.2.2.1)
 obtain ⟨at', ct, rfl, hct⟩ := rt.shape
 have el : ((s.text.length : Nat) : Int) + 16 = ((s.text.length + 16 : Nat) : Int) := by omega
 simp (disch := omega) only [g3, decide_true, GL, RL, Bool.not_true, if_true, sf3, d3, wi64, el]
 refine zgn n (s.text.length + 16) (by omega) (by omega) fun v66 h2 n2 => ?_
 obtain ⟨R2, s2, _⟩ := Stp.newN s0.own n2
 refine z4K n2.rn ((up hx).mono n2.cle) (zf1 _ _) bx ?_
 by_cases g4 : boxB n (s.text.length + 16) = x
 case neg =>
  simp only [g4, decide_false, GL, RL, Bool.not_false, if_true]
  exact fin7 _ _ s2 n2.ext (fun q => g4 q.2.2.2)
 simp only [g4, decide_true, GL, RL, Bool.not_true, Bool.false_eq_true, if_false]
 have d3' := n2.cle _ _ d3
 simp (disch := omega) only [GL, RL, sf3, d3']
 refine z3U ((up rt).mono n2.cle) (by omega) fun v73 h3 n3 => ?_
 obtain ⟨R3, s3, r3⟩ := Stp.newN s2.own n3
 dsimp only at k
 simp only [if_pos (show s.key = key ∧ s.nonce = nonce ∧ s.beside = b ∧ boxB n (s.text.length + 16) = x from ⟨g1, g2, g3, g4⟩)] at k
 exact k _ R3 h3 ((s0.trans s2).trans s3) (kB R3 h3 ((s0.trans s2).trans s3).ext ((x0.trans n2.ext).trans n3.ext)) (by simpa using r3)
end
def CrAt (R h : Hp) (vc : Value) (c : Cr) (S : List Nat) : Prop :=
 match c with
 | .real => vc = .iface z2x (.agg #[]) ∧ S = []
 | .book ts bs => ∃ p, vc = .iface z45 (.pointer (some ⟨p, 0, none⟩)) ∧ BookAt R h p ts bs S
def few (n : Nat) (c : Cr) : Prop :=
 match c with
 | .real => True
 | .book _ bs => bs.length ≤ n ∧ ∀ s ∈ bs, s.text.length ≤ 1099511627776
theorem few.mono {n m : Nat} {c : Cr} (f : few n c) (h : n ≤ m) : few m c := by
 cases c with
 | real => trivial
 | book ts bs => exact ⟨Nat.le_trans f.1 h, f.2⟩
theorem few.next {n : Nat} {c : Cr} (f : few n c) (key nonce b t : List Nat) (lt : t.length ≤ 1099511627776) : few (n + 1) (zN c key nonce b t).2.2 := by
 cases c with
 | real => unfold zN; dsimp only; split <;> trivial
 | book ts bs =>
  unfold zN
  dsimp only
  split
  ·refine ⟨by rw [List.length_append]; have := f.1; simp; omega, fun s hs => ?_⟩
   rcases List.mem_append.1 hs with q | q
   ·exact f.2 s q
   ·rw [List.mem_singleton.1 q]; exact lt
  ·exact f.mono (Nat.le_succ n)
theorem CrAt.keep {R R' h h' : Hp} {vc : Value} {c : Cr} {S : List Nat} (a : CrAt R h vc c S) (e : Hp.ext R R') (k : ∀ b, b ∈ S → h' b = h b) : CrAt R' h' vc c S := by
 cases c with
 | real => exact a
 | book ts bs => exact let ⟨p, hp, hB⟩ := a; ⟨p, hp, hB.keep e k⟩
theorem CrAt.shape {R h : Hp} {vc : Value} {c : Cr} {S : List Nat} (a : CrAt R h vc c S) : ∃ t v, vc = .iface t v := by
 cases c with
 | real => exact ⟨_, _, a.1⟩
 | book ts bs => exact let ⟨p, hp, _⟩ := a; ⟨_, _, hp⟩
theorem zc6 {c : Cr} {key nonce b t : List Nat} (bt : Bytes t) : Bytes (zN c key nonce b t).2.1 := by
 cases c with
 | real =>
  unfold zN; dsimp only; split
  ·exact zjk _ _ _ bt
  ·intro x hx; cases hx
 | book ts bs =>
  unfold zN; dsimp only; split
  ·exact zf1 _ _
  ·intro x hx; cases hx
theorem z9Z {c : Cr} {key nonce b t : List Nat} (h : (zN c key nonce b t).1 = 0) : (zN c key nonce b t).2.1.length = t.length + 16 := by
 cases c with
 | real =>
  unfold zN at h ⊢; dsimp only at h ⊢; split at h
  ·rename_i hm; rw [if_pos hm]; exact zbY _ _ _ _
  ·cases h
 | book ts bs =>
  unfold zN at h ⊢; dsimp only at h ⊢; split at h
  ·rename_i hm; rw [if_pos hm]; exact z2M _ _
  ·cases h
theorem zdp (key nonce b x : List Nat) : (z1G .real key nonce b x).1 = z4J key nonce b x ∧ (z4J key nonce b x = 0 → (z1G .real key nonce b x).2 = (z2R key nonce b x).2) := by
 by_cases hm : may key nonce
 ·have hm' : key.length = 32 ∧ nonce.length = 12 := hm
  simp only [z1G, if_pos hm, z4J, if_pos hm', implies_true, and_self]
 ·have hm' : ¬ (key.length = 32 ∧ nonce.length = 12) := hm
  simp only [z1G, if_neg hm, z4J, if_neg hm', Nat.one_ne_zero, false_implies, and_self]
section
variable {h : Hp} {K : Value → Hp → Prop}
theorem zoe {R : Hp} {vc : Value} {c : Cr} {S : List Nat} {vk vn vb vt : Value} {key nonce b t : List Nat} (w : Own R h S) (hC : CrAt R h vc c S) (hf : few 1000000 c)
  (hk : Rn R .u8 vk key) (hn : Rn R .u8 vn nonce) (hb : Rn R .u8 vb b) (ht : Rn R .u8 vt t) (bk : Bytes key) (bn : Bytes nonce) (bb : Bytes b) (bt : Bytes t)
  (lb : b.length ≤ 1099511627776) (lt : t.length ≤ 1099511627776)
  (k : ∀ v R' h' S', Stp R h R' h' S S' → CrAt R' h' vc (zN c key nonce b t).2.2 S' → (if (zN c key nonce b t).1 = 0 then Rn R' .u8 v (zN c key nonce b t).2.1 else v = .slice none 0 0) → K (.tuple #[v, .int .i64 (((zN c key nonce b t).1 : Nat) : Int)]) h') :
  aw P (callMethod vc "Seal" #[vk, vn, vb, vt]) (z3H P K) h := by
 cases c with
 | real =>
  obtain ⟨rfl, rfl⟩ := hC
  refine z8e (g := z5z) (r := .agg #[]) (by kernel_rfl) ?_
  show Cn P z5z #[.agg #[], vk, vn, vb, vt] h K
  refine zaJ ?_
  unfold z5O
  refine z2S fun r hr => ?_
  have s0 := Stp.block (.row z2x (Value.agg #[]).cells.toList (Value.agg #[]).cells.size (some (0, 0))) w hr
  generalize h.set r (.row z2x (Value.agg #[]).cells.toList (Value.agg #[]).cells.size (some (0, 0))) = M at s0
  generalize R.set r (.row z2x (Value.agg #[]).cells.toList (Value.agg #[]).cells.size (some (0, 0))) = R0 at s0
  have up : ∀ {v : Value} {l : List Nat}, Rn R .u8 v l → Rn M .u8 v l := fun r => s0.own.rn (r.mono s0.ext.cle)
  refine zrj (up hk) (up hn) (up hb) (up ht) bk bn bb bt lb lt fun v h1 n1 => ?_
  rw [ext0, ext1]
  by_cases hm : key.length = 32 ∧ nonce.length = 12
  ·have hm' : may key nonce := hm
   simp only [if_pos hm] at n1 ⊢
   simp only [zN, if_pos hm'] at k
   obtain ⟨R1, s1, r1⟩ := Stp.newN s0.own n1
   exact k v R1 h1 [] (s0.trans s1) ⟨rfl, rfl⟩ (by simpa using r1)
  ·have hm' : ¬ may key nonce := hm
   simp only [if_neg hm] at n1 ⊢
   simp only [zN, if_neg hm'] at k
   obtain ⟨rfl, rfl⟩ := n1
   exact k _ R0 h1 [] s0 ⟨rfl, rfl⟩ (by simp)
 | book ts bs =>
  obtain ⟨p, rfl, hB⟩ := hC
  refine z8e (g := z4y) (r := .pointer (some ⟨p, 0, none⟩)) (by kernel_rfl) ?_
  show Cn P z4y #[.pointer (some ⟨p, 0, none⟩), vk, vn, vb, vt] h K
  refine zjp w hB hf.1 hk hn hb ht bk bn bb bt lb lt fun v R' h' S' st hB' hv => ?_
  by_cases hm : may key nonce
  ·simp only [if_pos hm] at hB' hv ⊢
   simp only [zN, if_pos hm] at k
   exact k v R' h' S' st ⟨p, rfl, hB'⟩ (by simpa using hv)
  ·simp only [if_neg hm] at hB' hv ⊢
   simp only [zN, if_neg hm] at k
   exact k v R' h' S' st ⟨p, rfl, hB'⟩ (by simpa using hv)
theorem zof {R : Hp} {vc : Value} {c : Cr} {S : List Nat} {vk vn vb vx : Value} {key nonce b x : List Nat} (w : Own R h S) (hC : CrAt R h vc c S) (hf : few 1000000 c)
  (hk : Rn R .u8 vk key) (hn : Rn R .u8 vn nonce) (hb : Rn R .u8 vb b) (hx : Rn R .u8 vx x) (bk : Bytes key) (bn : Bytes nonce) (bb : Bytes b) (bx : Bytes x)
  (lb : b.length ≤ 1099511627776) (lx : x.length ≤ 1099511627776)
  (k : ∀ v R' h', Stp R h R' h' S S → CrAt R' h' vc c S → (if (z1G c key nonce b x).1 = 0 then Rn R' .u8 v (z1G c key nonce b x).2 else v = .slice none 0 0) → K (.tuple #[v, .int .i64 (((z1G c key nonce b x).1 : Nat) : Int)]) h') :
  aw P (callMethod vc "Open" #[vk, vn, vb, vx]) (z3H P K) h := by
 cases c with
 | real =>
  obtain ⟨rfl, rfl⟩ := hC
  refine z8e (g := z5y) (r := .agg #[]) (by kernel_rfl) ?_
  show Cn P z5y #[.agg #[], vk, vn, vb, vx] h K
  refine zaI ?_
  unfold z5N
  refine z2S fun r hr => ?_
  have s0 := Stp.block (.row z2x (Value.agg #[]).cells.toList (Value.agg #[]).cells.size (some (0, 0))) w hr
  generalize h.set r (.row z2x (Value.agg #[]).cells.toList (Value.agg #[]).cells.size (some (0, 0))) = M at s0
  generalize R.set r (.row z2x (Value.agg #[]).cells.toList (Value.agg #[]).cells.size (some (0, 0))) = R0 at s0
  have up : ∀ {v : Value} {l : List Nat}, Rn R .u8 v l → Rn M .u8 v l := fun r => s0.own.rn (r.mono s0.ext.cle)
  refine zro (up hk) (up hn) (up hb) (up hx) bk bn bb bx lb lx fun v h1 n1 => ?_
  rw [ext0, ext1]
  obtain ⟨eO, eO2⟩ := zdp key nonce b x
  rw [eO] at k
  by_cases h0 : z4J key nonce b x = 0
  ·simp only [if_pos h0] at n1 k
   rw [eO2 h0] at k
   obtain ⟨R1, s1, r1⟩ := Stp.newN s0.own n1
   exact k v R1 h1 (s0.trans s1) ⟨rfl, rfl⟩ r1
  ·simp only [if_neg h0] at n1 k
   obtain ⟨rfl, rfl⟩ := n1
   exact k _ R0 h1 s0 ⟨rfl, rfl⟩ rfl
 | book ts bs =>
  obtain ⟨p, rfl, hB⟩ := hC
  refine z8e (g := z4x) (r := .pointer (some ⟨p, 0, none⟩)) (by kernel_rfl) ?_
  show Cn P z4x #[.pointer (some ⟨p, 0, none⟩), vk, vn, vb, vx] h K
  exact zjq w hB hf.1 hk hn hb hx bk bn bb bx lx hf.2 fun v R' h' st hB' hv => k v R' h' st ⟨p, rfl, hB'⟩ hv
theorem zrv (k : K (.iface z2x (.agg #[])) h) : Cn P zhk #[] h K := by
 refine zhC ?_
 unfold zbd
 refine (q_of (v := .agg #[]) (by kernel_rfl) _).mpr ?_
 refine (zow zfv rfl _).mpr ?_
 exact k
end
end Go.Proofs.YtoikhbagchfeoaaGreat
namespace Go.Proofs.YtoikhbagchfeoaaGreat
open Go Go.SL Go.Pure Go.Curve
def infoW : List Nat := [111, 114, 108, 111, 112, 32, 119, 114, 97, 112]
def keyW (shared once point : List Nat) : List Nat := z6d shared (once ++ point) infoW
theorem z6e (a b c : List Nat) : (keyW a b c).length = 32 := z54 _ _
theorem z7e (a b c : List Nat) : Bytes (keyW a b c) := zdo _ _
theorem zdq : Bytes infoW := by intro x hx; simp [infoW] at hx; omega
def zeros12 : List Nat := List.replicate 12 0
theorem z4L : Bytes zeros12 := fun x hx => by rw [List.eq_of_mem_replicate hx]; decide
theorem wp0 {h : Hp} {K : Value → Prop} (b : Nat) : q P h (Instr.fieldAt zF (.pointer (some ⟨b, 0, none⟩)) 0) K = K (.pointer (some ⟨b, 0, none⟩)) := q_of (by kernel_rfl) K
theorem wp1 {h : Hp} {K : Value → Prop} (b : Nat) : q P h (Instr.fieldAt zF (.pointer (some ⟨b, 0, none⟩)) 1) K = K (.pointer (some ⟨b, 1, none⟩)) := q_of (by kernel_rfl) K
theorem wp2 {h : Hp} {K : Value → Prop} (b : Nat) : q P h (Instr.fieldAt zF (.pointer (some ⟨b, 0, none⟩)) 2) K = K (.pointer (some ⟨b, 2, none⟩)) := q_of (by kernel_rfl) K
theorem pwp2 {h : Hp} (b : Nat) : peek P h (Instr.fieldAt zF (.pointer (some ⟨b, 0, none⟩)) 2) = some (.pointer (some ⟨b, 2, none⟩)) := by kernel_rfl
theorem z3P : sz P zF = some 3 := by kernel_rfl
theorem z6f : zr P zF = some (.agg [.slice none 0 0, .slice none 0 0, .slice none 0 0].toArray) := by kernel_rfl
theorem zmN {h : Hp} {K : Value → Prop} (a b : Value) (ha : ∃ x n c, a = .slice x n c) (hb : ∃ x n c, b = .slice x n c) : q P h (Instr.build zF #[(0, a), (1, b)]) K = K (.agg #[a, b, .slice none 0 0]) := by
 obtain ⟨x, n, c, rfl⟩ := ha
 obtain ⟨y, m, d, rfl⟩ := hb
 exact q_of (by kernel_rfl) K
theorem zog {R h : Hp} {vc : Value} {c : Cr} {S : List Nat} (a : CrAt R h vc c S) : peek P emp (zv (.func (.method "Seal") #[vc] #[])) = some (.func (.method "Seal") #[vc] #[]) := by
 cases c with
 | real => obtain ⟨rfl, _⟩ := a; kernel_rfl
 | book ts bs => obtain ⟨p, rfl, _⟩ := a; kernel_rfl
theorem zoh {R h : Hp} {vc : Value} {c : Cr} {S : List Nat} (a : CrAt R h vc c S) : peek P emp (zv (.func (.method "Open") #[vc] #[])) = some (.func (.method "Open") #[vc] #[]) := by
 cases c with
 | real => obtain ⟨rfl, _⟩ := a; kernel_rfl
 | book ts bs => obtain ⟨p, rfl, _⟩ := a; kernel_rfl
section
variable {h : Hp} {K : Value → Hp → Prop}
theorem z7V {h : Hp} {v : Value} {l : List Nat} (r : Rn h .u8 v l) : ∃ x n c, v = .slice x n c := by obtain ⟨a, c, e, _⟩ := r.shape; exact ⟨a, _, c, e⟩
theorem zoP {vp vo vb vs : Value} {point once shared : List Nat} (rp : Rn h .u8 vp point) (ro : Rn h .u8 vo once) (rs : Rn h .u8 vs shared) (fb : flat vb = true) (bp : Bytes point) (bo : Bytes once) (bs : Bytes shared) (lp : point.length ≤ 100000) (lo : once.length ≤ 100000) (ls : shared.length ≤ 100000)
  (k : ∀ r w h', Nn h zc .u8 w h' (keyW shared once point) → (∀ H, Rn H .u8 w (keyW shared once point) → Rn H .u8 r (keyW shared once point)) → K r h') : Cn P zdu #[.agg #[vp, vo, vb], vs] h K := by
 refine Cn_wk (zdF ?_)
 unfold z7x
 refine z2S fun r hr => ?_
 have hC : (Value.agg #[vp, vo, vb]).cells.toList = [vp, vo, vb] := rfl
 have hC2 : (Value.agg #[vp, vo, vb]).cells.size = 3 := rfl
 rw [hC, hC2]
 have x0 : Hp.ext h (h.set r (.row zF [vp, vo, vb] 3 (some (0, 0)))) := z1x _ hr
 have e0 : (h.set r (.row zF [vp, vo, vb] 3 (some (0, 0)))) r = some (.row zF [vp, vo, vb] 3 (some (0, 0))) := Hp.set_same ..
 have c0 : (h.set r (.row zF [vp, vo, vb] 3 (some (0, 0)))).cell ⟨r, 0, none⟩ = some vp := by rw [zj e0]; rfl
 have c1 : (h.set r (.row zF [vp, vo, vb] 3 (some (0, 0)))).cell ⟨r, 1, none⟩ = some vo := by rw [zj e0]; rfl
 simp -zeta only [wp0, wp1, RL, c0, c1, GL]
 show aw P _ _ (h.set r (.row zF [vp, vo, vb] 3 (some (0, 0))))
 generalize h.set r (.row zF [vp, vo, vb] 3 (some (0, 0))) = H at *
 have e2 : z1f [(0, vo), (1, vp)] (List.replicate 2 (.slice none 0 0)) = [vo, vp] := rfl
 refine zT (ps := [(0, vo), (1, vp)]) z1R z2P z3b rfl (by omega) (by
   intro p hp
   simp only [List.mem_cons, List.not_mem_nil, or_false] at hp
   rcases hp with rfl | rfl
   ·exact ⟨zO ro, by show 0 < 2; omega⟩
   ·exact ⟨zO rp, by show 1 < 2; omega⟩) fun v1 H1 n1 _ => ?_
 rw [e2] at n1
 have P1 := zk2 n1 (ro.mono x0.cle) (rp.mono x0.cle)
 have fl : [once, point].flatten = once ++ point := by simp
 refine ze4 P1 (by rw [fl, List.length_append]; omega) (by show 2 ≤ _; omega) fun v2 H2 n2 => ?_
 rw [fl] at n2
 have e3 : z1f [(0, Value.int .u8 111), (1, .int .u8 114), (2, .int .u8 108), (3, .int .u8 111), (4, .int .u8 112), (5, .int .u8 32), (6, .int .u8 119), (7, .int .u8 114), (8, .int .u8 97), (9, .int .u8 112)] (List.replicate 10 (.int .u8 0)) = nv .u8 infoW := rfl
 refine zT (ps := [(0, .int .u8 111), (1, .int .u8 114), (2, .int .u8 108), (3, .int .u8 111), (4, .int .u8 112), (5, .int .u8 32), (6, .int .u8 119), (7, .int .u8 114), (8, .int .u8 97), (9, .int .u8 112)]) za zp z1p rfl (by omega) (by
   intro p hp
   simp only [List.mem_cons, List.not_mem_nil, or_false] at hp
   rcases hp with rfl | rfl | rfl | rfl | rfl | rfl | rfl | rfl | rfl | rfl <;> exact ⟨rfl, by decide⟩) fun v3 H3 _ hx3 => ?_
 obtain ⟨rb, hrb, rfl, rfl⟩ := hx3
 rw [e3]
 refine zjX hrb rfl fun H3 n3 => ?_
 have n3' : Nn H2 zc .u8 (.slice (some ⟨rb, 0, none⟩) 10 10) H3 infoW := n3
 have x3 : Hp.ext h H3 := ((x0.trans n1.ext).trans n2.ext).trans n3'.ext
 refine zlf (rs.mono x3.cle) (n2.rn.mono n3'.ext.cle) n3'.rn bs (bo.append bp) zdq (by omega) (by rw [List.length_append]; omega) (by decide) fun v4 w4 H4 n4 c4 => ?_
 rw [ext0, ext1]
 obtain ⟨h0, l0, nw⟩ := n4.down x3.le
 exact ⟨h0, l0, k _ _ _ nw c4⟩
theorem ziL (k : ∀ v h', Nn h zc .u8 v h' zeros12 → K v h') : Cn P zhj #[] h K := by
 refine zhB ?_
 unfold zbc
 refine z2w (n := 12) (c := 12) za zw rfl (Nat.le_refl _) (by decide) (by decide) fun v h' nw => ?_
 rw [z1E] at nw
 exact k v h' nw
def z1H (c : Cr) (once point key ctx : List Nat) : Nat × List Nat × Cr :=
 if ¬ (key.length = 32 ∧ once.length = 32 ∧ point.length = 32) then (1, [], c)
 else if zV once point = 0 then (10, [], c)
 else (0, [1] ++ point ++ nb (zt once) ++ (zN c (keyW (nb (zV once point)) (nb (zt once)) point) zeros12 ctx key).2.1, (zN c (keyW (nb (zV once point)) (nb (zt once)) point) zeros12 ctx key).2.2)
theorem ziM {R : Hp} {vc vo vp vk vx : Value} {c : Cr} {S once point key ctx : List Nat} (w : Own R h S) (hC : CrAt R h vc c S) (hf : few 1000000 c) (ro : Rn R .u8 vo once) (rp : Rn R .u8 vp point) (rk : Rn R .u8 vk key) (rx : Rn R .u8 vx ctx)
  (bo : Bytes once) (bp : Bytes point) (bk : Bytes key) (bx : Bytes ctx) (lo : once.length ≤ 9223372036854775807) (lp : point.length ≤ 9223372036854775807) (lx : ctx.length ≤ 100000)
  (k : ∀ v R' h' S', Stp R h R' h' S S' → CrAt R' h' vc (z1H c once point key ctx).2.2 S' → (if (z1H c once point key ctx).1 = 0 then Rn R' .u8 v (z1H c once point key ctx).2.1 else v = .slice none 0 0) → K (.tuple #[v, .int .i64 (((z1H c once point key ctx).1 : Nat) : Int)]) h') :
  Cn P zj5 #[vc, vo, vp, vk, vx] h K := by
 refine zja ?_
 unfold zdb
 obtain ⟨ak, ck, rfl, _⟩ := rk.shape
 have ln : ∀ {G : Hp} {K : Value → Prop}, q P G (Builtin.len_ #[zd] zi #[.slice ak key.length ck]) K = K (.int .i64 (key.length : Nat)) := fun {G K} => z12 za _ _ _
 rw [ln]
 simp -zeta only [GL, ne32]
 by_cases hk : key.length = 32
 ·have d0 : decide (key.length ≠ 32) = false := by simp [hk]
  simp -zeta only [d0, Bool.false_eq_true, if_false]
  have b0 : ((0 : Int) != 0) = false := rfl
  have b1 : ((1 : Int) != 0) = true := rfl
  have b10 : ((10 : Int) != 0) = true := rfl
  refine zis (w.rn ro) (w.rn rp) bo bp lo lp (fun hn => ?_) (fun h1 h2 h3 => ?_) fun h1 h2 h3 r1 H1 n1 => ?_
  ·have e : z1H c once point key ctx = (1, [], c) := by rw [z1H, if_pos fun q => hn ⟨q.2.1, q.2.2⟩]
   rw [e] at k
   rw [ext0, ext1]
   simp -zeta only [GL, b1, if_true]
   exact k _ R h S (.refl w) hC (by simp)
  ·have e : z1H c once point key ctx = (10, [], c) := by rw [z1H, if_neg fun q => q ⟨hk, h1, h2⟩, if_pos h3]
   rw [e] at k
   rw [ext0, ext1]
   simp -zeta only [GL, b10, if_true]
   exact k _ R h S (.refl w) hC (by simp)
  ·have e : z1H c once point key ctx = (0, [1] ++ point ++ nb (zt once) ++ (zN c (keyW (nb (zV once point)) (nb (zt once)) point) zeros12 ctx key).2.1, (zN c (keyW (nb (zV once point)) (nb (zt once)) point) zeros12 ctx key).2.2) := by rw [z1H, if_neg fun q => q ⟨hk, h1, h2⟩, if_neg h3]
   rw [e] at k
   clear e h3
   generalize zV once point = sh at *
   rw [ext0, ext1]
   simp -zeta only [GL, b0, Bool.false_eq_true, if_false]
   obtain ⟨R1, s1, q1⟩ := Stp.newN w n1
   refine z9O (s1.own.rn (ro.mono s1.ext.cle)) bo lo (fun hn => absurd h1 hn) fun _ r2 H2 n2 => ?_
   generalize zt once = pu at *
   obtain ⟨R2, s2, q2⟩ := Stp.newN s1.own n2
   have s12 := s1.trans s2
   rw [ext0, ext1, zmN _ _ (z7V rp) (z7V q2)]
   refine zS [.slice none 0 0, .slice none 0 0, .slice none 0 0] z6f rfl fun r hr => ?_
   have fl : ∀ y ∈ [vp, r2, Value.slice none 0 0], flat y = true := by
    intro y hy
    simp only [List.mem_cons, List.not_mem_nil, or_false] at hy
    rcases hy with rfl | rfl | rfl
    ·exact zO rp
    ·exact zO q2
    ·rfl
   refine zD (ys := [vp, r2, .slice none 0 0]) z3P (Hp.set_same ..) rfl fl (fun i _ => by simp) ?_
   rw [Hp.set_set, z1w (ys := [vp, r2, .slice none 0 0]) z7v rfl z3P (Hp.set_same ..)]
   have x3 : Hp.ext H2 (H2.set r (.row zF [vp, r2, .slice none 0 0] [Value.slice none 0 0, .slice none 0 0, .slice none 0 0].length (some (0, 0)))) := z1x _ hr
   have s3 := s12.trans (Stp.ext0 s12.own x3)
   generalize H2.set r (.row zF [vp, r2, .slice none 0 0] [Value.slice none 0 0, .slice none 0 0, .slice none 0 0].length (some (0, 0))) = H3 at *
   have hC3 : CrAt R2 H3 vc c S := hC.keep s3.ext fun b hb => by
    obtain ⟨o, eo⟩ := w.kn b hb
    rw [eo, x3 _ _ (n2.ext _ _ (n1.ext _ _ eo))]
   have rp3 := rp.mono s3.ext.cle
   have ro3 := ro.mono s3.ext.cle
   have q1' := q1.mono s2.ext.cle
   have lpu := zm pu
   have lsh := zm sh
   rw [show q P emp (zv (.func (.method "Seal") #[vc] #[])) = fun K => K (.func (.method "Seal") #[vc] #[]) from funext fun K => q_of (zog hC3) K]
   refine zoP (vb := .slice none 0 0) (s3.own.rn rp3) (s3.own.rn q2) (s3.own.rn q1') rfl bp (z1J _) (z1J _) (by omega) (by omega) (by omega) fun v4 w4 H4 n4 c4 => ?_
   have lkw := z6e (nb sh) (nb pu) point
   have bkw := z7e (nb sh) (nb pu) point
   generalize keyW (nb sh) (nb pu) point = kw at *
   obtain ⟨R4, s4, q4⟩ := Stp.newN s3.own n4
   replace q4 := c4 _ q4
   refine ziL fun v5 H5 n5 => ?_
   obtain ⟨R5, s5, q5⟩ := Stp.newN s4.own n5
   have s35 := s4.trans s5
   have hC5 : CrAt R5 H5 vc c S := hC3.keep s35.ext fun b hb => by
    obtain ⟨o, eo⟩ := s3.own.kn b hb
    rw [eo, n5.ext _ _ (n4.ext _ _ eo)]
   have s15 := s3.trans s35
   have rx5 := rx.mono s15.ext.cle
   have rk5 := rk.mono s15.ext.cle
   refine zoe s15.own hC5 hf (q4.mono s5.ext.cle) q5 rx5 rk5 bkw z4L bx bk (by omega) (by omega) fun v6 R6 H6 S6 s6 hC6 r6 => ?_
   have hm : may kw zeros12 := ⟨lkw, rfl⟩
   have c6 : (zN c kw zeros12 ctx key).1 = 0 := by cases c <;> simp only [zN, if_pos hm]
   have l6 := z9Z c6
   have b6 : Bytes (zN c kw zeros12 ctx key).2.1 := zc6 bk
   rw [c6, if_pos rfl] at r6
   rw [c6]
   generalize (zN c kw zeros12 ctx key).2.1 = box at *
   have z0 : (((0 : Nat) : Int) != 0) = false := rfl
   simp -zeta only [ext0, ext1, GL, z0, Bool.false_eq_true, if_false]
   have e7 : z1f [(0, Value.int .u8 1)] (List.replicate 1 (.int .u8 0)) = nv .u8 [1] := rfl
   refine zT (ps := [(0, .int .u8 1)]) za zp z1p rfl (by omega) (by intro p hp; rw [List.mem_singleton.1 hp]; exact ⟨rfl, by show 0 < 1; omega⟩) fun v7 H7 n7 _ => ?_
   rw [e7] at n7
   have n7' : Nn H6 zc .u8 v7 H7 [1] := n7
   have s16 := s15.trans s6
   have up : ∀ {v : Value} {l : List Nat}, Rn R6 .u8 v l → Rn H7 .u8 v l := fun r => (s6.own.rn r).mono n7'.ext.cle
   have u1 := up (rp.mono s16.ext.cle)
   have u2 := up (q2.mono (s35.trans s6).ext.cle)
   have u3 := up r6
   have e8 : z1f [(0, v7), (1, vp), (2, r2), (3, v6)] (List.replicate 4 (.slice none 0 0)) = [v7, vp, r2, v6] := rfl
   refine zT (ps := [(0, v7), (1, vp), (2, r2), (3, v6)]) z1R z2P z3b rfl (by omega) (by
    intro p hp
    simp only [List.mem_cons, List.not_mem_nil, or_false] at hp
    rcases hp with rfl | rfl | rfl | rfl
    ·exact ⟨zO n7'.rn, by show 0 < 4; omega⟩
    ·exact ⟨zO u1, by show 1 < 4; omega⟩
    ·exact ⟨zO u2, by show 2 < 4; omega⟩
    ·exact ⟨zO u3, by show 3 < 4; omega⟩) fun v8 H8 n8 _ => ?_
   rw [e8] at n8
   have P8 : Parts H8 v8 [[1], point, nb pu, box] := by
    obtain ⟨bb, c, f, hb, hc, rfl, hh, _⟩ := New.form n8 (by omega)
    refine ⟨bb, 0, c, rfl, hc, fun i hi => ?_⟩
    have hrow : H8 bb = some (.row zd [v7, vp, r2, v6] (c * 1) (some f)) := by rw [hh, Hp.set_same]
    match i with
    | 0 => exact ⟨v7, by rw [zj hrow]; rfl, n7'.rn.mono n8.cle⟩
    | 1 => exact ⟨vp, by rw [zj hrow]; rfl, u1.mono n8.cle⟩
    | 2 => exact ⟨r2, by rw [zj hrow]; rfl, u2.mono n8.cle⟩
    | 3 => exact ⟨v6, by rw [zj hrow]; rfl, u3.mono n8.cle⟩
    | i + 4 => exact absurd hi (by show ¬ i + 4 < 4; omega)
   have fl8 : [[1], point, nb pu, box].flatten = [1] ++ point ++ nb pu ++ box := by simp
   refine ze4 P8 (by rw [fl8]; simp only [List.length_append, List.length_singleton]; omega) (by show 4 ≤ _; omega) fun v9 H9 n9 => ?_
   rw [fl8] at n9
   have s7 := Stp.ext0 s6.own (n7'.ext.trans n8.ext)
   obtain ⟨R9, s9, q9⟩ := Stp.newN s7.own n9
   have s69 := s7.trans s9
   have hC9 : CrAt R9 H9 vc (zN c kw zeros12 ctx key).2.2 S6 := hC6.keep s69.ext fun b hb => by
    obtain ⟨o, eo⟩ := s6.own.kn b hb
    rw [eo, n9.ext _ _ (n8.ext _ _ (n7'.ext _ _ eo))]
   exact k v9 R9 H9 S6 (s16.trans s69) hC9 (by rw [if_pos rfl]; exact q9)
 ·have d0 : decide (key.length ≠ 32) = true := by simp [hk]
  simp -zeta only [d0, if_true]
  have e : z1H c once point key ctx = (1, [], c) := by rw [z1H, if_pos fun q => hk q.1]
  rw [e] at k
  exact k _ R h S (.refl w) hC (by simp)
end
end Go.Proofs.YtoikhbagchfeoaaGreat
namespace Go.Pure
def zoQ (key pre : List Nat) (size : Int) : Prop := key.length = 32 ∧ pre.length = 7 ∧ 1 ≤ size ∧ size ≤ 65536
instance (key pre : List Nat) (size : Int) : Decidable (zoQ key pre size) := by unfold zoQ; infer_instance
end Go.Pure
namespace Go.Proofs.YtoikhbagchfeoaaGreat
open Go Go.SL Go.Pure
def Res (h : Hp) (v : Value) (h' : Hp) (l : List Nat) : Prop :=
 Hp.ext h h' ∧ ((∀ R, Rn R .u8 v l) ∨ ∃ b o, h b = none ∧ h' b = some o ∧ ∀ R : Hp, R b = some o → Rn R .u8 v l)
theorem Res.of {h H h' : Hp} {t : Nat} {v : Value} {l : List Nat} (x : Hp.ext h H) (n : Nn H t .u8 v h' l) : Res h v h' l := by
 refine ⟨x.trans n.ext, ?_⟩
 rcases n.2 with ⟨rfl, h0, rfl⟩ | ⟨b, c, f, hb, hc, rfl, rfl, hf⟩
 ·left
  intro R
  obtain rfl := List.eq_nil_of_length_eq_zero h0
  exact z3y _ _
 ·right
  refine ⟨b, _, x.none hb, Hp.set_same .., fun R e => ⟨by rw [ze]; omega, _, c, rfl, hc, .inr ⟨b, 0, rfl, fun i y ey => by rw [zj e, Nat.zero_add]; exact ey⟩⟩⟩
theorem Res.rn {h : Hp} {v : Value} {h' : Hp} {l : List Nat} (r : Res h v h' l) : Rn h' .u8 v l := by
 rcases r.2 with q | ⟨b, o, _, e, q⟩
 ·exact q h'
 ·exact q h' e
theorem Res.up {h0 h : Hp} {v : Value} {h' : Hp} {l : List Nat} (x : Hp.ext h0 h) (r : Res h v h' l) : Res h0 v h' l := by
 refine ⟨x.trans r.1, r.2.imp id fun ⟨b, o, hb, e, q⟩ => ⟨b, o, x.none hb, e, q⟩⟩
section
variable {h : Hp} {K : Value → Hp → Prop}
end
theorem CrAt.ext {R R' h h' : Hp} {vc : Value} {c : Cr} {S : List Nat} (a : CrAt R h vc c S) (w : Own R h S) (e : Hp.ext R R') (x : Hp.ext h h') : CrAt R' h' vc c S := a.keep e fun b hb => by
 obtain ⟨o, eo⟩ := w.kn b hb
 rw [eo, x _ _ eo]
section
variable {h : Hp} {K : Value → Hp → Prop}
end
theorem zmO (key nonce b x : List Nat) : (z2R key nonce b x).2.length ≤ x.length := by
 unfold z2R
 split
 ·simp
 ·split
  ·rw [z2o, List.length_take]; omega
  ·simp
theorem zlh {n : Nat} {c : Cr} (f : few n c) (key nonce b x : List Nat) : (z1G c key nonce b x).2.length ≤ x.length := by
 unfold z1G
 split
 ·cases c with
  | real => exact zmO _ _ _ _
  | book ts bs =>
   show (z2N bs key nonce b x).2.length ≤ _
   unfold z2N
   split
   ·simp
   ·split
    ·simp
    ·split
     ·rename_i s _ q
      have := congrArg List.length q.2.2.2
      rw [z2M] at this
      show s.text.length ≤ _
      omega
     ·simp
 ·simp
section
variable {h : Hp} {K : Value → Hp → Prop}
end
end Go.Proofs.YtoikhbagchfeoaaGreat
namespace Go.Pure
def Later (c c' : Cr) : Prop :=
 match c, c' with
 | .real, .real => True
 | .book _ bs, .book _ bs' => bs <+: bs'
 | _, _ => False
theorem Later.refl (c : Cr) : Later c c := by cases c <;> simp [Later]
theorem Later.trans {a b c : Cr} (x : Later a b) (y : Later b c) : Later a c := by
 cases a <;> cases b <;> cases c <;> simp only [Later] at * <;> first | trivial | exact x.elim | exact y.elim | exact x.trans y
theorem zli (c : Cr) (key nonce b t : List Nat) : Later c (zN c key nonce b t).2.2 := by
 cases c with
 | real => unfold zN; dsimp only; split <;> trivial
 | book ts bs =>
  unfold zN; dsimp only; split
  ·exact List.prefix_append _ _
  ·exact List.prefix_refl _
def much (c : Cr) : Nat := match c with
 | .real => 0
 | .book _ bs => bs.length
theorem zjr {c c2 : Cr} {key nonce b t : List Nat} (h0 : (zN c key nonce b t).1 = 0) (hl : Later (zN c key nonce b t).2.2 c2) (hm : much c < 18446744073709551616) : z1G c2 key nonce b (zN c key nonce b t).2.1 = (0, t) := by
 cases c with
 | real =>
  unfold zN at h0 hl ⊢
  dsimp only at h0 hl ⊢
  by_cases hmay : may key nonce
  ·rw [if_pos hmay] at hl ⊢
   cases c2 with
   | real => unfold z1G; rw [if_pos hmay]; exact zmx _ _ _ _
   | book _ _ => exact hl.elim
  ·rw [if_neg hmay] at h0; cases h0
 | book ts bs =>
  unfold zN at h0 hl ⊢
  dsimp only at h0 hl ⊢
  by_cases hmay : may key nonce
  ·rw [if_pos hmay] at hl ⊢
   cases c2 with
   | real => exact hl.elim
   | book ts2 bs2 =>
    unfold z1G; rw [if_pos hmay]
    show z2N bs2 key nonce b (boxB bs.length (t.length + 16)) = _
    unfold z2N
    have hm : bs.length < 18446744073709551616 := hm
    have p8 : (256 : Nat) ^ 8 = 18446744073709551616 := rfl
    rw [if_neg (by rw [z2M]; omega), zf2 _ _ (by omega), zjZ, p8, Nat.mod_eq_of_lt hm]
    have hl' : bs ++ [(⟨key, nonce, b, t⟩ : Box)] <+: bs2 := hl
    obtain ⟨z, hz⟩ := hl'
    have : bs2[bs.length]? = some ⟨key, nonce, b, t⟩ := by rw [← hz]; simp
    rw [this]
    simp
  ·rw [if_neg hmay] at h0; cases h0
end Go.Pure
namespace Go.Proofs.YtoikhbagchfeoaaGreat
open Go Go.SL Go.Pure
def zk3 (ctx layer : List Nat) (size : Int) : Prop := ctx.length ≤ 300 ∧ layer.length ≤ 1500 ∧ (size < 1 ∨ (layer.length : Int).tdiv size ≤ 60)
instance (ctx layer : List Nat) (size : Int) : Decidable (zk3 ctx layer size) := by unfold zk3; infer_instance
theorem zmP {h : Hp} {K : Value → Prop} (x y : Operand) (t : Nat) (v : Value) : q P h (eqop .eql z3R x y (.iface t v) .nilIface) K = K (.bool false) := q_of (by
 unfold eqop
 rw [zh]
 have : peek P h (eqGuard .eql z3R x y (.iface t v) .nilIface) = some () := by rfl
 rw [this, Option.bind_some]
 show peek P h (Sem.bind (Op.equal z3R (.iface t v) .nilIface) _) = _
 rw [zh]
 have : peek P h (Op.equal z3R (.iface t v) .nilIface) = some false := by
  show peek P h (Sem.bind (underlying z3R) _) = _
  rw [zh, z11 zgF]
  rfl
 rw [this]
 rfl) K
section
variable {h : Hp} {K : Value → Hp → Prop}
end
section
variable {h : Hp} {K : Value → Hp → Prop}
theorem za0 {v : Value} {l : List Nat} (hv : Rn h .u8 v l) (bl : Bytes l) (ll : l.length ≤ 1099511627776) (k : ∀ r h', Nn h zc .u8 r h' l.reverse → K r h') : Cn P zcJ #[v] h K := by
 refine zcZ ?_
 unfold z6O
 obtain ⟨a, c, rfl, hc⟩ := hv.shape
 simp (disch := omega) only [GL, RL, wi64]
 refine Lp_mk (fun m vs h' => ∃ (j : Nat) (vo : Value), j + m = l.length ∧ Nn h zc .u8 vo h' (l.reverse.take j) ∧ vs = [vo, .int .i64 ((l.length : Int) - 1 - (j : Int))]) l.length ⟨0, .slice none 0 0, by omega, Nn.nil .., by simp⟩ ?_
 rintro m vs h1 ⟨j, vo, hj, nO, rfl⟩
 have eg : decide ((0 : Int) ≤ (l.length : Int) - 1 - (j : Int)) = decide (j < l.length) := by rw [decide_eq_decide]; omega
 simp (disch := omega) only [GL, RL, eg]
 by_cases hlt : j < l.length
 ·obtain ⟨b, o, rfl, hy⟩ := hv.pos (by omega)
  have ei : (l.length : Int) - 1 - (j : Int) = ((l.length - 1 - j : Nat) : Int) := by omega
  have cy : h1.cell ⟨b, o + (l.length - 1 - j), none⟩ = some (.int .u8 ((l.getD (l.length - 1 - j) 0 : Nat) : Int)) := nO.cle _ _ (hy _ (by omega))
  have es : ((l.length - 1 - j : Nat) : Int) - 1 = (l.length : Int) - 1 - ((j + 1 : Nat) : Int) := by omega
  simp (disch := omega) only [GL, RL, hlt, decide_true, if_true, ei, cy, wi64, es]
  refine zT (ps := [(0, _)]) za zp z1p rfl (by omega) (by intro p hp; rw [List.mem_singleton.1 hp]; exact ⟨rfl, by show _ < 1; omega⟩) fun w h2 n2 _ => ?_
  have n2' : Nn h1 zc .u8 w h2 [l.getD (l.length - 1 - j) 0] := n2
  refine zQ za za zw rfl (by omega) nO n2' (zq _ _) (by simp; omega) fun vo' h3 n3 => ?_
  rw [← z13] at n3
  refine ⟨h3, .refl _, m - 1, by omega, j + 1, vo', by omega, ?_, rfl⟩
  have e : l.reverse.take (j + 1) = l.reverse.take j ++ [l.getD (l.length - 1 - j) 0] := by
   rw [List.take_succ_eq_append_getElem (by rw [List.length_reverse]; exact hlt), List.getElem_reverse]
   simp [List.getD_eq_getElem?_getD, show l.length - 1 - j < l.length by omega]
  rw [e]
  unfold Nn
  rw [List.length_append]
  exact n3
 ·simp only [hlt, decide_false, Bool.false_eq_true, if_false]
  rw [List.take_of_length_le (by rw [List.length_reverse]; omega)] at nO
  exact k _ _ nO
theorem zjs (n : Nat) (hn : n < 9223372036854775808) (k : ∀ r h', Nn h zc .u8 r h' (bg 8 n) → K r h') : Cn P zdw #[.int .i64 (n : Int)] h K := by
 refine Cn_wk (zdH ?_)
 unfold z7A
 simp (disch := omega) only [GL, RL, z2j]
 refine z2t n 8 (by omega) (by omega) fun v h1 n1 => ?_
 refine za0 n1.rn (z1s 8 n) (by rw [zE]; omega) fun r h2 n2 => ?_
 obtain ⟨h0, l0, n0⟩ := Nn.down n1.le n2
 exact ⟨h0, l0, k r h0 n0⟩
theorem ziN {v : Value} {l : List Nat} (n : Nat) (hn : n ≤ 8) (hv : Rn h .u8 v l) (bl : Bytes l) (hl : n ≤ l.length) (k : K (.int .u64 ((bval (l.take n) : Nat) : Int)) h) : Cn P z5x #[v, .int .i64 (n : Int)] h K := by
 refine zaH ?_
 unfold z5L
 refine Lp_mk (fun m vs h' => ∃ i : Nat, i + m = n ∧ h' = h ∧ vs = [.int .u64 ((bval (l.take i) : Nat) : Int), .int .i64 (i : Int)]) n ⟨0, by omega, rfl, rfl⟩ ?_
 rintro m vs h1 ⟨i, hi, rfl, rfl⟩
 simp (disch := omega) only [GL, RL, zL]
 by_cases hlt : i < n
 ·simp only [hlt, decide_true, if_true]
  obtain ⟨a, c, rfl, hc⟩ := hv.shape
  obtain ⟨b, o, rfl, hy⟩ := hv.pos (by omega)
  have hil : i < l.length := by omega
  have h2 := z5s bl i
  have h3 := bl.getD i
  have h4 : 256 ^ (i + 1) ≤ 256 ^ 8 := Nat.pow_le_pow_right (by decide) (by omega)
  have h5 : bval (l.take i) * 256 + l.getD i 0 < 256 ^ (i + 1) := by rw [Nat.pow_succ]; omega
  have p8 : (256 : Nat) ^ 8 = 18446744073709551616 := rfl
  rw [p8] at h4
  have e1 : ((bval (l.take i) : Nat) : Int) * 256 = ((bval (l.take i) * 256 : Nat) : Int) := by omega
  have e2 : ((bval (l.take i) * 256 : Nat) : Int) + ((l.getD i 0 : Nat) : Int) = ((bval (l.take i) * 256 + l.getD i 0 : Nat) : Int) := by omega
  have e3 : ((i : Nat) : Int) + 1 = ((i + 1 : Nat) : Int) := by omega
  simp (disch := omega) only [GL, RL, wi64, z2j, zL, e1, hil, decide_true, if_true, hy i hil, e2, e3]
  exact ⟨_, .refl _, m - 1, by omega, i + 1, by omega, rfl, by rw [z9f l i hil]⟩
 ·simp only [hlt, decide_false, Bool.false_eq_true, if_false]
  obtain rfl : i = n := by omega
  exact k
end
set_option maxHeartbeats 4000000
theorem zsH {h : Hp} {m : Sem Value} {v : Value} (e : ∀ K : Value → Prop, q P h m K = K v) : peek P h m = some v := by
 obtain ⟨x, hx, e2⟩ := z1v (K := fun x => x = v) ((e fun x => x = v).mpr rfl)
 rw [e2] at hx
 exact hx
theorem z3n {h : Hp} {a : Addr} {v : Value} (e : h.cell a = some v) : peek P h (Instr.loadAt zk (.pointer (some a))) = some v := zsH fun K => (q_ld zhz rfl a).trans (by rw [e]; rfl)
section
variable {h : Hp} {K : Value → Hp → Prop}
theorem z3d (x n : Nat) (hx : x < 4294967296) (hn : 0 < n) (hn2 : n < 32) (k : K (.int .u32 ((rotr x n : Nat) : Int)) h) : Cn P z3f #[.int .u32 x, .int .i64 (n : Int)] h K := by
 refine zdW ?_
 unfold z7P
 have e32 : (32 : Int) - (n : Int) = ((32 - n : Nat) : Int) := by omega
 simp (disch := omega) only [GL, RL, z2j, wi64, e32]
 have e1 : min (32 - n) IntKind.u32.bits = 32 - n := by simp only [IntKind.bits]; omega
 have e2 : min n IntKind.u32.bits = n := by simp only [IntKind.bits]; omega
 have h1 : x / 2 ^ n ≤ x := Nat.div_le_self _ _
 have h2 := m32 (x * 2 ^ (32 - n))
 have h3 := zpZ x n (by omega)
 rw [e1, e2, mulp, z4l, wu32]
 generalize x / 2 ^ n = y at h1 h3 ⊢
 generalize x * 2 ^ (32 - n) % 4294967296 = z at h2 h3 ⊢
 rw [or32 (by omega) (by omega) (by omega) (by omega), Int.toNat_natCast, Int.toNat_natCast, h3]
 exact k
theorem zjt {vb : Value} {b : List Nat} {F : List Value → Hp → Prop} (hb : Rn h .u8 vb b) (bb : Bytes b) (lb : b.length = 64)
  (k : ∀ v h', Nn h zk .u32 v h' (schL b) → F [v, .int .i64 64] h') :
  Lp [(Value.slice none 0 0), (Value.int .i64 0)] h fun nx5 vs5 h =>
q P h (binOp .lss zi (vs5.getD 1 undef) (Value.int .i64 16)) fun t24 => cnd t24 (q P h (binOp .mul zi (Value.int .i64 4) (vs5.getD 1 undef)) fun t30 => q P h (Instr.sliceAt zd vb (some t30) none none) fun t31 => Cn P z5x #[t31, (Value.int .i64 4)] h fun t32 h => q P h (convert z7u zk t32) fun t33 => aw P (Instr.buildSlice z17 1 #[(0, t33)]) (fun t34 h => aw P (Builtin.append_ #[z17, z17] z17 #[(vs5.getD 0 undef), t34]) (fun t35 h => q P h (binOp .add zi (vs5.getD 1 undef) (Value.int .i64 1)) fun t26 => nx5 [t35, t26] h) h) h) (
Lp [(vs5.getD 0 undef), (Value.int .i64 16)] h fun nx11 vs11 h =>
q P h (binOp .lss zi (vs11.getD 1 undef) (Value.int .i64 64)) fun t37 => cnd t37 (q P emp (binOp .sub zi (vs11.getD 1 undef) (Value.int .i64 15)) fun t42 => q P emp (Instr.indexAt z17 (vs11.getD 0 undef) t42) fun t43 => q P h (Instr.loadAt zk t43) fun t44 => q P emp (binOp .sub zi (vs11.getD 1 undef) (Value.int .i64 15)) fun t48 => q P emp (Instr.indexAt z17 (vs11.getD 0 undef) t48) fun t49 => q P h (Instr.loadAt zk t49) fun t50 => q P emp (binOp .sub zi (vs11.getD 1 undef) (Value.int .i64 15)) fun t55 => q P emp (Instr.indexAt z17 (vs11.getD 0 undef) t55) fun t56 => q P h (Instr.loadAt zk t56) fun t57 => q P emp (binOp .shr zk t57 (Value.int .u64 3)) fun t58 => Cn P z3f #[t44, (Value.int .i64 7)] h fun t45 h => peek P h (Instr.loadAt zk t56) = some t57 ∧ peek P h (Instr.loadAt zk t49) = some t50 ∧ Cn P z3f #[t50, (Value.int .i64 18)] h fun t51 h => peek P h (Instr.loadAt zk t56) = some t57 ∧ q P emp (binOp .xor zk t45 t51) fun t52 => q P emp (binOp .xor zk t52 t58) fun t59 => q P emp (binOp .sub zi (vs11.getD 1 undef) (Value.int .i64 2)) fun t62 => q P emp (Instr.indexAt z17 (vs11.getD 0 undef) t62) fun t63 => q P h (Instr.loadAt zk t63) fun t64 => q P emp (binOp .sub zi (vs11.getD 1 undef) (Value.int .i64 2)) fun t68 => q P emp (Instr.indexAt z17 (vs11.getD 0 undef) t68) fun t69 => q P h (Instr.loadAt zk t69) fun t70 => q P emp (binOp .sub zi (vs11.getD 1 undef) (Value.int .i64 2)) fun t75 => q P emp (Instr.indexAt z17 (vs11.getD 0 undef) t75) fun t76 => q P h (Instr.loadAt zk t76) fun t77 => q P emp (binOp .shr zk t77 (Value.int .u64 10)) fun t78 => Cn P z3f #[t64, (Value.int .i64 17)] h fun t65 h => peek P h (Instr.loadAt zk t76) = some t77 ∧ peek P h (Instr.loadAt zk t69) = some t70 ∧ Cn P z3f #[t70, (Value.int .i64 19)] h fun t71 h => peek P h (Instr.loadAt zk t76) = some t77 ∧ q P emp (binOp .xor zk t65 t71) fun t72 => q P emp (binOp .xor zk t72 t78) fun t79 => q P emp (binOp .sub zi (vs11.getD 1 undef) (Value.int .i64 16)) fun t83 => q P emp (Instr.indexAt z17 (vs11.getD 0 undef) t83) fun t84 => q P h (Instr.loadAt zk t84) fun t85 => q P emp (binOp .add zk t85 t59) fun t87 => q P emp (binOp .sub zi (vs11.getD 1 undef) (Value.int .i64 7)) fun t90 => q P emp (Instr.indexAt z17 (vs11.getD 0 undef) t90) fun t91 => q P h (Instr.loadAt zk t91) fun t92 => q P emp (binOp .add zk t87 t92) fun t93 => q P emp (binOp .add zk t93 t79) fun t95 => aw P (Instr.buildSlice z17 1 #[(0, t95)]) (fun t96 h => aw P (Builtin.append_ #[z17, z17] z17 #[(vs11.getD 0 undef), t96]) (fun t97 h => q P h (binOp .add zi (vs11.getD 1 undef) (Value.int .i64 1)) fun t39 => nx11 [t97, t39] h) h) h) (F vs11 h)) := by
 refine Lp_mk (fun m vs h' => ∃ (i : Nat) (vo : Value), i + m = 16 ∧ Nn h zk .u32 vo h' (z36 b i) ∧ vs = [vo, .int .i64 (i : Int)]) 16 ⟨0, _, rfl, Nn.nil .., rfl⟩ ?_
 rintro m vs h1 ⟨i, vo, hi, nO, rfl⟩
 have e16 : decide ((i : Int) < 16) = decide (i < 16) := zL i 16
 have e4 : (4 * (i : Int)) = ((4 * i : Nat) : Int) := by push_cast; rfl
 have lw := z4q b i
 simp (disch := omega) only [GL, RL, wi64, e16, e4]
 by_cases hlt : i < 16
 ·simp only [hlt, decide_true, if_true]
  refine z6p za zp (hb.mono nO.cle) .i64 (4 * i) (by omega) fun w' hw' => ?_
  refine ziN 4 (by omega) hw' (bb.drop _) (by rw [List.length_drop]; omega) ?_
  have hx := ziz bb (4 * i)
  simp (disch := omega) only [GL, RL, zkl]
  refine zT (ps := [(0, _)]) z1h z1y z3q rfl (by omega) (by intro p hp; rw [List.mem_singleton.1 hp]; exact ⟨rfl, by show _ < 1; omega⟩) fun w h2 n2 _ => ?_
  have n2' : Nn h1 zk .u32 w h2 [bval ((b.drop (4 * i)).take 4)] := n2
  refine zQ z1h z1h z5c rfl (by omega) nO n2' (zq _ _) (by simp; omega) fun vo' h3 n3 => ?_
  rw [← z13] at n3
  refine ⟨h3, .refl _, m - 1, by omega, i + 1, vo', by omega, ?_, rfl⟩
  unfold Nn
  rw [z36, List.length_append]
  exact n3
 obtain rfl : i = 16 := by omega
 simp only [hlt, decide_false, Bool.false_eq_true, if_false]
 have lw0 : (z36 b 16).length = 16 := z4q b 16
 have ww0 : W32 (z36 b 16) := z9T bb 16
 have hsch : schL b = schF (z36 b 16) 48 := rfl
 rw [hsch] at k
 clear hsch
 generalize z36 b 16 = w0 at lw0 ww0 k nO
 refine Lp_mk (fun m vs h' => ∃ (n : Nat) (vo : Value), n + m = 48 ∧ Nn h zk .u32 vo h' (schF w0 n) ∧ vs = [vo, .int .i64 ((16 + n : Nat) : Int)]) 48 ⟨0, _, rfl, nO, rfl⟩ ?_
 clear nO
 rintro m vs h2 ⟨n, vo, hn, nO, rfl⟩
 have ls : (schF w0 n).length = 16 + n := by rw [z9S, lw0]
 have ws := zf7 ww0 n
 have e64 : decide ((((16 + n : Nat)) : Int) < 64) = decide (16 + n < 64) := zL (16 + n) 64
 have e15 : ((16 + n : Nat) : Int) - 15 = ((n + 1 : Nat) : Int) := by omega
 have e2 : ((16 + n : Nat) : Int) - 2 = ((n + 14 : Nat) : Int) := by omega
 have e16' : ((16 + n : Nat) : Int) - 16 = ((n : Nat) : Int) := by omega
 have e7 : ((16 + n : Nat) : Int) - 7 = ((n + 9 : Nat) : Int) := by omega
 by_cases hlt2 : 16 + n < 64
 case neg =>
  simp (disch := omega) only [GL, RL, e64, hlt2, decide_false, Bool.false_eq_true, if_false]
  have hn48 : n = 48 := by omega
  subst hn48
  exact k _ _ nO
 obtain ⟨bo, co, fo, hbo, hco, hvo, hho, hfo⟩ := nO.form (by omega)
 subst hvo
 have row : h2 bo = some (.row zk (nv .u32 (schF w0 n)) (co * 1) (some fo)) := by rw [hho]; exact Hp.set_same ..
 have cell : ∀ j, j < 16 + n → h2.cell ⟨bo, j, none⟩ = some (.int .u32 (((schF w0 n).getD j 0 : Nat) : Int)) := fun j hj => by
  rw [zj row, z1g _ _ _ (by omega)]
 have hx := ws.getD (n + 1)
 have hy := ws.getD (n + 14)
 have es : z3Y (schF w0 n) = ((((schF w0 n).getD n 0 + sgS0 ((schF w0 n).getD (n + 1) 0)) % 4294967296 + (schF w0 n).getD (n + 9) 0) % 4294967296 + sgS1 ((schF w0 n).getD (n + 14) 0)) % 4294967296 := by
  unfold z3Y
  rw [ls, show 16 + n - 16 = n by omega, show 16 + n - 15 = n + 1 by omega, show 16 + n - 7 = n + 9 by omega, show 16 + n - 2 = n + 14 by omega]
 have cX := cell (n + 1) (by omega)
 have cY := cell (n + 14) (by omega)
 have c0 := cell n (by omega)
 have c9 := cell (n + 9) (by omega)
 have esucc : schF w0 (n + 1) = schF w0 n ++ [z3Y (schF w0 n)] := rfl
 generalize hX : (schF w0 n).getD (n + 1) 0 = X at hx es cX
 generalize hY : (schF w0 n).getD (n + 14) 0 = Y at hy es cY
 have sh3 : ((X : Int).fdiv (2 ^ min (Int.toNat 3) IntKind.u32.bits)) = ((X / 2 ^ 3 : Nat) : Int) := z4l X 3
 have sh10 : ((Y : Int).fdiv (2 ^ min (Int.toNat 10) IntKind.u32.bits)) = ((Y / 2 ^ 10 : Nat) : Int) := z4l Y 10
 have gX : Nat → (schF w0 n).length = 16 + n := fun _ => ls
 simp (disch := omega) only [GL, RL, wi64, e64, hlt2, decide_true, if_true, ls, e15, e2, cX, sh3]
 refine z3d X 7 hx (by omega) (by omega) ⟨z3n cX, z3n cX, ?_⟩
 refine z3d X 18 hx (by omega) (by omega) ⟨z3n cX, ?_⟩
 simp (disch := omega) only [GL, RL, wi64, e2, cY, sh10]
 rw [z1P (z19 _ _ hx) (z19 _ _ hx), z1P (x32 (z19 _ _ hx) (z19 _ _ hx)) (Nat.lt_of_le_of_lt (Nat.div_le_self _ _) hx)]
 refine z3d Y 17 hy (by omega) (by omega) ⟨z3n cY, z3n cY, ?_⟩
 refine z3d Y 19 hy (by omega) (by omega) ⟨z3n cY, ?_⟩
 simp (disch := omega) only [GL, RL, wi64, e16', e7, c0, c9]
 rw [z1P (z19 _ _ hy) (z19 _ _ hy), z1P (x32 (z19 _ _ hy) (z19 _ _ hy)) (Nat.lt_of_le_of_lt (Nat.div_le_self _ _) hy)]
 simp only [z3J]
 have eS : ((((schF w0 n).getD n 0 + (rotr X 7 ^^^ rotr X 18 ^^^ X / 2 ^ 3)) % 4294967296 + (schF w0 n).getD (n + 9) 0) % 4294967296 + (rotr Y 17 ^^^ rotr Y 19 ^^^ Y / 2 ^ 10)) % 4294967296 = z3Y (schF w0 n) := by
  rw [es]; rfl
 rw [eS]
 refine zT (ps := [(0, _)]) z1h z1y z3q rfl (by omega) (by intro p hp; rw [List.mem_singleton.1 hp]; exact ⟨rfl, by show _ < 1; omega⟩) fun w h3 n3 _ => ?_
 have n3' : Nn h2 zk .u32 w h3 [z3Y (schF w0 n)] := n3
 have nO' : New h zk 1 (.slice (some ⟨bo, 0, none⟩) (16 + n) co) h2 (nv .u32 (schF w0 n)) (16 + n) := by rw [← ls]; exact nO
 refine zQ z1h z1h z5c rfl (by omega) nO' n3' (zq _ _) (by simp; omega) fun vo' h4 n4 => ?_
 rw [← z13] at n4
 refine ⟨h4, .refl _, m - 1, by omega, n + 1, vo', by omega, ?_, by rw [show ((16 + n : Nat) : Int) + 1 = ((16 + (n + 1) : Nat) : Int) by omega]⟩
 unfold Nn
 rw [esucc, List.length_append, ls]
 exact n4
end
section
variable {h : Hp} {K : Value → Hp → Prop}
theorem zq6 (k : ∀ v h', Nn h zk .u32 v h' shaK → K v h') : Cn P zfq #[] h K := by
 refine zfC ?_
 unfold z92
 refine zT z1h z1y z3q rfl (by omega) (by decide +kernel) fun v h' n _ => ?_
 exact k v h' n
theorem zq7 (k : ∀ v h', Nn h zk .u32 v h' shaH → K v h') : Cn P zfp #[] h K := by
 refine zfB ?_
 unfold z91
 refine zT z1h z1y z3q rfl (by omega) (by decide +kernel) fun v h' n _ => ?_
 exact k v h' n
theorem zq8 (a b c d e f g z : Nat) (k : ∀ v h', Nn h zk .u32 v h' [a, b, c, d, e, f, g, z] → K v h') :
  aw P (Instr.buildSlice z17 8 #[(0, .int .u32 (a : Int)), (1, .int .u32 (b : Int)), (2, .int .u32 (c : Int)), (3, .int .u32 (d : Int)), (4, .int .u32 (e : Int)), (5, .int .u32 (f : Int)), (6, .int .u32 (g : Int)), (7, .int .u32 (z : Int))]) K h := by
 refine zT (ps := [(0, .int .u32 (a : Int)), (1, .int .u32 (b : Int)), (2, .int .u32 (c : Int)), (3, .int .u32 (d : Int)), (4, .int .u32 (e : Int)), (5, .int .u32 (f : Int)), (6, .int .u32 (g : Int)), (7, .int .u32 (z : Int))]) z1h z1y z3q rfl (by omega) ?_ fun v h' n _ => ?_
 ·intro p hp
  simp only [List.mem_cons, List.not_mem_nil, or_false] at hp
  rcases hp with rfl | rfl | rfl | rfl | rfl | rfl | rfl | rfl <;> exact ⟨rfl, by simp⟩
 ·exact k v h' n
theorem zsI (s V : List Nat) : addS s V 8 = [(s.getD 0 0 + V.getD 0 0) % 4294967296, (s.getD 1 0 + V.getD 1 0) % 4294967296, (s.getD 2 0 + V.getD 2 0) % 4294967296, (s.getD 3 0 + V.getD 3 0) % 4294967296, (s.getD 4 0 + V.getD 4 0) % 4294967296, (s.getD 5 0 + V.getD 5 0) % 4294967296, (s.getD 6 0 + V.getD 6 0) % 4294967296, (s.getD 7 0 + V.getD 7 0) % 4294967296] := rfl
theorem zsJ {l : List Nat} (h : l.length = 8) : ∃ a b c d e f g z, l = [a, b, c, d, e, f, g, z] := by
 match l, h with
 | [a, b, c, d, e, f, g, z], _ => exact ⟨a, b, c, d, e, f, g, z, rfl⟩
theorem zlj {vs vk vb : Value} {s b : List Nat} (hs : Rn h .u32 vs s) (hk : Rn h .u32 vk shaK) (hb : Rn h .u8 vb b) (ws : W32 s) (ls : s.length = 8) (bb : Bytes b) (lb : b.length = 64)
  (k : ∀ v h', Nn h zk .u32 v h' (z6j shaK s b) → K v h') : Cn P zcP #[vs, vk, vb] h K := by
 refine Cn_wk (zd5 ?_)
 unfold z6U
 refine zjt hb bb lb fun vw h1 nW => ?_
 have lW := ze5 b
 have wW := zmC bb
 unfold z6j at k
 generalize schL b = W at lW wW k nW
 obtain ⟨bw, cw, fw, hbw, hcw, rfl, hhw, hfw⟩ := nW.form (by omega)
 have row : h1 bw = some (.row zk (nv .u32 W) (cw * 1) (some fw)) := by rw [hhw]; exact Hp.set_same ..
 obtain ⟨as0, cs, rfl, hcs⟩ := hs.shape
 obtain ⟨bs, os, rfl, cS⟩ := (hs.mono nW.cle).pos (by omega)
 obtain ⟨ak0, ck, rfl, hck⟩ := hk.shape
 obtain ⟨bk, ok, rfl, cK⟩ := (hk.mono nW.cle).pos (by rw [z2O]; omega)
 have cS0 := cS 0 (by omega)
 have cS1 := cS 1 (by omega)
 have cS2 := cS 2 (by omega)
 have cS3 := cS 3 (by omega)
 have cS4 := cS 4 (by omega)
 have cS5 := cS 5 (by omega)
 have cS6 := cS 6 (by omega)
 have cS7 := cS 7 (by omega)
 rw [Nat.add_zero] at cS0
 have n8 : ∀ j : Nat, j < 8 → ((j : Nat) : Int) < ((s.length : Nat) : Int) := fun j hj => by omega
 simp (disch := omega) only [GL, RL, Int.reduceToNat, Nat.add_zero, cS0, cS1, cS2, cS3, cS4, cS5, cS6, cS7]
 refine Lp_mk (fun m vs h' => ∃ (i : Nat), i + m = 64 ∧ h' = h1 ∧ vs = [.int .u32 (((rnds shaK W s i).getD 7 0 : Nat) : Int), .int .u32 (((rnds shaK W s i).getD 6 0 : Nat) : Int), .int .u32 (((rnds shaK W s i).getD 5 0 : Nat) : Int), .int .u32 (((rnds shaK W s i).getD 4 0 : Nat) : Int), .int .u32 (((rnds shaK W s i).getD 3 0 : Nat) : Int), .int .u32 (((rnds shaK W s i).getD 2 0 : Nat) : Int), .int .u32 (((rnds shaK W s i).getD 1 0 : Nat) : Int), .int .u32 (((rnds shaK W s i).getD 0 0 : Nat) : Int), .int .i64 (i : Int)]) 64 ⟨0, rfl, rfl, rfl⟩ ?_
 rintro m vs h2 ⟨i, hi, rfl, rfl⟩
 have wr := ziA (K := shaK) (w := W) ws i
 have lr := ziB (K := shaK) (w := W) ls i
 have ern : rnds shaK W s (i + 1) = rnd (shaK.getD i 0) (W.getD i 0) (rnds shaK W s i) := rfl
 have e64 : decide ((i : Int) < 64) = decide (i < 64) := zL i 64
 by_cases hlt : i < 64
 ·clear k
  generalize rnds shaK W s i = S at wr lr ern ⊢
  obtain ⟨a, b, c, d, e, f, g, z, rfl⟩ := zsJ lr
  have ha : a < 4294967296 := wr.getD 0
  have hb : b < 4294967296 := wr.getD 1
  have hc : c < 4294967296 := wr.getD 2
  have hd : d < 4294967296 := wr.getD 3
  have he : e < 4294967296 := wr.getD 4
  have hf : f < 4294967296 := wr.getD 5
  have hg : g < 4294967296 := wr.getD 6
  have hz : z < 4294967296 := wr.getD 7
  have hwi := wW.getD i
  have hki := shaK_w.getD i
  have cw' : h2.cell ⟨bw, i, none⟩ = some (.int .u32 ((W.getD i 0 : Nat) : Int)) := by rw [zj row, z1g _ _ _ (by omega)]
  have ck' := cK i (by rw [z2O]; exact hlt)
  have lk64 : shaK.length = 64 := z2O
  generalize W.getD i 0 = wq at hwi cw' ern
  generalize shaK.getD i 0 = kq at hki ck' ern
  have ernd : rnd kq wq [a, b, c, d, e, f, g, z] = [(t1S kq wq e f g z + t2S a b c) % 4294967296, a, b, c, (d + t1S kq wq e f g z) % 4294967296, e, f, g] := rfl
  rw [ernd] at ern
  simp (disch := omega) only [GL, RL, e64, hlt, decide_true, if_true, zmE, ck', cw', List.getD_cons_zero, List.getD_cons_succ]
  refine z3d e 6 he (by omega) (by omega) ⟨z3n cw', z3n ck', ?_⟩
  refine z3d e 11 he (by omega) (by omega) ⟨z3n cw', z3n ck', ?_⟩
  simp (disch := omega) only [GL, RL]
  refine z3d e 25 he (by omega) (by omega) ⟨z3n cw', z3n ck', ?_⟩
  simp (disch := omega) only [GL, RL]
  rw [z1P (z19 e 6 he) (z19 e 11 he), z1P (x32 (z19 e 6 he) (z19 e 11 he)) (z19 e 25 he), z4D he hf, z1P (by decide) he, z4D (x32 (by decide) he) hg, z1P (a32 he) (a32 (x32 (by decide) he))]
  simp only [z3J]
  have e1 : ((((z + (rotr e 6 ^^^ rotr e 11 ^^^ rotr e 25)) % 4294967296 + (e &&& f ^^^ (4294967295 ^^^ e) &&& g)) % 4294967296 + kq) % 4294967296 + wq) % 4294967296 = t1S kq wq e f g z := rfl
  rw [e1]
  have ht : t1S kq wq e f g z < 4294967296 := m32 _
  generalize t1S kq wq e f g z = T at ht ern ⊢
  refine z3d a 2 ha (by omega) (by omega) ?_
  refine z3d a 13 ha (by omega) (by omega) ?_
  simp (disch := omega) only [GL, RL]
  refine z3d a 22 ha (by omega) (by omega) ?_
  simp (disch := omega) only [GL, RL]
  rw [z1P (z19 a 2 ha) (z19 a 13 ha), z1P (x32 (z19 a 2 ha) (z19 a 13 ha)) (z19 a 22 ha), z4D ha hb, z4D ha hc, z4D hb hc, z1P (a32 ha) (a32 ha), z1P (x32 (a32 ha) (a32 ha)) (a32 hb)]
  simp only [z3J]
  have e2 : ((rotr a 2 ^^^ rotr a 13 ^^^ rotr a 22) + (a &&& b ^^^ a &&& c ^^^ b &&& c)) % 4294967296 = t2S a b c := rfl
  rw [e2, wi64 (by omega) (by omega)]
  generalize t2S a b c = U at ern ⊢
  refine ⟨h2, .refl _, m - 1, by omega, i + 1, by omega, rfl, ?_⟩
  rw [ern]
  simp only [List.getD_cons_zero, List.getD_cons_succ]
  rw [inc]
 obtain rfl : i = 64 := by omega
 simp (disch := omega) only [GL, RL, e64, hlt, decide_false, Bool.false_eq_true, if_false, Int.reduceToNat, Nat.add_zero, cS0, cS1, cS2, cS3, cS4, cS5, cS6, cS7, z3J]
 generalize rnds shaK W s 64 = V at wr lr k ⊢
 rw [zsI] at k
 refine zq8 _ _ _ _ _ _ _ _ fun v h' n => ?_
 obtain ⟨h0, l0, n0⟩ := Nn.down nW.le n
 exact ⟨h0, l0, k _ _ n0⟩
theorem zmQ {v : Value} {b : List Nat} (hv : Rn h .u8 v b) (lb : b.length ≤ 1099511627776) (k : ∀ r h', Nn h zc .u8 r h' (padS b) → K r h') : Cn P zdD #[v] h K := by
 refine zdU ?_
 unfold z7N
 refine zT (ps := []) (n := 0) za zp z1p rfl (by omega) (by intro p hp; cases hp) fun v4 h1 n1 _ => ?_
 refine z1t za za zw rfl (by omega) n1 (hv.mono n1.cle) (zq _ _) (by omega) (.refl _) fun v6 h2 n2 => ?_
 have n2' : Nn h zc .u8 v6 h2 b := by unfold Nn; simpa [z1f] using n2
 refine zT (ps := [(0, _)]) za zp z1p rfl (by omega) (by intro p hp; rw [List.mem_singleton.1 hp]; exact ⟨rfl, by show _ < 1; omega⟩) fun v7 h3 n3 _ => ?_
 have n3' : Nn h2 zc .u8 v7 h3 [128] := n3
 refine zQ za za zw rfl (by omega) n2' n3' (zq _ _) (by simp; omega) fun v8 h4 n4 => ?_
 rw [← z13] at n4
 have n4' : Nn h zc .u8 v8 h4 (b ++ ([128] ++ List.replicate 0 0)) := by unfold Nn; rw [List.length_append]; exact n4
 obtain ⟨np, hnp⟩ : ∃ np, (119 - b.length % 64) % 64 = np := ⟨_, rfl⟩
 refine Lp_mk (fun m vs h' => ∃ (i : Nat) (vo : Value), i + m = np ∧ Nn h zc .u8 vo h' (b ++ ([128] ++ List.replicate i 0)) ∧ vs = [vo]) np ⟨0, _, by omega, n4', rfl⟩ ?_
 rintro m vs h5 ⟨i, vo, hi, nO, rfl⟩
 have hnp64 : np < 64 := by rw [← hnp]; exact Nat.mod_lt _ (by decide)
 obtain ⟨ao, co, eo, hco⟩ := nO.rn.shape
 have lO : (b ++ ([128] ++ List.replicate i 0)).length = b.length + 1 + i := by simp; omega
 have lno : ∀ {h : Hp} {K : Value → Prop}, q P h (Builtin.len_ #[zd] zi #[vo]) K = K (.int .i64 ((b.length + 1 + i : Nat) : Int)) := fun {h K} => by rw [eo, lO]; exact z12 za _ _ _
 obtain ⟨av, cv, ev, hcv⟩ := hv.shape
 have lnv : ∀ {h : Hp} {K : Value → Prop}, q P h (Builtin.len_ #[zd] zi #[v]) K = K (.int .i64 ((b.length : Nat) : Int)) := fun {h K} => by rw [ev]; exact z12 za _ _ _
 have em : ((b.length + 1 + i : Nat) : Int).tmod 64 = (((b.length + 1 + i) % 64 : Nat) : Int) := by rw [Int.tmod_eq_emod_of_nonneg (by omega)]; exact (Int.natCast_emod _ 64).symm
 have e56 : ((((b.length + 1 + i) % 64 : Nat) : Int) != 56) = decide (i < np) := by
  have h1 : ((((b.length + 1 + i) % 64 : Nat) : Int) != 56) = decide ((b.length + 1 + i) % 64 ≠ 56) := z3h _ 56
  rw [h1, decide_eq_decide]; omega
 simp (disch := omega) only [GL, RL, lno, lnv, em, e56]
 by_cases hlt : i < np
 ·simp only [hlt, decide_true, if_true]
  refine zT (ps := [(0, _)]) za zp z1p rfl (by omega) (by intro p hp; rw [List.mem_singleton.1 hp]; exact ⟨rfl, by show _ < 1; omega⟩) fun w h6 n6 _ => ?_
  have n6' : Nn h5 zc .u8 w h6 [0] := n6
  refine zQ za za zw rfl (by omega) nO n6' (zq _ _) (by rw [lO]; simp; omega) fun vo' h7 n7 => ?_
  rw [← z13] at n7
  refine ⟨h7, .refl _, m - 1, by omega, i + 1, vo', by omega, ?_, rfl⟩
  have e : b ++ ([128] ++ List.replicate (i + 1) 0) = (b ++ ([128] ++ List.replicate i 0)) ++ [0] := by
   rw [List.replicate_succ', List.append_assoc, List.append_assoc]
  rw [e]
  unfold Nn
  rw [List.length_append]
  exact n7
 simp only [hlt, decide_false, Bool.false_eq_true, if_false]
 obtain rfl : i = np := by omega
 have e8 : (8 : Int) * (b.length : Int) = ((8 * b.length : Nat) : Int) := by omega
 simp (disch := omega) only [GL, RL, z2j, e8]
 refine z2t (8 * b.length) 8 (by omega) (by omega) fun v21 h6 n6 => ?_
 refine za0 n6.rn (z1s 8 _) (by rw [zE]; omega) fun v22 h7 n7 => ?_
 have n7' : Nn h6 zc .u8 v22 h7 (bg 8 (8 * b.length)) := n7
 obtain ⟨b6, c6, f6, hb6, _, _, hh6, _⟩ := n6.form (by rw [zE]; omega)
 obtain ⟨b7, c7, f7, hb7, _, _, hh7, _⟩ := n7'.form (by rw [z2p]; omega)
 have nA := New.add nO hb6 (.row zc (nv .u8 (le 8 (8 * b.length))) (c6 * 1) (some f6))
 rw [← hh6] at nA
 have nB := New.add nA hb7 (.row zc (nv .u8 (bg 8 (8 * b.length))) (c7 * 1) (some f7))
 rw [← hh7] at nB
 refine z1t za za zw rfl (by omega) nB n7'.rn (zq _ _) (by rw [lO, z2p]; omega) ((zP (nO.ext.none hb6)).trans (zP (nA.ext.none hb7))) fun vo' h9 n9 => ?_
 refine k _ _ ?_
 rw [← z13] at n9
 unfold Nn padS padE
 rw [hnp, List.length_append]
 exact n9
end
end Go.Proofs.YtoikhbagchfeoaaGreat
