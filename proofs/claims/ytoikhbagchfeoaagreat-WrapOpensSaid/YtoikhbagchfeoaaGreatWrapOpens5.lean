/- wrapOpens_holds wrapOpens proved lifted over: part 5 of its proof; each part's own remarks stand with its declarations. Conditions: each lemma names its own. -/
import Derived.Test.YtoikhbagchfeoaaGreatWrapOpens4
import Derived.Test.YtoikhbagchfeoaaGreatRows
import Derived.WalkKit
import Derived.ProofKit
import Derived.OpenShut
import Derived.ShutString
import Derived.ChangeOld
import Derived.Below
import Derived.Carry
import Derived.SizedLaws
import Derived.Lib.SmallJoins
set_option linter.unusedSimpArgs false
set_option linter.unusedVariables false
set_option maxRecDepth 100000
set_option maxHeartbeats 4000000
namespace Go.Proofs.YtoikhbagchfeoaaGreat
open Go Go.SL Go.Pure
section
variable {h : Hp} {K : Value → Hp → Prop}
theorem zju {v : Value} {b : List Nat} (hv : Rn h .u8 v b) (bb : Bytes b) (lb : b.length ≤ 1099511627776) (k : ∀ r h', Nn h zc .u8 r h' (shaL b) → K r h') : Cn P z85 #[v] h K := by
 refine Cn_wk (zeA ?_)
 unfold z88
 refine zmQ hv lb fun v10 h1 n1 => ?_
 refine zq7 fun v11 h2 n2 => ?_
 refine zq6 fun v12 h3 n3 => ?_
 have lp := zo6 b
 have bp := zlc bb
 have lp2 : (padS b).length ≤ b.length + 200 := by
  unfold padS padE
  rw [List.length_append, List.length_append, List.length_append, List.length_replicate, z2p, List.length_singleton]
  have := Nat.mod_lt (119 - b.length % 64) (show 64 > 0 by omega)
  omega
 unfold shaL at k
 generalize padS b = p at n1 lp bp lp2 k
 have r10 : Rn h3 .u8 v10 p := n1.rn.mono (n2.cle.trans n3.cle)
 have r12 : Rn h3 .u32 v12 shaK := n3.rn
 have le03 : Hp.le h h3 := (n1.le.trans n2.le).trans n3.le
 refine Lp_mk (fun m vs h' => ∃ (n : Nat) (w : Value), n + m = p.length / 64 ∧ Hp.ext h3 h' ∧ Rn h' .u32 w (z48 shaK shaH p n) ∧ vs = [w, .int .i64 ((64 * n : Nat) : Int)]) (p.length / 64) ⟨0, v11, by omega, .refl _, n2.rn.mono n3.cle, rfl⟩ ?_
 rintro m vs h4 ⟨n, w, hn, x4, rw4, rfl⟩
 obtain ⟨a10, c10, rfl, hc10⟩ := r10.shape
 have ell : decide (((64 * n : Nat) : Int) < ((p.length : Nat) : Int)) = decide (n < p.length / 64) := by rw [decide_eq_decide]; omega
 have e64 : ((64 * n : Nat) : Int) + 64 = ((64 * n + 64 : Nat) : Int) := by omega
 simp (disch := omega) only [GL, RL, ell, wi64, e64]
 by_cases hlt : n < p.length / 64
 ·simp only [hlt, decide_true, if_true]
  refine zhh za zp (r10.mono x4.cle) .i64 .i64 (64 * n) (64 * n + 64) (by omega) (by omega) fun w' hw' => ?_
  have ebl : (p.take (64 * n + 64)).drop (64 * n) = (p.drop (64 * n)).take 64 := by rw [List.drop_take, show 64 * n + 64 - 64 * n = 64 by omega]
  rw [ebl] at hw'
  have ef : z48 shaK shaH p (n + 1) = z6j shaK (z48 shaK shaH p n) ((p.drop (64 * n)).take 64) := rfl
  have wf := zfV (K := shaK) (b := p) ziD n
  have lf := zc1 (K := shaK) (b := p) ze6 n
  refine zlj rw4 (r12.mono x4.cle) hw' wf lf ((bp.drop _).take _) (by rw [List.length_take, List.length_drop]; omega) fun w5 h5 n5 => ?_
  rw [← ef] at n5
  exact ⟨h5, .refl _, m - 1, by omega, n + 1, w5, by omega, x4.trans n5.ext, n5.rn, by rw [show 64 * (n + 1) = 64 * n + 64 by omega]⟩
 simp only [hlt, decide_false, Bool.false_eq_true, if_false]
 obtain rfl : n = p.length / 64 := by omega
 have ls2 := zc1 (K := shaK) (b := p) ze6 (p.length / 64)
 have ws2 := zfV (K := shaK) (b := p) ziD (p.length / 64)
 generalize z48 shaK shaH p (p.length / 64) = st at rw4 k ls2 ws2
 obtain ⟨aw0, cw, rfl, hcw⟩ := rw4.shape
 obtain ⟨bw, ow, rfl, cW⟩ := rw4.pos (by omega)
 refine Lp_mk (fun m vs h' => ∃ (i : Nat) (vo : Value), i + m = 8 ∧ Nn h4 zc .u8 vo h' (outS st i) ∧ vs = [vo, .int .i64 (i : Int)]) 8 ⟨0, .slice none 0 0, rfl, Nn.nil .., rfl⟩ ?_
 rintro m vs h9 ⟨i, vo, hi, nO, rfl⟩
 have e8' : decide ((i : Int) < 8) = decide (i < 8) := zL i 8
 by_cases hlt8 : i < 8
 ·have cI := nO.cle _ _ (cW i (by omega))
  have hw := ws2.getD i
  simp (disch := omega) only [GL, RL, e8', hlt8, decide_true, if_true, cI, z2j]
  refine z2t (st.getD i 0) 4 (by omega) (by omega) fun v37 hA nA => ?_
  refine za0 nA.rn (z1s 4 _) (by rw [zE]; omega) fun v38 hB nB => ?_
  have nB' : Nn hA zc .u8 v38 hB (bg 4 (st.getD i 0)) := nB
  obtain ⟨bA, cA, fA, hbA, _, _, hhA, _⟩ := nA.form (by rw [zE]; omega)
  obtain ⟨bB, cB, fB, hbB, _, _, hhB, _⟩ := nB'.form (by rw [z2p]; omega)
  have oA := New.add nO hbA (.row zc (nv .u8 (le 4 (st.getD i 0))) (cA * 1) (some fA))
  rw [← hhA] at oA
  have oB := New.add oA hbB (.row zc (nv .u8 (bg 4 (st.getD i 0))) (cB * 1) (some fB))
  rw [← hhB] at oB
  have lo := z9U st i
  refine z1t za za zw rfl (by omega) oB nB'.rn (zq _ _) (by rw [lo, z2p]; omega) ((zP (nO.ext.none hbA)).trans (zP (oA.ext.none hbB))) fun vo' hC nC => ?_
  rw [wi64 (by omega) (by omega)]
  refine ⟨hC, .refl _, m - 1, by omega, i + 1, vo', by omega, ?_, rfl⟩
  rw [← z13] at nC
  unfold Nn
  rw [outS, List.length_append]
  exact nC
 simp (disch := omega) only [GL, RL, e8', hlt8, decide_false, Bool.false_eq_true, if_false]
 obtain rfl : i = 8 := by omega
 obtain ⟨h0, l0, n0⟩ := Nn.down (le03.trans x4.le) nO
 exact ⟨h0, l0, k _ _ n0⟩
end
end Go.Proofs.YtoikhbagchfeoaaGreat
set_option maxHeartbeats 1000000
namespace Go.Proofs.YtoikhbagchfeoaaGreat
open Go Go.SL Go.Pure Go.Curve
section
variable {h : Hp} {K : Value → Hp → Prop}
theorem zgs {v : Value} {b : List Nat} (hv : Rn h .u8 v b) (bb : Bytes b) (lb : b.length ≤ 1099511627776) (k : ∀ r h', Nn h zc .u8 r h' (shaL b) → K r h') : Cn P z85 #[v] h K := zju hv bb lb k
theorem zk4 {vk vm : Value} {key m : List Nat} (rk : Rn h .u8 vk key) (rm : Rn h .u8 vm m) (bk : Bytes key) (bm : Bytes m) (lk : key.length ≤ 64) (lm : m.length ≤ 100000) (k : ∀ r h', Nn h zc .u8 r h' (z2k key m) → K r h') : Cn P zdB #[vk, vm] h K := by
 refine Cn_wk (zdS ?_)
 unfold z7L
 refine z9e fun v0 H0 n0 => z3X n0 (rk.mono n0.cle) (by simp; omega) fun v1 H1 nw => ?_
 rw [List.nil_append] at nw
 obtain ⟨ak, ck, rfl, hck⟩ := rk.shape
 have ln : ∀ {K : Value → Prop} {G : Hp}, q P G (Builtin.len_ #[zd] zi #[.slice ak key.length ck]) K = K (.int .i64 ((key.length : Nat) : Int)) := fun {K G} => z12 za _ _ _
 have g64 : decide ((64 : Int) < ((key.length : Nat) : Int)) = false := decide_eq_false (by omega)
 intro J
 have qJ : J v1 H1 := by
  simp -zeta only [J]
  clear J
  refine Lp_mk (fun u vs H => ∃ (j : Nat) (v : Value), j + u = 64 - key.length ∧ Nn h zc .u8 v H (key ++ List.replicate j 0) ∧ vs = [v]) (64 - key.length) ⟨0, v1, by omega, by simpa using nw, rfl⟩ ?_
  rintro u vs H ⟨j, v, hj, nv1, rfl⟩
  have lj : (key ++ List.replicate j 0).length = key.length + j := by rw [List.length_append, List.length_replicate]
  obtain ⟨a1, c1, rfl, hc1⟩ := nv1.rn.shape
  have ln1 : ∀ {K : Value → Prop} {G : Hp}, q P G (Builtin.len_ #[zd] zi #[.slice a1 (key ++ List.replicate j 0).length c1]) K = K (.int .i64 ((key.length + j : Nat) : Int)) := fun {K G} => by rw [z12 za, lj]
  have e1 : decide (((key.length + j : Nat) : Int) < 64) = decide (key.length + j < 64) := zL _ 64
  simp -zeta (disch := omega) only [GL, RL, ln1, e1]
  by_cases hlt : key.length + j < 64
  ·rw [decide_eq_true hlt]
   simp -zeta only [if_true]
   refine zcB 0 fun w H2 nw2 => zjW nv1 nw2 (by rw [lj]; simp; omega) fun v3 H3 n3 => ?_
   rw [List.append_assoc, ← List.replicate_succ'] at n3
   exact ⟨H3, .refl _, u - 1, by omega, j + 1, v3, by omega, n3, rfl⟩
  ·rw [decide_eq_false hlt]
   simp -zeta only [Bool.false_eq_true, if_false]
   have hpad : key ++ List.replicate j 0 = padK key := by
    rw [padK, show j = 64 - key.length by omega]
   rw [hpad] at nv1 ln1 lj ⊢
   have lp := ze7 lk
   have bp := z9Y bk
   have kk : keyL key = key := if_neg (by omega)
   have hm : z2k key m = shaL ((padK key).map (· ^^^ 92) ++ shaL ((padK key).map (· ^^^ 54) ++ m)) := by rw [z2k, kk]; rfl
   rw [hm] at k
   generalize padK key = A at *
   clear ln1 lj hpad hm kk g64 nw
   refine Lp_mk (fun u vs G => ∃ (i : Nat) (v w : Value) (S T : List Nat), i + u = 64 ∧ OutAt zc 1 G v (nv .u8 ((A.take i).map (· ^^^ 54))) ((A.take i).map (· ^^^ 54)).length S ∧ OutAt zc 1 G w (nv .u8 ((A.take i).map (· ^^^ 92))) ((A.take i).map (· ^^^ 92)).length T ∧
    Bs H G S ∧ Bs H G T ∧ (∀ b, b ∈ S → b ∉ T) ∧ (∀ b, b ∈ T → b ∉ S) ∧ vs = [v, w, .int .i64 (i : Int)]) 64 ⟨0, _, _, [], [], by omega, ziw, ziw, ⟨.refl _, by simp⟩, ⟨.refl _, by simp⟩, by simp, by simp, rfl⟩ ?_
   rintro u' vs G ⟨i, v, w, S, T, hi, oS, oT, bS, bT, dST, dTS, rfl⟩
   have e64 : decide ((i : Int) < 64) = decide (i < 64) := zL i 64
   simp -zeta (disch := omega) only [GL, RL, e64]
   by_cases hlt : i < 64
   ·have tk : A.take (i + 1) = A.take i ++ [A.getD i 0] := by
     rw [List.take_succ_eq_append_getElem (by omega)]
     congr 2
     rw [List.getD_eq_getElem?_getD, List.getElem?_eq_getElem (by omega)]
     rfl
    have gA := bp.getD i
    have hx1 : ixor .u8 ((A.getD i 0 : Nat) : Int) 54 = ((A.getD i 0 ^^^ 54 : Nat) : Int) := by
     rw [xor8 (by omega) (by omega) (by omega) (by omega), Int.toNat_natCast]; rfl
    have hx2 : ixor .u8 ((A.getD i 0 : Nat) : Int) 92 = ((A.getD i 0 ^^^ 92 : Nat) : Int) := by
     rw [xor8 (by omega) (by omega) (by omega) (by omega), Int.toNat_natCast]; rfl
    obtain ⟨p1, p2, q3⟩ := z6i (P := P) (i := i) (y := .int .u8 ((A.getD i 0 : Nat) : Int)) za zp nv1.rn (z1g _ _ _ (by omega))
    have p3 := bS.1.cle _ _ q3
    simp -zeta (disch := first | omega | decide) only [hlt, decide_true, if_true, p2, p3, GL, RL, hx1]
    have lt : ((A.take i).map (· ^^^ 54)).length = i := by rw [List.length_map, List.length_take]; omega
    have lt2 : ((A.take i).map (· ^^^ 92)).length = i := by rw [List.length_map, List.length_take]; omega
    refine ziu _ oS (by rw [lt]; omega) fun v' G1 S' oS' kp fr => ?_
    have bS' := bS.step kp fr
    obtain ⟨oT', dTS'⟩ := z9Q oT dTS kp fr
    have bT' : Bs H G1 T := ⟨bS'.1, bT.2⟩
    have p3 := bS'.1.cle _ _ q3
    simp -zeta (disch := first | omega | decide) only [p2, p3, GL, RL, hx2]
    have ei : IntKind.i64.wrap ((i : Int) + 1) = ((i + 1 : Nat) : Int) := by rw [wi64 (by omega) (by omega)]; omega
    refine ziu _ oT' (by rw [lt2]; omega) fun w' G2 T' oT2 kp2 fr2 => ?_
    have bT2 := bT'.step kp2 fr2
    obtain ⟨oS2, dST2⟩ := z9Q oS' (fun b hb ht => dTS' b ht hb) kp2 fr2
    simp -zeta (disch := first | omega | decide) only [GL, RL, ei]
    refine ⟨G2, .refl _, u' - 1, by omega, i + 1, v', w', S', T', by omega, ?_, ?_, ⟨bT2.1, bS'.2⟩, bT2, dST2, fun b hb hs => dST2 b hs hb, rfl⟩
    ·rw [tk, List.map_append]; exact oS2
    ·rw [tk, List.map_append]; exact oT2
   ·obtain rfl : i = 64 := by omega
    simp -zeta (disch := omega) only [hlt, decide_false, Bool.false_eq_true, if_false]
    rw [List.take_of_length_le (by omega)] at oS oT
    have l1 : (A.map (· ^^^ 54)).length = 64 := by rw [List.length_map, lp]
    have l2 : (A.map (· ^^^ 92)).length = 64 := by rw [List.length_map, lp]
    have bx : ∀ x, x < 256 → Bytes (A.map (· ^^^ x)) := fun x hx y hy => by
     obtain ⟨z, hz, rfl⟩ := List.mem_map.1 hy
     exact Nat.xor_lt_two_pow (n := 8) (bp z hz) hx
    have hH : Hp.ext h H := nv1.ext
    refine zfU oS (rm.mono (hH.trans bS.1).cle) (by rw [l1]; omega) fun v' G1 S' oS' kp fr => ?_
    have bS' := bS.step kp fr
    obtain ⟨oT', _⟩ := z9Q oT dTS kp fr
    refine zgs (ziv oS') (Bytes.append (bx 54 (by decide)) bm) (by rw [List.length_append, l1]; omega) fun v2 G2 n2 => ?_
    refine zfU (zmA oT' n2.ext) n2.rn (by rw [l2, z4U]; omega) fun w' G3 T' oT3 kp3 fr3 => ?_
    have bT3 := Bs.step (⟨bS'.1.trans n2.ext, bT.2⟩ : Bs H G2 T) kp3 fr3
    refine zgs (ziv oT3) (Bytes.append (bx 92 (by decide)) (z5t _)) (by rw [List.length_append, l2, z4U]; omega) fun v4 G4 n4 => ?_
    obtain ⟨h0, l0, n0⟩ := n4.down (hH.trans bT3.1).le
    exact ⟨h0, l0, k _ _ n0⟩
 clear_value J
 simp -zeta only [ln, GL, g64, Bool.false_eq_true, if_false]
 exact qJ
theorem zlk {vs vt vi : Value} {secret salt info : List Nat} (rs : Rn h .u8 vs secret) (rt : Rn h .u8 vt salt) (ri : Rn h .u8 vi info) (bs : Bytes secret) (bt : Bytes salt) (bi : Bytes info)
  (ls : secret.length ≤ 100000) (lt : salt.length ≤ 64) (l0 : 0 < salt.length) (li : info.length ≤ 90000) (k : ∀ r h', Nn h zc .u8 r h' (z6d secret salt info) → K (.tuple #[r, .int .i64 0]) h') : Cn P zam #[vs, vt, vi, .int .i64 32] h K := by
 refine Cn_wk (zaz ?_)
 unfold z5F
 refine Cn_wk (z9y ?_)
 unfold z5e
 obtain ⟨a, c, rfl, hc⟩ := rt.shape
 have ln : ∀ {K : Value → Prop}, q P h (Builtin.len_ #[zd] zi #[.slice a salt.length c]) K = K (.int .i64 ((salt.length : Nat) : Int)) := fun {K} => z12 za _ _ _
 have d0 : (((salt.length : Nat) : Int) == 0) = false := by rw [beq_eq_false_iff_ne]; omega
 simp -zeta only [ln, GL, d0, Bool.false_eq_true, if_false]
 refine zk4 rt rs bt bs lt ls fun p H np => ?_
 have lp : (z2k salt secret).length = 32 := z4U _
 have bp : Bytes (z2k salt secret) := z5t _
 rw [z6d] at k
 generalize z2k salt secret = key at *
 refine ⟨H, .refl _, ?_⟩
 refine Cn_wk (zaF ?_)
 unfold z5J
 have g1 : decide ((8160 : Int) < 32) = false := rfl
 have g2 : decide ((32 : Int) < 0) = false := rfl
 intro J
 have qJ : J H := by
  simp -zeta only [J]
  clear J
  refine Lp_mk (fun m vs G => ∃ (v w : Value) (i : Nat), vs = [v, w, .int .i64 (i : Int)] ∧ ((m = 1 ∧ i = 1 ∧ G = H ∧ v = .slice none 0 0 ∧ w = .slice none 0 0) ∨ (m = 0 ∧ i = 2 ∧ Hp.ext H G ∧ Rn G .u8 w (z2k key (info ++ [1]))))) 1 ⟨_, _, 1, rfl, .inl ⟨rfl, rfl, rfl, rfl, rfl⟩⟩ ?_
  rintro m vs G ⟨v, w, i, rfl, ⟨rfl, rfl, rfl, rfl, rfl⟩ | ⟨rfl, rfl, x, rw⟩⟩
  ·have ln0 : ∀ {K : Value → Prop}, q P G (Builtin.len_ #[zd] zi #[.slice none 0 0]) K = K (.int .i64 ((0 : Nat) : Int)) := fun {K} => z12 za _ _ _
   have g3 : decide (((0 : Nat) : Int) < 32) = true := rfl
   simp -zeta only [GL, RL, ln0, g3, if_true]
   refine z9e fun v0 H0 n0 => z3X n0 (z3y _ _) (by simp) fun v1 H1 n1 => z3X n1 (ri.mono (np.ext.trans n1.ext).cle) (by simp; omega) fun v2 H2 n2 => ?_
   have c1 : IntKind.u8.wrap ((1 : Nat) : Int) = ((1 : Nat) : Int) := rfl
   simp -zeta (disch := first | omega | decide) only [GL, RL, c1]
   refine zcB 1 fun v3 H3 n3 => zjW n2 n3 (by simp; omega) fun v4 H4 n4 => ?_
   rw [List.append_nil, List.nil_append] at n4
   have b4 : Bytes (info ++ [1]) := Bytes.append bi fun x hx => by rw [List.mem_singleton.1 hx]; decide
   refine zk4 (np.rn.mono n4.ext.cle) n4.rn bp b4 (by omega) (by simp; omega) fun v5 H5 n5 => ?_
   refine zfU ziw n5.rn (by simp; rw [z54]; decide) fun v6 H6 S6 o6 kp6 _ => ?_
   rw [List.nil_append] at o6
   have e2 : IntKind.i64.wrap (((1 : Nat) : Int) + 1) = ((2 : Nat) : Int) := rfl
   simp -zeta (disch := first | omega | decide) only [GL, RL, e2]
   exact ⟨H6, .refl _, 0, by omega, _, _, 2, rfl, .inr ⟨rfl, rfl, fun b o e => kp6 b o (by simp) (n5.ext _ _ (n4.ext _ _ e)), ziv o6⟩⟩
  ·have lk := z54 key (info ++ [1])
   generalize z2k key (info ++ [1]) = O at *
   obtain ⟨a2, c2, rfl, hc2⟩ := rw.shape
   have ln0 : ∀ {K : Value → Prop}, q P G (Builtin.len_ #[zd] zi #[.slice a2 O.length c2]) K = K (.int .i64 ((32 : Nat) : Int)) := fun {K} => by rw [z12 za, lk]
   have g3 : decide (((32 : Nat) : Int) < 32) = false := rfl
   simp -zeta only [GL, RL, ln0, g3, Bool.false_eq_true, if_false]
   refine z9e fun v0 H0 n0 => ?_
   have sl : ∀ {K : Value → Prop}, q P H0 (Instr.sliceAt zd (.slice a2 O.length c2) none (some (.int .i64 32)) none) K = K (.slice (SL.cut a2 c2 0 1) 32 c2) := fun {K} => by
    exact z6o za zp a2 O.length c2 .i64 32 (by omega)
   rw [sl]
   have r3 := zox (rw.mono n0.cle) (hi := 32) (by omega)
   rw [List.take_of_length_le (by omega)] at r3
   have r3' : Rn H0 .u8 (.slice (SL.cut a2 c2 0 1) 32 c2) O := by have := r3; rwa [] at this
   refine z3X n0 r3' (by simp; omega) fun v1 H1 n1 => ?_
   rw [List.nil_append] at n1
   obtain ⟨h0, l0, n0'⟩ := n1.down (np.ext.trans x).le
   refine ⟨H1, .refl _, ?_⟩
   rw [ext0, ext1]
   exact ⟨h0, l0, k _ _ n0'⟩
 clear_value J
 simp -zeta only [GL, g1, g2, Bool.false_eq_true, if_false, if_true]
 exact qJ
end
def isPk (l : List Nat) : Prop := l.length = 113 ∧ l.getD 0 0 = 1
instance (l : List Nat) : Decidable (isPk l) := by unfold isPk; infer_instance
def z1C (l : List Nat) : List Nat := (l.take 33).drop 1
def z1V (l : List Nat) : List Nat := (l.take 65).drop 33
def z3l (l : List Nat) : List Nat := (l.take 113).drop 65
theorem zll {h : Hp} {K : Value → Prop} : q P h (Instr.build zF #[]) K = K (.agg [Value.slice none 0 0, .slice none 0 0, .slice none 0 0].toArray) := q_of (by kernel_rfl) K
theorem zlm {h : Hp} {K : Value → Prop} (a b d : Value) (ha : ∃ x n c, a = .slice x n c) (hb : ∃ x n c, b = .slice x n c) (hd : ∃ x n c, d = .slice x n c) : q P h (Instr.build zF #[(0, a), (1, b), (2, d)]) K = K (.agg [a, b, d].toArray) := by
 obtain ⟨x, n, c, rfl⟩ := ha
 obtain ⟨y, m, d', rfl⟩ := hb
 obtain ⟨z, m', e', rfl⟩ := hd
 exact q_of (by kernel_rfl) K
section
variable {h : Hp} {K : Value → Hp → Prop}
theorem zoR {v : Value} {l : List Nat} (rv : Rn h .u8 v l) (bl : Bytes l) (hl : l.length ≤ 9223372036854775807) (k0 : ¬ isPk l → K (.tuple #[.agg [Value.slice none 0 0, .slice none 0 0, .slice none 0 0].toArray, .bool false]) h)
  (k1 : isPk l → ∀ v1 v2 v3, (∀ H, Rn H .u8 v l → Rn H .u8 v1 (z1C l) ∧ Rn H .u8 v2 (z1V l) ∧ Rn H .u8 v3 (z3l l)) → K (.tuple #[.agg [v1, v2, v3].toArray, .bool true]) h) : Cn P zkp #[v] h K := by
 obtain ⟨av, cv, rfl, hcv⟩ := rv.shape
 refine Cn_wk (zkD ?_)
 unfold zex
 have ln : ∀ {G : Hp} {K : Value → Prop}, q P G (Builtin.len_ #[zd] zi #[.slice av l.length cv]) K = K (.int .i64 (l.length : Nat)) := fun {G K} => z12 za _ _ _
 refine zS [.slice none 0 0, .slice none 0 0, .slice none 0 0] z6f rfl fun r hr => ?_
 have l3 : [Value.slice none 0 0, .slice none 0 0, .slice none 0 0].length = 3 := rfl
 rw [l3]
 have x0 : Hp.ext h (h.set r (.row zF [.slice none 0 0, .slice none 0 0, .slice none 0 0] 3 (some (0, 0)))) := z1x _ hr
 have e0 : (h.set r (.row zF [.slice none 0 0, .slice none 0 0, .slice none 0 0] 3 (some (0, 0)))) r = some (.row zF [.slice none 0 0, .slice none 0 0, .slice none 0 0] 3 (some (0, 0))) := Hp.set_same ..
 generalize h.set r (.row zF [.slice none 0 0, .slice none 0 0, .slice none 0 0] 3 (some (0, 0))) = H at *
 have rv0 := rv
 replace rv := rv.mono x0.cle
 have back : ∀ H' : Hp, (∀ b, b ≠ r → H' b = H b) → Hp.le h H' := fun H' f => (show Hp.ext h H' from fun b o e => by
  have hb : b ≠ r := by rintro rfl; rw [hr] at e; cases e
  rw [f b hb]; exact x0 _ _ e).le
 have fin : ∀ (ys : List Value) (b : Bool), ys.length = 3 → (∀ y ∈ ys, flat y = true) → K (.tuple #[.agg ys.toArray, .bool b]) h →
   aw P (Instr.storeAt zF (.pointer (some ⟨r, 0, none⟩)) (.agg ys.toArray)) (fun _ h2 => q P h2 ((asAddr (.pointer (some ⟨r, 0, none⟩))).bind (loadVar zF)) fun r0 => ∃ h0, Hp.le h0 h2 ∧ K (.tuple #[r0, .bool b]) h0) H := by
  intro ys b ly fy kk
  refine zD (ys := ys) (by rw [ly]; exact z3P) e0 (by rw [ly]; rfl) fy (fun i _ => by simp) ?_
  rw [z33 (ys := ys) z7v rfl (by rw [ly]; exact z3P) (Hp.set_same ..)]
  exact ⟨h, back _ fun b hb => Hp.set_ne _ _ hb, kk⟩
 intro J
 have qt : ¬ isPk l → J (.bool true) H := by
  intro hn
  simp -zeta only [J]
  clear J
  simp -zeta only [GL, if_true]
  rw [zll]
  refine fin _ false rfl (by
   intro y hy
   simp only [List.mem_cons, List.not_mem_nil, or_false] at hy
   rcases hy with rfl | rfl | rfl <;> rfl) (k0 hn)
 have qf : isPk l → J (.bool false) H := by
  intro hp
  simp -zeta only [J]
  clear qt J
  simp -zeta only [GL, Bool.false_eq_true, if_false]
  have ll := hp.1
  have i1 : (1 : Int) = ((1 : Nat) : Int) := rfl
  have i33 : (33 : Int) = ((33 : Nat) : Int) := rfl
  have i65 : (65 : Int) = ((65 : Nat) : Int) := rfl
  rw [i1, i33]
  refine z84 za zp rv .i64 .i64 .i64 1 33 (by omega) (by omega) fun v1 g1 => ?_
  rw [i65]
  refine z84 za zp rv .i64 .i64 .i64 33 65 (by omega) (by omega) fun v2 g2 => ?_
  rw [ln, ln]
  refine z84 za zp rv .i64 .i64 .i64 65 l.length (by omega) (Nat.le_refl _) fun v3 g3 => ?_
  have r1 := g1 _ rv
  have r2 := g2 _ rv
  have r3 := g3 _ rv
  rw [zlm _ _ _ (z7V r1) (z7V r2) (z7V r3)]
  refine fin _ true rfl (by
   intro y hy
   simp only [List.mem_cons, List.not_mem_nil, or_false] at hy
   rcases hy with rfl | rfl | rfl
   ·exact zO r1
   ·exact zO r2
   ·exact zO r3) (k1 hp v1 v2 v3 fun G rG => ⟨g1 _ rG, g2 _ rG, by rw [z3l, ← ll]; exact g3 _ rG⟩)
 clear_value J
 have ne113 : ((((l.length : Nat) : Int)) != 113) = decide (l.length ≠ 113) := z3h l.length 113
 simp -zeta only [ln, GL, ne113]
 by_cases h1 : l.length = 113
 ·have d1 : decide (l.length ≠ 113) = false := by simp [h1]
  obtain ⟨p, hp1, hp2⟩ := z6i (P := P) (i := 0) (y := .int .u8 ((l.getD 0 0 : Nat) : Int)) za zp rv (z1g _ _ _ (by omega))
  have z0 : (((0 : Nat) : Int)) = 0 := rfl
  rw [z0] at hp1
  have ne1 : ((((l.getD 0 0 : Nat) : Int)) != 1) = decide (l.getD 0 0 ≠ 1) := z3h (l.getD 0 0) 1
  simp -zeta only [d1, if_true, hp1, RL, hp2, GL, ne1]
  by_cases h2 : l.getD 0 0 = 1
  ·have d2 : decide (l.getD 0 0 ≠ 1) = false := by simp only [h2, ne_eq, not_true_eq_false, decide_false]
   rw [d2]
   exact qf ⟨h1, h2⟩
  ·have d2 : decide (l.getD 0 0 ≠ 1) = true := decide_eq_true h2
   rw [d2]
   exact qt fun q => h2 q.2
 ·have d1 : decide (l.length ≠ 113) = true := by simp [h1]
  simp -zeta only [d1, Bool.true_eq_false, if_false]
  exact qt fun q => h1 q.1
theorem zoS {v : Value} {l : List Nat} (rv : Rn h .u8 v l) (bl : Bytes l) (hl : l.length ≤ 9223372036854775807) (k0 : ¬ isPk l → K (.tuple #[.slice none 0 0, .int .i64 8]) h)
  (k1 : isPk l → ∀ r h', Nn h zc .u8 r h' (z1C l) → K (.tuple #[r, .int .i64 0]) h') : Cn P zko #[v] h K := by
 refine Cn_wk (zkC ?_)
 unfold zew
 have nil3 : ∀ y ∈ [Value.slice none 0 0, .slice none 0 0, .slice none 0 0], flat y = true := by
  intro y hy
  simp only [List.mem_cons, List.not_mem_nil, or_false] at hy
  rcases hy with rfl | rfl | rfl <;> rfl
 refine zoR rv bl hl (fun hn => ?_) fun hp v1 v2 v3 g => ?_
 ·rw [ext0, ext1]
  refine zS [.slice none 0 0, .slice none 0 0, .slice none 0 0] z6f rfl fun r hr => ?_
  refine zD (ys := [.slice none 0 0, .slice none 0 0, .slice none 0 0]) z3P (Hp.set_same ..) rfl nil3 (fun i _ => by simp) ?_
  simp -zeta only [GL, Bool.not_false, if_true]
  rw [Hp.set_set]
  exact ⟨h, zP hr, k0 hn⟩
 ·obtain ⟨r1, r2, r3⟩ := g h rv
  rw [ext0, ext1]
  refine zS [.slice none 0 0, .slice none 0 0, .slice none 0 0] z6f rfl fun r hr => ?_
  refine zD (ys := [v1, v2, v3]) z3P (Hp.set_same ..) rfl (by
   intro y hy
   simp only [List.mem_cons, List.not_mem_nil, or_false] at hy
   rcases hy with rfl | rfl | rfl
   ·exact zO r1
   ·exact zO r2
   ·exact zO r3) (fun i _ => by simp) ?_
  rw [Hp.set_set]
  have x0 : Hp.ext h (h.set r (.row zF [v1, v2, v3] [Value.slice none 0 0, .slice none 0 0, .slice none 0 0].length (some (0, 0)))) := z1x _ hr
  have e0 : (h.set r (.row zF [v1, v2, v3] [Value.slice none 0 0, .slice none 0 0, .slice none 0 0].length (some (0, 0)))) r = some (.row zF [v1, v2, v3] [Value.slice none 0 0, .slice none 0 0, .slice none 0 0].length (some (0, 0))) := Hp.set_same ..
  have c0 : (h.set r (.row zF [v1, v2, v3] [Value.slice none 0 0, .slice none 0 0, .slice none 0 0].length (some (0, 0)))).cell ⟨r, 0, none⟩ = some v1 := by rw [zj e0]; rfl
  simp -zeta only [GL, Bool.not_true, Bool.false_eq_true, if_false, wp0, RL, c0]
  refine zcz (r1.mono x0.cle) (by have := hp.1; rw [z1C, List.length_drop, List.length_take]; omega) fun r' H nw => ?_
  obtain ⟨h0, l0, nw0⟩ := Nn.down x0.le nw
  exact ⟨h0, l0, k1 hp _ _ nw0⟩
def z1W (c : Cr) (scalar packet ctx : List Nat) : Nat × List Nat :=
 if scalar.length ≠ 32 then (1, [])
 else if ¬ isPk packet then (8, [])
 else if z1C packet ≠ nb (zt scalar) then (9, [])
 else if zV scalar (z1V packet) = 0 then (10, [])
 else z1G c (keyW (nb (zV scalar (z1V packet))) (z1V packet) (z1C packet)) zeros12 ctx (z3l packet)
theorem ze8 {R : Hp} {vc vs vp vx : Value} {c : Cr} {S scalar packet ctx : List Nat} (w : Own R h S) (hC : CrAt R h vc c S) (hf : few 1000000 c) (rs : Rn R .u8 vs scalar) (rp : Rn R .u8 vp packet) (rx : Rn R .u8 vx ctx)
  (bs : Bytes scalar) (bp : Bytes packet) (bx : Bytes ctx) (ls : scalar.length ≤ 9223372036854775807) (lp : packet.length ≤ 9223372036854775807) (lx : ctx.length ≤ 100000)
  (k : ∀ v R' h', Stp R h R' h' S S → CrAt R' h' vc c S → (if (z1W c scalar packet ctx).1 = 0 then Rn R' .u8 v (z1W c scalar packet ctx).2 else v = .slice none 0 0) → K (.tuple #[v, .int .i64 (((z1W c scalar packet ctx).1 : Nat) : Int)]) h') :
  Cn P zgx #[vc, vs, vp, vx] h K := by
 refine zgG ?_
 unfold za6
 have b0 : ((0 : Int) != 0) = false := rfl
 have b1 : ((1 : Int) != 0) = true := rfl
 have b10 : ((10 : Int) != 0) = true := rfl
 have keepC : ∀ {R1 R' h1 h' : Hp}, CrAt R1 h1 vc c S → Own R1 h1 S → Hp.ext R1 R' → Hp.ext h1 h' → CrAt R' h' vc c S := fun a o e x => a.keep e fun b hb => by
  obtain ⟨o', eo⟩ := o.kn b hb
  rw [eo, x _ _ eo]
 refine z9O (w.rn rs) bs ls (fun hn => ?_) fun h32 r1 H1 n1 => ?_
 ·have e : z1W c scalar packet ctx = (1, []) := by rw [z1W, if_pos hn]
  rw [e] at k
  rw [ext0, ext1]
  simp -zeta only [GL, b1, if_true]
  exact k _ R h (.refl w) hC (by simp)
 ·have u1 : z1W c scalar packet ctx = if ¬ isPk packet then (8, []) else if z1C packet ≠ nb (zt scalar) then (9, []) else if zV scalar (z1V packet) = 0 then (10, []) else z1G c (keyW (nb (zV scalar (z1V packet))) (z1V packet) (z1C packet)) zeros12 ctx (z3l packet) := by rw [z1W, if_neg fun q => q h32]
  rw [u1] at k
  clear u1
  generalize zt scalar = pu at *
  rw [ext0, ext1]
  simp -zeta only [GL, b0, Bool.false_eq_true, if_false]
  obtain ⟨R1, s1, q1⟩ := Stp.newN w n1
  have hC1 := keepC hC w s1.ext n1.ext
  refine zoR (s1.own.rn (rp.mono s1.ext.cle)) bp lp (fun hn => ?_) fun hp v1 v2 v3 g => ?_
  ·rw [if_pos hn] at k
   rw [ext0, ext1]
   refine zS [.slice none 0 0, .slice none 0 0, .slice none 0 0] z6f rfl fun r hr => ?_
   refine zD (ys := [.slice none 0 0, .slice none 0 0, .slice none 0 0]) z3P (Hp.set_same ..) rfl (by
    intro y hy
    simp only [List.mem_cons, List.not_mem_nil, or_false] at hy
    rcases hy with rfl | rfl | rfl <;> rfl) (fun i _ => by simp) ?_
   simp -zeta only [GL, Bool.not_false, if_true]
   rw [Hp.set_set]
   have s2 := Stp.ext0 s1.own (z1x (.row zF [Value.slice none 0 0, .slice none 0 0, .slice none 0 0] [Value.slice none 0 0, .slice none 0 0, .slice none 0 0].length (some (0, 0))) hr)
   exact k _ R1 _ (s1.trans s2) (keepC hC1 s1.own (.refl _) (z1x _ hr)) (by simp)
  ·rw [if_neg fun q => q hp] at k
   obtain ⟨r1', r2', r3'⟩ := g R1 (rp.mono s1.ext.cle)
   rw [ext0, ext1]
   refine zS [.slice none 0 0, .slice none 0 0, .slice none 0 0] z6f rfl fun r hr => ?_
   refine zD (ys := [v1, v2, v3]) z3P (Hp.set_same ..) rfl (by
    intro y hy
    simp only [List.mem_cons, List.not_mem_nil, or_false] at hy
    rcases hy with rfl | rfl | rfl
    ·exact zO r1'
    ·exact zO r2'
    ·exact zO r3') (fun i _ => by simp) ?_
   rw [Hp.set_set]
   have x2 := z1x (.row zF [v1, v2, v3] [Value.slice none 0 0, .slice none 0 0, .slice none 0 0].length (some (0, 0))) hr
   have s2 := s1.trans (Stp.ext0 s1.own x2)
   have hC2 := keepC hC1 s1.own (.refl _) x2
   have e0 : (H1.set r (.row zF [v1, v2, v3] [Value.slice none 0 0, .slice none 0 0, .slice none 0 0].length (some (0, 0)))) r = some (.row zF [v1, v2, v3] 3 (some (0, 0))) := Hp.set_same ..
   generalize H1.set r (.row zF [v1, v2, v3] [Value.slice none 0 0, .slice none 0 0, .slice none 0 0].length (some (0, 0))) = H2 at *
   have c0 : H2.cell ⟨r, 0, none⟩ = some v1 := by rw [zj e0]; rfl
   have c1 : H2.cell ⟨r, 1, none⟩ = some v2 := by rw [zj e0]; rfl
   have lpt : (z1C packet).length = 32 := by have := hp.1; rw [z1C, List.length_drop, List.length_take]; omega
   have lon : (z1V packet).length = 32 := by have := hp.1; rw [z1V, List.length_drop, List.length_take]; omega
   have lbx : (z3l packet).length = 48 := by have := hp.1; rw [z3l, List.length_drop, List.length_take]; omega
   have bpt : Bytes (z1C packet) := (bp.take 33).drop 1
   have bon : Bytes (z1V packet) := (bp.take 65).drop 33
   have bbx : Bytes (z3l packet) := (bp.take 113).drop 65
   generalize z1C packet = pt at *
   generalize z1V packet = on at *
   generalize z3l packet = bx' at *
   simp -zeta only [GL, Bool.not_true, Bool.false_eq_true, if_false, wp0, RL, c0]
   refine z7U (s2.own.rn r1') (s2.own.rn q1) bpt (z1J _) (by omega) ?_
   by_cases he : pt = nb pu
   ·rw [if_neg fun q => q he] at k
    have d : decide (pt = nb pu) = true := decide_eq_true he
    simp -zeta only [d, GL, Bool.not_true, Bool.false_eq_true, if_false, wp1, RL, c1]
    refine zis (s2.own.rn (rs.mono s2.ext.cle)) (s2.own.rn r2') bs bon ls (by omega) (fun hn => absurd ⟨h32, lon⟩ hn) (fun _ _ hz => ?_) fun _ _ hz r4 H4 n4 => ?_
    ·rw [if_pos hz] at k
     simp -zeta only [ext0, ext1, GL, b10, if_true]
     exact k _ R1 H2 s2 hC2 (by simp)
    ·rw [if_neg hz] at k
     clear hz
     generalize zV scalar on = sh at *
     obtain ⟨R4, s4, q4⟩ := Stp.newN s2.own n4
     have hC4 := keepC hC2 s2.own s4.ext n4.ext
     have e4 := n4.ext _ _ e0
     have c2 : ∀ {G : Hp}, Hp.ext H4 G → G.cell ⟨r, 2, none⟩ = some v3 := fun x => by rw [zj (x _ _ e4)]; rfl
     simp -zeta only [ext0, ext1, GL, b0, Bool.false_eq_true, if_false, wp2]
     have s24 := s2.trans s4
     rw [z1w (ys := [v1, v2, v3]) z7v rfl z3P e4]
     have c2H := c2 (.refl H4)
     simp -zeta only [RL, c2H, GL]
     rw [show q P emp (zv (.func (.method "Open") #[vc] #[])) = fun K => K (.func (.method "Open") #[vc] #[]) from funext fun K => q_of (zoh hC4) K]
     have r1a := r1'.mono s4.ext.cle
     have r2a := r2'.mono s4.ext.cle
     have r3a := r3'.mono s4.ext.cle
     have lsh := zm sh
     refine zoP (vb := v3) (s4.own.rn r1a) (s4.own.rn r2a) (s4.own.rn q4) (zO r3a) bpt bon (z1J _) (by omega) (by omega) (by omega) fun v5 w5 H5 n5 c5 => ?_
     have lkw := z6e (nb sh) on pt
     have bkw := z7e (nb sh) on pt
     generalize keyW (nb sh) on pt = kw at *
     obtain ⟨R5, s5, q5⟩ := Stp.newN s4.own n5
     replace q5 := c5 _ q5
     have hC5 := keepC hC4 s4.own s5.ext n5.ext
     have c2a := c2 n5.ext
     refine ⟨pk_q fun K => by simp only [RL, c2a, GL], pwp2 r, ?_⟩
     refine ziL fun v6 H6 n6 => ?_
     obtain ⟨R6, s6, q6⟩ := Stp.newN s5.own n6
     have hC6 := keepC hC5 s5.own s6.ext n6.ext
     have c2b := c2 (n5.ext.trans n6.ext)
     refine ⟨pk_q fun K => by simp only [RL, c2b, GL], pwp2 r, ?_⟩
     have s56 := s5.trans s6
     refine zof s6.own hC6 hf (q5.mono s6.ext.cle) q6 (rx.mono (s24.trans s56).ext.cle) (r3a.mono s56.ext.cle) bkw z4L bx bbx (by omega) (by omega) fun v7 R7 H7 s7 hC7 r7 => ?_
     simp -zeta only [ext0, ext1]
     exact k v7 R7 H7 ((s24.trans s56).trans s7) hC7 r7
   ·rw [if_pos he] at k
    have d : decide (pt = nb pu) = false := decide_eq_false he
    simp -zeta only [d, GL, Bool.not_false, if_true]
    exact k _ R1 H2 s2 hC2 (by simp)
end
end Go.Proofs.YtoikhbagchfeoaaGreat
set_option maxHeartbeats 2000000
namespace Go.Proofs.YtoikhbagchfeoaaGreat
open Go Go.SL Go.Pure
section
variable {h : Hp} {K : Value → Hp → Prop}
theorem zdr {vk vn : Value} {key nonce : List Nat} (counter : Nat) (hc : counter < 4294967296) (hk : Rn h .u8 vk key) (hn : Rn h .u8 vn nonce) (bk : Bytes key) (bn : Bytes nonce) (lk : key.length = 32) (ln : nonce.length = 12)
  (k : ∀ v h', Nn h zc .u8 v h' (z2n key nonce counter) → K v h') : Cn P zb3 #[vk, vn, .int .u32 counter] h K := by
 refine Cn_wk (zbn ?_)
 unfold z6x
 refine zT (ps := [(0, _), (1, _), (2, _), (3, _)]) z1h z1y z3q rfl (by omega) (by intro p hp; simp at hp; rcases hp with rfl | rfl | rfl | rfl <;> exact ⟨rfl, by show _ < 4; omega⟩) fun v19 h1 n1 _ => ?_
 have n1' : New h zk 1 v19 h1 (nv .u32 (z2m ++ z1M key 0)) (z2m ++ z1M key 0).length := n1
 refine Lp_mk (fun u vs h' => ∃ (i : Nat) (v : Value), i + u = 8 ∧ New h zk 1 v h' (nv .u32 (z2m ++ z1M key i)) (z2m ++ z1M key i).length ∧ vs = [v, .int .i64 (i : Int)]) 8 ⟨0, v19, rfl, n1', rfl⟩ ?_
 clear n1 n1'
 rintro u vs h2 ⟨i, v, hi, hw, rfl⟩
 have e4 : (4 : Int) * (i : Int) = ((4 * i : Nat) : Int) := by omega
 have e8 : decide ((i : Int) < 8) = decide (i < 8) := zL i 8
 simp (disch := omega) only [GL, RL, wi64, e8, e4]
 by_cases hlt : i < 8
 ·simp only [hlt, decide_true, if_true]
  have := @z8B h v
  refine z8B i (hk.mono hw.cle) bk (by omega) (by omega) hw (by rw [List.length_append, z4X]; simp [z2m]; omega) fun v' h' hw' => ?_
  refine ⟨_, .refl _, u - 1, by omega, i + 1, v', by omega, ?_, rfl⟩
  rw [z76, ← List.append_assoc]
  exact hw'
 obtain rfl : i = 8 := by omega
 simp only [hlt, decide_false, Bool.false_eq_true, if_false]
 refine zT (ps := [(0, _)]) z1h z1y z3q rfl (by omega) (by intro p hp; rw [List.mem_singleton.1 hp]; exact ⟨rfl, by show _ < 1; omega⟩) fun x h4 hx' _ => ?_
 refine zQ z1h z1h z5c rfl (by omega) hw hx' (by intro y hy; simp [z1f] at hy; subst hy; rfl) (by rw [List.length_append, z4X]; simp [z2m]) fun v36 h5 hw5 => ?_
 have hw5' : New h zk 1 v36 h5 (nv .u32 (z2m ++ z1M key 8 ++ [counter] ++ z1M nonce 0)) (z2m ++ z1M key 8 ++ [counter] ++ z1M nonce 0).length := by
  rw [show z1M nonce 0 = [] from rfl, List.append_nil, z13, List.length_append]
  exact hw5
 refine Lp_mk (fun u vs h' => ∃ (i : Nat) (v : Value), i + u = 3 ∧ New h zk 1 v h' (nv .u32 (z2m ++ z1M key 8 ++ [counter] ++ z1M nonce i)) (z2m ++ z1M key 8 ++ [counter] ++ z1M nonce i).length ∧ vs = [v, .int .i64 (i : Int)]) 3 ⟨0, v36, rfl, hw5', rfl⟩ ?_
 clear hw5 hw5' hw hlt
 rintro u vs h6 ⟨i, v, hi, hw, rfl⟩
 have e4 : (4 : Int) * (i : Int) = ((4 * i : Nat) : Int) := by omega
 simp (disch := omega) only [GL, RL, wi64, zjO, e4]
 by_cases hlt : i < 3
 ·simp only [hlt, decide_true, if_true]
  refine z8B i (hn.mono hw.cle) bn (by omega) (by omega) hw (by simp [z2m, z4X]; omega) fun v' h' hw' => ?_
  refine ⟨_, .refl _, u - 1, by omega, i + 1, v', by omega, ?_, rfl⟩
  rw [z76, ← List.append_assoc]
  exact hw'
 obtain rfl : i = 3 := by omega
 simp only [hlt, decide_false, Bool.false_eq_true, if_false]
 have hBB : z2m ++ z1M key 8 ++ [counter] ++ z1M nonce 3 = z3T key nonce counter := rfl
 rw [hBB] at hw
 obtain ⟨B, hB⟩ : ∃ B, z3T key nonce counter = B := ⟨_, rfl⟩
 have lB : B.length = 16 := by rw [← hB, z9G]
 have wB : W32 B := by rw [← hB]; exact zhZ bk bn hc
 rw [hB] at hw
 refine zT (ps := []) (n := 0) z1h z1y z3q rfl (by omega) (by intro p hp; cases hp) fun v50 h7 n7 _ => ?_
 refine z1t z1h z1h z5c rfl (by omega) n7 (hw.rds.mono n7.cle) (zq _ _) (by omega) (.refl _) fun v52 h8 n8 => ?_
 have n8' : New h6 zk 1 v52 h8 (nv .u32 B) 16 := by rw [← lB]; simpa [z1f] using n8
 rw [lB] at hw
 obtain ⟨bx, cx, fx, hbx, hcx, rfl, hh6, hfx⟩ := hw.form (by omega)
 obtain ⟨bs, cs, fs, hbs, hcs, rfl, hh8, hfs⟩ := n8'.form (by omega)
 have hxs : bx ≠ bs := by rintro rfl; rw [hh6, Hp.set_same] at hbs; cases hbs
 obtain ⟨M, hM⟩ : ∃ M : List Nat → Hp, ∀ S, h6.set bs (.row zk (nv .u32 S) (cs * 1) (some fs)) = M S := ⟨_, fun S => rfl⟩
 have Ms : ∀ S, M S bs = some (.row zk (nv .u32 S) (cs * 1) (some fs)) := fun S => by rw [← hM, Hp.set_same]
 have Mx : ∀ S, M S bx = some (.row zk (nv .u32 B) (cx * 1) (some fx)) := fun S => by rw [← hM, Hp.set_ne _ _ hxs, hh6, Hp.set_same]
 have Mset : ∀ S S', (M S).set bs (.row zk (nv .u32 S') (cs * 1) (some fs)) = M S' := fun S S' => by rw [← hM, ← hM, Hp.set_set]
 have leM : ∀ S, Hp.le h (M S) := fun S => by rw [← hM]; exact hw.le.trans (zP hbs)
 have hfs' : ∀ i, i < 16 → ¬ (fs.1 ≤ i ∧ i < fs.2) := fun i hi => hfs i (by omega)
 rw [hh8, hM]
 clear hh8 hM n8 n8' n7 hw hlt
 -- four stores
 have four : ∀ (S : List Nat) (a b c d : Nat) (t93 t94 t95 t96 : Nat) (K' : Hp → Prop), S.length = 16 → a < 16 → b < 16 → c < 16 → d < 16 → K' (M ((((S.set a t93).set b t94).set c t95).set d t96)) →
   aw P (Instr.storeAt zk (.pointer (some ⟨bs, a, none⟩)) (.int .u32 (t93 : Int))) (fun _ h => aw P (Instr.storeAt zk (.pointer (some ⟨bs, b, none⟩)) (.int .u32 (t94 : Int))) (fun _ h => aw P (Instr.storeAt zk (.pointer (some ⟨bs, c, none⟩)) (.int .u32 (t95 : Int))) (fun _ h =>
    aw P (Instr.storeAt zk (.pointer (some ⟨bs, d, none⟩)) (.int .u32 (t96 : Int))) (fun _ h => K' h) h) h) h) (M S) := by
  intro S a b c d t93 t94 t95 t96 K' lS ha hb hc hd q
  refine z1a z1y (Ms _) (by omega) (hfs' a ha) ?_
  rw [Mset]
  refine z1a z1y (Ms _) (by rw [List.length_set]; omega) (hfs' b hb) ?_
  rw [Mset]
  refine z1a z1y (Ms _) (by rw [List.length_set, List.length_set]; omega) (hfs' c hc) ?_
  rw [Mset]
  refine z1a z1y (Ms _) (by rw [List.length_set, List.length_set, List.length_set]; omega) (hfs' d hd) ?_
  rw [Mset]
  exact q
 refine Lp_mk (fun m vs h' => ∃ i : Nat, i + m = 10 ∧ h' = M (z34 i B) ∧ vs = [.int .i64 (i : Int)]) 10 ⟨0, rfl, rfl, rfl⟩ ?_
 rintro m vs h' ⟨i, hi, rfl, rfl⟩
 have lR : (z34 i B).length = 16 := by rw [zeL, lB]
 have wR : W32 (z34 i B) := zhY i wB
 have e10 : decide ((i : Int) < 10) = decide (i < 10) := zL i 10
 simp (disch := omega) only [GL, RL, wi64, e10]
 by_cases hlt : i < 10
 ·simp only [hlt, decide_true, if_true]
  obtain ⟨R, hR⟩ : ∃ R, z34 i B = R := ⟨_, rfl⟩
  rw [hR] at lR wR ⊢
  have lS : ∀ j, ((quads.take j).foldl z37 R).length = 16 := fun j => by rw [z7S, lR]
  have wS : ∀ j, W32 ((quads.take j).foldl z37 R) := fun j => z9F _ wR
  refine Lp_mk (fun m' vs h' => ∃ j : Nat, j + m' = 4 ∧ h' = M ((quads.take j).foldl z37 R) ∧ vs = [.int .i64 (j : Int)]) 4 ⟨0, rfl, rfl, rfl⟩ ?_
  rintro m' vs h' ⟨j, hj, rfl, rfl⟩
  simp (disch := omega) only [GL, RL, wi64, z7j]
  by_cases hlt2 : j < 4
  ·have hq := zgl j (by omega)
   rw [if_pos hlt2] at hq
   have hst := zf6 R j (by omega) _ hq
   have lSj := lS j
   have wSj := wS j
   obtain ⟨S, hS⟩ : ∃ S, (quads.take j).foldl z37 R = S := ⟨_, rfl⟩
   rw [hS] at hst lSj wSj ⊢
   have t1 : ((4 : Int) + (j : Int)).toNat = 4 + j := by omega
   have t2 : ((8 : Int) + (j : Int)).toNat = 8 + j := by omega
   have t3 : ((12 : Int) + (j : Int)).toNat = 12 + j := by omega
   have c0 := zJ (i := j) (Ms S) (by omega)
   have c1 := zJ (i := 4 + j) (Ms S) (by omega)
   have c2 := zJ (i := 8 + j) (Ms S) (by omega)
   have c3 := zJ (i := 12 + j) (Ms S) (by omega)
   simp (disch := omega) only [GL, RL, wi64, hlt2, decide_true, if_true, t1, t2, t3, c0, c1, c2, c3]
   refine zah _ _ _ _ (wSj.getD _) (wSj.getD _) (wSj.getD _) (wSj.getD _) ?_
   simp (disch := omega) only [GL, RL, wi64, t1, t2, t3, e4_0, e4_1, e4_2, e4_3]
   refine four S j (4 + j) (8 + j) (12 + j) _ _ _ _ _ lSj (by omega) (by omega) (by omega) (by omega) ?_
   refine ⟨_, .refl _, m' - 1, by omega, j + 1, by omega, ?_, rfl⟩
   rw [hst, z37]
   dsimp only
   rw [zeK S _ _ _ _ (by omega) (by omega) (by omega) (by omega) (by omega) (by omega) (by omega) (by omega) (by omega) (by omega)]
   rfl
  obtain rfl : j = 4 := by omega
  simp only [hlt2, decide_false, Bool.false_eq_true, if_false]
  refine Lp_mk (fun m' vs h' => ∃ j : Nat, j + m' = 4 ∧ h' = M ((quads.take (j + 4)).foldl z37 R) ∧ vs = [.int .i64 (j : Int)]) 4 ⟨0, rfl, rfl, rfl⟩ ?_
  rintro m' vs h' ⟨j, hj, rfl, rfl⟩
  simp (disch := omega) only [GL, RL, wi64, z7j]
  by_cases hlt3 : j < 4
  ·have hq := zgl (j + 4) (by omega)
   rw [if_neg (by omega), Nat.add_sub_cancel] at hq
   have hst := zf6 R (j + 4) (by omega) _ hq
   have lSj := lS (j + 4)
   have wSj := wS (j + 4)
   obtain ⟨S, hS⟩ : ∃ S, (quads.take (j + 4)).foldl z37 R = S := ⟨_, rfl⟩
   rw [hS] at hst lSj wSj ⊢
   have r1 : ((j : Int) + 1).tmod 4 = (((j + 1) % 4 : Nat) : Int) := (Int.ofNat_tmod (j + 1) 4).symm
   have r2 : ((j : Int) + 2).tmod 4 = (((j + 2) % 4 : Nat) : Int) := (Int.ofNat_tmod (j + 2) 4).symm
   have r3 : ((j : Int) + 3).tmod 4 = (((j + 3) % 4 : Nat) : Int) := (Int.ofNat_tmod (j + 3) 4).symm
   have t1 : ((4 : Int) + (((j + 1) % 4 : Nat) : Int)).toNat = 4 + (j + 1) % 4 := by omega
   have t2 : ((8 : Int) + (((j + 2) % 4 : Nat) : Int)).toNat = 8 + (j + 2) % 4 := by omega
   have t3 : ((12 : Int) + (((j + 3) % 4 : Nat) : Int)).toNat = 12 + (j + 3) % 4 := by omega
   have c0 := zJ (i := j) (Ms S) (by omega)
   have c1 := zJ (i := 4 + (j + 1) % 4) (Ms S) (by omega)
   have c2 := zJ (i := 8 + (j + 2) % 4) (Ms S) (by omega)
   have c3 := zJ (i := 12 + (j + 3) % 4) (Ms S) (by omega)
   simp (disch := omega) only [GL, RL, wi64, hlt3, decide_true, if_true, r1, r2, r3, t1, t2, t3, c0, c1, c2, c3]
   refine zah _ _ _ _ (wSj.getD _) (wSj.getD _) (wSj.getD _) (wSj.getD _) ?_
   simp (disch := omega) only [GL, RL, wi64, t1, t2, t3, e4_0, e4_1, e4_2, e4_3]
   refine four S j (4 + (j + 1) % 4) (8 + (j + 2) % 4) (12 + (j + 3) % 4) _ _ _ _ _ lSj (by omega) (by omega) (by omega) (by omega) ?_
   refine ⟨_, .refl _, m' - 1, by omega, j + 1, by omega, ?_, rfl⟩
   rw [show j + 1 + 4 = j + 4 + 1 by omega, hst, z37]
   dsimp only
   rw [zeK S _ _ _ _ (by omega) (by omega) (by omega) (by omega) (by omega) (by omega) (by omega) (by omega) (by omega) (by omega)]
   rfl
  obtain rfl : j = 4 := by omega
  simp only [hlt3, decide_false, Bool.false_eq_true, if_false]
  refine ⟨_, .refl _, m - 1, by omega, i + 1, by omega, ?_, rfl⟩
  rw [z34, hR]
  rfl
 obtain rfl : i = 10 := by omega
 simp only [hlt, decide_false, Bool.false_eq_true, if_false]
 obtain ⟨R, hR⟩ : ∃ R, z34 10 B = R := ⟨_, rfl⟩
 rw [hR] at lR wR ⊢
 refine Lp_mk (fun m' vs h' => ∃ (j : Nat) (v : Value), j + m' = 16 ∧ New (M R) zc 1 v h' (nv .u8 (outL R B j)) (4 * j) ∧ vs = [v, .int .i64 (j : Int)]) 16 ⟨0, .slice none 0 0, rfl, ⟨rfl, .inl ⟨rfl, rfl, rfl⟩⟩, rfl⟩ ?_
 rintro m' vs h3 ⟨j, v, hj, hw, rfl⟩
 have e16 : decide ((j : Int) < 16) = decide (j < 16) := zL j 16
 simp (disch := omega) only [GL, RL, wi64, e16]
 by_cases hlt2 : j < 16
 ·have c1 : h3.cell ⟨bs, j, none⟩ = some (.int .u32 ((R.getD j 0 : Nat) : Int)) := hw.cle _ _ (zJ (Ms R) (by omega))
  have c2 : h3.cell ⟨bx, j, none⟩ = some (.int .u32 ((B.getD j 0 : Nat) : Int)) := hw.cle _ _ (zJ (Mx R) (by omega))
  have hm := Nat.mod_lt (R.getD j 0 + B.getD j 0) (show 4294967296 > 0 by decide)
  simp (disch := omega) only [GL, RL, wi64, hlt2, decide_true, if_true, c1, c2, z3J, z2j]
  refine z2t _ 4 (by omega) (by omega) fun r' h4 hp => ?_
  have hp' : New h3 zc 1 r' h4 (nv .u8 (le 4 ((R.getD j 0 + B.getD j 0) % 4294967296))) 4 := by
   unfold Nn at hp; rw [zE] at hp; exact hp
  refine zQ za za zw rfl (by omega) hw hp' (zq _ _) (by omega) fun v' h5 hw5 => ?_
  refine ⟨_, .refl _, m' - 1, by omega, j + 1, v', by omega, ?_, rfl⟩
  rw [zi1, z13]
  exact hw5
 ·obtain rfl : j = 16 := by omega
  simp only [hlt2, decide_false, Bool.false_eq_true, if_false]
  have hfin : outL R B 16 = z2n key nonce counter := by unfold z2n; rw [hB, hR]
  rw [hfin] at hw
  obtain ⟨h0, l0, hw0⟩ := New.down (leM R) hw
  refine ⟨h0, l0, k _ _ ?_⟩
  unfold Nn
  rw [z3K]
  exact hw0
end
section
variable {h : Hp} {K : Value → Hp → Prop}
theorem zgt {vk vn vb : Value} {key nonce b : List Nat} (counter : Nat) (hc : counter < 4294967296) (hk : Rn h .u8 vk key) (hn : Rn h .u8 vn nonce) (hb : Rn h .u8 vb b) (bk : Bytes key) (bn : Bytes nonce) (bb : Bytes b) (hl : b.length ≤ 70368744177664)
  (k : ∀ v h', (if key.length = 32 ∧ nonce.length = 12 then Nn h zc .u8 v h' (xorL key nonce counter b) else v = .slice none 0 0 ∧ h' = h) → K (.tuple #[v, .int .i64 (if key.length = 32 ∧ nonce.length = 12 then 0 else 1)]) h') : Cn P zdy #[vk, vn, .int .u32 counter, vb] h K := by
 refine Cn_wk (zdM ?_)
 unfold z7F
 intro J2
 obtain ⟨ak, ck, ek, hck⟩ := hk.shape
 obtain ⟨an, cn, en, hcn⟩ := hn.shape
 have kl : ∀ (X : Value → Prop), q P h (Builtin.len_ #[zd] zi #[vk]) X = X (.int .i64 (key.length : Nat)) := fun X => by subst ek; exact z12 za ak _ ck
 have nl : ∀ (X : Value → Prop), q P h (Builtin.len_ #[zd] zi #[vn]) X = X (.int .i64 (nonce.length : Nat)) := fun X => by subst en; exact z12 za an _ cn
 have e32 : (((key.length : Nat) : Int) != 32) = decide (key.length ≠ 32) := by
  rw [Bool.eq_iff_iff, bne_iff_ne, decide_eq_true_eq]; omega
 have e12 : (((nonce.length : Nat) : Int) != 12) = decide (nonce.length ≠ 12) := by
  rw [Bool.eq_iff_iff, bne_iff_ne, decide_eq_true_eq]; omega
 simp (disch := omega) only [GL, RL, kl, nl, e32, e12]
 by_cases hm1 : key.length = 32
 case neg =>
  have hm : ¬ (key.length = 32 ∧ nonce.length = 12) := fun q => hm1 q.1
  simp only [if_neg hm] at k
  simp only [hm1, ne_eq, not_false_eq_true, decide_true, Bool.true_eq_false, if_false, if_true]
  exact ⟨h, .refl _, k _ _ ⟨rfl, rfl⟩⟩
 by_cases hm2 : nonce.length = 12
 case neg =>
  have hm : ¬ (key.length = 32 ∧ nonce.length = 12) := fun q => hm2 q.2
  simp only [if_neg hm] at k
  simp only [hm1, hm2, ne_eq, not_true_eq_false, not_false_eq_true, decide_true, decide_false, if_true]
  exact ⟨h, .refl _, k _ _ ⟨rfl, rfl⟩⟩
 have hm : key.length = 32 ∧ nonce.length = 12 := ⟨hm1, hm2⟩
 simp only [if_pos hm] at k
 simp only [hm1, hm2, ne_eq, not_true_eq_false, decide_false, if_true, Bool.false_eq_true, if_false]
 show J2 h
 simp only [J2]
 clear J2
 obtain ⟨X, hX⟩ : ∃ X, xorL key nonce counter b = X := ⟨_, rfl⟩
 have lX : X.length = b.length := by rw [← hX, z2o]
 rw [hX] at k
 let blk : Nat → List Nat := fun i => z2n key nonce ((counter + i / 64) % 4294967296)
 refine Lp_mk (fun u vs h' => ∃ (i : Nat) (s v : Value) (H : Hp), i + u = b.length ∧ Hp.le h H ∧ Hp.cle h H ∧ New H zc 1 v h' (nv .u8 (X.take i)) i ∧ (i % 64 ≠ 0 → Rn H .u8 s (blk i)) ∧ vs = [s, v, .int .i64 (i : Int)]) b.length
  ⟨0, _, _, h, by omega, .refl _, .refl _, ⟨rfl, .inl ⟨rfl, rfl, rfl⟩⟩, fun q => absurd rfl q, rfl⟩ ?_
 rintro u vs h1 ⟨i, s, v, H, hi, lH, cH, hw, hs, rfl⟩
 obtain ⟨ab, cb, rfl, hcb⟩ := hb.shape
 simp only [GL, RL, zL]
 by_cases hlt : i < b.length
 ·simp only [hlt, decide_true, if_true]
  obtain ⟨bb', ob, rfl, hyb⟩ := hb.pos (by omega)
  have em : ((i : Int)).tmod 64 = ((i % 64 : Nat) : Int) := (Int.ofNat_tmod i 64).symm
  have eq64 : ((i : Int)).tdiv 64 = ((i / 64 : Nat) : Int) := (Int.ofNat_tdiv i 64).symm
  have step : ∀ (s : Value) (H : Hp) (h4 : Hp) (KK : Value → Hp → Prop), Hp.le h H → Hp.cle h H → New H zc 1 v h4 (nv .u8 (X.take i)) i → Rn H .u8 s (blk i) →
    (∀ v2 h6, New H zc 1 v2 h6 (nv .u8 (X.take (i + 1))) (i + 1) → KK v2 h6) →
    q P emp (Instr.indexAt zd (.slice (some ⟨bb', ob, none⟩) b.length cb) (.int .i64 (i : Int))) fun t41 => q P h4 (Instr.loadAt zc t41) fun t42 => q P emp (binOp .rem zi (.int .i64 (i : Int)) (Value.int .i64 64)) fun t45 => q P emp (Instr.indexAt zd s t45) fun t46 => q P h4 (Instr.loadAt zc t46) fun t47 => q P emp (binOp .xor zc t42 t47) fun t48 =>
    aw P (Instr.buildSlice zd 1 #[(0, t48)]) (fun t49 h => aw P (Builtin.append_ #[zd, zd] zd #[v, t49]) (fun t50 h => KK t50 h) h) h4 := by
   intro s H h4 KK lH cH hw hs kk
   have lb : (blk i).length = 64 := z3K _ _ _
   have bl : Bytes (blk i) := z4g _ _ _
   obtain ⟨a0, c0, rfl, hc0⟩ := hs.shape
   obtain ⟨bs, os, rfl, hys⟩ := hs.pos (by omega)
   have c1 : h4.cell ⟨bb', ob + i, none⟩ = some (.int .u8 ((b.getD i 0 : Nat) : Int)) := hw.cle _ _ (cH _ _ (hyb _ hlt))
   have c2 : h4.cell ⟨bs, os + i % 64, none⟩ = some (.int .u8 (((blk i).getD (i % 64) 0 : Nat) : Int)) := hw.cle _ _ (hys _ (by rw [lb]; omega))
   have t1 : ((i % 64 : Nat) : Int) < ((blk i).length : Nat) := by rw [lb]; omega
   simp (disch := omega) only [GL, RL, em, c1, c2]
   rw [zbG _ _ (bb.getD _) (bl.getD _)]
   refine zT (ps := [(0, _)]) za zp z1p rfl (by omega) (by intro p hp; rw [List.mem_singleton.1 hp]; exact ⟨rfl, by show _ < 1; omega⟩) fun x h5 hx _ => ?_
   refine zQ za za zw rfl (by omega) hw hx (by intro y hy; simp [z1f] at hy; subst hy; rfl) (by omega) fun v2 h6 hw6 => kk v2 h6 ?_
   have e3 : X.take (i + 1) = X.take i ++ [b.getD i 0 ^^^ (blk i).getD (i % 64) 0] := by rw [← hX, zgb _ _ _ _ _ hlt]
   rw [e3, z13]
   exact hw6
  have fin : ∀ (s : Value) (H : Hp), Hp.le h H → Hp.cle h H → Rn H .u8 s (blk i) → ∀ v2 h6, New H zc 1 v2 h6 (nv .u8 (X.take (i + 1))) (i + 1) →
    ∃ h0, Hp.le h0 h6 ∧ ∃ m, m < u ∧ ∃ (i_1 : Nat) (s' v : Value) (H : Hp), i_1 + m = b.length ∧ Hp.le h H ∧ Hp.cle h H ∧ New H zc 1 v h0 (nv .u8 (X.take i_1)) i_1 ∧ (i_1 % 64 ≠ 0 → Rn H .u8 s' (blk i_1)) ∧ [s, v2, Value.int .i64 (IntKind.i64.wrap ((i : Int) + 1))] = [s', v, .int .i64 (i_1 : Int)] := by
   intro s H lH cH hs v2 h6 n6
   rw [wi64 (by omega) (by omega)]
   refine ⟨_, .refl _, u - 1, by omega, i + 1, s, v2, H, by omega, lH, cH, n6, fun q => ?_, rfl⟩
   have : blk (i + 1) = blk i := by show z2n key nonce _ = z2n key nonce _; rw [show (i + 1) / 64 = i / 64 by omega]
   rw [this]
   exact hs
  rw [zot (hb := by omega), zou, em]
  rw [z5W]
  by_cases h0 : i % 64 = 0
  ·rw [if_pos (by rw [beq_iff_eq]; omega)]
   rw [zos (hb := by omega), eq64, wi64 (by omega) (by omega), z3o _ z9u zhz, wu32, zki, z3J]
   rw [show (counter + i / 64 % 4294967296) % 4294967296 = (counter + i / 64) % 4294967296 by omega]
   refine zdr _ (Nat.mod_lt _ (by decide)) ((hk.mono cH).mono hw.cle) ((hn.mono cH).mono hw.cle) bk bn hm.1 hm.2 fun s' h4 n4 => ?_
   have hbl : z2n key nonce ((counter + i / 64) % 4294967296) = blk i := rfl
   rw [hbl] at n4
   have lb : (blk i).length = 64 := z3K _ _ _
   obtain ⟨rb, crb, frb, hrb, hcrb, rfl, hh4, _⟩ := New.form n4 (by omega)
   have hw4 := hw.add hrb (AObj.row zc (nv .u8 (blk i)) (crb * 1) (some frb))
   rw [← hh4] at hw4
   have hrbH : H rb = none := hw.noneAt hrb
   have hsR : Rn (H.set rb (AObj.row zc (nv .u8 (blk i)) (crb * 1) (some frb))) .u8 (.slice (some ⟨rb, 0, none⟩) (blk i).length crb) (blk i) := by
    refine ⟨by rw [ze]; omega, _, _, rfl, hcrb, .inr ⟨rb, 0, rfl, fun j x ex => ?_⟩⟩
    rw [zj (Hp.set_same ..), Nat.zero_add]
    exact ex
   refine step _ _ _ (fun t50 h => _) (lH.trans (zP hrbH)) (cH.trans (z2c rb _ hrbH)) hw4 hsR ?_
   exact fin _ _ (lH.trans (zP hrbH)) (cH.trans (z2c rb _ hrbH)) hsR
  ·rw [if_neg (by rw [beq_iff_eq]; omega)]
   refine step _ _ _ (fun t50 h => _) lH cH hw (hs h0) ?_
   exact fin _ _ lH cH (hs h0)
 ·simp only [hlt, decide_false, Bool.false_eq_true, if_false]
  rw [List.take_of_length_le (by omega)] at hw
  obtain ⟨h0, l0, hw0⟩ := New.down lH hw
  refine ⟨h0, l0, k _ _ ?_⟩
  unfold Nn
  rw [lX, show b.length = i by omega]
  exact hw0
end
section
variable {h : Hp} {K : Value → Hp → Prop}
theorem zfa {v : Value} {O : List Nat} (hv : Rn h .u8 v O) (lO : O.length ≤ 70368744177664) (k : ∀ r h', Nn h zc .u8 r h' (z2I O) → K r h') : Cn P zcI #[v] h K := by
 refine zcY ?_
 unfold z6N
 refine zT (ps := []) (n := 0) za zp z1p rfl (by omega) (by intro p hp; cases hp) fun v1 h1 n1 _ => ?_
 refine z1t za za zw rfl (by omega) n1 (hv.mono n1.cle) (zq _ _) (by omega) (.refl _) fun v3 h3 n3 => ?_
 have hw3 : New h zc 1 v3 h3 (nv .u8 O) O.length := by simpa [z1f] using n3
 refine Lp_mk (fun u' vs h' => ∃ (j : Nat) (v : Value), j + u' = z2z O.length ∧ New h zc 1 v h' (nv .u8 (O ++ List.replicate j 0)) (O.length + j) ∧ vs = [v]) (z2z O.length) ⟨0, v3, by omega, by simpa using hw3, rfl⟩ ?_
 clear hw3 n3 n1
 rintro u' vs h' ⟨j, v4, hj, hw, rfl⟩
 have hn16 : z2z O.length < 16 := Nat.mod_lt _ (by decide)
 obtain ⟨a4, c4, rfl⟩ : ∃ a c, v4 = .slice a (O.length + j) c := by
  obtain ⟨_, a, c, e, _⟩ := hw.rds
  exact ⟨a, c, e⟩
 have e1 : decide ((0 : Int) < ((O.length + j : Nat) : Int).tmod 16) = decide ((O.length + j) % 16 ≠ 0) := by
  have : ((O.length + j : Nat) : Int).tmod 16 = (((O.length + j) % 16 : Nat) : Int) := (Int.ofNat_tmod _ 16).symm
  rw [this, decide_eq_decide]; omega
 simp (disch := omega) only [GL, RL, wi64, e1]
 by_cases hz : (O.length + j) % 16 ≠ 0
 ·simp (disch := omega) only [hz, decide_true, if_true, not_false_eq_true, ne_eq]
  refine zT (ps := [(0, _)]) za zp z1p rfl (by omega) (by intro p hp; rw [List.mem_singleton.1 hp]; exact ⟨rfl, by omega⟩) fun x h4 hx _ => ?_
  refine zQ za za zw rfl (by omega) hw hx (by intro y hy; simp [z1f] at hy; subst hy; rfl) (by omega) fun v5 h5 hw5 => ?_
  have hlt2 : j < z2z O.length := by unfold z2z at hj ⊢; omega
  refine ⟨_, .refl _, u' - 1, by omega, j + 1, v5, by omega, ?_, rfl⟩
  rw [List.replicate_succ', ← List.append_assoc, z13]
  exact hw5
 ·have hje : j = z2z O.length := by
   simp only [ne_eq, Decidable.not_not] at hz
   unfold z2z at hj ⊢; omega
  simp (disch := omega) only [hz, decide_false, Bool.false_eq_true, if_false, not_true_eq_false, ne_eq]
  refine k _ _ ?_
  unfold Nn z2I
  rw [← hje, List.length_append, List.length_replicate]
  exact hw
end
def sumT (a b : List Nat) (i : Nat) : Nat := z9 (a.take i) + z9 (b.take i)
theorem zmR (a b : List Nat) (i : Nat) : sumT a b (i + 1) = sumT a b i + 256 ^ i * (a.getD i 0 + b.getD i 0) := by
 unfold sumT
 rw [z2s, z2s, Nat.mul_add]
 omega
theorem z3w (a : List Nat) (i : Nat) : z9 a = z9 (a.take i) + 256 ^ i * z9 (a.drop i) := by
 by_cases hi : i ≤ a.length
 ·conv => lhs; rw [← List.take_append_drop i a, zY, List.length_take, Nat.min_eq_left hi]
 ·rw [List.take_of_length_le (by omega), List.drop_of_length_le (by omega)]
  simp [z9]
theorem zln (a b : List Nat) (i : Nat) : (z9 a + z9 b) / 256 ^ i % 256 = sumT a b (i + 1) / 256 ^ i % 256 := by
 have e : z9 a + z9 b = sumT a b (i + 1) + 256 ^ i * (256 * (z9 (a.drop (i + 1)) + z9 (b.drop (i + 1)))) := by
  rw [z3w a (i + 1), z3w b (i + 1), sumT, Nat.pow_succ, Nat.mul_add 256, Nat.mul_add, ← Nat.mul_assoc, ← Nat.mul_assoc]
  omega
 rw [e, Nat.add_mul_div_left _ _ (Nat.pow_pos (by decide)), Nat.add_mul_mod_self_left]
theorem zlo (a b : List Nat) (i : Nat) : sumT a b i / 256 ^ i + (a.getD i 0 + b.getD i 0) = sumT a b (i + 1) / 256 ^ i := by
 rw [zmR, Nat.add_mul_div_left _ _ (Nat.pow_pos (by decide))]
theorem zmS (a b : List Nat) (i : Nat) : sumT a b (i + 1) / 256 ^ i / 256 = sumT a b (i + 1) / 256 ^ (i + 1) := by
 rw [Nat.div_div_eq_div_mul, Nat.pow_succ]
theorem zq9 {a b : List Nat} (ha : Bytes a) (hb : Bytes b) (i : Nat) : sumT a b i / 256 ^ i < 2 := by
 rw [Nat.div_lt_iff_lt_mul (Nat.pow_pos (by decide))]
 have := z18 a ha i
 have := z18 b hb i
 unfold sumT
 omega
section
variable {h : Hp} {K : Value → Hp → Prop}
theorem z8k {va vb : Value} {a b : List Nat} (n : Nat) (hn0 : 0 < n) (hn : n ≤ 1000) (ha : Rn h .i64 va a) (hb : Rn h .i64 vb b) (ba : Bytes a) (bb : Bytes b) (k : ∀ r h', Nn h zi .i64 r h' (le n (z9 a + z9 b)) → K r h') :
  Cn P zdA #[va, vb, .int .i64 n] h K := by
 refine zdQ ?_
 unfold z7J
 refine z2w (n := n) (c := n) zK z2J rfl (Nat.le_refl n) (by omega) (by omega) fun r h1 hw => ?_
 obtain ⟨b0, c0, f, hb0, hc0, rfl, _, _⟩ := hw.form hn0
 rw [z1E] at hw
 obtain ⟨aa, ca, rfl, hca⟩ := ha.shape
 obtain ⟨ab, cb, rfl, hcb⟩ := hb.shape
 refine Lp_mk (fun u vs h' => ∃ i : Nat, i + u = n ∧ New h zi 1 (.slice (some ⟨b0, 0, none⟩) n c0) h' (nv .i64 ((le n (z9 a + z9 b)).take i ++ List.replicate (n - i) 0)) n ∧ vs = [.int .i64 ((sumT a b i / 256 ^ i : Nat) : Int), .int .i64 (i : Int)]) n
  ⟨0, by omega, by simpa using hw, by simp [sumT, z9]⟩ ?_
 clear hw
 rintro u vs h2 ⟨i, hi, hw, rfl⟩
 simp (disch := omega) only [GL, RL, wi64, zL]
 by_cases hlt : i < n
 ·have hcl := zq9 ba bb i
  have hx := ba.getD i
  have hy := bb.getD i
  have hdig := zln a b i
  have hcar := zlo a b i
  have hnx := zmS a b i
  have hst := zfI n (z9 a + z9 b) i hlt
  obtain ⟨c, hc⟩ : ∃ c, sumT a b i / 256 ^ i = c := ⟨_, rfl⟩
  rw [hc] at hcl hcar ⊢
  have fin : ∀ v : Nat, v = c + (a.getD i 0 + b.getD i 0) → q P h2 (binOp .rem zi (.int .i64 (v : Int)) (Value.int .i64 256)) fun t40 => q P h2 (Instr.indexAt zH (.slice (some ⟨b0, 0, none⟩) n c0) (.int .i64 (i : Int))) fun t41 => aw P (Instr.storeAt zi t41 t40) (fun _ h_1 => q P h_1 (binOp .quo zi (.int .i64 (v : Int)) (Value.int .i64 256)) fun t43 =>
    ∃ h0, Hp.le h0 h_1 ∧ ∃ m, m < u ∧ ∃ i_1 : Nat, i_1 + m = n ∧ New h zi 1 (.slice (some ⟨b0, 0, none⟩) n c0) h0 (nv .i64 ((le n (z9 a + z9 b)).take i_1 ++ List.replicate (n - i_1) 0)) n ∧ [t43, Value.int .i64 ((i : Int) + 1)] = [.int .i64 ((sumT a b i_1 / 256 ^ i_1 : Nat) : Int), .int .i64 (i_1 : Int)]) h2 := by
   rintro v rfl
   rw [hcar]
   obtain ⟨V, hV⟩ : ∃ V, sumT a b (i + 1) / 256 ^ i = V := ⟨_, rfl⟩
   have hVl : V < 1000 := by rw [← hV, ← hcar]; omega
   rw [hV] at hdig hnx ⊢
   have e1 : ((V : Nat) : Int).tmod 256 = ((V % 256 : Nat) : Int) := (Int.ofNat_tmod V 256).symm
   have e2 : ((V : Nat) : Int).tdiv 256 = ((V / 256 : Nat) : Int) := (Int.ofNat_tdiv V 256).symm
   simp (disch := omega) only [GL, RL, e1, e2, wi64]
   refine z1K z1U hw hlt rfl fun h3 hw3 => ?_
   rw [z1O, ← hdig, hst] at hw3
   refine ⟨_, .refl _, u - 1, by omega, i + 1, by omega, hw3, ?_⟩
   rw [hnx]
   rfl
  have zA : ¬ i < a.length → a.getD i 0 = 0 := fun q => by simp [List.getElem?_eq_none (show a.length ≤ i by omega)]
  have zB : ¬ i < b.length → b.getD i 0 = 0 := fun q => by simp [List.getElem?_eq_none (show b.length ≤ i by omega)]
  simp only [hlt, decide_true, if_true]
  by_cases hia : i < a.length
  ·obtain ⟨b1, o1, rfl, hy1⟩ := ha.pos (by omega)
   have c1 := hw.cle _ _ (hy1 i hia)
   by_cases hib : i < b.length
   ·obtain ⟨b2, o2, rfl, hy2⟩ := hb.pos (by omega)
    have c2 := hw.cle _ _ (hy2 i hib)
    simp (disch := omega) only [GL, RL, wi64, zL, hia, hib, decide_true, if_true, c1, c2]
    have := fin _ rfl
    simp (disch := omega) only [GL, RL, wi64] at this
    have e : ((c + (a.getD i 0 + b.getD i 0) : Nat) : Int) = (c : Int) + ((a.getD i 0 : Nat) : Int) + ((b.getD i 0 : Nat) : Int) := by push_cast; omega
    rw [e] at this
    exact this
   ·simp (disch := omega) only [GL, RL, wi64, zL, hia, hib, decide_true, decide_false, Bool.false_eq_true, if_false, if_true, c1]
    have := fin _ rfl
    simp (disch := omega) only [GL, RL, wi64] at this
    have e : ((c + (a.getD i 0 + b.getD i 0) : Nat) : Int) = (c : Int) + ((a.getD i 0 : Nat) : Int) := by rw [zB hib]; push_cast; omega
    rw [e] at this
    exact this
  ·by_cases hib : i < b.length
   ·obtain ⟨b2, o2, rfl, hy2⟩ := hb.pos (by omega)
    have c2 := hw.cle _ _ (hy2 i hib)
    simp (disch := omega) only [GL, RL, wi64, zL, hia, hib, decide_true, decide_false, Bool.false_eq_true, if_false, if_true, c2]
    have := fin _ rfl
    simp (disch := omega) only [GL, RL, wi64] at this
    have e : ((c + (a.getD i 0 + b.getD i 0) : Nat) : Int) = (c : Int) + ((b.getD i 0 : Nat) : Int) := by rw [zA hia]; push_cast; omega
    rw [e] at this
    exact this
   ·simp (disch := omega) only [GL, RL, wi64, zL, hia, hib, decide_false, Bool.false_eq_true, if_false]
    have := fin _ rfl
    simp (disch := omega) only [GL, RL, wi64] at this
    have e : ((c + (a.getD i 0 + b.getD i 0) : Nat) : Int) = (c : Int) := by rw [zA hia, zB hib]; rfl
    rw [e] at this
    exact this
 ·obtain rfl : i = n := by omega
  simp only [hlt, decide_false, Bool.false_eq_true, if_false]
  rw [List.take_of_length_le (by rw [zE]; omega), Nat.sub_self, List.replicate_zero, List.append_nil] at hw
  refine k _ _ ?_
  unfold Nn
  rw [zE]
  exact hw
end
theorem ziO (a : List Nat) (j : Nat) : z9 a = z9 (a.take j) + 256 ^ j * (a.getD j 0 + 256 * z9 (a.drop (j + 1))) := by
 rw [z3w a (j + 1), z2s, Nat.pow_succ, Nat.mul_add, ← Nat.mul_assoc]
 omega
theorem zqa {a b : List Nat} (ha : Bytes a) (hb : Bytes b) (j : Nat) (he : a.drop (j + 1) = b.drop (j + 1)) (hne : a.getD j 0 ≠ b.getD j 0) : (z9 a < z9 b) ↔ a.getD j 0 < b.getD j 0 := by
 rw [ziO a j, ziO b j, he]
 have h1 := z18 a ha j
 have h2 := z18 b hb j
 have hp : 0 < 256 ^ j := Nat.pow_pos (by decide)
 generalize 256 ^ j = M at h1 h2 hp ⊢
 generalize z9 (b.drop (j + 1)) = D
 generalize a.getD j 0 = x at hne ⊢
 generalize b.getD j 0 = y at hne ⊢
 constructor
 ·intro q
  rcases Nat.lt_or_ge x y with h | h
  ·exact h
  ·exfalso
   have hxy : y + 1 ≤ x := by omega
   have : M * (y + 1 + 256 * D) ≤ M * (x + 256 * D) := Nat.mul_le_mul_left M (by omega)
   have e : M * (y + 1 + 256 * D) = M * (y + 256 * D) + M := by rw [show y + 1 + 256 * D = (y + 256 * D) + 1 by omega, Nat.mul_add, Nat.mul_one]
   omega
 ·intro q
  have : M * (x + 1 + 256 * D) ≤ M * (y + 256 * D) := Nat.mul_le_mul_left M (by omega)
  have e : M * (x + 1 + 256 * D) = M * (x + 256 * D) + M := by rw [show x + 1 + 256 * D = (x + 256 * D) + 1 by omega, Nat.mul_add, Nat.mul_one]
  omega
section
variable {h : Hp} {K : Value → Hp → Prop}
theorem zlp {va vb : Value} {a b : List Nat} (ha : Rn h .i64 va a) (hb : Rn h .i64 vb b) (ba : Bytes a) (bb : Bytes b) (la : a.length = 17) (lb : b.length = 17) (k : K (.bool (decide (z9 a < z9 b))) h) : Cn P zcO #[va, vb] h K := by
 refine zd4 ?_
 unfold z6T
 obtain ⟨aa, ca, rfl, hca⟩ := ha.shape
 obtain ⟨ab, cb, rfl, hcb⟩ := hb.shape
 obtain ⟨b1, o1, rfl, hy1⟩ := ha.pos (by omega)
 obtain ⟨b2, o2, rfl, hy2⟩ := hb.pos (by omega)
 refine Lp_mk (fun u vs h' => ∃ i : Nat, i = u ∧ i ≤ 17 ∧ h' = h ∧ a.drop i = b.drop i ∧ vs = [.bool false, .int .i64 ((i : Int) - 1)]) 17 ⟨17, rfl, by omega, rfl, by rw [List.drop_of_length_le (by omega), List.drop_of_length_le (by omega)], rfl⟩ ?_
 rintro u vs h2 ⟨i, rfl, hi, rfl, hd, rfl⟩
 by_cases h0 : i = 0
 ·subst h0
  simp only [List.drop_zero] at hd
  subst hd
  have e : decide ((0 : Int) ≤ ((0 : Nat) : Int) - 1) = false := rfl
  simp (disch := omega) only [GL, RL, e, Bool.false_eq_true, if_false]
  simpa using k
 ·obtain ⟨j, rfl⟩ : ∃ j, i = j + 1 := ⟨i - 1, by omega⟩
  have e0 : ((j + 1 : Nat) : Int) - 1 = (j : Int) := by omega
  have e1 : decide ((0 : Int) ≤ (j : Int)) = true := decide_eq_true (by omega)
  have c1 := hy1 j (by omega)
  have c2 := hy2 j (by omega)
  rw [e0]
  simp (disch := omega) only [GL, RL, e1, if_true, c1, c2, z3h, zL]
  by_cases hne : a.getD j 0 ≠ b.getD j 0
  ·have hl := zqa ba bb j hd hne
   simp only [hne, ne_eq, not_false_eq_true, decide_true, if_true]
   have : decide (z9 a < z9 b) = decide (a.getD j 0 < b.getD j 0) := by rw [decide_eq_decide]; exact hl
   rw [this] at k
   exact k
  ·have he : a.getD j 0 = b.getD j 0 := by simpa using hne
   simp only [hne, ne_eq, not_true_eq_false, decide_false, Bool.false_eq_true, if_false]
   simp (disch := omega) only [GL, RL, wi64]
   refine ⟨_, .refl _, j, by omega, j, rfl, by omega, rfl, ?_, rfl⟩
   have q1 := List.drop_eq_getElem_cons (l := a) (i := j) (by omega)
   have q2 := List.drop_eq_getElem_cons (l := b) (i := j) (by omega)
   rw [q1, q2, hd]
   simp [List.getD_eq_getElem?_getD, show j < a.length by omega, show j < b.length by omega] at he
   rw [he]
end
def primeL : List Nat := 251 :: (List.replicate 15 255 ++ [3])
theorem zlq : primeL.length = 17 := rfl
theorem ziP : Bytes primeL := by intro x hx; simp [primeL, List.mem_replicate] at hx; omega
theorem zlr : z9 primeL = 2 ^ 130 - 5 := by decide
section
variable {h : Hp} {K : Value → Hp → Prop}
theorem zjv (k : ∀ r h', Nn h zi .i64 r h' primeL → K r h') : Cn P zb8 #[] h K := by
 refine zbx ?_
 unfold z6C
 refine z2w (n := 17) (c := 17) zK z2J rfl (by omega) (by omega) (by omega) fun r h1 hw => ?_
 obtain ⟨b0, c0, f, hb0, hc0, rfl, _, _⟩ := hw.form (by omega)
 rw [z1E] at hw
 refine Lp_mk (fun u vs h' => ∃ i : Nat, i + u = 16 ∧ New h zi 1 (.slice (some ⟨b0, 0, none⟩) 17 c0) h' (nv .i64 (List.replicate i 255 ++ List.replicate (17 - i) 0)) 17 ∧ vs = [.int .i64 (i : Int)]) 16 ⟨0, rfl, by simpa using hw, rfl⟩ ?_
 clear hw
 rintro u vs h2 ⟨i, hi, hw, rfl⟩
 have e16 : decide ((i : Int) < 16) = decide (i < 16) := zL i 16
 simp (disch := omega) only [GL, RL, wi64, e16]
 by_cases hlt : i < 16
 ·simp only [hlt, decide_true, if_true]
  refine z1K z1U hw (by omega) rfl fun h3 hw3 => ?_
  have e : (nv .i64 (List.replicate i 255 ++ List.replicate (17 - i) 0)).set i (.int .i64 255) = nv .i64 (List.replicate (i + 1) 255 ++ List.replicate (17 - (i + 1)) 0) := by
   have := z1O .i64 (List.replicate i 255 ++ List.replicate (17 - i) 0) i 255
   refine this.trans (congrArg _ ?_)
   obtain ⟨d, hd⟩ : ∃ d, 17 - i = d + 1 := ⟨16 - i, by omega⟩
   rw [hd, List.set_append_right _ _ (by simp), List.length_replicate, Nat.sub_self, List.replicate_succ, List.set_cons_zero, List.replicate_succ', List.append_assoc, show 17 - (i + 1) = d by omega]
   rfl
  rw [e] at hw3
  exact ⟨_, .refl _, u - 1, by omega, i + 1, by omega, hw3, rfl⟩
 ·obtain rfl : i = 16 := by omega
  simp only [hlt, decide_false, Bool.false_eq_true, if_false]
  refine z1K (i := 0) z1U hw (by omega) rfl fun h3 hw3 => ?_
  refine z1K (i := 16) z1U hw3 (by omega) rfl fun h4 hw4 => ?_
  exact k _ _ hw4
end
theorem z68 {l : List Nat} (h : Bytes l) : le l.length (z9 l) = l := by
 induction l with
 | nil => rfl
 | cons x l ih =>
  have hx := h x (List.mem_cons_self ..)
  have e1 : z9 (x :: l) % 256 = x := by simp only [z9]; omega
  have e2 : z9 (x :: l) / 256 = z9 l := by simp only [z9]; omega
  simp only [List.length_cons, le, e1, e2, ih fun y hy => h y (List.mem_cons_of_mem _ hy)]
theorem zmT (l : List Nat) (i x : Nat) (hi : i < l.length) : z9 (l.set i x) + 256 ^ i * l.getD i 0 = z9 l + 256 ^ i * x := by
 induction l generalizing i with
 | nil => simp at hi
 | cons y l ih =>
  cases i with
  | zero => simp [z9]; omega
  | succ i =>
   have := ih i (by simpa using hi)
   simp only [List.set_cons_succ, z9, List.getD_cons_succ, Nat.pow_succ]
   have e1 : 256 ^ i * 256 * l.getD i 0 = 256 * (256 ^ i * l.getD i 0) := by rw [Nat.mul_comm (256 ^ i) 256, Nat.mul_assoc]
   have e2 : 256 ^ i * 256 * x = 256 * (256 ^ i * x) := by rw [Nat.mul_comm (256 ^ i) 256, Nat.mul_assoc]
   rw [e1, e2]
   omega
def Mul (a b : List Nat) (i k c : Nat) (o : List Nat) : Prop :=
 o.length = 36 ∧ Bytes o ∧ c < 256 ∧ z9 o + 256 ^ (i + k) * c = z9 (a.take i) * z9 b + 256 ^ i * (a.getD i 0 * z9 (b.take k))
theorem Mul.bound {a b o : List Nat} {i k c : Nat} (m : Mul a b i k c o) (ha : Bytes a) (hb : Bytes b) (hc : 0 < c) : k ≤ b.length := by
 obtain ⟨_, _, _, e⟩ := m
 rcases Nat.lt_or_ge b.length k with h | h
 ·exfalso
  have h1 := z18 a ha i
  have h2 := z27 b hb
  have h3 := z18 b hb k
  have h4 := ha.getD i
  have h5 : z9 (b.take k) = z9 b := by rw [List.take_of_length_le (by omega)]
  rw [h5] at e
  -- the right side is below 256 ^ (i + 1 + b.length)
  have e1 : z9 (a.take i) * z9 b + 256 ^ i * (a.getD i 0 * z9 b) = (z9 (a.take i) + 256 ^ i * a.getD i 0) * z9 b := by rw [Nat.add_mul, Nat.mul_assoc]
  have e2 : z9 (a.take i) + 256 ^ i * a.getD i 0 = z9 (a.take (i + 1)) := (z2s a i).symm
  have h6 := z18 a ha (i + 1)
  have h7 : z9 (a.take (i + 1)) * z9 b < 256 ^ (i + 1) * 256 ^ b.length := Nat.mul_lt_mul_of_lt_of_lt h6 h2
  rw [e1, e2] at e
  rw [← Nat.pow_add] at h7
  have h8 : 256 ^ (i + 1 + b.length) ≤ 256 ^ (i + k) := Nat.pow_le_pow_right (by decide) (by omega)
  have h9 : 256 ^ (i + k) ≤ 256 ^ (i + k) * c := Nat.le_mul_of_pos_right _ hc
  omega
 ·exact h
theorem Mul.step {a b o : List Nat} {i k c : Nat} (m : Mul a b i k c o) (ha : Bytes a) (hb : Bytes b) (hk : i + k < 36) (v : Nat) (hv : v = o.getD (i + k) 0 + c + a.getD i 0 * b.getD k 0) : Mul a b i (k + 1) (v / 256) (o.set (i + k) (v % 256)) := by
 obtain ⟨lo, bo, hc, e⟩ := m
 have h1 := bo.getD (i + k)
 have h2 := ha.getD i
 have h3 := hb.getD k
 have h4 : a.getD i 0 * b.getD k 0 ≤ 255 * 255 := Nat.mul_le_mul (by omega) (by omega)
 refine ⟨by rw [List.length_set]; exact lo, bo.set _ (Nat.mod_lt _ (by decide)), by omega, ?_⟩
 have hs := zmT o (i + k) (v % 256) (by omega)
 have ht := z2s b k
 rw [ht]
 have p1 : 256 ^ (i + (k + 1)) = 256 ^ (i + k) * 256 := by rw [← Nat.add_assoc, Nat.pow_succ]
 have p2 : 256 ^ i * (a.getD i 0 * (z9 (b.take k) + 256 ^ k * b.getD k 0)) = 256 ^ i * (a.getD i 0 * z9 (b.take k)) + 256 ^ (i + k) * (a.getD i 0 * b.getD k 0) := by
  rw [Nat.mul_add, Nat.mul_add, Nat.pow_add]
  congr 1
  rw [Nat.mul_left_comm (a.getD i 0), ← Nat.mul_assoc]
 rw [p1, p2, Nat.mul_assoc]
 have p3 : 256 ^ (i + k) * (256 * (v / 256)) + 256 ^ (i + k) * (v % 256) = 256 ^ (i + k) * v := by rw [← Nat.mul_add, Nat.div_add_mod]
 have p4 : 256 ^ (i + k) * v = 256 ^ (i + k) * o.getD (i + k) 0 + 256 ^ (i + k) * c + 256 ^ (i + k) * (a.getD i 0 * b.getD k 0) := by rw [hv, Nat.mul_add, Nat.mul_add]
 omega
section
variable {h : Hp} {K : Value → Hp → Prop}
theorem zds {va vb : Value} {a b : List Nat} (ha : Rn h .i64 va a) (hb : Rn h .i64 vb b) (ba : Bytes a) (bb : Bytes b) (hl : a.length + b.length ≤ 36) (k : ∀ r h', Nn h zi .i64 r h' (le 36 (z9 a * z9 b)) → K r h') :
  Cn P zb7 #[va, vb] h K := by
 refine zbu ?_
 unfold z6B
 refine z2w (n := 36) (c := 36) zK z2J rfl (by omega) (by omega) (by omega) fun r h1 hw => ?_
 obtain ⟨b0, c0, f, hb0, hc0, rfl, _, _⟩ := hw.form (by omega)
 rw [z1E] at hw
 obtain ⟨aa, ca, rfl, hca⟩ := ha.shape
 obtain ⟨ab, cb, rfl, hcb⟩ := hb.shape
 have z0 : ∀ n : Nat, z9 (List.replicate n 0) = 0 := fun n => by
  induction n with
  | zero => rfl
  | succ n ih => simp [List.replicate_succ, z9, ih]
 refine Lp_mk (fun u vs h' => ∃ (i : Nat) (o : List Nat), i + u = a.length ∧ New h zi 1 (.slice (some ⟨b0, 0, none⟩) 36 c0) h' (nv .i64 o) 36 ∧ Bytes o ∧ z9 o = z9 (a.take i) * z9 b ∧ vs = [.int .i64 (i : Int)]) a.length
  ⟨0, List.replicate 36 0, by omega, hw, by intro x hx; rw [List.mem_replicate] at hx; omega, by rw [z0]; simp [z9], rfl⟩ ?_
 clear hw
 rintro u vs h2 ⟨i, o, hi, hw, bo, ho, rfl⟩
 have lo : o.length = 36 := by have := hw.1; rw [ze] at this; omega
 simp (disch := omega) only [GL, RL, wi64, zL]
 by_cases hlt : i < a.length
 ·simp only [hlt, decide_true, if_true]
  obtain ⟨b1, o1, rfl, hy1⟩ := ha.pos (by omega)
  refine Lp_mk (fun u' vs h' => ∃ (j c : Nat) (o : List Nat), j + u' = 36 ∧ i + j ≤ 36 ∧ New h zi 1 (.slice (some ⟨b0, 0, none⟩) 36 c0) h' (nv .i64 o) 36 ∧ Mul a b i j c o ∧ vs = [.int .i64 (c : Int), .int .i64 (j : Int)]) 36
   ⟨0, 0, o, rfl, by omega, hw, ⟨lo, bo, by omega, by simp [ho, z9]⟩, rfl⟩ ?_
  clear hw bo ho lo
  rintro u' vs h3 ⟨j, c, o, hj, hij, hw, hm, rfl⟩
  have lo := hm.1
  have bo := hm.2.1
  have hc := hm.2.2.1
  have egt : decide ((0 : Int) < (c : Int)) = decide (0 < c) := zL 0 c
  have eij : (i : Int) + (j : Int) = ((i + j : Nat) : Int) := by omega
  have h1 := bo.getD (i + j)
  have h4 : a.getD i 0 * b.getD j 0 ≤ 255 * 255 := Nat.mul_le_mul (by have := ba.getD i; omega) (by have := bb.getD j; omega)
  obtain ⟨V, hV⟩ : ∃ V, o.getD (i + j) 0 + c + a.getD i 0 * b.getD j 0 = V := ⟨_, rfl⟩
  have e1 : ((V : Nat) : Int).tmod 256 = ((V % 256 : Nat) : Int) := (Int.ofNat_tmod V 256).symm
  have e2 : ((V : Nat) : Int).tdiv 256 = ((V / 256 : Nat) : Int) := (Int.ofNat_tdiv V 256).symm
  have fin : i + j < 36 → aw P (Instr.storeAt zi (.pointer (some ⟨b0, i + j, none⟩)) (.int .i64 ((V % 256 : Nat) : Int))) (fun _ h_1 => ∃ h0, Hp.le h0 h_1 ∧ ∃ m, m < u' ∧ ∃ (j_1 c : Nat) (o : List Nat), j_1 + m = 36 ∧ i + j_1 ≤ 36 ∧
    New h zi 1 (.slice (some ⟨b0, 0, none⟩) 36 c0) h0 (nv .i64 o) 36 ∧ Mul a b i j_1 c o ∧ [Value.int .i64 ((V / 256 : Nat) : Int), Value.int .i64 ((j : Int) + 1)] = [.int .i64 (c : Int), .int .i64 (j_1 : Int)]) h3 := by
   intro hlt36
   refine z1K z1U hw hlt36 rfl fun h4 hw4 => ?_
   rw [z1O] at hw4
   exact ⟨_, .refl _, u' - 1, by omega, j + 1, V / 256, _, by omega, by omega, hw4, hm.step ba bb hlt36 V hV.symm, rfl⟩
  have zB : ¬ j < b.length → b.getD j 0 = 0 := fun q => by simp [List.getElem?_eq_none (show b.length ≤ j by omega)]
  obtain ⟨bw, cw, fw, hbw, _, hvw, hhw, _⟩ := hw.form (by omega)
  simp only [Value.slice.injEq, Option.some.injEq, Addr.mk.injEq] at hvw
  obtain ⟨⟨rfl, _⟩, _, rfl⟩ := hvw
  have co : i + j < 36 → h3.cell ⟨b0, i + j, none⟩ = some (.int .i64 ((o.getD (i + j) 0 : Nat) : Int)) := fun q => zJ (by rw [hhw]; exact Hp.set_same ..) (by omega)
  by_cases hjb : j < b.length
  ·obtain ⟨b2, o2, rfl, hy2⟩ := hb.pos (by omega)
   have hlt36 : i + j < 36 := by omega
   have c1 := hw.cle _ _ (hy1 i hlt)
   have c2 := hw.cle _ _ (hy2 j hjb)
   have c3 := co hlt36
   have ev : ((o.getD (i + j) 0 : Nat) : Int) + (c : Int) + ((a.getD i 0 * b.getD j 0 : Nat) : Int) = (V : Int) := by rw [← hV]; push_cast; omega
   have em : ((a.getD i 0 : Nat) : Int) * ((b.getD j 0 : Nat) : Int) = ((a.getD i 0 * b.getD j 0 : Nat) : Int) := by push_cast; rfl
   simp (disch := omega) only [GL, RL, wi64, zL, egt, eij, hjb, decide_true, Bool.true_eq_false, if_false, if_true, c1, c2, c3, em, ev, e1, e2]
   exact fin hlt36
  ·have hz := zB hjb
   have eV : V = o.getD (i + j) 0 + c := by rw [← hV, hz, Nat.mul_zero, Nat.add_zero]
   by_cases hc0 : 0 < c
   ·have hk := hm.bound ba bb hc0
    have hlt36 : i + j < 36 := by omega
    have c3 := co hlt36
    have ev : ((o.getD (i + j) 0 : Nat) : Int) + (c : Int) = (V : Int) := by rw [eV]; push_cast; rfl
    simp (disch := omega) only [GL, RL, wi64, zL, egt, eij, hjb, hc0, decide_true, decide_false, Bool.false_eq_true, if_false, if_true, c3, ev, e1, e2]
    exact fin hlt36
   ·simp (disch := omega) only [GL, RL, wi64, zL, egt, eij, hjb, hc0, decide_false, Bool.false_eq_true, if_false, if_true]
    refine ⟨_, .refl _, u - 1, by omega, i + 1, o, by omega, hw, bo, ?_, rfl⟩
    have := hm.2.2.2
    rw [show c = 0 by omega, Nat.mul_zero, Nat.add_zero, List.take_of_length_le (l := b) (i := j) (by omega)] at this
    rw [this, z2s, Nat.add_mul, Nat.mul_assoc]
 ·obtain rfl : i = a.length := by omega
  simp only [hlt, decide_false, Bool.false_eq_true, if_false]
  rw [List.take_length] at ho
  have := z68 bo
  rw [lo, ho] at this
  refine k _ _ ?_
  unfold Nn
  rw [zE, this]
  exact hw
end
end Go.Proofs.YtoikhbagchfeoaaGreat
namespace Go.Pure
abbrev PP : Nat := 1361129467683753853853498429727072845819
def lval : List Nat → Nat
 | [] => 0
 | x :: l => x + 67108864 * lval l
def Red (a b : Nat) : Prop := ∃ q, a = b + PP * q
theorem Red.refl (a : Nat) : Red a a := ⟨0, rfl⟩
theorem Red.of {a b : Nat} (e : a = b) : Red a b := ⟨0, e⟩
theorem Red.trans {a b c : Nat} (x : Red a b) (y : Red b c) : Red a c := by
 obtain ⟨q, rfl⟩ := x
 obtain ⟨r, rfl⟩ := y
 exact ⟨r + q, by rw [Nat.mul_add]; omega⟩
theorem Red.mod {a b : Nat} (x : Red a b) : a % PP = b % PP := by
 obtain ⟨q, rfl⟩ := x
 exact Nat.add_mul_mod_self_left b PP q
theorem Red.add {a b : Nat} (x : Red a b) (c : Nat) : Red (a + c) (b + c) := by
 obtain ⟨q, rfl⟩ := x
 exact ⟨q, by omega⟩
theorem Red.addL {a b : Nat} (c : Nat) (x : Red a b) : Red (c + a) (c + b) := by
 obtain ⟨q, rfl⟩ := x
 exact ⟨q, by omega⟩
theorem z6g (l : List Nat) (i x : Nat) (hi : i < l.length) : lval (l.set i x) + 67108864 ^ i * l.getD i 0 = lval l + 67108864 ^ i * x := by
 induction l generalizing i with
 | nil => simp at hi
 | cons y l ih =>
  cases i with
  | zero => simp [lval]; omega
  | succ i =>
   have := ih i (by simpa using hi)
   simp only [List.set_cons_succ, lval, List.getD_cons_succ, Nat.pow_succ]
   have e1 : 67108864 ^ i * 67108864 * l.getD i 0 = 67108864 * (67108864 ^ i * l.getD i 0) := by rw [Nat.mul_comm (67108864 ^ i) 67108864, Nat.mul_assoc]
   have e2 : 67108864 ^ i * 67108864 * x = 67108864 * (67108864 ^ i * x) := by rw [Nat.mul_comm (67108864 ^ i) 67108864, Nat.mul_assoc]
   rw [e1, e2]
   omega
theorem z1j (l : List Nat) (i j x : Nat) (hi : i < l.length) : (l.set i x).getD j 0 = if j = i then x else l.getD j 0 := by
 simp only [List.getD_eq_getElem?_getD, List.getElem?_set]
 by_cases e : i = j
 ·subst e; simp [hi]
 ·simp [e, Ne.symm e]
theorem zoT {l : List Nat} (h : l.length = 5) : ∃ a b c d e, l = [a, b, c, d, e] := by
 match l, h with
 | [a, b, c, d, e], _ => exact ⟨a, b, c, d, e, rfl⟩
theorem za1 {l : List Nat} (h : l.length = 5) : lval l = l.getD 0 0 + 67108864 * l.getD 1 0 + 4503599627370496 * l.getD 2 0 + 302231454903657293676544 * l.getD 3 0 + 20282409603651670423947251286016 * l.getD 4 0 := by
 obtain ⟨a, b, c, d, e, rfl⟩ := zoT h
 simp [lval]; omega
def Lim (B : Nat) (l : List Nat) : Prop := ∀ i, l.getD i 0 < B
theorem Lim.mono {B B' : Nat} {l : List Nat} (h : Lim B l) (hb : B ≤ B') : Lim B' l := fun i => Nat.lt_of_lt_of_le (h i) hb
theorem Lim.set {B : Nat} {l : List Nat} (h : Lim B l) (i : Nat) {x : Nat} (hx : x < B) : Lim B (l.set i x) := by
 intro j
 rcases Nat.lt_or_ge i l.length with hi | hi
 ·rw [z1j l i j x hi]
  split
  ·exact hx
  ·exact h j
 ·rw [List.set_eq_of_length_le hi]; exact h j
theorem zmU (S M : List Nat) (hS : S.length = 5) {B C : Nat} (bS : Lim B S) (bM : Lim C M) (hBC : B + C ≤ 18446744073709551616) (hC : 0 < C) (i : Nat) (hi : i ≤ 5) :
  (∀ j, (addN S M i).getD j 0 = if j < i then S.getD j 0 + M.getD j 0 else S.getD j 0) := by
 induction i with
 | zero => intro j; simp [addN]
 | succ i ih =>
  intro j
  have ih := ih (by omega)
  have h1 := bS i
  have h2 := bM i
  have e0 : (addN S M i).getD i 0 = S.getD i 0 := by rw [ih i, if_neg (by omega)]
  rw [addN, z1j _ _ _ _ (by rw [z62]; omega), e0, Nat.mod_eq_of_lt (show S.getD i 0 + M.getD i 0 < 18446744073709551616 by omega)]
  by_cases e : j = i
  ·subst e; rw [if_pos rfl, if_pos (by omega)]
  ·rw [if_neg e, ih j]
   by_cases e2 : j < i
   ·rw [if_pos e2, if_pos (by omega)]
   ·rw [if_neg e2, if_neg (by omega)]
theorem zmV (S M : List Nat) (hS : S.length = 5) (hM : M.length = 5) {B C : Nat} (bS : Lim B S) (bM : Lim C M) (hBC : B + C ≤ 18446744073709551616) (hC : 0 < C) :
  lval (addL S M) = lval S + lval M ∧ Lim (B + C) (addL S M) := by
 have h := zmU S M hS bS bM hBC hC 5 (by omega)
 refine ⟨?_, fun j => ?_⟩
 ·rw [za1 (show (addL S M).length = 5 by rw [addL, z62, hS]), za1 hS, za1 hM]
  have e := fun j => h j
  unfold addL
  simp only [e]
  simp only [Nat.reduceLT, if_true]
  omega
 ·unfold addL
  rw [h j]
  have h1 := bS j
  have h2 := bM j
  split <;> omega
theorem zjw (S : List Nat) (hS : S.length = 5) {B : Nat} (bS : Lim B S) (hB : B ≤ 9223372036854775808) (i : Nat) (hi : i ≤ 5) :
  lval (zM S i).2 + 67108864 ^ i * (zM S i).1 = lval S ∧ (∀ j, i ≤ j → (zM S i).2.getD j 0 = S.getD j 0) ∧ (∀ j, j < i → (zM S i).2.getD j 0 < 67108864) ∧
   ((zM S i).1 ≤ B / 33554432) ∧ (B ≤ 134217728 → (zM S i).1 ≤ (if B ≤ 134217727 then 1 else 2)) := by
 induction i with
 | zero => exact ⟨by simp [zM], fun _ _ => rfl, fun j hj => by omega, by simp [zM], fun _ => by simp [zM]⟩
 | succ i ih =>
  obtain ⟨h1, h2, h3, h4, h5⟩ := ih (by omega)
  have e2 := h2 i (Nat.le_refl _)
  have b2 := bS i
  have hlen : i < (zM S i).2.length := by rw [z4m]; omega
  have hx : (zM S i).2.getD i 0 + (zM S i).1 < 18446744073709551616 := by rw [e2]; omega
  have hs := z6g (zM S i).2 i (((zM S i).2.getD i 0 + (zM S i).1) % 67108864) hlen
  simp only [zM, Nat.mod_eq_of_lt hx]
  refine ⟨?_, fun j hj => ?_, fun j hj => ?_, ?_, fun hb => ?_⟩
  ·rw [Nat.pow_succ, Nat.mul_assoc]
   have hd := Nat.div_add_mod ((zM S i).2.getD i 0 + (zM S i).1) 67108864
   have : 67108864 ^ i * (67108864 * (((zM S i).2.getD i 0 + (zM S i).1) / 67108864)) + 67108864 ^ i * (((zM S i).2.getD i 0 + (zM S i).1) % 67108864) =
     67108864 ^ i * (zM S i).2.getD i 0 + 67108864 ^ i * (zM S i).1 := by rw [← Nat.mul_add, hd, Nat.mul_add]
   omega
  ·rw [z1j _ _ _ _ hlen, if_neg (by omega), h2 j (by omega)]
  ·rw [z1j _ _ _ _ hlen]
   split
   ·exact Nat.mod_lt _ (by decide)
   ·exact h3 j (by omega)
  ·rw [e2]; omega
  ·have h5 := h5 hb
   rw [e2]
   split at h5
   ·rename_i hle; rw [if_pos hle]; omega
   ·rename_i hle; rw [if_neg hle]; omega
theorem z8C (S : List Nat) (hS : S.length = 5) {B : Nat} (bS : Lim B S) (hB : B ≤ 9223372036854775808) :
  Red (lval S) (lval (z1n S)) ∧ Lim 67108864 ((z1n S).set 1 0) ∧ (z1n S).getD 1 0 < 67108864 + (B / 6710886 + 67108865) / 67108864 ∧
   (B ≤ 134217727 → (z1n S).getD 1 0 ≤ 67108864 ∧ (Lim 67108864 (S.set 1 0) → S.getD 1 0 ≤ 67108864 → Lim 67108864 (z1n S))) := by
 obtain ⟨h1, h2, h3, h4, h5⟩ := zjw S hS bS hB 5 (by omega)
 have hT : (zM S 5).2.length = 5 := by rw [z4m, hS]
 have eL : z1n S = z6D (zM S 5).1 (zM S 5).2 := rfl
 -- with no carry at all
 have hz : Lim 67108864 (S.set 1 0) → S.getD 1 0 ≤ 67108864 → (zM S 5).1 = 0 ∧ (zM S 5).2 = S ∧ Lim 67108864 S ∨ (zM S 5).2.getD 1 0 = 0 := by
  intro hl h1'
  rcases Nat.lt_or_ge (S.getD 1 0) 67108864 with q | q
  ·left
   have hS' : Lim 67108864 S := fun j => by
    have := hl j
    rw [z1j _ _ _ _ (by omega)] at this
    split at this
    ·rename_i e; subst e; exact q
    ·exact this
   have key : ∀ i, i ≤ 5 → zM S i = (0, S) := by
    intro i hi
    induction i with
    | zero => rfl
    | succ i ih =>
     have := hS' i
     simp only [zM, ih (by omega), Nat.add_zero, Nat.mod_eq_of_lt (show S.getD i 0 < 18446744073709551616 by omega), Nat.mod_eq_of_lt this, Nat.div_eq_of_lt this]
     congr 1
     apply List.ext_getElem?
     intro j
     rw [List.getElem?_set]
     split
     ·rename_i e; subst e
      rw [if_pos (by omega)]
      simp [List.getElem?_eq_getElem (show i < S.length by omega)]
     ·rfl
   rw [key 5 (by omega)]
   exact ⟨rfl, rfl, hS'⟩
  ·right
   have e1 : S.getD 1 0 = 67108864 := by omega
   have h0 := hl 0
   rw [z1j _ _ _ _ (by omega), if_neg (by omega)] at h0
   have c0 : zM S 1 = (0, S.set 0 (S.getD 0 0)) := by
    simp only [zM, Nat.add_zero, Nat.mod_eq_of_lt (show S.getD 0 0 < 18446744073709551616 by omega), Nat.mod_eq_of_lt h0, Nat.div_eq_of_lt h0]
   have c1 : (zM S 2).2.getD 1 0 = 0 := by
    show ((zM S 1).2.set 1 _).getD 1 0 = 0
    rw [c0]
    simp only
    rw [z1j _ _ _ _ (by rw [List.length_set]; omega), if_pos rfl, z1j _ _ _ _ (by omega), if_neg (by omega), e1]
   have keep : ∀ i, 2 ≤ i → i ≤ 5 → (zM S i).2.getD 1 0 = 0 := by
    intro i h2 h5
    induction i with
    | zero => omega
    | succ i ih =>
     rcases Nat.lt_or_ge i 2 with q | q
     ·obtain rfl : i = 1 := by omega
      exact c1
     ·simp only [zM]
      rw [z1j _ _ _ _ (by rw [z4m]; omega), if_neg (by omega), ih q (by omega)]
   exact keep 5 (by omega) (by omega)
 have l5 := h3
 generalize zM S 5 = U at h1 h2 h3 h4 h5 hT eL hz l5
 obtain ⟨c, T⟩ := U
 simp only at h1 h2 h3 h4 h5 hT eL hz l5
 obtain ⟨t0, t1, t2, t3, t4, rfl⟩ := zoT hT
 have b0 : t0 < 67108864 := h3 0 (by omega)
 have b1 : t1 < 67108864 := h3 1 (by omega)
 have b2 : t2 < 67108864 := h3 2 (by omega)
 have b3 : t3 < 67108864 := h3 3 (by omega)
 have b4 : t4 < 67108864 := h3 4 (by omega)
 have m1 : 5 * c % 18446744073709551616 = 5 * c := Nat.mod_eq_of_lt (by omega)
 have m2 : (t0 + 5 * c) % 18446744073709551616 = t0 + 5 * c := Nat.mod_eq_of_lt (by omega)
 have m3 : (t1 + (t0 + 5 * c) / 67108864) % 18446744073709551616 = t1 + (t0 + 5 * c) / 67108864 := Nat.mod_eq_of_lt (by omega)
 have eE : z1n S = [(t0 + 5 * c) % 67108864, t1 + (t0 + 5 * c) / 67108864, t2, t3, t4] := by
  rw [eL]
  simp [z6D, m1, m2, m3]
 rw [eE]
 refine ⟨⟨c, ?_⟩, fun j => ?_, ?_, fun hb => ⟨?_, fun hl h1' => ?_⟩⟩
 ·rw [← h1]
  simp only [lval, PP]
  have : 67108864 ^ 5 * c = 1361129467683753853853498429727072845824 * c := by rw [show (67108864 : Nat) ^ 5 = 1361129467683753853853498429727072845824 from rfl]
  rw [this]
  omega
 ·rw [z1j _ _ _ _ (by simp)]
  have : (t0 + 5 * c) % 67108864 < 67108864 := Nat.mod_lt _ (by decide)
  match j with
  | 0 => simpa using this
  | 1 => simp
  | 2 => simpa using b2
  | 3 => simpa using b3
  | 4 => simpa using b4
  | j + 5 => simp
 ·show t1 + (t0 + 5 * c) / 67108864 < _
  omega
 ·show t1 + (t0 + 5 * c) / 67108864 ≤ _
  have := h5 (by omega)
  rw [if_pos hb] at this
  omega
 ·have hc := h5 (by omega)
  rw [if_pos hb] at hc
  have : (t0 + 5 * c) % 67108864 < 67108864 := Nat.mod_lt _ (by decide)
  have t1' : t1 + (t0 + 5 * c) / 67108864 < 67108864 := by
   rcases hz hl h1' with ⟨rfl, _, _⟩ | e
   ·omega
   ·have : t1 = 0 := e
    omega
  intro j
  match j with
  | 0 => simpa using this
  | 1 => simpa using t1'
  | 2 => simpa using b2
  | 3 => simpa using b3
  | 4 => simpa using b4
  | j + 5 => simp
end Go.Pure
namespace Go.Pure
theorem zmW (i k : Nat) (S R : List Nat) {B C : Nat} (bS : Lim B S) (bR : Lim C R) (hBC : B * C * 5 ≤ 18446744073709551616) (hB : 0 < B) (hC : 0 < C) :
  tval i k S R = (if 5 ≤ i + k then S.getD i 0 * R.getD k 0 * 5 else S.getD i 0 * R.getD k 0) ∧ tval i k S R < B * C * 5 := by
 have h1 := bS i
 have h2 := bR k
 have h3 : S.getD i 0 * R.getD k 0 < B * C := Nat.mul_lt_mul_of_lt_of_lt h1 h2
 unfold tval
 have m1 : S.getD i 0 * R.getD k 0 % 18446744073709551616 = S.getD i 0 * R.getD k 0 := Nat.mod_eq_of_lt (by omega)
 rw [m1]
 split
 ·rw [Nat.mod_eq_of_lt (by omega)]
  exact ⟨rfl, by omega⟩
 ·exact ⟨rfl, by omega⟩
theorem zqb (n : Nat) : 67108864 ^ (n + 5) = 67108864 ^ n * (PP + 5) := by rw [Nat.pow_add]
theorem zoi (S R : List Nat) (i : Nat) (hi : i < 5) (O : List Nat) (hO : O.length = 5) {B C D : Nat} (bS : Lim B S) (bR : Lim C R) (hBC : B * C * 5 ≤ 18446744073709551616) (hB : 0 < B) (hC : 0 < C) (bO : Lim D O) (k : Nat) (hk : k ≤ 5)
  (hD : D + 5 * (B * C * 5) ≤ 18446744073709551616) :
  Red (lval O + 67108864 ^ i * (S.getD i 0 * lval (R.take k))) (lval (tin S R i O k)) ∧ Lim (D + k * (B * C * 5)) (tin S R i O k) := by
 have take_succ : ∀ (l : List Nat) (i : Nat), lval (l.take (i + 1)) = lval (l.take i) + 67108864 ^ i * l.getD i 0 := by
  intro l
  induction l with
  | nil => intro i; simp [lval]
  | cons x l ih =>
   intro i
   cases i with
   | zero => simp [lval]
   | succ i =>
    simp only [List.take_succ_cons, lval, List.getD_cons_succ, Nat.pow_succ]
    rw [ih i, Nat.mul_comm (67108864 ^ i) 67108864, Nat.mul_assoc]
    omega
 induction k with
 | zero => exact ⟨⟨0, by simp [tin, lval]⟩, by simpa [tin] using bO⟩
 | succ k ih =>
  obtain ⟨h1, h2⟩ := ih (by omega)
  obtain ⟨e1, b1⟩ := zmW i k S R bS bR hBC hB hC
  have hm : (i + k) % 5 < 5 := Nat.mod_lt _ (by decide)
  have hlen : (i + k) % 5 < (tin S R i O k).length := by rw [zfM]; omega
  have hx := h2 ((i + k) % 5)
  have hkm : k * (B * C * 5) ≤ 4 * (B * C * 5) := Nat.mul_le_mul_right _ (by omega)
  have e2 : (k + 1) * (B * C * 5) = k * (B * C * 5) + B * C * 5 := Nat.succ_mul _ _
  have hw : (tin S R i O k).getD ((i + k) % 5) 0 + tval i k S R < 18446744073709551616 := by omega
  simp only [tin, Nat.mod_eq_of_lt hw]
  refine ⟨?_, fun j => ?_⟩
  ·have hs := z6g (tin S R i O k) ((i + k) % 5) ((tin S R i O k).getD ((i + k) % 5) 0 + tval i k S R) hlen
   rw [Nat.mul_add] at hs
   have hl : lval ((tin S R i O k).set ((i + k) % 5) ((tin S R i O k).getD ((i + k) % 5) 0 + tval i k S R)) = lval (tin S R i O k) + 67108864 ^ ((i + k) % 5) * tval i k S R := by omega
   rw [hl, take_succ, Nat.mul_add, Nat.mul_add, ← Nat.add_assoc]
   have e3 : 67108864 ^ i * (S.getD i 0 * (67108864 ^ k * R.getD k 0)) = 67108864 ^ (i + k) * (S.getD i 0 * R.getD k 0) := by
    rw [Nat.pow_add, Nat.mul_left_comm (S.getD i 0), Nat.mul_assoc]
   rw [e3]
   refine (h1.add _).trans ?_
   refine Red.addL _ ?_
   rw [e1]
   split
   ·rename_i hge
    have e4 : i + k = (i + k) % 5 + 5 := by omega
    generalize (i + k) % 5 = n at e4 ⊢
    rw [e4, zqb]
    refine ⟨67108864 ^ n * (S.getD i 0 * R.getD k 0), ?_⟩
    rw [Nat.mul_add, Nat.add_mul, Nat.add_comm]
    congr 1
    ·rw [Nat.mul_comm (S.getD i 0 * R.getD k 0) 5]; simp only [Nat.mul_assoc]
    ·rw [Nat.mul_comm (67108864 ^ n) PP, Nat.mul_assoc]
   ·rw [Nat.mod_eq_of_lt (show i + k < 5 by omega)]
    exact Red.refl _
  ·rw [z1j _ _ _ _ hlen, e2]
   split
   ·omega
   ·have := h2 j; omega
theorem zmX (l : List Nat) (i : Nat) : lval (l.take (i + 1)) = lval (l.take i) + 67108864 ^ i * l.getD i 0 := by
 induction l generalizing i with
 | nil => simp [lval]
 | cons x l ih =>
  cases i with
  | zero => simp [lval]
  | succ i =>
   simp only [List.take_succ_cons, lval, List.getD_cons_succ, Nat.pow_succ]
   rw [ih i, Nat.mul_comm (67108864 ^ i) 67108864, Nat.mul_assoc]
   omega
theorem zmY (S R : List Nat) (hS : S.length = 5) (hR : R.length = 5) {B C : Nat} (bS : Lim B S) (bR : Lim C R) (hBC : 26 * (B * C * 5) ≤ 18446744073709551616) (hB : 0 < B) (hC : 0 < C) (i : Nat) (hi : i ≤ 5) :
  Red (lval (S.take i) * lval R) (lval (tout S R i)) ∧ Lim (1 + 5 * i * (B * C * 5)) (tout S R i) := by
 induction i with
 | zero =>
  refine ⟨⟨0, ?_⟩, fun j => ?_⟩
  ·simp [lval, tout, zero5]
  ·match j with
   | 0 | 1 | 2 | 3 | 4 => simp [tout, zero5]
   | j + 5 => simp [tout, zero5]
 | succ i ih =>
  obtain ⟨h1, h2⟩ := ih (by omega)
  have hp : 0 < B * C * 5 := Nat.mul_pos (Nat.mul_pos hB hC) (by decide)
  have e0 : 5 * i * (B * C * 5) ≤ 20 * (B * C * 5) := Nat.mul_le_mul_right _ (by omega)
  obtain ⟨g1, g2⟩ := zoi S R i (by omega) (tout S R i) (z64 S R i) bS bR (by omega) hB hC h2 5 (by omega) (by omega)
  have et : R.take 5 = R := List.take_of_length_le (by omega)
  rw [et] at g1
  have e2 : 5 * (i + 1) * (B * C * 5) = 5 * i * (B * C * 5) + 5 * (B * C * 5) := by rw [Nat.mul_add, Nat.add_mul]
  refine ⟨?_, by rw [e2, ← Nat.add_assoc]; exact g2⟩
  rw [zmX, Nat.add_mul, Nat.mul_assoc]
  exact (h1.add _).trans g1
theorem zjx (S R : List Nat) (hS : S.length = 5) (hR : R.length = 5) (bS : Lim 268435456 S) (bR : Lim 67108864 R) :
  Red (lval S * lval R) (lval (z3z S R)) ∧ Lim 67125248 (z3z S R) := by
 obtain ⟨h1, h2⟩ := zmY S R hS hR bS bR (by omega) (by omega) (by omega) 5 (by omega)
 rw [List.take_of_length_le (by omega)] at h1
 have h3 : Lim 2251799813685248001 (tout S R 5) := h2.mono (by omega)
 obtain ⟨g1, g2, g3, _⟩ := z8C (tout S R 5) (z64 S R 5) h3 (by omega)
 refine ⟨h1.trans g1, fun j => ?_⟩
 show (z1n (tout S R 5)).getD j 0 < _
 by_cases e : j = 1
 ·subst e; omega
 ·have := g2 j
  rw [z1j _ _ _ _ (by rw [z38, z64]; omega), if_neg e] at this
  omega
theorem zmZ (T : List Nat) (hT : T.length = 5) (bT : Lim 67108864 T) (i : Nat) (hi : i ≤ 4) :
  lval (redN T i) = lval T + 5 ∧ (∀ j, j < i → (redN T i).getD j 0 < 67108864) ∧ (∀ j, i < j → (redN T i).getD j 0 = T.getD j 0) ∧ (redN T i).getD i 0 < 67108864 + 5 := by
 induction i with
 | zero =>
  have h0 := bT 0
  have m : (T.getD 0 0 + 5) % 18446744073709551616 = T.getD 0 0 + 5 := Nat.mod_eq_of_lt (by omega)
  have hs := z6g T 0 (T.getD 0 0 + 5) (by omega)
  simp only [redN, m]
  refine ⟨by simp only [Nat.pow_zero, Nat.one_mul] at hs; omega, fun j hj => by omega, fun j hj => ?_, ?_⟩
  ·rw [z1j _ _ _ _ (by omega), if_neg (by omega)]
  ·rw [z1j _ _ _ _ (by omega), if_pos rfl]; omega
 | succ i ih =>
  obtain ⟨h1, h2, h3, h4⟩ := ih (by omega)
  have e1 := h3 (i + 1) (by omega)
  have b1 := bT (i + 1)
  have l1 : i + 1 < (redN T i).length := by rw [z9J]; omega
  have m : ((redN T i).getD (i + 1) 0 + (redN T i).getD i 0 / 67108864) % 18446744073709551616 = (redN T i).getD (i + 1) 0 + (redN T i).getD i 0 / 67108864 := Nat.mod_eq_of_lt (by omega)
  have hs := z6g (redN T i) (i + 1) ((redN T i).getD (i + 1) 0 + (redN T i).getD i 0 / 67108864) l1
  have g1 : ((redN T i).set (i + 1) ((redN T i).getD (i + 1) 0 + (redN T i).getD i 0 / 67108864)).getD i 0 = (redN T i).getD i 0 := by rw [z1j _ _ _ _ l1, if_neg (by omega)]
  have hs2 := z6g ((redN T i).set (i + 1) ((redN T i).getD (i + 1) 0 + (redN T i).getD i 0 / 67108864)) i ((redN T i).getD i 0 % 67108864) (by rw [List.length_set]; omega)
  simp only [redN, m, g1]
  rw [g1] at hs2
  refine ⟨?_, fun j hj => ?_, fun j hj => ?_, ?_⟩
  ·have hd := Nat.div_add_mod ((redN T i).getD i 0) 67108864
   rw [Nat.mul_add, Nat.pow_succ, Nat.mul_assoc, Nat.mul_assoc] at hs
   have : 67108864 ^ i * (67108864 * ((redN T i).getD i 0 / 67108864)) + 67108864 ^ i * ((redN T i).getD i 0 % 67108864) = 67108864 ^ i * (redN T i).getD i 0 := by rw [← Nat.mul_add, hd]
   omega
  ·rw [z1j _ _ _ _ (by rw [List.length_set]; omega)]
   split
   ·exact Nat.mod_lt _ (by decide)
   ·rw [z1j _ _ _ _ l1, if_neg (by omega)]; exact h2 j (by omega)
  ·rw [z1j _ _ _ _ (by rw [List.length_set]; omega), if_neg (by omega), z1j _ _ _ _ l1, if_neg (by omega)]; exact h3 j (by omega)
  ·rw [z1j _ _ _ _ (by rw [List.length_set]; omega), if_neg (by omega), z1j _ _ _ _ l1, if_pos rfl]; omega
theorem zoj {T : List Nat} (hT : T.length = 5) (bT : Lim 67108864 T) : lval T < PP + 5 := by
 rw [za1 hT]
 have h0 := bT 0
 have h1 := bT 1
 have h2 := bT 2
 have h3 := bT 3
 have h4 := bT 4
 simp only [PP]
 omega
theorem ziQ (S : List Nat) (hS : S.length = 5) (bS : Lim 67125248 S) : lval (z31 S) = lval S % PP ∧ Lim 67108864 (z31 S) := by
 obtain ⟨a1, a2, a3, a4⟩ := z8C S hS bS (by omega)
 have a4 := (a4 (by omega)).1
 have lA : (z1n S).length = 5 := by rw [z38, hS]
 have bA : Lim 67108865 (z1n S) := fun j => by
  by_cases e : j = 1
  ·subst e; omega
  ·have := a2 j
   rw [z1j _ _ _ _ (by omega), if_neg e] at this
   omega
 obtain ⟨b1, b2, b3, b4⟩ := z8C (z1n S) lA bA (by omega)
 have bB := (b4 (by omega)).2 a2 a4
 have lB : (z1n (z1n S)).length = 5 := by rw [z38, lA]
 have hm := (a1.trans b1).mod
 unfold z31
 generalize z1n (z1n S) = T at bB lB hm
 obtain ⟨c1, c2, c3, c4⟩ := zmZ T lB bB 4 (by omega)
 have hlt := zoj lB bB
 have lM : (redN T 4).length = 5 := by rw [z9J, lB]
 unfold redE
 generalize redN T 4 = M at c1 c2 c3 c4 lM
 have d0 := c2 0 (by omega)
 have d1 := c2 1 (by omega)
 have d2 := c2 2 (by omega)
 have d3 := c2 3 (by omega)
 have e5 := za1 lM
 have hs := z6g M 4 (M.getD 4 0 % 67108864) (by omega)
 simp only [PP] at *
 split
 ·rename_i hne
  have h4 : M.getD 4 0 / 67108864 = 1 := by omega
  have p4 : (67108864 : Nat) ^ 4 = 20282409603651670423947251286016 := rfl
  rw [p4] at hs
  refine ⟨?_, fun j => ?_⟩
  ·rw [hm]
   have : lval T % 1361129467683753853853498429727072845819 = lval T - 1361129467683753853853498429727072845819 := by
    have h1 : 1361129467683753853853498429727072845819 ≤ lval T := by omega
    rw [Nat.mod_eq_sub_mod h1, Nat.mod_eq_of_lt (by omega)]
   rw [this]
   omega
  ·rw [z1j _ _ _ _ (by omega)]
   split
   ·exact Nat.mod_lt _ (by decide)
   ·match j with
    | 0 => exact d0
    | 1 => exact d1
    | 2 => exact d2
    | 3 => exact d3
    | 4 => omega
    | j + 5 => simp [List.getElem?_eq_none (show M.length ≤ j + 5 by omega)]
 ·rename_i hz
  refine ⟨?_, bB⟩
  rw [hm, Nat.mod_eq_of_lt]
  omega
end Go.Pure
namespace Go.Pure
theorem zjy (l : List Nat) (h : Bytes l) : z9 (l.take 8) = z9 l % 18446744073709551616 := by
 have e : z9 l = z9 (l.take 8) + 256 ^ (l.take 8).length * z9 (l.drop 8) := by rw [← zY, List.take_append_drop]
 have h8 := z18 l h 8
 rcases Nat.lt_or_ge l.length 8 with q | q
 ·rw [List.take_of_length_le (by omega)] at h8 ⊢
  exact (Nat.mod_eq_of_lt h8).symm
 ·rw [List.length_take, Nat.min_eq_left q] at e
  have p8 : (256 : Nat) ^ 8 = 18446744073709551616 := rfl
  rw [p8] at e h8
  omega
theorem zfb (l : List Nat) (h : Bytes l) (n : Nat) : z9 (l.drop n) = z9 l / 256 ^ n := by
 rcases Nat.lt_or_ge l.length n with q | q
 ·have := z27 l h
  have hp : 256 ^ l.length ≤ 256 ^ n := Nat.pow_le_pow_right (by decide) (by omega)
  rw [List.drop_of_length_le (by omega), Nat.div_eq_of_lt (by omega)]
  rfl
 ·have e : z9 l = z9 (l.take n) + 256 ^ (l.take n).length * z9 (l.drop n) := by rw [← zY, List.take_append_drop]
  rw [List.length_take, Nat.min_eq_left q] at e
  have hn := z18 l h n
  rw [e, Nat.add_mul_div_left _ _ (Nat.pow_pos (by decide)), Nat.div_eq_of_lt hn, Nat.zero_add]
theorem z5v (b : List Nat) (h : Bytes b) (i : Nat) (hi : i < 5) (hv : z9 b < PP + 5) (hl : b.length ≤ 17) : z79 b i = z9 b / 67108864 ^ i % 67108864 := by
 unfold z79
 have hb := z27 b h
 have hd : z9 (b.drop (min (26 * i / 8) b.length)) = z9 b / 256 ^ (26 * i / 8) := by
  rcases Nat.lt_or_ge b.length (26 * i / 8) with q | q
  ·have hp : 256 ^ b.length ≤ 256 ^ (26 * i / 8) := Nat.pow_le_pow_right (by decide) (by omega)
   rw [Nat.min_eq_right (by omega), List.drop_of_length_le (Nat.le_refl _), Nat.div_eq_of_lt (by omega)]
   rfl
  ·rw [Nat.min_eq_left q, zfb b h]
 rw [zjy _ (h.drop _), hd]
 generalize z9 b = V at hv ⊢
 have : i = 0 ∨ i = 1 ∨ i = 2 ∨ i = 3 ∨ i = 4 := by omega
 rcases this with rfl | rfl | rfl | rfl | rfl <;> simp only [PP] at hv <;> simp <;> omega
theorem zfc (b : List Nat) (h : Bytes b) (hv : z9 b < PP + 5) (hl : b.length ≤ 17) : lval (z28 b) = z9 b ∧ Lim 67108864 (z28 b) := by
 have e : z28 b = [z79 b 0, z79 b 1, z79 b 2, z79 b 3, z79 b 4] := rfl
 refine ⟨?_, fun j => ?_⟩
 ·rw [e, z5v b h 0 (by omega) hv hl, z5v b h 1 (by omega) hv hl, z5v b h 2 (by omega) hv hl, z5v b h 3 (by omega) hv hl, z5v b h 4 (by omega) hv hl]
  generalize z9 b = V at hv
  simp only [lval, PP] at *
  simp
  omega
 ·rw [e]
  match j with
  | 0 => exact z65 b 0
  | 1 => exact z65 b 1
  | 2 => exact z65 b 2
  | 3 => exact z65 b 3
  | 4 => exact z65 b 4
  | j + 5 => simp
theorem z8l (a b v : Nat) : le (a + b) v = le a v ++ le b (v / 256 ^ a) := by
 induction a generalizing v with
 | zero => simp [le]
 | succ a ih =>
  rw [show a + 1 + b = (a + b) + 1 by omega]
  simp only [le, List.cons_append, ih]
  rw [Nat.div_div_eq_div_mul, Nat.pow_succ, Nat.mul_comm 256]
theorem zbJ (n v : Nat) : le n (v % 256 ^ n) = le n v := by
 induction n generalizing v with
 | zero => rfl
 | succ n ih =>
  have hp : 0 < 256 ^ n := Nat.pow_pos (by decide)
  have e1 : v % 256 ^ (n + 1) % 256 = v % 256 := by
   rw [Nat.pow_succ, Nat.mul_comm, Nat.mod_mul, Nat.add_mul_mod_self_left, Nat.mod_mod]
  have e2 : v % 256 ^ (n + 1) / 256 = v / 256 % 256 ^ n := by
   rw [Nat.pow_succ, Nat.mul_comm, Nat.mod_mul, Nat.add_mul_div_left _ _ (by decide), Nat.div_eq_of_lt (Nat.mod_lt _ (by decide)), Nat.zero_add]
  simp only [le, e1, e2, ih]
theorem ze9 {n v u : Nat} (e : v % 256 ^ n = u % 256 ^ n) : le n v = le n u := by rw [← zbJ n v, e, zbJ]
theorem zn0 (S : List Nat) (hS : S.length = 5) (bS : Lim 67108864 S) : lowL S = lval S % 18446744073709551616 := by
 rw [za1 hS]
 unfold lowL
 have h0 := bS 0
 have h1 := bS 1
 have h2 := bS 2
 generalize S.getD 0 0 = a at *
 generalize S.getD 1 0 = b at *
 generalize S.getD 2 0 = c at *
 generalize S.getD 3 0 = d at *
 generalize S.getD 4 0 = e at *
 have m1 : b * 2 ^ 26 % 18446744073709551616 = b * 2 ^ 26 := Nat.mod_eq_of_lt (by omega)
 have m2 : c * 2 ^ 52 % 18446744073709551616 = (c % 4096) * 2 ^ 52 := Nat.mul_mod_mul_right (2 ^ 52) c 4096
 rw [m1, z7R a b 26 (by omega), m2, z7R _ _ 52 (by omega)]
 omega
theorem zls (S : List Nat) (hS : S.length = 5) (bS : Lim 67108864 S) : zeM S = lval S / 18446744073709551616 % 18446744073709551616 := by
 rw [za1 hS]
 unfold zeM
 have h0 := bS 0
 have h1 := bS 1
 have h2 := bS 2
 have h3 := bS 3
 generalize S.getD 0 0 = a at *
 generalize S.getD 1 0 = b at *
 generalize S.getD 2 0 = c at *
 generalize S.getD 3 0 = d at *
 generalize S.getD 4 0 = e at *
 have m1 : d * 2 ^ 14 % 18446744073709551616 = d * 2 ^ 14 := Nat.mod_eq_of_lt (by omega)
 have m2 : e * 2 ^ 40 % 18446744073709551616 = (e % 16777216) * 2 ^ 40 := Nat.mul_mod_mul_right (2 ^ 40) e 16777216
 rw [m1, z7R (c / 2 ^ 12) d 14 (by omega), m2, z7R _ _ 40 (by omega)]
 omega
theorem zjz (S s : List Nat) (hS : S.length = 5) (bS : Lim 67108864 S) (hs : s.length = 16) (bs : Bytes s) : z4E S s = le 16 (lval S + z9 s) := by
 unfold z4E
 simp only [zn0 S hS bS, zls S hS bS]
 have e8 : z9 ((s.drop 8).take 8) = z9 (s.drop 8) := by rw [List.take_of_length_le (by rw [List.length_drop]; omega)]
 have es : z9 s = z9 (s.take 8) + 256 ^ (s.take 8).length * z9 (s.drop 8) := by rw [← zY, List.take_append_drop]
 rw [List.length_take, Nat.min_eq_left (by omega)] at es
 have h1 := z18 s bs 8
 have h2 := z27 _ (bs.drop 8)
 rw [List.length_drop, hs] at h2
 rw [e8, es]
 generalize z9 (s.take 8) = a at *
 generalize z9 (s.drop 8) = b at *
 generalize lval S = V
 have p8 : (256 : Nat) ^ 8 = 18446744073709551616 := rfl
 have p88 : (256 : Nat) ^ (16 - 8) = 18446744073709551616 := rfl
 rw [p8] at h1 ⊢
 rw [p88] at h2
 rw [show (16 : Nat) = 8 + 8 from rfl, z8l]
 congr 1
 ·refine ze9 ?_
  rw [p8]
  omega
 ·refine ze9 ?_
  rw [p8]
  split <;> omega
def z1T (key : List Nat) : List Nat := (List.range 16).map fun i => if i % 4 = 3 then key.getD i 0 % 16 else if 0 < i ∧ i % 4 = 0 then key.getD i 0 / 4 * 4 else key.getD i 0
theorem zsK : ∀ x, x < 256 → x &&& 15 = x % 16 := by decide
theorem zrw : ∀ x, x < 256 → x &&& 252 = x / 4 * 4 := by decide
theorem zrx {l : List Nat} (h : l.length = 16) : ∃ a b c d e f g i j k m n o p q r, l = [a, b, c, d, e, f, g, i, j, k, m, n, o, p, q, r] := by
 match l, h with
 | [a, b, c, d, e, f, g, i, j, k, m, n, o, p, q, r], _ => exact ⟨a, b, c, d, e, f, g, i, j, k, m, n, o, p, q, r, rfl⟩
theorem zok (key : List Nat) (h : Bytes key) (hl : 16 ≤ key.length) : z1i (key.take 16) = z1T key := by
 have hg : ∀ i, i < 16 → key.getD i 0 = (key.take 16).getD i 0 := fun i hi => by
  rw [List.getD_eq_getElem?_getD, List.getD_eq_getElem?_getD, List.getElem?_take, if_pos hi]
 have hb : Bytes (key.take 16) := h.take 16
 have eR : z1T key = z1T (key.take 16) := by
  unfold z1T
  apply List.map_congr_left
  intro i hi
  rw [List.mem_range] at hi
  rw [hg i hi]
 rw [eR]
 obtain ⟨a, b, c, d, e, f, g, i, j, k, m, n, o, p, q, r, hk⟩ := zrx (l := key.take 16) (by rw [List.length_take]; omega)
 rw [hk] at hb ⊢
 have bx : ∀ x ∈ [a, b, c, d, e, f, g, i, j, k, m, n, o, p, q, r], x < 256 := hb
 simp only [List.mem_cons, List.not_mem_nil, or_false, forall_eq_or_imp, forall_eq] at bx
 obtain ⟨b0, b1, b2, b3, b4, b5, b6, b7, b8, b9, b10, b11, b12, b13, b14, b15⟩ := bx
 simp [z1i, z20, z1T, List.range, List.range.loop, zsK, zrw, b3, b4, b7, b8, b11, b12, b15]
theorem zgT {k : List Nat} (h : Bytes k) : Bytes (z1i k) := z3A 252 _ (z3A 15 _ h)
def accR (r : Nat) (m : List Nat) : Nat → Nat
 | 0 => 0
 | i + 1 => (accR r m i + z9 (z3k m i ++ [1])) * r % PP
theorem zk5 (r : Nat) (m : List Nat) (i : Nat) : accR r m i < PP := by
 cases i with
 | zero => show 0 < _; decide
 | succ i => exact Nat.mod_lt _ (by decide)
theorem zgu {m : List Nat} (h : Bytes m) (i : Nat) : z9 (z3k m i ++ [1]) < 680564733841876926926749214863536422912 := by
 have h1 := z27 _ (z5l h 16 i)
 have h2 := z7a 16 m i
 have h3 : 256 ^ (z7T 16 m i).length ≤ 256 ^ 16 := Nat.pow_le_pow_right (by decide) h2
 have p : (256 : Nat) ^ 16 = 340282366920938463463374607431768211456 := rfl
 rw [p] at h3
 show z9 (z7T 16 m i ++ [1]) < _
 rw [zY]
 simp only [z9, Nat.mul_zero, Nat.add_zero, Nat.mul_one]
 omega
theorem zn1 (r m : List Nat) (br : Bytes r) (hr : r.length = 16) (bm : Bytes m) (i : Nat) : lval (tagN (z28 r) m i) % PP = accR (z9 r) m i ∧ Lim 67125248 (tagN (z28 r) m i) := by
 have hrl := z27 r br
 rw [hr] at hrl
 obtain ⟨er, lr⟩ := zfc r br (by simp only [PP]; omega) (by omega)
 induction i with
 | zero =>
  refine ⟨by simp [tagN, zero5, lval, accR], fun j => ?_⟩
  match j with
  | 0 | 1 | 2 | 3 | 4 => simp [tagN, zero5]
  | j + 5 => simp [tagN, zero5]
 | succ i ih =>
  obtain ⟨h1, h2⟩ := ih
  have lc := z7a 16 m i
  have bc : Bytes (z3k m i ++ [1]) := (z5l bm 16 i).append (by intro x hx; simp at hx; omega)
  obtain ⟨ec, lcl⟩ := zfc (z3k m i ++ [1]) bc (by have := zgu bm i; simp only [PP]; omega) (by simp; omega)
  obtain ⟨ea, la⟩ := zmV (tagN (z28 r) m i) (z28 (z3k m i ++ [1])) (z67 _ _ _) (z8g _) h2 lcl (by omega) (by omega)
  obtain ⟨et, lt⟩ := zjx (addL (tagN (z28 r) m i) (z28 (z3k m i ++ [1]))) (z28 r) (by rw [addL, z62, z67]) (z8g _) (la.mono (by omega)) lr
  refine ⟨?_, lt⟩
  show lval (z3z _ _) % PP = _
  rw [← et.mod, ea, ec, er]
  show _ = (accR (z9 r) m i + z9 (z3k m i ++ [1])) * z9 r % PP
  rw [← h1, Nat.mul_mod, Nat.add_mod]
  conv => rhs; rw [Nat.mul_mod, Nat.add_mod, Nat.mod_mod]
theorem zqc (key m : List Nat) (hk : key.length = 32) (bk : Bytes key) (bm : Bytes m) :
  tagL key m = le 16 (accR (z9 (z1T key)) m ((m.length + 15) / 16) + z9 (key.drop 16)) := by
 have bc : Bytes (z1i (key.take 16)) := zgT (bk.take 16)
 have lc : (z1i (key.take 16)).length = 16 := by unfold z1i; rw [z4n, z4n, List.length_take]; omega
 obtain ⟨h1, h2⟩ := zn1 (z1i (key.take 16)) m bc lc bm ((m.length + 15) / 16)
 obtain ⟨g1, g2⟩ := ziQ _ (z67 _ _ _) h2
 unfold tagL
 rw [zjz _ _ (by rw [zdi, z67]) g2 (by rw [List.length_drop]; omega) (bk.drop 16), g1, h1, zok key bk (by omega)]
end Go.Pure
namespace Go.Pure
abbrev QQ : Nat := 1361129467683753853853498429727072845824
def z4M (v : Nat) : Nat := v % QQ + 5 * (v / QQ)
def z4r (v : Nat) : Nat → Nat
 | 0 => v
 | i + 1 => z4M (z4r v i)
theorem zea (v : Nat) : z4M v ≤ v := by unfold z4M QQ; omega
theorem ziR (v i : Nat) : z4r v i ≤ v := by
 induction i with
 | zero => exact Nat.le_refl _
 | succ i ih => exact Nat.le_trans (zea _) ih
theorem zn2 (v : Nat) : Red v (z4M v) := ⟨v / QQ, by unfold z4M QQ PP; omega⟩
theorem zn3 (v i : Nat) : Red v (z4r v i) := by
 induction i with
 | zero => exact Red.refl _
 | succ i ih => exact ih.trans (zn2 _)
theorem zol (v : Nat) (hv : v < 2 ^ 256) : z4r v 4 < QQ := by
 have h1 : z4r v 1 < 2 * QQ := by
  show z4M v < _
  unfold z4M QQ
  omega
 have h2 : z4r v 2 < QQ := by
  show z4M (z4r v 1) < QQ
  have h3 : z4r v 1 < 1361129467683753853853498429727072845824 + 600000000000000000000000000000000000000 := by
   show z4M v < _
   unfold z4M QQ
   omega
  generalize z4r v 1 = w at *
  unfold z4M QQ at *
  omega
 have h3 : z4r v 3 < QQ := Nat.lt_of_le_of_lt (zea _) h2
 exact Nat.lt_of_le_of_lt (zea _) h3
theorem zn4 {A : List Nat} (hA : Bytes A) (i : Nat) : z9 A / QQ / 256 ^ i % 256 = A.getD (16 + i) 0 / 4 + A.getD (17 + i) 0 % 4 * 64 := by
 have e1 : z9 A / QQ / 256 ^ i = z9 (A.drop (16 + i)) / 4 := by
  rw [zfb A hA, Nat.pow_add, Nat.div_div_eq_div_mul, Nat.div_div_eq_div_mul]
  congr 1
  have : QQ = 256 ^ 16 * 4 := rfl
  rw [this, Nat.mul_assoc, Nat.mul_assoc, Nat.mul_comm 4]
 have e2 : z9 (A.drop (16 + i)) = A.getD (16 + i) 0 + 256 * (A.getD (17 + i) 0 + 256 * z9 (A.drop (18 + i))) := by
  have d : ∀ n, z9 (A.drop n) = A.getD n 0 + 256 * z9 (A.drop (n + 1)) := by
   intro n
   rcases Nat.lt_or_ge n A.length with q | q
   ·rw [List.drop_eq_getElem_cons q]
    simp [z9, List.getD_eq_getElem?_getD, q]
   ·rw [List.drop_of_length_le q, List.drop_of_length_le (by omega)]
    simp [z9, List.getElem?_eq_none q]
  rw [d (16 + i), show 16 + i + 1 = 17 + i by omega, d (17 + i), show 17 + i + 1 = 18 + i by omega]
 have h1 := hA.getD (16 + i)
 have h2 := hA.getD (17 + i)
 rw [e1, e2]
 omega
theorem zqd {A : List Nat} (hA : Bytes A) (hl : 17 ≤ A.length) : z9 (A.take 16 ++ [A.getD 16 0 % 4]) = z9 A % QQ := by
 rw [zY]
 have h16 : (A.take 16).length = 16 := by rw [List.length_take]; omega
 have e : z9 A = z9 (A.take 16) + 256 ^ 16 * z9 (A.drop 16) := by
  conv => lhs; rw [← List.take_append_drop 16 A, zY, h16]
 have e2 : z9 (A.drop 16) = A.getD 16 0 + 256 * z9 (A.drop 17) := by
  rw [List.drop_eq_getElem_cons (show 16 < A.length by omega)]
  simp [z9, List.getD_eq_getElem?_getD, show 16 < A.length by omega]
 have h1 := z18 A hA 16
 rw [h16, e, e2]
 have p : (256 : Nat) ^ 16 = 340282366920938463463374607431768211456 := rfl
 rw [p] at *
 simp only [z9, QQ]
 omega
theorem zk6 (n k v : Nat) (h : k ≤ n) : (le n v).take k = le k v := by
 obtain ⟨d, rfl⟩ : ∃ d, n = k + d := ⟨n - k, by omega⟩
 rw [z8l, List.take_append_of_le_length (by rw [zE]; omega), List.take_of_length_le (by rw [zE]; omega)]
theorem zom (w v : Nat) (hw : w < QQ) (r : Red v w) : v % PP = if w < PP then w else w + 5 - QQ := by
 rw [r.mod]
 split
 ·rename_i h; exact Nat.mod_eq_of_lt h
 ·rename_i h
  unfold QQ PP at *
  rw [Nat.mod_eq_sub_mod (by omega), Nat.mod_eq_of_lt (by omega)]
  omega
end Go.Pure
namespace Go.Proofs.YtoikhbagchfeoaaGreat
open Go Go.SL Go.Pure
theorem zon {h : Hp} (a : Option Addr) (n c hi : Nat) (h1 : hi ≤ c) : peek P h (Instr.sliceAt zH (.slice a n c) none (some (.int .i64 hi)) none) = some (.slice (SL.cut a c 0 1) hi c) := by
 obtain ⟨x, hx, e⟩ := z1v (K := fun x => x = .slice (SL.cut a c 0 1) hi c) ((z6o (P := P) (h := h) (K := fun x => x = .slice (SL.cut a c 0 1) hi c) zK z1U a n c .i64 hi h1).mpr rfl)
 rw [e] at hx
 exact hx
theorem zn5 {h : Hp} {a : Option Addr} {c hi : Nat} {l : List Nat} (r : Rn h .i64 (.slice a l.length c) l) (h1 : hi ≤ l.length) : Rn h .i64 (.slice (SL.cut a c 0 1) hi c) (l.take hi) := by
 have := r.cut 0 hi (Nat.zero_le _) h1
 simpa using this
theorem zry {h : Hp} {a : Addr} {v : Value} (e : h.cell a = some v) : peek P h (Instr.loadAt zi (.pointer (some a))) = some v := by
 obtain ⟨x, hx, e⟩ := z1v (K := fun x => x = v) ((q_ld (P := P) (h := h) (K := fun x => x = v) z9u rfl a).mpr (by rw [e]; rfl))
 rw [e] at hx
 exact hx
section
variable {h : Hp} {K : Value → Hp → Prop}
theorem zsL {H0 : Hp} {a : Option Addr} {c : Nat} {A : List Nat} (b o : Nat) (x : Nat) (hA : Rn H0 .i64 (.slice a A.length c) A) (l16 : 16 ≤ A.length) (hx : H0.cell ⟨b, o, none⟩ = some (.int .i64 (x : Int)))
  (J : Value → Hp → Prop) (fin : ∀ B t63 h', Hp.le H0 B → Hp.cle H0 B → New B zi 1 t63 h' (nv .i64 (A.take 16 ++ [x % 4])) 17 → J t63 h') :
  (aw P (Instr.buildSlice zH 0 #[]) (fun t54 h => peek P h (Instr.loadAt zi (.pointer (some ⟨b, o, none⟩))) = some (.int .i64 (x : Int)) ∧ peek P h (Instr.sliceAt zH (.slice a A.length c) none (some (Value.int .i64 16)) none) = some (.slice (SL.cut a c 0 1) 16 c) ∧ (aw P (Builtin.append_ #[zH, zH] zH #[t54, (.slice (SL.cut a c 0 1) 16 c)]) (fun t57 h => peek P h (Instr.loadAt zi (.pointer (some ⟨b, o, none⟩))) = some (.int .i64 (x : Int)) ∧ aw P (Instr.buildSlice zH 1 #[(0, .int .i64 ((x % 4 : Nat) : Int))]) (fun t62 h => aw P (Builtin.append_ #[zH, zH] zH #[t57, t62]) (fun t63 h => J t63 h) h) h) h) ∧ (aw P (Instr.buildSlice zH 1 #[(0, .int .i64 ((x % 4 : Nat) : Int))]) (fun t62 h => peek P h (Instr.sliceAt zH (.slice a A.length c) none (some (Value.int .i64 16)) none) = some (.slice (SL.cut a c 0 1) 16 c) ∧ aw P (Builtin.append_ #[zH, zH] zH #[t54, (.slice (SL.cut a c 0 1) 16 c)]) (fun t57 h => aw P (Builtin.append_ #[zH, zH] zH #[t57, t62]) (fun t63 h => J t63 h) h) h) h)) H0) ∧ (aw P (Instr.buildSlice zH 1 #[(0, .int .i64 ((x % 4 : Nat) : Int))]) (fun t62 h => peek P h (Instr.sliceAt zH (.slice a A.length c) none (some (Value.int .i64 16)) none) = some (.slice (SL.cut a c 0 1) 16 c) ∧ aw P (Instr.buildSlice zH 0 #[]) (fun t54 h => peek P h (Instr.sliceAt zH (.slice a A.length c) none (some (Value.int .i64 16)) none) = some (.slice (SL.cut a c 0 1) 16 c) ∧ aw P (Builtin.append_ #[zH, zH] zH #[t54, (.slice (SL.cut a c 0 1) 16 c)]) (fun t57 h => aw P (Builtin.append_ #[zH, zH] zH #[t57, t62]) (fun t63 h => J t63 h) h) h) h) H0) := by
 have hc : A.length ≤ c := by
  obtain ⟨a', c', e, hc⟩ := hA.shape
  simp only [Value.slice.injEq] at e
  omega
 have h16 : Rn H0 .i64 (.slice (SL.cut a c 0 1) 16 c) (A.take 16) := zn5 hA l16
 have r16 : Rds H0 1 (.slice (SL.cut a c 0 1) 16 c) (nv .i64 (A.take 16)) 16 := by
  have := h16
  unfold Rn at this
  rwa [List.length_take, Nat.min_eq_left l16] at this
 have ps : ∀ H, peek P H (Instr.sliceAt zH (.slice a A.length c) none (some (Value.int .i64 16)) none) = some (.slice (SL.cut a c 0 1) 16 c) := fun H => zon a _ c 16 (by omega)
 have pl : ∀ H, Hp.cle H0 H → peek P H (Instr.loadAt zi (.pointer (some ⟨b, o, none⟩))) = some (.int .i64 (x : Int)) := fun H cl => zry (cl _ _ hx)
 have nil0 : ∀ (H : Hp) (K : Value → Hp → Prop), (∀ v h', New H zi 1 v h' [] 0 → K v h') → aw P (Instr.buildSlice zH 0 #[]) K H := fun H K k =>
  zT (n := 0) (ps := []) zK z1U z4b rfl (by omega) (by intro p hp; cases hp) fun v h' n _ => k v h' (by simpa [z1f] using n)
 have one : ∀ (H : Hp) (K : Value → Hp → Prop), (∀ v h', New H zi 1 v h' (nv .i64 [x % 4]) 1 → (∃ r f, H r = none ∧ h' = H.set r f) → K v h') → aw P (Instr.buildSlice zH 1 #[(0, .int .i64 ((x % 4 : Nat) : Int))]) K H := fun H K k =>
  zT (n := 1) (ps := [(0, _)]) zK z1U z4b rfl (by omega) (by intro p hp; rw [List.mem_singleton.1 hp]; exact ⟨rfl, by omega⟩) fun v h' n ⟨r, hr, _, hh⟩ => k v h' (by simpa [z1f, nv] using n) ⟨r, _, hr, hh⟩
 have app1 : ∀ (B H : Hp) (v : Value) (K : Value → Hp → Prop), Hp.cle H0 H → New B zi 1 v H [] 0 → (∀ v' h', New B zi 1 v' h' (nv .i64 (A.take 16)) 16 → K v' h') → aw P (Builtin.append_ #[zH, zH] zH #[v, (.slice (SL.cut a c 0 1) 16 c)]) K H := fun B H v K cl n k =>
  z1t zK zK z2J rfl (by omega) n (r16.mono cl) (zq _ _) (by omega) (.refl _) fun v' h' n' => k v' h' (by simpa using n')
 have app2 : ∀ (B H : Hp) (v w : Value), Hp.le H0 B → Hp.cle H0 B → New B zi 1 v H (nv .i64 (A.take 16)) 16 → Rds H 1 w (nv .i64 [x % 4]) 1 → aw P (Builtin.append_ #[zH, zH] zH #[v, w]) (fun t63 h => J t63 h) H := fun B H v w l0 c0 n hw =>
  z1t zK zK z2J rfl (by omega) n hw (zq _ _) (by omega) (.refl _) fun v' h' n' => fin B v' h' l0 c0 (by rw [z13]; exact n')
 refine ⟨nil0 _ _ fun t54 h1 n1 => ⟨pl _ n1.cle, ps _, app1 _ _ _ _ n1.cle n1 fun t57 h2 n2 => ⟨pl _ n2.cle, one _ _ fun t62 h3 n3 _ => ?_⟩, one _ _ fun t62 h2 n2 ⟨r, f, hr, hh⟩ => ⟨ps _, ?_⟩⟩, one _ _ fun t62 h1 n1 ⟨r, f, hr, hh⟩ => ⟨ps _, nil0 _ _ fun t54 h2 n2 => ⟨ps _, app1 _ _ _ _ (n1.cle.trans n2.cle) n2 fun t57 h3 n3 => ?_⟩⟩⟩
 ·exact zQ zK zK z2J rfl (by omega) n2 n3 (zq _ _) (by omega) fun v' h' n' => fin H0 v' h' (.refl _) (.refl _) (by rw [z13]; exact n')
 ·have hr0 : H0 r = none := n1.noneAt hr
  have n1' := n1.add hr f
  rw [← hh] at n1'
  have rw' : Rds h2 1 t62 (nv .i64 [x % 4]) 1 := n2.rds
  have base : Rds (H0.set r f) 1 t62 (nv .i64 [x % 4]) 1 := by
   rcases n2.2 with ⟨_, h0, _⟩ | ⟨b', c', f', hb', hc', hv', hh', _⟩
   ·omega
   ·have : b' = r := by
     rcases Nat.lt_trichotomy b' r with q | q | q
     ·have e1 : h2 b' = h1 b' := by rw [hh, Hp.set_ne _ _ (by omega)]
      rw [hh', Hp.set_same, hb'] at e1; cases e1
     ·exact q
     ·have e1 : h2 b' = h1 b' := by rw [hh, Hp.set_ne _ _ (by omega)]
      rw [hh', Hp.set_same, hb'] at e1; cases e1
    subst this
    have ef : f = .row zi (nv .i64 [x % 4]) (c' * 1) (some f') := by
     have := congrFun hh b'
     rw [hh', Hp.set_same, Hp.set_same] at this
     cases this; rfl
    subst ef
    exact New.rds ⟨n2.1, .inr ⟨b', c', f', hr0, hc', hv', rfl, by assumption⟩⟩
  refine app1 _ _ _ _ (n1.cle.trans n2.cle) n1' fun t57 h3 n3 => ?_
  exact app2 _ _ _ _ (zP hr0) (z2c r f hr0) n3 (base.mono n3.cle)
 ·subst hh
  exact app2 _ _ _ _ (zP hr) (z2c r f hr) n3 ((n1.rds.mono n2.cle).mono (by
   have := n3.cle
   intro p v hp
   rcases n2.2 with ⟨_, _, e⟩ | ⟨b', c', f', hb', hc', hv', hh', hfz⟩
   ·subst e; exact this p v hp
   ·rcases n3.2 with ⟨_, h0, _⟩ | ⟨b3, c3, f3, hb3, hc3, hv3, hh3, _⟩
    ·omega
    ·subst hh' hh3
     unfold Hp.cell at hp ⊢
     split at hp
     ·cases hp
     ·rename_i hsp
      rw [if_neg hsp]
      by_cases e1 : p.block = b'
      ·rw [e1, Hp.set_same] at hp
       simp at hp
      ·rw [Hp.set_ne _ _ e1] at hp
       have e3 : p.block ≠ b3 := by
        rintro e3
        rw [e3] at hp
        rw [hb3] at hp
        cases hp
       rw [Hp.set_ne _ _ e3]
       exact hp))
end
theorem zlt {a b c d : List Nat} (x : a = b) (y : c = d) : a ++ c = b ++ d := by rw [x, y]
section
variable {h : Hp} {K : Value → Hp → Prop}
theorem zlu {va : Value} {A0 : List Nat} (ha : Rn h .i64 va A0) (b0 : Bytes A0) (l0 : A0.length = 36) (hv : z9 A0 < 2 ^ 256) (k : ∀ r h', Nn h zi .i64 r h' (le 17 (z9 A0 % PP)) → K r h') :
  Cn P zcN #[va] h K := by
 refine Cn_wk (zd3 ?_)
 unfold z6S
 refine Lp_mk (fun u vs h' => ∃ (i : Nat) (v : Value) (A : List Nat), i + u = 4 ∧ Hp.le h h' ∧ Hp.cle h h' ∧ Rn h' .i64 v A ∧ A.length = 36 ∧ Bytes A ∧ z9 A = z4r (z9 A0) i ∧ vs = [v, .int .i64 (i : Int)]) 4
  ⟨0, va, A0, rfl, .refl _, .refl _, ha, l0, b0, rfl, rfl⟩ ?_
 rintro u vs h1 ⟨i, v, A, hi, le1, c1, hA, lA, bA, eA, rfl⟩
 simp -zeta (disch := omega) only [GL, RL, z7j]
 have hAlt : z9 A < 2 ^ 256 := by rw [eA]; exact Nat.lt_of_le_of_lt (ziR _ _) hv
 obtain ⟨a, c, rfl, hc⟩ := hA.shape
 obtain ⟨b, o, rfl, hy⟩ := hA.pos (by omega)
 by_cases hlt : i < 4
 ·simp -zeta only [hlt, decide_true, if_true]
  refine z2w (n := 20) (c := 20) zK z2J rfl (by omega) (by omega) (by omega) fun t13 h2 hw => ?_
  obtain ⟨b13, c13, f13, hb13, hc13, rfl, _, _⟩ := hw.form (by omega)
  rw [z1E] at hw
  intro J9
  have fin : ∀ h3, New h1 zi 1 (.slice (some ⟨b13, 0, none⟩) 20 c13) h3 (nv .i64 (le 20 (z9 A / QQ))) 20 → J9 h3 := by
   intro h3 hw3
   simp -zeta only [J9]
   clear J9
   intro J17
   have hw3' : Nn h1 zi .i64 (.slice (some ⟨b13, 0, none⟩) 20 c13) h3 (le 20 (z9 A / QQ)) := by
    unfold Nn; rw [zE]; exact hw3
   have hA3 := hA.mono hw3.cle
   have hx := hw3.cle _ _ (hy 16 (by omega))
   refine (z6o (hi := 16) zK z1U _ _ c .i64 (by omega)).mpr ?_
   have em : ((A.getD 16 0 : Nat) : Int).tmod 4 = ((A.getD 16 0 % 4 : Nat) : Int) := (Int.ofNat_tmod _ 4).symm
   simp (disch := omega) only [GL, RL, Int.reduceToNat, hx, em]
   refine zsL b (o + 16) (A.getD 16 0) hA3 (by omega) hx J17 ?_
   intro B t63 h4 lB cB n4
   simp only [J17]
   clear J17
   have n4' : Nn B zi .i64 t63 h4 (A.take 16 ++ [A.getD 16 0 % 4]) := by
    unfold Nn
    rw [show (A.take 16 ++ [A.getD 16 0 % 4]).length = 17 by rw [List.length_append, List.length_take]; simp; omega]
    exact n4
   have c34 : Hp.cle h3 h4 := cB.trans n4.cle
   have h13 := (hw3'.rn.mono c34)
   refine z4N zK z1U h13 .i64 17 (by rw [zE]; omega) fun t66 hr66 => ?_
   rw [zk6 20 17 _ (by omega)] at hr66
   refine zT (n := 1) (ps := [(0, _)]) zK z1U z4b rfl (by omega) (by intro p hp; rw [List.mem_singleton.1 hp]; exact ⟨rfl, by omega⟩) fun t67 h5 n5 _ => ?_
   have n5' : Nn h4 zi .i64 t67 h5 [5] := by unfold Nn; simpa [z1f, nv] using n5
   have hV : z9 A / QQ < 256 ^ 17 := by
    have p : (256 : Nat) ^ 17 = 87112285931760246646623899502532662132736 := rfl
    rw [p]
    unfold QQ
    omega
   refine zds (hr66.mono n5.cle) n5'.rn (z1s _ _) (by intro x hx; simp at hx; omega) (by rw [zE]; simp) fun t68 h6 n6 => ?_
   have e5 : z9 [5] = 5 := rfl
   rw [z2C, Nat.mod_eq_of_lt hV, e5] at n6
   refine z4N zK z1U n6.rn .i64 20 (by rw [zE]; omega) fun t69 hr69 => ?_
   rw [zk6 36 20 _ (by omega)] at hr69
   have bl : Bytes (A.take 16 ++ [A.getD 16 0 % 4]) := (bA.take 16).append (by intro x hx; simp at hx; omega)
   refine z8k 36 (by omega) (by omega) ((n4'.rn.mono n5.cle).mono n6.cle) hr69 bl (z1s _ _) fun t70 h7 n7 => ?_
   have e20 : z9 (le 20 (z9 A / QQ * 5)) = 5 * (z9 A / QQ) := by
    rw [z2C, Nat.mul_comm, Nat.mod_eq_of_lt]
    have p : (256 : Nat) ^ 20 = 1461501637330902918203684832716283019655932542976 := rfl
    have p7 : (256 : Nat) ^ 17 = 87112285931760246646623899502532662132736 := rfl
    omega
   rw [zqd bA (by omega), e20] at n7
   have estep : z9 A % QQ + 5 * (z9 A / QQ) = z4r (z9 A0) (i + 1) := by
    show _ = z4M (z4r (z9 A0) i)
    rw [← eA]; rfl
   rw [estep] at n7
   simp (disch := omega) only [GL, RL, wi64]
   refine ⟨h7, .refl _, u - 1, by omega, i + 1, t70, _, by omega, ((((le1.trans hw3.le).trans lB).trans n4.le).trans n5.le).trans (n6.le.trans n7.le), ((c1.trans hw3.cle).trans c34).trans (n5.cle.trans (n6.cle.trans n7.cle)), n7.rn, zE _ _, z1s _ _, ?_, rfl⟩
   rw [z2C, Nat.mod_eq_of_lt]
   have q := z27 A0 b0
   rw [l0] at q
   exact Nat.lt_of_le_of_lt (ziR (z9 A0) (i + 1)) q
  clear_value J9
  refine Lp_mk (fun u vs h' => ∃ j : Nat, j + u = 20 ∧ New h1 zi 1 (.slice (some ⟨b13, 0, none⟩) 20 c13) h' (nv .i64 ((le 20 (z9 A / QQ)).take j ++ List.replicate (20 - j) 0)) 20 ∧ vs = [.int .i64 (j : Int)]) 20
   ⟨0, rfl, by simpa using hw, rfl⟩ ?_
  clear hw
  rintro u' vs h3 ⟨j, hj, hw, rfl⟩
  intro J12
  have e20 : decide ((j : Int) < 20) = decide (j < 20) := zL j 20
  simp (disch := omega) only [GL, RL, e20, wi64]
  by_cases hjl : j < 20
  ·have e36 : decide ((16 : Int) + (j : Int) < ((A.length : Nat) : Int)) = true := decide_eq_true (by omega)
   simp only [hjl, decide_true, if_true, e36]
   have e16 : (16 : Int) + (j : Int) = ((16 + j : Nat) : Int) := by omega
   have e17 : (17 : Int) + (j : Int) = ((17 + j : Nat) : Int) := by omega
   have e37 : decide (((17 + j : Nat) : Int) < ((A.length : Nat) : Int)) = decide (17 + j < A.length) := zL _ _
   simp only [J12]
   clear J12
   have x1 := bA.getD (16 + j)
   have x2 := bA.getD (17 + j)
   have d1 : ((A.getD (16 + j) 0 : Nat) : Int).tdiv 4 = ((A.getD (16 + j) 0 / 4 : Nat) : Int) := (Int.ofNat_tdiv _ 4).symm
   have d2 : ((A.getD (17 + j) 0 : Nat) : Int).tmod 4 = ((A.getD (17 + j) 0 % 4 : Nat) : Int) := (Int.ofNat_tmod _ 4).symm
   have y1 := hw.cle _ _ (hy (16 + j) (by omega))
   simp (disch := omega) only [GL, RL, wi64, e16, e17, e37, y1, d1]
   refine z1K z1U hw hjl rfl fun h4 hw4 => ?_
   rw [z1O] at hw4
   have hst := zfI 20 (z9 A / QQ) j hjl
   rw [zn4 bA] at hst
   have step : ∀ h5, New h1 zi 1 (.slice (some ⟨b13, 0, none⟩) 20 c13) h5 (nv .i64 (((le 20 (z9 A / QQ)).take j ++ List.replicate (20 - j) 0).set j (A.getD (16 + j) 0 / 4 + A.getD (17 + j) 0 % 4 * 64))) 20 →
     ∃ h0, Hp.le h0 h5 ∧ ∃ m, m < u' ∧ ∃ j_1 : Nat, j_1 + m = 20 ∧ New h1 zi 1 (.slice (some ⟨b13, 0, none⟩) 20 c13) h0 (nv .i64 ((le 20 (z9 A / QQ)).take j_1 ++ List.replicate (20 - j_1) 0)) 20 ∧ [Value.int .i64 ((j : Int) + 1)] = [.int .i64 (j_1 : Int)] := by
    intro h5 hw5
    rw [hst] at hw5
    exact ⟨h5, .refl _, u' - 1, by omega, j + 1, by omega, hw5, rfl⟩
   have lL : ((le 20 (z9 A / QQ)).take j ++ List.replicate (20 - j) 0).length = 20 := by rw [List.length_append, List.length_take, zE, List.length_replicate]; omega
   generalize (le 20 (z9 A / QQ)).take j ++ List.replicate (20 - j) 0 = L at hw hw4 step lL
   by_cases h36 : 17 + j < A.length
   ·have y2 := hw4.cle _ _ (hy (17 + j) h36)
    have y3 : h4.cell ⟨b13, j, none⟩ = some (.int .i64 ((A.getD (16 + j) 0 / 4 : Nat) : Int)) := by
     obtain ⟨bw, cw, fw, hbw, _, hvw, hhw, _⟩ := hw4.form (by omega)
     simp only [Value.slice.injEq, Option.some.injEq, Addr.mk.injEq] at hvw
     obtain ⟨⟨rfl, _⟩, _, rfl⟩ := hvw
     have := zJ (h := h4) (g := b13) (i := j) (S := L.set j (A.getD (16 + j) 0 / 4)) (by rw [hhw]; exact Hp.set_same ..) (by rw [List.length_set]; omega)
     rw [z1j _ _ _ _ (by omega), if_pos rfl] at this
     exact this
    simp (disch := omega) only [GL, RL, wi64, e16, e17, e37, h36, decide_true, if_true, y2, y3, d2]
    have ev : ((A.getD (16 + j) 0 / 4 : Nat) : Int) + ((A.getD (17 + j) 0 % 4 : Nat) : Int) * 64 = ((A.getD (16 + j) 0 / 4 + A.getD (17 + j) 0 % 4 * 64 : Nat) : Int) := by push_cast; omega
    rw [ev]
    refine z1K z1U hw4 hjl rfl fun h5 hw5 => ?_
    rw [z1O, List.set_set] at hw5
    exact step h5 hw5
   ·have z : A.getD (17 + j) 0 = 0 := by simp [List.getElem?_eq_none (show A.length ≤ 17 + j by omega)]
    simp (disch := omega) only [GL, RL, wi64, e16, e17, e37, h36, decide_false, Bool.false_eq_true, if_false]
    refine step h4 ?_
    rw [z]
    exact hw4
  ·obtain rfl : j = 20 := by omega
   simp only [hjl, decide_false, Bool.false_eq_true, if_false]
   refine fin h3 ?_
   rw [List.take_of_length_le (by rw [zE]; omega)] at hw
   simpa using hw
 ·obtain rfl : i = 4 := by omega
  simp only [hlt, decide_false, Bool.false_eq_true, if_false]
  have hlt4 := zol (z9 A0) hv
  have hred := zn3 (z9 A0) 4
  rw [← eA] at hlt4 hred
  have hres := zom _ _ hlt4 hred
  refine zT (n := 0) (ps := []) zK z1U z4b rfl (by omega) (by intro p hp; cases hp) fun t71 h2 n2 _ => ?_
  refine (z6o (hi := 17) zK z1U _ _ c .i64 (by omega)).mpr ?_
  have r17 : Rn h2 .i64 (.slice (SL.cut (some ⟨b, o, none⟩) c 0 1) 17 c) (A.take 17) := (zn5 hA (by omega)).mono n2.cle
  have l17 : (A.take 17).length = 17 := by rw [List.length_take]; omega
  have rr17 : Rds h2 1 (.slice (SL.cut (some ⟨b, o, none⟩) c 0 1) 17 c) (nv .i64 (A.take 17)) 17 := by unfold Rn at r17; rwa [l17] at r17
  refine z1t zK zK z2J rfl (by omega) n2 rr17 (zq _ _) (by omega) (.refl _) fun t74 h3 n3 => ?_
  have n3' : Nn h1 zi .i64 t74 h3 (A.take 17) := by unfold Nn; rw [l17]; simpa [z1f] using n3
  have e17 : z9 (A.take 17) = z9 A := by
   have e := z3w A 17
   have p : (256 : Nat) ^ 17 = 87112285931760246646623899502532662132736 := rfl
   rw [p] at e
   unfold QQ at hlt4
   omega
  refine zjv fun t75 h4 n4 => ?_
  refine zlp (n3'.rn.mono n4.cle) n4.rn (bA.take 17) ziP l17 zlq ?_
  have pv : z9 primeL = PP := by rw [zlr]
  rw [e17, pv]
  simp (disch := omega) only [GL, RL]
  obtain ⟨hm, lm, n3m⟩ := n3'.down le1
  by_cases hP : z9 A < PP
  ·rw [if_pos hP] at hres
   simp only [hP, decide_true, Bool.not_true, Bool.false_eq_true, if_false]
   refine ⟨hm, lm.trans n4.le, k _ _ ?_⟩
   rw [hres, ← e17]
   have := z68 (bA.take 17)
   rw [l17] at this
   rw [this]
   exact n3m
  ·rw [if_neg hP] at hres
   simp only [hP, decide_false, Bool.not_false, if_true]
   refine zT (n := 1) (ps := [(0, _)]) zK z1U z4b rfl (by omega) (by intro p hp; rw [List.mem_singleton.1 hp]; exact ⟨rfl, by omega⟩) fun t81 h5 n5 _ => ?_
   have n5' : Nn h4 zi .i64 t81 h5 [5] := by unfold Nn; simpa [z1f, nv] using n5
   refine z8k 17 (by omega) (by omega) ((n3'.rn.mono n4.cle).mono n5.cle) n5'.rn (bA.take 17) (by intro x hx; simp at hx; omega) fun t82 h6 n6 => ?_
   have e5 : z9 [5] = 5 := rfl
   rw [e17, e5] at n6
   have n6d : New h5 zi 1 t82 h6 (nv .i64 (le 17 (z9 A + 5))) 17 := by have := n6; unfold Nn at this; rwa [zE] at this
   obtain ⟨b82, c82, f82, hb82, hc82, rfl, hh6, _⟩ := n6d.form (by omega)
   have y : h6.cell ⟨b82, 16, none⟩ = some (.int .i64 (((le 17 (z9 A + 5)).getD 16 0 : Nat) : Int)) := zJ (by rw [hh6]; exact Hp.set_same ..) (by rw [zE]; omega)
   have em : (((le 17 (z9 A + 5)).getD 16 0 : Nat) : Int).tmod 4 = (((le 17 (z9 A + 5)).getD 16 0 % 4 : Nat) : Int) := (Int.ofNat_tmod _ 4).symm
   simp (disch := omega) only [GL, RL, y, em, Int.reduceToNat]
   refine z1K (i := 16) z1U n6d (by omega) rfl fun h7 n7 => ?_
   rw [z1O] at n7
   have el : (le 17 (z9 A + 5)).set 16 ((le 17 (z9 A + 5)).getD 16 0 % 4) = le 17 (z9 A + 5 - QQ) := by
    rw [zhU 17 _ 16 (by omega), show (17 : Nat) = 16 + 1 from rfl, z8l, z8l, List.set_append_right _ _ (by rw [zE]; omega), zE]
    have p : (256 : Nat) ^ 16 = 340282366920938463463374607431768211456 := rfl
    rw [p]
    unfold QQ at *
    unfold PP at hP
    refine zlt ?_ ?_
    ·refine ze9 ?_
     rw [p]; omega
    ·simp only [le, Nat.sub_self, List.set_cons_zero]
     refine congrArg (fun x => [x]) ?_
     omega
   rw [el, ← hres] at n7
   have n7' : Nn h5 zi .i64 (.slice (some ⟨b82, 0, none⟩) 17 c82) h7 (le 17 (z9 A0 % PP)) := by unfold Nn; rw [zE]; exact n7
   obtain ⟨hn, ln, n7m⟩ := n7'.down (((le1.trans n3'.le).trans n4.le).trans n5.le)
   exact ⟨hn, ln, k _ _ n7m⟩
end
theorem New.swap {h ha h' : Hp} {e s e2 s2 : Nat} {v w : Value} {xs ys : List Value} {n m : Nat} (a : New h e s v ha xs n) (b : New ha e2 s2 w h' ys m) : ∃ hb, New h e2 s2 w hb ys m ∧ New hb e s v h' xs n := by
 rcases b.2 with ⟨e1, e2, rfl⟩ | ⟨bb, c, f, hb, hc, hv, rfl, hf⟩
 ·exact ⟨h, ⟨b.1, .inl ⟨e1, e2, rfl⟩⟩, a⟩
 ·exact ⟨_, ⟨b.1, .inr ⟨bb, c, f, a.noneAt hb, hc, hv, rfl, hf⟩⟩, a.add hb _⟩
def z4i (key : List Nat) (i : Nat) : Nat := if i % 4 = 3 then key.getD i 0 % 16 else if 0 < i ∧ i % 4 = 0 then key.getD i 0 / 4 * 4 else key.getD i 0
theorem zjA (key : List Nat) (i : Nat) (hi : i < 16) : (z1T key).take (i + 1) = (z1T key).take i ++ [z4i key i] := by
 rw [List.take_succ_eq_append_getElem (by simp [z1T]; exact hi)]
 congr 1
 simp [z1T, z4i]
theorem z7f (key : List Nat) : (z1T key).length = 16 := by simp [z1T]
theorem zn6 {key : List Nat} (h : Bytes key) (i : Nat) : z4i key i < 256 := by
 have := h.getD i
 unfold z4i
 split
 ·omega
 ·split <;> omega
theorem zc7 {key : List Nat} (h : Bytes key) : Bytes (z1T key) := by
 intro x hx
 obtain ⟨i, _, rfl⟩ := List.mem_map.1 hx
 exact zn6 h i
theorem zn7 {key : List Nat} (h : Bytes key) : z9 (z1T key) < 21267647932558653966460912964485513216 := by
 have e : (z1T key).take 16 = z1T key := List.take_of_length_le (by rw [z7f]; omega)
 have e2 := z2s (z1T key) 15
 rw [e] at e2
 have h15 : (z1T key).getD 15 0 < 16 := by
  have : (z1T key).getD 15 0 = z4i key 15 := by simp [z1T, z4i]
  rw [this]
  simp only [z4i, Nat.reduceMod, if_true]
  omega
 have hb := z18 _ (zc7 h) 15
 have p : (256 : Nat) ^ 15 = 1329227995784915872903807060280344576 := rfl
 rw [p] at e2 hb
 omega
section
variable {h : Hp} {K : Value → Hp → Prop}
theorem ziS {h : Hp} {K : Value → Prop} (x : Nat) (hx : x < 256) : q P h (convert zc zi (.int .u8 (x : Int))) K = K (.int .i64 (x : Int)) := by
 rw [z3o _ z8D z9u, wi64 (by omega) (by omega)]
theorem zrz {h : Hp} {K : Value → Prop} (x : Nat) (hx : x < 256) : q P h (convert zi zc (.int .i64 (x : Int))) K = K (.int .u8 (x : Int)) := by
 rw [z3o _ z9u z8D, wu8i (by omega) (by omega)]
theorem zk7 {H : Hp} {h' : Hp} {v : Value} {l : List Nat} {x : Nat} {K : Value → Hp → Prop} (n : Nn H zi .i64 v h' l) (hl : l.length ≤ 1099511627776) (k : ∀ v' h'', Nn H zi .i64 v' h'' (l ++ [x]) → K v' h'') :
  aw P (Instr.buildSlice zH 1 #[(0, .int .i64 (x : Int))]) (fun t h => aw P (Builtin.append_ #[zH, zH] zH #[v, t]) (fun u h => K u h) h) h' :=
 zT (n := 1) (ps := [(0, _)]) zK z1U z4b rfl (by omega) (by intro p hp; rw [List.mem_singleton.1 hp]; exact ⟨rfl, by omega⟩) fun x h4 hx _ =>
  zQ zK zK z2J rfl (by omega) n hx (by intro y hy; simp [z1f] at hy; subst hy; rfl) (by omega) fun v5 h5 hw5 => k v5 h5 (by unfold Nn; rw [z13, List.length_append]; exact hw5)
theorem zoo {H : Hp} {h' : Hp} {v : Value} {l : List Nat} {x : Nat} {K : Value → Hp → Prop} (n : Nn H zc .u8 v h' l) (hl : l.length ≤ 1099511627776) (k : ∀ v' h'', Nn H zc .u8 v' h'' (l ++ [x]) → K v' h'') :
  aw P (Instr.buildSlice zd 1 #[(0, .int .u8 (x : Int))]) (fun t h => aw P (Builtin.append_ #[zd, zd] zd #[v, t]) (fun u h => K u h) h) h' :=
 zT (n := 1) (ps := [(0, _)]) za zp z1p rfl (by omega) (by intro p hp; rw [List.mem_singleton.1 hp]; exact ⟨rfl, by omega⟩) fun x h4 hx _ =>
  zQ za za zw rfl (by omega) n hx (by intro y hy; simp [z1f] at hy; subst hy; rfl) (by omega) fun v5 h5 hw5 => k v5 h5 (by unfold Nn; rw [z13, List.length_append]; exact hw5)
theorem zn8 {vk vm : Value} {key m : List Nat} (hk : Rn h .u8 vk key) (hm : Rn h .u8 vm m) (bk : Bytes key) (bm : Bytes m) (lk : key.length = 32) (hl : m.length ≤ 70368744177664)
  (k : ∀ v h', Nn h zc .u8 v h' (tagL key m) → K (.tuple #[v, .int .i64 0]) h') : Cn P zdz #[vk, vm] h K := by
 rw [zqc key m lk bk bm] at k
 refine Cn_wk (zdN ?_)
 unfold z7G
 obtain ⟨ak, ck, rfl, hck⟩ := hk.shape
 obtain ⟨am, cm, rfl, hcm⟩ := hm.shape
 obtain ⟨bk', ok, rfl, hyk⟩ := hk.pos (by omega)
 have e32 : (((key.length : Nat) : Int) != 32) = false := by rw [lk]; rfl
 simp -zeta (disch := omega) only [GL, RL, e32, Bool.false_eq_true, if_false]
 refine Lp_mk (fun u vs h' => ∃ (i : Nat) (r s : Value) (ha : Hp), i + u = 16 ∧ Nn h zi .i64 r ha ((z1T key).take i) ∧ Nn ha zi .i64 s h' ((key.drop 16).take i) ∧ vs = [r, s, .int .i64 (i : Int)]) 16
  ⟨0, _, _, h, rfl, Nn.nil .., Nn.nil .., rfl⟩ ?_
 rintro u vs h1 ⟨i, r, s, ha, hi, nr, ns, rfl⟩
 have e16 : decide ((i : Int) < 16) = decide (i < 16) := zL i 16
 simp -zeta (disch := omega) only [GL, RL, e16]
 have lR : ((z1T key).take i).length = i := by rw [List.length_take, z7f]; omega
 have lS : ((key.drop 16).take i).length = i := by rw [List.length_take, List.length_drop]; omega
 by_cases hlt : i < 16
 ·have x1 := ns.cle _ _ (nr.cle _ _ (hyk i (by omega)))
  have b1 := bk.getD i
  simp -zeta (disch := omega) only [GL, RL, hlt, decide_true, if_true, x1, ziS _ b1]
  intro J14
  have p14 : ∀ t : Nat, t = (if i % 4 = 3 then key.getD i 0 % 16 else key.getD i 0) → J14 (.int .i64 (t : Int)) h1 := by
   intro t ht
   simp -zeta only [J14]
   clear J14
   intro J16
   have p16 : ∀ x : Nat, x = z4i key i → J16 (.int .i64 (x : Int)) h1 := by
    intro x hx
    simp -zeta only [J16]
    clear J16
    obtain ⟨hb, ns', nr'⟩ := New.swap nr ns
    refine zT (n := 1) (ps := [(0, _)]) zK z1U z4b rfl (by omega) (by intro p hp; rw [List.mem_singleton.1 hp]; exact ⟨rfl, by omega⟩) fun t46 h2 n46 _ => ?_
    refine zQ zK zK z2J rfl (by omega) nr' n46 (by intro y hy; simp [z1f] at hy; subst hy; rfl) (by rw [lR]; omega) fun t47 h3 n47 => ?_
    have nr2 : Nn hb zi .i64 t47 h3 ((z1T key).take (i + 1)) := by
     rw [zjA key i hlt, ← hx]
     unfold Nn; rw [z13, List.length_append]; exact n47
    have x2 := nr2.cle _ _ (ns'.cle _ _ (hyk (16 + i) (by omega)))
    have b2 := bk.getD (16 + i)
    have e16i : (16 : Int) + (i : Int) = ((16 + i : Nat) : Int) := by omega
    simp -zeta (disch := omega) only [GL, RL, wi64, e16i, x2, ziS _ b2]
    obtain ⟨hc, nr3, ns3⟩ := New.swap ns' nr2
    refine zT (n := 1) (ps := [(0, _)]) zK z1U z4b rfl (by omega) (by intro p hp; rw [List.mem_singleton.1 hp]; exact ⟨rfl, by omega⟩) fun t55 h4 n55 _ => ?_
    refine zQ zK zK z2J rfl (by omega) ns3 n55 (by intro y hy; simp [z1f] at hy; subst hy; rfl) (by rw [lS]; omega) fun t56 h5 n56 => ?_
    have hs2 : (key.drop 16).take (i + 1) = (key.drop 16).take i ++ [key.getD (16 + i) 0] := by
     rw [List.take_succ_eq_append_getElem (by rw [List.length_drop]; omega)]
     congr 1
     simp [List.getD_eq_getElem?_getD, show 16 + i < key.length by omega]
    refine ⟨h5, .refl _, u - 1, by omega, i + 1, t47, t56, hc, by omega, nr3, ?_, rfl⟩
    rw [hs2]
    unfold Nn; rw [z13, List.length_append]; exact n56
   clear_value J16
   have ht256 : t < 256 := by subst ht; split <;> omega
   have egt : decide ((0 : Int) < (i : Int)) = decide (0 < i) := zL 0 i
   have em4 : ((i : Int)).tmod 4 = ((i % 4 : Nat) : Int) := (Int.ofNat_tmod i 4).symm
   have ed4 : ((t : Int)).tdiv 4 = ((t / 4 : Nat) : Int) := (Int.ofNat_tdiv t 4).symm
   have e0 : (((i % 4 : Nat) : Int) == 0) = decide (i % 4 = 0) := by rw [Bool.eq_iff_iff, beq_iff_eq, decide_eq_true_eq]; omega
   simp -zeta (disch := omega) only [GL, RL, egt, em4, e0]
   by_cases h0 : 0 < i
   ·simp only [h0, decide_true, if_true]
    by_cases h4 : i % 4 = 0
    ·have emul : ((t / 4 : Nat) : Int) * 4 = ((t / 4 * 4 : Nat) : Int) := by push_cast; rfl
     simp (disch := omega) only [GL, RL, h4, decide_true, if_true, ed4, wi64, emul]
     refine p16 _ ?_
     rw [ht, if_neg (show ¬ i % 4 = 3 by omega), z4i, if_neg (show ¬ i % 4 = 3 by omega), if_pos ⟨h0, h4⟩]
    ·simp (disch := omega) only [h4, decide_false, Bool.false_eq_true, if_false]
     refine p16 _ ?_
     rw [ht, z4i]
     by_cases h3 : i % 4 = 3
     ·rw [if_pos h3, if_pos h3]
     ·rw [if_neg h3, if_neg h3, if_neg (by omega)]
   ·simp only [h0, decide_false, Bool.false_eq_true, if_false]
    refine p16 _ ?_
    rw [ht, z4i, if_neg (by omega), if_neg (by omega), if_neg (by omega)]
  clear_value J14
  have em4 : ((i : Int)).tmod 4 = ((i % 4 : Nat) : Int) := (Int.ofNat_tmod i 4).symm
  have e3 : (((i % 4 : Nat) : Int) == 3) = decide (i % 4 = 3) := by rw [Bool.eq_iff_iff, beq_iff_eq, decide_eq_true_eq]; omega
  have em16 : ((key.getD i 0 : Nat) : Int).tmod 16 = ((key.getD i 0 % 16 : Nat) : Int) := (Int.ofNat_tmod _ 16).symm
  simp (disch := omega) only [GL, RL, em4, e3]
  by_cases h3 : i % 4 = 3
  ·simp (disch := omega) only [GL, RL, h3, decide_true, if_true, em16]
   exact p14 _ (by rw [if_pos h3])
  ·simp (disch := omega) only [h3, decide_false, Bool.false_eq_true, if_false]
   exact p14 _ (by rw [if_neg h3])
 obtain rfl : i = 16 := by omega
 rw [List.take_of_length_le (by rw [z7f]; omega)] at nr
 rw [List.take_of_length_le (by rw [List.length_drop]; omega)] at ns
 simp -zeta only [hlt, decide_false, Bool.false_eq_true, if_false]
 have br : Bytes (z1T key) := zc7 bk
 have lr : (z1T key).length = 16 := z7f key
 have vr : z9 (z1T key) < 21267647932558653966460912964485513216 := zn7 bk
 generalize z1T key = R at nr br lr vr k
 have hle1 : Hp.le h h1 := nr.le.trans ns.le
 have hcl1 : Hp.cle h h1 := nr.cle.trans ns.cle
 have hr1 : Rn h1 .i64 r R := nr.rn.mono ns.cle
 have hs1 : Rn h1 .i64 s (key.drop 16) := ns.rn
 clear lR lS
 refine z2w (n := 17) (c := 17) zK z2J rfl (by omega) (by omega) (by omega) fun t57 h2 n57 => ?_
 rw [z1E] at n57
 refine Lp_mk (fun u vs h' => ∃ (i : Nat) (a : Value) (A : List Nat), i + u = (m.length + 15) / 16 ∧ Hp.le h1 h' ∧ Hp.cle h1 h' ∧ Rn h' .i64 a A ∧ A.length = 17 ∧ Bytes A ∧ z9 A = accR (z9 R) m i ∧ vs = [a, .int .i64 ((16 * i : Nat) : Int)]) ((m.length + 15) / 16)
  ⟨0, t57, List.replicate 17 0, by omega, n57.le, n57.cle, n57.rds, rfl, by intro x hx; rw [List.mem_replicate] at hx; omega, rfl, rfl⟩ ?_
 clear n57 t57
 rintro u vs h3 ⟨i, a, A, hi, le3, c3, hA, lA, bA, eA, rfl⟩
 simp -zeta (disch := omega) only [GL, RL, zL]
 by_cases hlt : 16 * i < m.length
 ·simp -zeta only [hlt, decide_true, if_true]
  intro J27
  have p27 : ∀ b h4, Nn h3 zi .i64 b h4 (z3k m i) → J27 b h4 := by
   intro b h4 n4
   simp -zeta only [J27]
   clear J27
   have lc : (z3k m i).length ≤ 16 := z7a 16 m i
   have bc : Bytes (z3k m i) := z5l bm 16 i
   have v1 := zgu bm i
   have hacc : accR (z9 R) m (i + 1) = (z9 A + z9 (z3k m i ++ [1])) * z9 R % PP := by rw [eA]; rfl
   have aA := zk5 (z9 R) m i
   rw [← eA] at aA
   clear eA
   generalize z3k m i = C at n4 lc bc v1 hacc
   refine zk7 (x := 1) n4 (by omega) fun t88 h5 n5 => ?_
   have b1 : Bytes (C ++ [1]) := bc.append (by intro x hx; simp at hx; omega)
   refine z8k 18 (by omega) (by omega) (hA.mono n5.cle) n5.rn bA b1 fun t89 h6 n6 => ?_
   have p18 : (256 : Nat) ^ 18 = 22300745198530623141535718272648361505980416 := rfl
   have e18 : z9 (le 18 (z9 A + z9 (C ++ [1]))) = z9 A + z9 (C ++ [1]) := by
    rw [z2C, Nat.mod_eq_of_lt]
    rw [p18]
    unfold PP at aA
    omega
   refine zds n6.rn (((hr1.mono c3).mono n5.cle).mono n6.cle) (z1s _ _) br (by rw [zE]; omega) fun t91 h7 n7 => ?_
   rw [e18] at n7
   have hprod : (z9 A + z9 (C ++ [1])) * z9 R < 2 ^ 256 := by
    have q1 : z9 A + z9 (C ++ [1]) < 2722258935367507707706996859454145691648 := by unfold PP at aA; omega
    have q2 := Nat.mul_lt_mul_of_lt_of_lt q1 vr
    exact Nat.lt_of_lt_of_le q2 (by decide)
   have p36 : (2 : Nat) ^ 256 ≤ 256 ^ 36 := by
    have e : (2 : Nat) ^ 256 = 256 ^ 32 := rfl
    rw [e]; exact Nat.pow_le_pow_right (by decide) (by decide)
   have e36 : z9 (le 36 ((z9 A + z9 (C ++ [1])) * z9 R)) = (z9 A + z9 (C ++ [1])) * z9 R := by
    rw [z2C, Nat.mod_eq_of_lt (Nat.lt_of_lt_of_le hprod p36)]
   refine zlu n7.rn (z1s _ _) (zE _ _) (by rw [e36]; exact hprod) fun t92 h8 n8 => ?_
   rw [e36, ← hacc] at n8
   have e16 : ((16 * i : Nat) : Int) + 16 = ((16 * (i + 1) : Nat) : Int) := by omega
   simp (disch := omega) only [GL, RL, wi64, e16]
   refine ⟨h8, .refl _, u - 1, by omega, i + 1, t92, _, by omega, (((le3.trans n5.le).trans n6.le).trans n7.le).trans n8.le, (((c3.trans n5.cle).trans n6.cle).trans n7.cle).trans n8.cle, n8.rn, zE _ _, z1s _ _, ?_, rfl⟩
   rw [z2C, Nat.mod_eq_of_lt]
   have := zk5 (z9 R) m (i + 1)
   have p17 : (256 : Nat) ^ 17 = 87112285931760246646623899502532662132736 := rfl
   rw [p17]
   unfold PP at this
   omega
  clear_value J27
  refine Lp_mk (fun w vs h' => ∃ (j : Nat) (b : Value), 16 * i ≤ j ∧ j ≤ min (16 * i + 16) m.length ∧ w = 16 * i + 16 - j ∧ Nn h3 zi .i64 b h' ((m.take j).drop (16 * i)) ∧ vs = [b, .int .i64 (j : Int)]) 16
   ⟨16 * i, _, Nat.le_refl _, by omega, by omega, by
    rw [List.drop_of_length_le (by rw [List.length_take]; omega)]
    exact Nn.nil .., rfl⟩ ?_
  rintro w vs h4 ⟨j, b, hj1, hj2, rfl, nb, rfl⟩
  intro J30
  have e16 : ((16 * i : Nat) : Int) + 16 = ((16 * i + 16 : Nat) : Int) := by omega
  simp (disch := omega) only [GL, RL, wi64, e16, zL]
  have done : ¬ (j < 16 * i + 16 ∧ j < m.length) → J27 b h4 := by
   intro hn
   refine p27 b h4 ?_
   have : j = min (16 * i + 16) m.length := by omega
   rw [this] at nb
   exact nb
  by_cases hj3 : j < 16 * i + 16
  ·simp only [hj3, decide_true, if_true]
   by_cases hj4 : j < m.length
   ·simp only [hj4, decide_true, if_true]
    simp only [J30]
    clear J30
    obtain ⟨bm', om, rfl, hym⟩ := hm.pos (by omega)
    have x1 := nb.cle _ _ (c3 _ _ (hcl1 _ _ (hym j hj4)))
    have b1 := bm.getD j
    simp (disch := omega) only [GL, RL, x1, ziS _ b1]
    have ln : ((m.take j).drop (16 * i)).length = j - 16 * i := by rw [List.length_drop, List.length_take]; omega
    refine zk7 nb (by rw [ln]; omega) fun t84 h5 n5 => ?_
    simp (disch := omega) only [GL, RL, wi64]
    refine ⟨h5, .refl _, 16 * i + 16 - (j + 1), by omega, j + 1, t84, by omega, by omega, rfl, ?_, rfl⟩
    have : (m.take (j + 1)).drop (16 * i) = (m.take j).drop (16 * i) ++ [m.getD j 0] := by
     rw [List.take_succ_eq_append_getElem hj4, List.drop_append_of_le_length (by rw [List.length_take]; omega)]
     simp [List.getD_eq_getElem?_getD, hj4]
    rw [this]
    exact n5
   ·simp only [hj4, decide_false, Bool.false_eq_true, if_false]
    exact done (by omega)
  ·simp only [hj3, decide_false, Bool.false_eq_true, if_false]
   exact done (by omega)
 ·obtain rfl : i = (m.length + 15) / 16 := by omega
  simp only [hlt, decide_false, Bool.false_eq_true, if_false]
  refine z8k 16 (by omega) (by omega) hA (hs1.mono c3) bA (bk.drop 16) fun t95 h4 n4 => ?_
  rw [eA] at n4
  generalize accR (z9 R) m ((m.length + 15) / 16) + z9 (key.drop 16) = V at n4 k
  have lX := zE 16 V
  have bX := z1s 16 V
  generalize le 16 V = X at n4 k lX bX
  obtain ⟨ax, cx, rfl, hcx⟩ := n4.rn.shape
  obtain ⟨bx, ox, rfl, hyx⟩ := n4.rn.pos (by omega)
  refine Lp_mk (fun u vs h' => ∃ (i : Nat) (v : Value), i + u = 16 ∧ Nn h4 zc .u8 v h' (X.take i) ∧ vs = [v, .int .i64 (i : Int)]) 16 ⟨0, _, rfl, Nn.nil .., rfl⟩ ?_
  rintro u' vs h5 ⟨j, v, hj, nv', rfl⟩
  have e16 : decide ((j : Int) < 16) = decide (j < 16) := zL j 16
  simp (disch := omega) only [GL, RL, e16]
  by_cases hjl : j < 16
  ·have x1 := nv'.cle _ _ (hyx j (by omega))
   have b1 := bX.getD j
   simp (disch := omega) only [GL, RL, hjl, decide_true, if_true, x1, zrz _ b1]
   have lt : (X.take j).length = j := by rw [List.length_take]; omega
   refine zoo nv' (by rw [lt]; omega) fun t107 h6 n6 => ?_
   simp (disch := omega) only [GL, RL, wi64]
   refine ⟨h6, .refl _, u' - 1, by omega, j + 1, t107, by omega, ?_, rfl⟩
   have : X.take (j + 1) = X.take j ++ [X.getD j 0] := by
    rw [List.take_succ_eq_append_getElem (by omega)]
    simp [List.getD_eq_getElem?_getD, show j < X.length by omega]
   rw [this]
   exact n6
  ·obtain rfl : j = 16 := by omega
   simp only [hjl, decide_false, Bool.false_eq_true, if_false]
   rw [List.take_of_length_le (by omega)] at nv'
   obtain ⟨h0, l0, n0⟩ := nv'.down ((hle1.trans le3).trans n4.le)
   exact ⟨h0, l0, k _ _ n0⟩
end
theorem zqe (b : List Nat) : (z2I b).length % 16 = 0 := by
 unfold z2I z2z; rw [List.length_append, List.length_replicate]; omega
theorem zsM (b t : List Nat) : padL [b, t] = z2I b ++ z2I t := by
 show z2I (z2I ([] ++ b) ++ t) = _
 rw [List.nil_append]
 have := zqe b
 generalize z2I b = B at this
 have e : z2z (B ++ t).length = z2z t.length := by unfold z2z; rw [List.length_append]; omega
 unfold z2I
 rw [e, List.append_assoc]
section
variable {h : Hp} {K : Value → Hp → Prop}
theorem zfd {vk vn vb vt : Value} {key nonce b t : List Nat} (hk : Rn h .u8 vk key) (hn : Rn h .u8 vn nonce) (hb : Rn h .u8 vb b) (ht : Rn h .u8 vt t) (bk : Bytes key) (bn : Bytes nonce) (bb : Bytes b) (bt : Bytes t)
  (lb : b.length ≤ 1099511627776) (lt : t.length ≤ 1099511627776)
  (k : ∀ v h', (if key.length = 32 ∧ nonce.length = 12 then Nn h zc .u8 v h' (z3a key nonce b t) else v = .slice none 0 0 ∧ h' = h) → K (.tuple #[v, .int .i64 (if key.length = 32 ∧ nonce.length = 12 then 0 else 1)]) h') :
  Cn P zcF #[vk, vn, vb, vt] h K := by
 refine Cn_wk (zcV ?_)
 unfold z6K
 refine zgt 1 (by omega) hk hn ht bk bn bt (by omega) fun vX h1 hX => ?_
 rw [ext0, ext1]
 by_cases hm : key.length = 32 ∧ nonce.length = 12
 case neg =>
  rw [if_neg hm] at hX ⊢
  obtain ⟨rfl, rfl⟩ := hX
  have e1 : ((1 : Int) != 0) = true := rfl
  simp (disch := omega) only [GL, RL, e1, if_true]
  have := k (.slice none 0 0) h1
  rw [if_neg hm, if_neg hm] at this
  exact ⟨h1, .refl _, this ⟨rfl, rfl⟩⟩
 rw [if_pos hm] at hX ⊢
 have lX := z2o key nonce 1 t
 have bX : Bytes (xorL key nonce 1 t) := z77 bt
 have hseal : z3a key nonce b t = xorL key nonce 1 t ++ tagB key nonce b (xorL key nonce 1 t) := rfl
 generalize xorL key nonce 1 t = X at hX lX bX hseal
 simp (disch := omega) only [GL, RL, bne_self_eq_false, Bool.false_eq_true, if_false]
 have lpb := z8h b
 have lpX := z8h X
 refine zfa (hb.mono hX.cle) (by omega) fun v26 h2 n26 => ?_
 refine zfa (hX.rn.mono n26.cle) (by omega) fun v28 h3 n28 => ?_
 refine zQ za za zw rfl (by omega) n26 n28 (zq _ _) (by omega) fun v29 h4 n29 => ?_
 obtain ⟨ab, cb, rfl, hcb⟩ := hb.shape
 obtain ⟨aX, cX, rfl, hcX⟩ := hX.rn.shape
 simp (disch := omega) only [GL, RL, z2j]
 refine z2t b.length 8 (by omega) (by omega) fun v34 h5 n34 => ?_
 refine zQ za za zw rfl (by omega) n29 n34 (zq _ _) (by rw [zE]; omega) fun v35 h6 n35 => ?_
 refine z2t X.length 8 (by omega) (by omega) fun v40 h7 n40 => ?_
 refine zQ za za zw rfl (by omega) n35 n40 (zq _ _) (by simp only [zE]; omega) fun v41 h8 n41 => ?_
 have n41' : Nn h1 zc .u8 v41 h8 (padL [b, X] ++ (le 8 b.length ++ le 8 X.length)) := by
  unfold Nn
  rw [zsM, z13, z13, z13]
  simp only [List.length_append, zE] at n41 ⊢
  simpa [Nat.add_assoc] using n41
 clear n26 n28 n29 n34 n35 n40 n41
 have c8 := hX.cle.trans n41'.cle
 refine zdr 0 (by omega) (hk.mono c8) (hn.mono c8) bk bn hm.1 hm.2 fun v45 h9 n45 => ?_
 have lB := z3K key nonce 0
 have bB := z4g key nonce 0
 have htag : tagB key nonce b X = tagL ((z2n key nonce 0).take 32) (padL [b, X] ++ (le 8 b.length ++ le 8 X.length)) := rfl
 generalize z2n key nonce 0 = B at n45 lB bB htag
 refine z4N za zp n45.rn .i64 32 (by omega) fun v46 r46 => ?_
 have bmsg : Bytes (padL [b, X] ++ (le 8 b.length ++ le 8 X.length)) := (zdl bb bX).append ((z1s _ _).append (z1s _ _))
 have lp := zbZ b X 2
 simp only [List.take_succ_cons, List.take_zero] at lp
 refine zn8 r46 (n41'.rn.mono n45.cle) (bB.take 32) bmsg (by rw [List.length_take]; omega) (by simp only [List.length_append, zE]; omega) fun v49 h10 n49 => ?_
 rw [← htag] at n49
 rw [ext0, ext1]
 have ltag := z9N key nonce b X
 obtain ⟨hb1, m41, mX1⟩ := New.swap hX n41'
 obtain ⟨hb2, m45, mX2⟩ := New.swap mX1 n45
 refine zQ za za zw rfl (by omega) mX2 n49 (zq _ _) (by omega) fun v53 h11 n53 => ?_
 have n53' : Nn hb2 zc .u8 v53 h11 (z3a key nonce b t) := by
  unfold Nn; rw [hseal, z13, List.length_append]; exact n53
 obtain ⟨h0, l0, nf⟩ := n53'.down (m41.le.trans m45.le)
 have := k v53 h0
 rw [if_pos hm, if_pos hm] at this
 exact ⟨h0, l0, this nf⟩
theorem zlv {vk vn vb vx : Value} {key nonce b x : List Nat} (hk : Rn h .u8 vk key) (hn : Rn h .u8 vn nonce) (hb : Rn h .u8 vb b) (hx : Rn h .u8 vx x) (bk : Bytes key) (bn : Bytes nonce) (bb : Bytes b) (bx : Bytes x)
  (lb : b.length ≤ 1099511627776) (lx : x.length ≤ 1099511627776)
  (k : ∀ v h', (if z4J key nonce b x = 0 then Nn h zc .u8 v h' (z2R key nonce b x).2 else v = .slice none 0 0 ∧ h' = h) → K (.tuple #[v, .int .i64 ((z4J key nonce b x : Nat) : Int)]) h') :
  Cn P zcG #[vk, vn, vb, vx] h K := by
 refine Cn_wk (zcW ?_)
 unfold z6L
 intro J2
 obtain ⟨ak, ck, rfl, hck⟩ := hk.shape
 obtain ⟨an, cn, rfl, hcn⟩ := hn.shape
 obtain ⟨ax, cx, rfl, hcx⟩ := hx.shape
 have e32 : (((key.length : Nat) : Int) != 32) = decide (key.length ≠ 32) := z3h _ 32
 have e12 : (((nonce.length : Nat) : Int) != 12) = decide (nonce.length ≠ 12) := z3h _ 12
 simp (disch := omega) only [GL, RL, e32, e12]
 unfold z4J at k
 by_cases hm1 : key.length = 32
 case neg =>
  have hm : ¬ (key.length = 32 ∧ nonce.length = 12) := fun q => hm1 q.1
  simp only [if_neg hm] at k
  simp only [hm1, ne_eq, not_false_eq_true, decide_true, Bool.true_eq_false, if_false, if_true]
  exact ⟨h, .refl _, k _ _ (by simp)⟩
 by_cases hm2 : nonce.length = 12
 case neg =>
  have hm : ¬ (key.length = 32 ∧ nonce.length = 12) := fun q => hm2 q.2
  simp only [if_neg hm] at k
  simp only [hm1, hm2, ne_eq, not_true_eq_false, not_false_eq_true, decide_true, decide_false, if_true]
  exact ⟨h, .refl _, k _ _ (by simp)⟩
 have hm : key.length = 32 ∧ nonce.length = 12 := ⟨hm1, hm2⟩
 simp only [if_pos hm] at k
 simp only [hm1, hm2, ne_eq, not_true_eq_false, decide_false, if_true, Bool.false_eq_true, if_false]
 show J2 h
 simp only [J2]
 clear J2
 have e26 : decide (((x.length : Nat) : Int) < 16) = decide (x.length < 16) := zL _ 16
 simp (disch := omega) only [GL, RL, wi64, e26]
 by_cases h16 : x.length < 16
 ·simp only [h16, decide_true, if_true]
  have ho : z2R key nonce b x = (8, []) := by unfold z2R; rw [if_pos h16]
  rw [ho] at k
  exact ⟨h, .refl _, k (.slice none 0 0) h (by simp)⟩
 simp only [h16, decide_false, Bool.false_eq_true, if_false]
 have e16 : ((x.length : Nat) : Int) - 16 = ((x.length - 16 : Nat) : Int) := by omega
 rw [e16]
 refine z4N za zp hx .i64 (x.length - 16) (by omega) fun w hw => ?_
 have lw : (x.take (x.length - 16)).length = x.length - 16 := by rw [List.length_take]; omega
 refine zgt 1 (by omega) hk hn hw bk bn (bx.take _) (by omega) fun vX h1 nX => ?_
 rw [if_pos hm] at nX ⊢
 rw [ext0, ext1]
 have lX := z2o key nonce 1 (x.take (x.length - 16))
 have bX : Bytes (xorL key nonce 1 (x.take (x.length - 16))) := z77 (bx.take _)
 have c1 := nX.cle
 refine zfd (hk.mono c1) (hn.mono c1) (hb.mono c1) nX.rn bk bn bb bX lb (by omega) fun vS h2 nS => ?_
 rw [if_pos hm] at nS ⊢
 rw [ext0, ext1]
 have lS := zbY key nonce b (xorL key nonce 1 (x.take (x.length - 16)))
 have eS : z3a key nonce b (xorL key nonce 1 (x.take (x.length - 16))) = x ↔ tagB key nonce b (x.take (x.length - 16)) = x.drop (x.length - 16) := by
  unfold z3a
  rw [zgi]
  constructor
  ·intro e
   have := congrArg (List.drop (x.length - 16)) e
   rw [List.drop_append_of_le_length (by omega), List.drop_of_length_le (by omega)] at this
   simpa using this
  ·intro e
   rw [e, List.take_append_drop]
 refine z1A nS.rn (hx.mono (c1.trans nS.cle)) (by omega) ?_
 by_cases heq : tagB key nonce b (x.take (x.length - 16)) = x.drop (x.length - 16)
 ·have ho : z2R key nonce b x = (0, xorL key nonce 1 (x.take (x.length - 16))) := by unfold z2R; rw [if_neg h16, if_pos heq]
  rw [ho] at k
  simp (disch := omega) only [GL, RL, eS.2 heq, decide_true, Bool.not_true, Bool.false_eq_true, if_false]
  exact ⟨h1, nS.le, k vX h1 (by simpa using nX)⟩
 ·have ho : z2R key nonce b x = (7, []) := by unfold z2R; rw [if_neg h16, if_neg heq]
  rw [ho] at k
  simp (disch := omega) only [GL, RL, mt eS.1 heq, decide_false, Bool.not_false, if_true]
  exact ⟨h, nX.le.trans nS.le, k (.slice none 0 0) h (by simp)⟩
end
set_option maxHeartbeats 1000000
theorem rf0 {h : Hp} {K : Value → Prop} (r : Nat) : q P h (Instr.fieldAt zX (.pointer (some ⟨r, 0, none⟩)) 0) K = K (.pointer (some ⟨r, 0, none⟩)) := q_of (by kernel_rfl) K
theorem rf2 {h : Hp} {K : Value → Prop} (r : Nat) : q P h (Instr.fieldAt zX (.pointer (some ⟨r, 0, none⟩)) 2) K = K (.pointer (some ⟨r, 2, none⟩)) := q_of (by kernel_rfl) K
theorem prf2 {h : Hp} (r : Nat) : peek P h (Instr.fieldAt zX (.pointer (some ⟨r, 0, none⟩)) 2) = some (.pointer (some ⟨r, 2, none⟩)) := by kernel_rfl
theorem rs0 {h : Hp} {K : Value → Prop} (r : Nat) : q P h (Instr.fieldAt zG (.pointer (some ⟨r, 0, none⟩)) 0) K = K (.pointer (some ⟨r, 0, none⟩)) := q_of (by kernel_rfl) K
theorem rs1 {h : Hp} {K : Value → Prop} (r : Nat) : q P h (Instr.fieldAt zG (.pointer (some ⟨r, 0, none⟩)) 1) K = K (.pointer (some ⟨r, 1, none⟩)) := q_of (by kernel_rfl) K
theorem rs2 {h : Hp} {K : Value → Prop} (r : Nat) : q P h (Instr.fieldAt zG (.pointer (some ⟨r, 0, none⟩)) 2) K = K (.pointer (some ⟨r, 2, none⟩)) := q_of (by kernel_rfl) K
theorem rs3 {h : Hp} {K : Value → Prop} (r : Nat) : q P h (Instr.fieldAt zG (.pointer (some ⟨r, 0, none⟩)) 3) K = K (.pointer (some ⟨r, 3, none⟩)) := q_of (by kernel_rfl) K
theorem rs4 {h : Hp} {K : Value → Prop} (r : Nat) : q P h (Instr.fieldAt zG (.pointer (some ⟨r, 0, none⟩)) 4) K = K (.pointer (some ⟨r, 4, none⟩)) := q_of (by kernel_rfl) K
abbrev nil5 : List Value := [.slice none 0 0, .slice none 0 0, .slice none 0 0, .slice none 0 0, .slice none 0 0]
theorem z7g : sz P zG = some 5 := by kernel_rfl
theorem zfe : zr P zG = some (.agg nil5.toArray) := by kernel_rfl
theorem zjB : (P.info? zG).map (fun i => (i.zero, i.size, i.bytes)) = some (some (.agg nil5.toArray), 5, 120) := by kernel_rfl
def RefBoxes (R : Hp) (xs : List Value) (bs : List Box) : Prop :=
 xs.length = bs.length * 5 ∧ ∀ (i : Nat) (b : Box), bs[i]? = some b → ∃ vk vn vb vt vx, (∀ (j : Nat) (y : Value), [vk, vn, vb, vt, vx][j]? = some y → xs[i * 5 + j]? = some y) ∧
  Rn R .u8 vk b.key ∧ Rn R .u8 vn b.nonce ∧ Rn R .u8 vb b.beside ∧ Rn R .u8 vt b.text ∧ Rn R .u8 vx (boxB i (b.text.length + 16))
theorem RefBoxes.mono {R R' : Hp} {xs : List Value} {bs : List Box} (a : RefBoxes R xs bs) (c : Hp.cle R R') : RefBoxes R' xs bs :=
 ⟨a.1, fun i b e => let ⟨vk, vn, vb, vt, vx, h0, h1, h2, h3, h4, h5⟩ := a.2 i b e; ⟨vk, vn, vb, vt, vx, h0, h1.mono c, h2.mono c, h3.mono c, h4.mono c, h5.mono c⟩⟩
theorem RefBoxes.snoc {R : Hp} {xs : List Value} {bs : List Box} {vk vn vb vt vx : Value} {b : Box} (a : RefBoxes R xs bs) (h1 : Rn R .u8 vk b.key) (h2 : Rn R .u8 vn b.nonce) (h3 : Rn R .u8 vb b.beside) (h4 : Rn R .u8 vt b.text) (h5 : Rn R .u8 vx (boxB bs.length (b.text.length + 16))) :
  RefBoxes R (xs ++ [vk, vn, vb, vt, vx]) (bs ++ [b]) := by
 refine ⟨by rw [List.length_append, List.length_append, a.1]; simp; omega, fun i c e => ?_⟩
 by_cases hi : i < bs.length
 ·rw [List.getElem?_append_left hi] at e
  obtain ⟨wk, wn, wb, wt, wx, h0, r⟩ := a.2 i c e
  refine ⟨wk, wn, wb, wt, wx, fun j y ey => ?_, r⟩
  have := h0 j y ey
  have hlt := (List.getElem?_eq_some_iff.1 this).1
  rw [List.getElem?_append_left hlt]; exact this
 ·rw [List.getElem?_append_right (by omega)] at e
  have : i = bs.length := by
   have := (List.getElem?_eq_some_iff.1 e).1
   simp at this; omega
  subst this
  rw [Nat.sub_self] at e
  simp only [List.getElem?_cons_zero, Option.some.injEq] at e
  subst e
  refine ⟨vk, vn, vb, vt, vx, fun j y ey => ?_, h1, h2, h3, h4, h5⟩
  rw [List.getElem?_append_right (by rw [a.1]; omega), a.1, show bs.length * 5 + j - bs.length * 5 = j by omega]
  exact ey
def RefAtX (tx : Value) (R h : Hp) (p : Nat) (c : Cr) (S : List Nat) : Prop :=
 match c with
 | .real => h p = some (.row zX [.bool false, .slice none 0 0, .slice none 0 0] 3 (some (0, 0))) ∧ S = [p]
 | .book _ bs => ∃ bx xs Sb, h p = some (.row zX [.bool true, tx, bx] 3 (some (0, 0))) ∧ OutAt zG 5 h bx xs bs.length Sb ∧ RefBoxes R xs bs ∧ S = p :: Sb ∧ p ∉ Sb ∧ ∀ b ∈ bs, (Bytes b.key ∧ Bytes b.nonce ∧ Bytes b.beside ∧ Bytes b.text) ∧ b.key.length ≤ 1099511627776 ∧ b.nonce.length ≤ 1099511627776 ∧ b.beside.length ≤ 1099511627776
abbrev RefAt : Hp → Hp → Nat → Cr → List Nat → Prop := RefAtX (.slice none 0 0)
theorem RefAtX.keep {tx : Value} {R R' h h' : Hp} {p : Nat} {c : Cr} {S : List Nat} (a : RefAtX tx R h p c S) (e : Hp.ext R R') (k : ∀ b, b ∈ S → h' b = h b) : RefAtX tx R' h' p c S := by
 cases c with
 | real => exact ⟨by rw [k p (by rw [a.2]; simp)]; exact a.1, a.2⟩
 | book ts bs =>
  obtain ⟨bx, xs, Sb, h1, h2, h3, rfl, h5, h6⟩ := a
  exact ⟨bx, xs, Sb, by rw [k p (by simp)]; exact h1, h2.keep fun x hx => k x (by simp [hx]), h3.mono e.cle, rfl, h5, h6⟩
theorem RefAtX.ext {tx : Value} {R R' h h' : Hp} {p : Nat} {c : Cr} {S : List Nat} (a : RefAtX tx R h p c S) (w : Own R h S) (e : Hp.ext R R') (x : Hp.ext h h') : RefAtX tx R' h' p c S := a.keep e fun b hb => by
 obtain ⟨o, eo⟩ := w.kn b hb
 rw [eo, x _ _ eo]
section
variable {h : Hp} {K : Value → Hp → Prop}
theorem ziT {tx : Value} {R : Hp} {p : Nat} {c : Cr} {S : List Nat} {vk vn vb vx : Value} {key nonce b x : List Nat} (w : Own R h S) (hC : RefAtX tx R h p c S) (hf : few 1000000 c)
  (hk : Rn R .u8 vk key) (hn : Rn R .u8 vn nonce) (hb : Rn R .u8 vb b) (hx : Rn R .u8 vx x) (bk : Bytes key) (bn : Bytes nonce) (bb : Bytes b) (bx : Bytes x)
  (lb : b.length ≤ 1099511627776) (lx : x.length ≤ 1099511627776)
  (k : ∀ v R' h', Stp R h R' h' S S → RefAtX tx R' h' p c S → (if (z1G c key nonce b x).1 = 0 then Rn R' .u8 v (z1G c key nonce b x).2 else v = .slice none 0 0) → K (.tuple #[v, .int .i64 (((z1G c key nonce b x).1 : Nat) : Int)]) h') :
  Cn P z4t #[.pointer (some ⟨p, 0, none⟩), vk, vn, vb, vx] h K := by
 refine z7Y ?_
 unfold z4v
 cases c with
 | real =>
  have c0 : h.cell ⟨p, 0, none⟩ = some (.bool false) := by rw [zj hC.1]; rfl
  simp -zeta (disch := omega) only [GL, RL, rf0, c0, Bool.not_false, if_true]
  refine zlv (w.rn hk) (w.rn hn) (w.rn hb) (w.rn hx) bk bn bb bx lb lx fun v h1 n1 => ?_
  rw [ext0, ext1]
  obtain ⟨eO, eO2⟩ := zdp key nonce b x
  rw [eO] at k
  by_cases h0 : z4J key nonce b x = 0
  ·simp only [if_pos h0] at n1 k
   rw [eO2 h0] at k
   obtain ⟨R1, s1, r1⟩ := Stp.newN w n1
   exact k v R1 h1 s1 (hC.ext w s1.ext n1.ext) r1
  ·simp only [if_neg h0] at n1 k
   obtain ⟨rfl, rfl⟩ := n1
   exact k _ R h1 (.refl w) hC rfl
 | book ts bs =>
  have hC0 := hC
  obtain ⟨bxv, xs, Sb, hp, hO, hB, rfl, hpS, hby⟩ := hC
  have c0 : h.cell ⟨p, 0, none⟩ = some (.bool true) := by rw [zj hp]; rfl
  simp -zeta (disch := omega) only [GL, RL, rf0, c0, Bool.not_true, Bool.false_eq_true, if_false]
  obtain ⟨ak, ck, ek, hck⟩ := hk.shape
  obtain ⟨an, cn, en, hcn⟩ := hn.shape
  obtain ⟨ax, cx, ex, hcx⟩ := hx.shape
  have lnk : ∀ {h : Hp} {K : Value → Prop}, q P h (Builtin.len_ #[zd] zi #[vk]) K = K (.int .i64 key.length) := fun {h K} => by rw [ek]; exact z12 za _ _ _
  have lnn : ∀ {h : Hp} {K : Value → Prop}, q P h (Builtin.len_ #[zd] zi #[vn]) K = K (.int .i64 nonce.length) := fun {h K} => by rw [en]; exact z12 za _ _ _
  have lnx : ∀ {h : Hp} {K : Value → Prop}, q P h (Builtin.len_ #[zd] zi #[vx]) K = K (.int .i64 x.length) := fun {h K} => by rw [ex]; exact z12 za _ _ _
  have e32 : (((key.length : Nat) : Int) != 32) = decide (key.length ≠ 32) := z3h key.length 32
  have e12 : (((nonce.length : Nat) : Int) != 12) = decide (nonce.length ≠ 12) := z3h nonce.length 12
  intro J5
  have bad : ¬ may key nonce → K (.tuple #[.slice none 0 0, .int .i64 1]) h := fun hm => by
   have e : z1G (.book ts bs) key nonce b x = (1, []) := by unfold z1G; rw [if_neg hm]
   rw [e] at k
   exact k _ R h (.refl w) hC0 rfl
  have good : may key nonce → J5 h := by
   intro hm
   simp -zeta only [J5]
   clear J5
   have eo : z1G (.book ts bs) key nonce b x = z2N bs key nonce b x := by unfold z1G; rw [if_pos hm]
   rw [eo, zgS bs key nonce b x (by have := hf.1; omega)] at k
   have e16 : decide (((x.length : Nat) : Int) < 16) = decide (x.length < 16) := zL _ 16
   simp -zeta (disch := omega) only [GL, RL, lnx, e16]
   by_cases h16 : x.length < 16
   ·simp only [h16, decide_true, if_true] at k ⊢
    exact k _ R h (.refl w) hC0 rfl
   simp -zeta only [h16, decide_false, Bool.false_eq_true, if_false] at k ⊢
   have lbs := hf.2
   have hbs : bs.length ≤ 1000000 := hf.1
   refine Lp_mk (fun m vs h1 => ∃ (i : Nat) (R1 : Hp), i + m = bs.length ∧ Stp R h R1 h1 (p :: Sb) (p :: Sb) ∧ RefAtX tx R1 h1 p (.book ts bs) (p :: Sb) ∧ z4p (bs.drop i) key nonce b x i = z4p bs key nonce b x 0 ∧ vs = [.slice none 0 0, .int .i64 0, .int .i64 (i : Int)]) bs.length
    ⟨0, R, by omega, .refl w, hC0, by rw [List.drop_zero], rfl⟩ ?_
   rintro m vs h1 ⟨i, R1, him, st, hC1, hfb, rfl⟩
   have hC1' := hC1
   obtain ⟨bx1, xs1, Sb1, hp1, hO1, hB1, _, _, _⟩ := hC1
   have cb : h1.cell ⟨p, 2, none⟩ = some bx1 := by rw [zj hp1]; rfl
   obtain ⟨_, a1, n1, eb1, hn1, _⟩ := hO1.rds
   have lnb : ∀ {h : Hp} {K : Value → Prop}, q P h (Builtin.len_ #[z1o] zi #[bx1]) K = K (.int .i64 bs.length) := fun {h K} => by rw [eb1]; exact z12 z1c _ _ _
   simp -zeta (disch := omega) only [GL, RL, rf2, cb, lnb, zL]
   by_cases hlt : i < bs.length
   case neg =>
    simp -zeta only [hlt, decide_false, Bool.false_eq_true, if_false]
    rw [List.drop_of_length_le (by omega)] at hfb
    have : z4p bs key nonce b x 0 = none := by rw [← hfb]; rfl
    rw [this] at k
    exact k _ R1 h1 st hC1' rfl
   simp -zeta only [hlt, decide_true, if_true]
   rcases hO1 with ⟨_, h0, _, _⟩ | ⟨bb, cc, ff, hbb, rfl, hcc, hfz, _, hlx⟩
   ·omega
   obtain ⟨s, es⟩ : ∃ s, bs[i]? = some s := ⟨_, List.getElem?_eq_getElem hlt⟩
   have bys := hby s (List.mem_of_getElem? es)
   have lts := lbs s (List.mem_of_getElem? es)
   obtain ⟨wk, wn, wb, wt, wx, hcells, rk, rn, rb, rt, rx⟩ := hB1.2 i s es
   rw [z6n z1c z7g ⟨bb, 0, none⟩ bs.length cc .i64 i (by omega) (by omega), Int.toNat_natCast, z1d, Nat.zero_add]
   rw [z7i (ys := [wk, wn, wb, wt, wx]) zau rfl z7g (b := bb) (o := i * 5) (fun j y e => by rw [zj hbb]; exact hcells j y e)]
   refine zS nil5 zfe rfl fun r13 hr13 => ?_
   have hflat : ∀ y ∈ [wk, wn, wb, wt, wx], flat y = true := by
    intro y hy
    simp only [List.mem_cons, List.not_mem_nil, or_false] at hy
    rcases hy with rfl | rfl | rfl | rfl | rfl
    ·exact zO rk
    ·exact zO rn
    ·exact zO rb
    ·exact zO rt
    ·exact zO rx
   refine zD (ys := [wk, wn, wb, wt, wx]) z7g (Hp.set_same ..) rfl hflat (fun i _ => by simp) ?_
   rw [Hp.set_set]
   have s0 := Stp.block (.row zG [wk, wn, wb, wt, wx] 5 (some (0, 0))) st.own hr13
   have x0 : Hp.ext h1 (h1.set r13 (.row zG [wk, wn, wb, wt, wx] 5 (some (0, 0)))) := z1x _ hr13
   have hM : (h1.set r13 (.row zG [wk, wn, wb, wt, wx] 5 (some (0, 0)))) r13 = some (.row zG [wk, wn, wb, wt, wx] 5 (some (0, 0))) := Hp.set_same ..
   have C0 := hC1'.ext st.own s0.ext x0
   generalize h1.set r13 (.row zG [wk, wn, wb, wt, wx] 5 (some (0, 0))) = M at s0 x0 hM C0
   generalize R1.set r13 (.row zG [wk, wn, wb, wt, wx] 5 (some (0, 0))) = R0 at s0 C0
   have d0 : M.cell ⟨r13, 0, none⟩ = some wk := by rw [zj hM]; rfl
   have d1 : M.cell ⟨r13, 1, none⟩ = some wn := by rw [zj hM]; rfl
   have d2 : M.cell ⟨r13, 2, none⟩ = some wb := by rw [zj hM]; rfl
   have d3 : M.cell ⟨r13, 3, none⟩ = some wt := by rw [zj hM]; rfl
   have d4 : M.cell ⟨r13, 4, none⟩ = some wx := by rw [zj hM]; rfl
   have up : ∀ {v : Value} {l : List Nat}, Rn R1 .u8 v l → Rn M .u8 v l := fun r => s0.own.rn (r.mono s0.ext.cle)
   have up0 : ∀ {v : Value} {l : List Nat}, Rn R .u8 v l → Rn M .u8 v l := fun r => up (r.mono st.ext.cle)
   have ei : ((i : Nat) : Int) + 1 = ((i + 1 : Nat) : Int) := by omega
   have edrop : bs.drop i = s :: bs.drop (i + 1) := by
    rw [List.drop_eq_getElem_cons hlt]
    rw [List.getElem?_eq_getElem hlt, Option.some.injEq] at es
    rw [es]
   rw [edrop] at hfb
   simp only [z4p] at hfb
   simp -zeta (disch := omega) only [GL, RL, rs3, d3, wi64, ei]
   intro J20
   have no : ¬ (s.key = key ∧ s.nonce = nonce ∧ s.beside = b ∧ boxB i (s.text.length + 16) = x) → J20 (.bool false) M := by
    intro hno
    simp -zeta (disch := omega) only [J20, GL, RL, wi64, ei, Bool.false_eq_true, if_false]
    rw [if_neg hno] at hfb
    exact ⟨M, .refl _, m - 1, by omega, i + 1, R0, by omega, st.trans s0, C0, hfb, rfl⟩
   have yes : (s.key = key ∧ s.nonce = nonce ∧ s.beside = b ∧ boxB i (s.text.length + 16) = x) → J20 (.bool true) M := by
    intro hyes
    simp -zeta only [J20, GL, if_true]
    rw [if_pos hyes] at hfb
    rw [← hfb] at k
    refine zT (ps := []) (n := 0) za zp z1p rfl (by omega) (by intro p hp; cases hp) fun v75 h2 n2 _ => ?_
    have d3' := n2.cle _ _ d3
    simp -zeta (disch := omega) only [GL, RL, rs3, d3']
    refine z1t za za zw rfl (by omega) n2 ((up rt).mono n2.cle) (zq _ _) (by omega) (.refl _) fun v78 h3 n3 => ?_
    have n3' : Nn M zc .u8 v78 h3 s.text := by unfold Nn; simpa [z1f] using n3
    obtain ⟨R3, s3, r3⟩ := Stp.newN s0.own n3'
    exact k v78 R3 h3 ((st.trans s0).trans s3) (C0.ext s0.own s3.ext n3'.ext) (by simpa using r3)
   clear_value J20
   simp -zeta (disch := omega) only [GL, RL, rs0, rs1, rs2, rs4, d0, d1, d2, d4]
   obtain ⟨_, lkk, lkn, lkb⟩ := bys
   refine z1A (up rk) (up0 hk) (by omega) ?_
   by_cases q1 : s.key = key
   case neg =>
    simp -zeta only [q1, decide_false, GL, Bool.false_eq_true, if_false]
    exact no fun q => q1 q.1
   simp -zeta (disch := omega) only [q1, decide_true, GL, RL, if_true, rs1, d1]
   refine z1A (up rn) (up0 hn) (by omega) ?_
   by_cases q2 : s.nonce = nonce
   case neg =>
    simp -zeta only [q2, decide_false, GL, Bool.false_eq_true, if_false]
    exact no fun q => q2 q.2.1
   simp -zeta (disch := omega) only [q2, decide_true, GL, RL, if_true, rs2, d2]
   refine z1A (up rb) (up0 hb) (by omega) ?_
   by_cases q3 : s.beside = b
   case neg =>
    simp -zeta only [q3, decide_false, GL, Bool.false_eq_true, if_false]
    exact no fun q => q3 q.2.2.1
   simp -zeta (disch := omega) only [q3, decide_true, GL, RL, if_true, rs4, d4]
   refine z1A (up rx) (up0 hx) (by rw [z2M]; omega) ?_
   by_cases q4 : boxB i (s.text.length + 16) = x
   ·rw [decide_eq_true q4]; exact yes ⟨q1, q2, q3, q4⟩
   ·rw [decide_eq_false q4]; exact no fun q => q4 q.2.2.2
  clear_value J5
  simp (disch := omega) only [GL, RL, lnk, lnn, e32, e12]
  by_cases q1 : key.length = 32
  case neg =>
   simp only [q1, ne_eq, not_false_eq_true, decide_true, Bool.true_eq_false, if_false, if_true]
   exact bad fun q => q1 q.1
  by_cases q2 : nonce.length = 12
  case neg =>
   simp only [q1, q2, ne_eq, not_true_eq_false, not_false_eq_true, decide_true, decide_false, if_true]
   exact bad fun q => q2 q.2
  simp only [q1, q2, ne_eq, not_true_eq_false, decide_false, Bool.false_eq_true, if_false, if_true]
  exact good ⟨q1, q2⟩
end
set_option maxHeartbeats 8000000
theorem zoU {h : Hp} {m : Sem Value} {v : Value} (e : ∀ K : Value → Prop, q P h m K = K v) : peek P h m = some v := by
 obtain ⟨x, hx, e2⟩ := z1v (K := fun x => x = v) ((e fun x => x = v).mpr rfl)
 rw [e2] at hx
 exact hx
def sin (R h H : Hp) : Hp := fun b => (R b).or (if (h b).isNone then H b else none)
theorem zqf {R h H : Hp} {S : List Nat} (w : Own R h S) (x : Hp.ext h H) : Stp R h (sin R h H) H S S := by
 refine ⟨fun b o e => by unfold sin; rw [e]; rfl, fun b o _ e => x b o e, fun b o n e => n, fun b o n e r => ?_, ⟨fun b o e => ?_, fun b hb => ?_, fun b hb => ?_⟩⟩
 ·unfold sin; rw [r, e]; rfl
 ·unfold sin at e
  cases hR : R b with
  | some o' =>
   rw [hR] at e
   have : o' = o := by simpa using e
   subst this
   exact x _ _ (w.sub _ _ hR)
  | none =>
   rw [hR, Option.none_or] at e
   split at e
   ·exact e
   ·cases e
 ·obtain ⟨o, e⟩ := w.kn b hb
  unfold sin; rw [w.dis b hb, e]; rfl
 ·obtain ⟨o, e⟩ := w.kn b hb
  exact ⟨o, x _ _ e⟩
theorem zqg {R h H H' : Hp} (x : Hp.ext H H') : Hp.ext (sin R h H) (sin R h H') := fun b o e => by
 unfold sin at e ⊢
 cases hR : R b with
 | some o' => rw [hR] at e; simpa using e
 | none =>
  rw [hR] at e
  rw [Option.none_or] at e ⊢
  split at e
  ·rename_i q; rw [if_pos q]; exact x _ _ e
  ·cases e
theorem zk8 {R h H H' : Hp} {S : List Nat} {v : Value} {l : List Nat} (w : Own R h S) (x : Hp.ext h H) (n : Nn H zc .u8 v H' l) : Rn (sin R h H') .u8 v l := by
 rcases n.2 with ⟨rfl, e, rfl⟩ | ⟨b, c, f, hb, hc, rfl, rfl, hf⟩
 ·have : l = [] := List.eq_nil_of_length_eq_zero e
  subst this
  exact z3y _ _
 ·have hb0 := x.none hb
  have hr : sin R h (H.set b (.row zc (nv .u8 l) (c * 1) (some f))) b = some (.row zc (nv .u8 l) (c * 1) (some f)) := by
   unfold sin
   rw [w.sub.none hb0, hb0]
   simp
  exact ⟨by rw [ze]; omega, _, c, rfl, hc, .inr ⟨b, 0, rfl, fun i y e => by rw [zj hr, Nat.zero_add]; exact e⟩⟩
def Got (R h H : Hp) (L : List (Value × List Nat)) : Prop := Hp.ext h H ∧ ∀ q, q ∈ L → Rn (sin R h H) .u8 q.1 q.2
theorem zqh {R h H : Hp} {S : List Nat} {L : List (Value × List Nat)} {y : Value} {l : List Nat} {r : Nat} {F : Value → Hp → Prop} (G : Got R h H L) (w : Own R h S) (ry : Rn R .u8 y l) (hl : l.length ≤ 1099511627776)
  (k : ∀ v H', Got R h H' ((v, l) :: L) → F v H') : aw P (Builtin.append_ #[zd, zd] zd #[.slice (some ⟨r, 0, none⟩) 0 0, y]) F H := by
 have rH : Rn H .u8 y l := ry.mono (w.sub.cle.trans G.1.cle)
 refine zkM za za zw rfl (by omega) rH (by omega) (fun h0 => ?_) fun v H' nw => ?_
 ·have : l = [] := List.eq_nil_of_length_eq_zero h0
  subst this
  refine k _ H ⟨G.1, fun q hq => ?_⟩
  rcases List.mem_cons.1 hq with rfl | hq
  ·exact ⟨rfl, _, 0, rfl, Nat.le_refl _, .inl rfl⟩
  ·exact G.2 q hq
 ·have n' : Nn H zc .u8 v H' l := nw
  refine k v H' ⟨G.1.trans n'.ext, fun q hq => ?_⟩
  rcases List.mem_cons.1 hq with rfl | hq
  ·exact zk8 w G.1 n'
  ·exact (G.2 q hq).mono (zqg n'.ext).cle
theorem zqi {H : Hp} {F : Value → Hp → Prop} (k : ∀ r, F (.slice (some ⟨r, 0, none⟩) 0 0) H) : aw P (Instr.buildSlice zd 0 #[]) F H := zpd za zp z1p rfl k
theorem bldR {h : Hp} {K : Value → Prop} (a b c d e : Option Addr) (n1 n2 n3 n4 n5 c1 c2 c3 c4 c5 : Nat) : q P h (Instr.build zG #[(0, .slice a n1 c1), (1, .slice b n2 c2), (2, .slice c n3 c3), (3, .slice d n4 c4), (4, .slice e n5 c5)]) K = K (.agg #[.slice a n1 c1, .slice b n2 c2, .slice c n3 c3, .slice d n4 c4, .slice e n5 c5]) := q_of (by kernel_rfl) K
section
variable {h : Hp} {K : Value → Hp → Prop}
theorem ziU {tx : Value} {R : Hp} {p : Nat} {c : Cr} {S : List Nat} {vk vn vb vt : Value} {key nonce b t : List Nat} (w : Own R h S) (hC : RefAtX tx R h p c S) (hf : few 1000000 c)
  (hk : Rn R .u8 vk key) (hn : Rn R .u8 vn nonce) (hb : Rn R .u8 vb b) (ht : Rn R .u8 vt t) (bk : Bytes key) (bn : Bytes nonce) (bb : Bytes b) (bt : Bytes t)
  (lb : b.length ≤ 1099511627776) (lt : t.length ≤ 1099511627776)
  (k : ∀ v R' h' S', Stp R h R' h' S S' → RefAtX tx R' h' p (zN c key nonce b t).2.2 S' → (if (zN c key nonce b t).1 = 0 then Rn R' .u8 v (zN c key nonce b t).2.1 else v = .slice none 0 0) → K (.tuple #[v, .int .i64 (((zN c key nonce b t).1 : Nat) : Int)]) h') :
  Cn P z4s #[.pointer (some ⟨p, 0, none⟩), vk, vn, vb, vt] h K := by
 refine z7X ?_
 unfold z4u
 dsimp -zeta only
 cases c with
 | real =>
  have c0 : h.cell ⟨p, 0, none⟩ = some (.bool false) := by rw [zj hC.1]; rfl
  refine (z9m _).mpr ?_
  refine (rf0 p).mpr ?_
  refine (q_ld zlM rfl _).mpr ?_
  refine z55 c0 ?_
  refine (zkk _).mpr ?_
  refine (z5W _ _ _).mpr ?_
  rw [if_pos (show (!false) = true from rfl)]
  refine zfd (w.rn hk) (w.rn hn) (w.rn hb) (w.rn ht) bk bn bb bt lb lt fun v h1 n1 => ?_
  rw [ext0, ext1]
  by_cases hm : key.length = 32 ∧ nonce.length = 12
  ·have hm' : may key nonce := hm
   simp only [if_pos hm] at n1 ⊢
   simp only [zN, if_pos hm'] at k
   obtain ⟨R1, s1, r1⟩ := Stp.newN w n1
   exact k v R1 h1 S s1 (hC.ext w s1.ext n1.ext) (by simpa using r1)
  ·have hm' : ¬ may key nonce := hm
   simp only [if_neg hm] at n1 ⊢
   simp only [zN, if_neg hm'] at k
   obtain ⟨rfl, rfl⟩ := n1
   exact k _ R h1 S (.refl w) hC (by simp)
 | book ts bs =>
  have hC0 := hC
  obtain ⟨bxv, xs, Sb, hp, hO, hB, rfl, hpS, hby⟩ := hC
  have c0 : h.cell ⟨p, 0, none⟩ = some (.bool true) := by rw [zj hp]; rfl
  have c2 : h.cell ⟨p, 2, none⟩ = some bxv := by rw [zj hp]; rfl
  refine (z9m _).mpr ?_
  refine (rf0 p).mpr ?_
  refine (q_ld zlM rfl _).mpr ?_
  refine z55 c0 ?_
  refine (zkk _).mpr ?_
  refine (z5W _ _ _).mpr ?_
  rw [if_neg (by decide)]
  intro J5
  have bad : ¬ may key nonce → K (.tuple #[.slice none 0 0, .int .i64 1]) h := fun hm => by
   simp only [zN, if_neg hm] at k
   exact k _ R h _ (.refl w) hC0 (by simp)
  have good : may key nonce → J5 h := by
   intro hm
   unfold J5
   clear J5
   simp only [zN, if_pos hm] at k
   have hbs : bs.length ≤ 1000000 := hf.1
   refine (z9m _).mpr ?_
   refine (rf2 p).mpr ?_
   refine (q_ld z1c rfl _).mpr ?_
   refine z55 c2 ?_
   obtain ⟨_, a1, n1, eb1, hn1, _⟩ := hO.rds
   have lnb : ∀ {h : Hp} {K : Value → Prop}, q P h (Builtin.len_ #[z1o] zi #[bxv]) K = K (.int .i64 bs.length) := fun {h K} => by rw [eb1]; exact z12 z1c _ _ _
   refine lnb.mpr ?_
   refine zjs bs.length (by omega) fun t40 h1 n40 => ?_
   obtain ⟨b8, c8, f8, hb8, hc8, rfl, hh8, hf8⟩ := n40.form (by rw [z2p]; omega)
   rw [z2p] at *
   obtain ⟨att, ctt, ett, hctt⟩ := ht.shape
   have lnt : ∀ {h : Hp} {K : Value → Prop}, q P h (Builtin.len_ #[zd] zi #[vt]) K = K (.int .i64 t.length) := fun {h K} => by rw [ett]; exact z12 za _ _ _
   refine Lp_mk (fun m vs h' => ∃ (i : Nat) (vo : Value), i + m = t.length + 16 ∧ Nn h1 zc .u8 vo h' ((boxB bs.length (t.length + 16)).take i) ∧ vs = [vo, .int .i64 (i : Int)]) (t.length + 16) ⟨0, .slice none 0 0, by omega, Nn.nil .., rfl⟩ ?_
   rintro m vs h2 ⟨i, vo, him, nO, rfl⟩
   refine lnt.mpr ?_
   refine (zki _ _ _ _).mpr ?_
   refine (zkj _ _ _ _).mpr ?_
   refine (z5W _ _ _).mpr ?_
   have e16 : IntKind.i64.wrap (((t.length : Nat) : Int) + 16) = ((t.length + 16 : Nat) : Int) := by rw [wi64 (by omega) (by omega)]; omega
   have lbx := z2M bs.length (t.length + 16)
   rw [e16]
   by_cases hlt : i < t.length + 16
   ·rw [if_pos (by show decide (((i : Nat) : Int) < ((t.length + 16 : Nat) : Int)) = true; rw [decide_eq_true_eq]; omega)]
    have em : ((i : Nat) : Int).tmod 8 = ((i % 8 : Nat) : Int) := by rw [Int.tmod_eq_emod_of_nonneg (by omega)]; exact (Int.natCast_emod i 8).symm
    have h8 : i % 8 < 8 := Nat.mod_lt _ (by omega)
    have row8 : h1 b8 = some (.row zc (nv .u8 (bg 8 bs.length)) (c8 * 1) (some f8)) := by rw [hh8]; exact Hp.set_same ..
    have c8' : h2.cell ⟨b8, i % 8, none⟩ = some (.int .u8 (((bg 8 bs.length).getD (i % 8) 0 : Nat) : Int)) := by rw [zj (nO.ext _ _ row8)]; exact z1g _ _ _ (by rw [z2p]; exact h8)
    have ei : ((i : Nat) : Int) + 1 = ((i + 1 : Nat) : Int) := by omega
    have tN : Int.toNat ((i % 8 : Nat) : Int) = i % 8 := Int.toNat_natCast _
    simp (disch := omega) only [GL, RL, em, Nat.zero_add, c8', wi64, ei]
    refine zT (ps := [(0, _)]) za zp z1p rfl (by omega) (by intro p hp; rw [List.mem_singleton.1 hp]; exact ⟨rfl, by show _ < 1; omega⟩) fun w2 h3 n3 _ => ?_
    have n3' : Nn h2 zc .u8 w2 h3 [(bg 8 bs.length).getD (i % 8) 0] := n3
    refine zQ za za zw rfl (by omega) nO n3' (zq _ _) (by rw [List.length_take]; simp; omega) fun vo' h4 n4 => ?_
    rw [← z13] at n4
    refine ⟨h4, .refl _, m - 1, by omega, i + 1, vo', by omega, ?_, rfl⟩
    have e : (boxB bs.length (t.length + 16)).take (i + 1) = (boxB bs.length (t.length + 16)).take i ++ [(bg 8 bs.length).getD (i % 8) 0] := by
     rw [List.take_succ_eq_append_getElem (by omega)]
     simp [boxB]
    rw [e]
    unfold Nn
    rw [List.length_append]
    exact n4
   rw [if_neg (by show ¬ decide (((i : Nat) : Int) < ((t.length + 16 : Nat) : Int)) = true; rw [decide_eq_true_eq]; omega)]
   rw [List.take_of_length_le (by omega)] at nO
   have x02 : Hp.ext h h2 := n40.ext.trans nO.ext
   have c22 := x02.cle _ _ c2
   intro J18
   refine (z9m _).mpr ?_
   refine (rf2 p).mpr ?_
   refine (q_ld z1c rfl _).mpr ?_
   refine z55 c22 ?_
   have G0 : Got R h h2 [(vo, boxB bs.length (t.length + 16))] := ⟨x02, fun q hq => by rw [List.mem_singleton.1 hq]; exact zk8 w n40.ext nO⟩
   have pk47 : ∀ {H : Hp} {L : List (Value × List Nat)}, Got R h H L → peek P H (Instr.loadAt z1o (.pointer (some ⟨p, 2, none⟩))) = some bxv := fun {H L} G => zoU fun K => (q_ld z1c rfl _).trans (by rw [G.1.cle _ _ c2]; rfl)
   have lkk : key.length ≤ 1099511627776 := by have := hm.1; omega
   have lnn' : nonce.length ≤ 1099511627776 := by have := hm.2; omega
   have fin : ∀ (v63 v66 v69 v72 : Value) (H : Hp) (L : List (Value × List Nat)), Got R h H L → (v63, key) ∈ L → (v66, nonce) ∈ L → (v69, b) ∈ L → (v72, t) ∈ L → (vo, boxB bs.length (t.length + 16)) ∈ L →
     q P emp (Instr.build zG #[(0, v63), (1, v66), (2, v69), (3, v72), (4, vo)]) fun t74 => aw P (Instr.buildSlice z1o 1 #[(0, t74)]) (fun t75 h => peek P h (Instr.loadAt z1o (.pointer (some ⟨p, 2, none⟩))) = some bxv ∧ peek P h (Instr.fieldAt zX (.pointer (some ⟨p, 0, none⟩)) 2) = some (.pointer (some ⟨p, 2, none⟩)) ∧ aw P (Builtin.append_ #[z1o, z1o] z1o #[bxv, t75]) (fun t76 h => q P emp (zv (.pointer (some ⟨p, 0, none⟩))) fun t77 => q P h (Instr.fieldAt zX t77 2) fun t78 => aw P (Instr.storeAt z1o t78 t76) (fun _ h => J18 h) h) h) H := by
    intro v63 v66 v69 v72 H L G m1 m2 m3 m4 m5
    have r1 := G.2 _ m1
    have r2 := G.2 _ m2
    have r3 := G.2 _ m3
    have r4 := G.2 _ m4
    have r5 := G.2 _ m5
    dsimp only at r1 r2 r3 r4 r5
    have fl : ∀ y ∈ [v63, v66, v69, v72, vo], flat y = true := by
     intro y hy
     simp only [List.mem_cons, List.not_mem_nil, or_false] at hy
     rcases hy with rfl | rfl | rfl | rfl | rfl
     ·exact zO r1
     ·exact zO r2
     ·exact zO r3
     ·exact zO r4
     ·exact zO r5
    have bld : q P emp (Instr.build zG #[(0, v63), (1, v66), (2, v69), (3, v72), (4, vo)]) = fun K => K (.agg [v63, v66, v69, v72, vo].toArray) := by
     obtain ⟨s1, u1, e1, _⟩ := r1.shape
     obtain ⟨s2, u2, e2, _⟩ := r2.shape
     obtain ⟨s3, u3, e3, _⟩ := r3.shape
     obtain ⟨s4, u4, e4, _⟩ := r4.shape
     obtain ⟨s5, u5, e5, _⟩ := r5.shape
     funext K
     rw [e1, e2, e3, e4, e5]
     exact bldR s1 s2 s3 s4 s5 _ _ _ _ _ u1 u2 u3 u4 u5
    rw [bld]
    have st := zqf w G.1
    refine zjL z1c z7g zfe rfl rfl (by omega) (by omega) fun v75 h3 n3 => ?_
    have x3 := G.1.trans n3.ext
    refine ⟨zoU fun K => (q_ld z1c rfl _).trans (by rw [x3.cle _ _ c2]; rfl), prf2 _, ?_⟩
    obtain ⟨R3, s3, q3⟩ := Stp.new st.own n3
    have ownSb : Own R3 h3 Sb := s3.own.sub' fun z hz => List.mem_cons_of_mem _ hz
    have hO3 : OutAt zG 5 h3 bxv xs bs.length Sb := hO.keep fun z hz => by
     obtain ⟨o, e⟩ := w.kn z (List.mem_cons_of_mem _ hz)
     rw [e, x3 _ _ e]
    refine z9E z1c z1c zjB rfl (by omega) hO3 n3.rds fl (by omega) fun v76 h4 So' O4 kp4 fr4 => ?_
    have s4 := OutAt.step ownSb O4 kp4 fr4
    have hp3 := x3 _ _ hp
    have hp4 := kp4 p _ hpS hp3
    have pS' : p ∉ So' := fr4 p _ hpS hp3
    refine (z9m _).mpr ?_
    refine (rf2 p).mpr ?_
    refine z26 z8p (O4.rds.2.elim fun a q => by obtain ⟨c, e, _⟩ := q; rw [e]; rfl) (z2b hp4 (by simp) (by simp) _) ?_
    unfold J18
    obtain ⟨h5, hh5⟩ : ∃ h5, h4.set p (.row zX ([Value.bool true, tx, bxv].set 2 v76) 3 (some (0, 0))) = h5 := ⟨_, rfl⟩
    show aw P _ _ (h4.set p (.row zX ([Value.bool true, tx, bxv].set 2 v76) 3 (some (0, 0))))
    rw [hh5]
    have k5 : ∀ x o, x ∉ p :: Sb → h3 x = some o → h5 x = some o := fun x o hx e => by
     simp only [List.mem_cons, not_or] at hx
     rw [← hh5, Hp.set_ne _ _ hx.1]
     exact kp4 x o hx.2 e
    have st5 : Stp R3 h3 R3 h5 (p :: Sb) (p :: So') := by
     refine ⟨.refl _, k5, fun x o hx e => ?_, fun x o _ _ e => e, ⟨fun x o e => ?_, fun x hx => ?_, fun x hx => ?_⟩⟩
     ·simp only [List.mem_cons, not_or] at hx ⊢
      exact ⟨hx.1, fr4 x o hx.2 e⟩
     ·refine k5 x o (fun hx => ?_) (s3.own.sub x o e)
      rw [s3.own.dis x hx] at e; cases e
     ·rcases List.mem_cons.1 hx with g | g
      ·rw [g]; exact s3.own.dis _ (by simp)
      ·exact s4.own.dis x g
     ·rcases List.mem_cons.1 hx with g | g
      ·rw [g]; exact ⟨_, by rw [← hh5]; exact Hp.set_same ..⟩
      ·obtain ⟨o, e⟩ := s4.own.kn x g
       exact ⟨o, by rw [← hh5, Hp.set_ne _ _ (show x ≠ p from fun q => by rw [q] at g; exact pS' g)]; exact e⟩
    have up3 : ∀ {v : Value} {l : List Nat}, Rn (sin R h H) .u8 v l → Rn R3 .u8 v l := fun r => r.mono s3.ext.cle
    have key5 : RefAtX tx R3 h5 p (.book ts (bs ++ [⟨key, nonce, b, t⟩])) (p :: So') := by
     refine ⟨v76, xs ++ [v63, v66, v69, v72, vo], So', by rw [← hh5]; exact Hp.set_same .., ?_, RefBoxes.snoc (hB.mono (st.trans s3).ext.cle) (up3 r1) (up3 r2) (up3 r3) (up3 r4) (up3 r5), rfl, pS', fun z hz => ?_⟩
     ·have : OutAt zG 5 h5 v76 (xs ++ [v63, v66, v69, v72, vo]) (bs.length + 1) So' := O4.keep fun z hz => by rw [← hh5, Hp.set_ne _ _ (by rintro rfl; exact pS' hz)]
      rw [List.length_append]; exact this
     ·rcases List.mem_append.1 hz with q | q
      ·exact hby z q
      ·rw [List.mem_singleton.1 q]; exact ⟨⟨bk, bn, bb, bt⟩, lkk, lnn', lb⟩
    have r5' : Rn R3 .u8 vo (boxB bs.length (t.length + 16)) := up3 r5
    refine zT (ps := []) (n := 0) za zp z1p rfl (by omega) (by intro p hp; cases hp) fun v79 h6 n6 _ => ?_
    refine z1t za za zw rfl (by omega) n6 (r5'.mono (st5.own.sub.cle.trans n6.cle)) (zq _ _) (by rw [lbx]; omega) (.refl _) fun v81 h7 n7 => ?_
    have n7' : Nn h5 zc .u8 v81 h7 (boxB bs.length (t.length + 16)) := by unfold Nn; simpa [z1f] using n7
    obtain ⟨R7, s7, r7⟩ := Stp.newN st5.own n7'
    exact k v81 R7 h7 (p :: So') (((st.trans s3).trans st5).trans s7) (key5.ext st5.own s7.ext n7'.ext) (by simpa using r7)
   clear_value J18
   clear c22 e16 lnb lnt k
   repeat' (first
    | with_reducible refine And.intro ?_ ?_
    | with_reducible exact prf2 _
    | with_reducible exact pk47 (by assumption)
    | with_reducible refine zqi fun _ => ?_
    | with_reducible refine zqh (by assumption) w (by assumption) (by assumption) fun _ _ _ => ?_
    | exact fin _ _ _ _ _ _ (by assumption) (by simp) (by simp) (by simp) (by simp) (by simp))
  clear_value J5
  obtain ⟨ak, ck, ek, hck⟩ := hk.shape
  obtain ⟨an, cn, en, hcn⟩ := hn.shape
  have lnk : ∀ {h : Hp} {K : Value → Prop}, q P h (Builtin.len_ #[zd] zi #[vk]) K = K (.int .i64 key.length) := fun {h K} => by rw [ek]; exact z12 za _ _ _
  have lnn : ∀ {h : Hp} {K : Value → Prop}, q P h (Builtin.len_ #[zd] zi #[vn]) K = K (.int .i64 nonce.length) := fun {h K} => by rw [en]; exact z12 za _ _ _
  have e32 : (((key.length : Nat) : Int) != 32) = decide (key.length ≠ 32) := z3h key.length 32
  have e12 : (((nonce.length : Nat) : Int) != 12) = decide (nonce.length ≠ 12) := z3h nonce.length 12
  simp (disch := omega) only [GL, RL, lnk, lnn, e32, e12]
  by_cases q1 : key.length = 32
  case neg =>
   simp only [q1, ne_eq, not_false_eq_true, decide_true, Bool.true_eq_false, if_false, if_true]
   exact bad fun q => q1 q.1
  by_cases q2 : nonce.length = 12
  case neg =>
   simp only [q1, q2, ne_eq, not_true_eq_false, not_false_eq_true, decide_true, decide_false, if_true]
   exact bad fun q => q2 q.2
  simp only [q1, q2, ne_eq, not_true_eq_false, decide_false, Bool.false_eq_true, if_false, if_true]
  exact good ⟨q1, q2⟩
end
end Go.Proofs.YtoikhbagchfeoaaGreat
set_option maxHeartbeats 2000000
namespace Go.Proofs.YtoikhbagchfeoaaGreat
open Go Go.SL Go.Pure Go.Curve
section
variable {h : Hp} {K : Value → Hp → Prop}
theorem zcC {vs vo vp : Value} {shared once point : List Nat} (rs : Rn h .u8 vs shared) (ro : Rn h .u8 vo once) (rp : Rn h .u8 vp point) (bs : Bytes shared) (bo : Bytes once) (bp : Bytes point) (ls : shared.length = 32) (lo : once.length = 32) (lp : point.length = 32)
  (k : ∀ r h', Nn h zc .u8 r h' (keyW shared once point) → K r h') : Cn P zdv #[vs, vo, vp] h K := by
 refine Cn_wk (zdG ?_)
 unfold z7y
 refine z9e fun v0 H0 n0 => z3X n0 (ro.mono n0.cle) (by simp; omega) fun v1 H1 n1 => z3X n1 (rp.mono n1.cle) (by simp; omega) fun v2 H2 n2 => ?_
 rw [List.nil_append] at n2
 have e3 : z1f [(0, Value.int .u8 111), (1, .int .u8 114), (2, .int .u8 108), (3, .int .u8 111), (4, .int .u8 112), (5, .int .u8 32), (6, .int .u8 119), (7, .int .u8 114), (8, .int .u8 97), (9, .int .u8 112)] (List.replicate 10 (.int .u8 0)) = nv .u8 infoW := rfl
 refine zT (ps := [(0, .int .u8 111), (1, .int .u8 114), (2, .int .u8 108), (3, .int .u8 111), (4, .int .u8 112), (5, .int .u8 32), (6, .int .u8 119), (7, .int .u8 114), (8, .int .u8 97), (9, .int .u8 112)]) za zp z1p rfl (by omega) (by
   intro p hp
   simp only [List.mem_cons, List.not_mem_nil, or_false] at hp
   rcases hp with rfl | rfl | rfl | rfl | rfl | rfl | rfl | rfl | rfl | rfl <;> exact ⟨rfl, by decide⟩) fun v3 H3 _ hx3 => ?_
 obtain ⟨rb, hrb, rfl, rfl⟩ := hx3
 rw [e3]
 refine zjX hrb rfl fun H3 n3 => ?_
 have n3' : Nn H2 zc .u8 (.slice (some ⟨rb, 0, none⟩) 10 10) H3 infoW := n3
 have x3 : Hp.ext h H3 := n2.ext.trans n3'.ext
 refine zlk (rs.mono x3.cle) (n2.rn.mono n3'.ext.cle) n3'.rn bs (bo.append bp) zdq (by omega) (by rw [List.length_append]; omega) (by rw [List.length_append]; omega) (by decide) fun v4 H4 n4 => ?_
 rw [ext0, ext1]
 obtain ⟨h0, l0, nw⟩ := n4.down x3.le
 exact ⟨h0, l0, k _ _ nw⟩
theorem ziV {R : Hp} {p : Nat} {vo vp vk vx : Value} {c : Cr} {S once point key ctx : List Nat} (w : Own R h S) (hC : RefAt R h p c S) (hf : few 1000000 c) (ro : Rn R .u8 vo once) (rp : Rn R .u8 vp point) (rk : Rn R .u8 vk key) (rx : Rn R .u8 vx ctx)
  (bo : Bytes once) (bp : Bytes point) (bk : Bytes key) (bx : Bytes ctx) (lx : ctx.length ≤ 100000)
  (k : ∀ v R' h' S', Stp R h R' h' S S' → RefAt R' h' p (z1H c once point key ctx).2.2 S' → (if (z1H c once point key ctx).1 = 0 then Rn R' .u8 v (z1H c once point key ctx).2.1 else v = .slice none 0 0) → K (.tuple #[v, .int .i64 (((z1H c once point key ctx).1 : Nat) : Int)]) h') :
  Cn P zcD #[.pointer (some ⟨p, 0, none⟩), vo, vp, vk, vx] h K := by
 refine zcT ?_
 unfold z6I
 obtain ⟨ak, ck, rfl, _⟩ := rk.shape
 obtain ⟨ao, co, rfl, _⟩ := ro.shape
 obtain ⟨ap, cp, rfl, _⟩ := rp.shape
 have ln : ∀ {G : Hp} {K : Value → Prop} (a : Option Addr) (n c : Nat), q P G (Builtin.len_ #[zd] zi #[.slice a n c]) K = K (.int .i64 (n : Nat)) := fun {G K} _ _ _ => z12 za _ _ _
 intro J
 have bad : ¬ (key.length = 32 ∧ once.length = 32 ∧ point.length = 32) → K (.tuple #[.slice none 0 0, .int .i64 1]) h := fun hn => by
  have e : z1H c once point key ctx = (1, [], c) := by rw [z1H, if_pos hn]
  rw [e] at k
  exact k _ R h S (.refl w) hC (by simp)
 have qJ : (key.length = 32 ∧ once.length = 32 ∧ point.length = 32) → J h := by
  rintro ⟨hk, h1, h2⟩
  simp -zeta only [J]
  clear J bad
  have b0 : ((0 : Int) != 0) = false := rfl
  have b10 : ((10 : Int) != 0) = true := rfl
  refine zf0 (w.rn ro) (w.rn rp) bo bp h1 h2 (fun h3 => ?_) fun h3 r1 H1 n1 => ?_
  ·have e : z1H c once point key ctx = (10, [], c) := by rw [z1H, if_neg fun q => q ⟨hk, h1, h2⟩, if_pos h3]
   rw [e] at k
   rw [ext0, ext1]
   simp -zeta only [GL, b10, if_true]
   exact k _ R h S (.refl w) hC (by simp)
  ·have e : z1H c once point key ctx = (0, [1] ++ point ++ nb (zt once) ++ (zN c (keyW (nb (zV once point)) (nb (zt once)) point) zeros12 ctx key).2.1, (zN c (keyW (nb (zV once point)) (nb (zt once)) point) zeros12 ctx key).2.2) := by rw [z1H, if_neg fun q => q ⟨hk, h1, h2⟩, if_neg h3]
   rw [e] at k
   clear e h3
   generalize zV once point = sh at *
   rw [ext0, ext1]
   simp -zeta only [GL, b0, Bool.false_eq_true, if_false]
   obtain ⟨R1, s1, q1⟩ := Stp.newN w n1
   refine zeZ (s1.own.rn (ro.mono s1.ext.cle)) bo h1 fun r2 H2 n2 => ?_
   generalize zt once = pu at *
   obtain ⟨R2, s2, q2⟩ := Stp.newN s1.own n2
   have s12 := s1.trans s2
   rw [ext0, ext1]
   have hC2 : RefAt R2 H2 p c S := hC.ext w s12.ext (n1.ext.trans n2.ext)
   have rp2 := rp.mono s12.ext.cle
   have q1' := q1.mono s2.ext.cle
   have lpu := zm pu
   have lsh := zm sh
   have bpu := z1J pu
   have bsh := z1J sh
   have rx2 := rx.mono s12.ext.cle
   have rk2 := rk.mono s12.ext.cle
   have lkw := z6e (nb sh) (nb pu) point
   have bkw := z7e (nb sh) (nb pu) point
   have hm : may (keyW (nb sh) (nb pu) point) zeros12 := ⟨lkw, rfl⟩
   intro J13
   have q13 : ∀ v6 R6 H6 S6, Stp R2 H2 R6 H6 S S6 → RefAt R6 H6 p (zN c (keyW (nb sh) (nb pu) point) zeros12 ctx key).2.2 S6 → Rn R6 .u8 v6 (zN c (keyW (nb sh) (nb pu) point) zeros12 ctx key).2.1 → J13 v6 H6 := by
    intro v6 R6 H6 S6 s6 hC6 r6
    simp -zeta only [J13]
    clear J13
    have c6 : (zN c (keyW (nb sh) (nb pu) point) zeros12 ctx key).1 = 0 := by cases c <;> simp only [zN, if_pos hm]
    have l6 := z9Z c6
    generalize keyW (nb sh) (nb pu) point = kw at *
    generalize (zN c kw zeros12 ctx key).2.1 = box at *
    have s16 := s12.trans s6
    refine zcB 1 fun v7 H7 n7 => ?_
    have u1 := s6.own.rn (rp.mono s16.ext.cle)
    have u2 := s6.own.rn (q2.mono s6.ext.cle)
    have u3 := s6.own.rn r6
    refine z3X n7 (u1.mono n7.cle) (by simp; omega) fun v8 H8 n8 => z3X n8 (u2.mono n8.cle) (by simp; omega) fun v9 H9 n9 => z3X n9 (u3.mono n9.cle) (by simp; omega) fun v10 H10 n10 => ?_
    obtain ⟨R9, s9, q9⟩ := Stp.newN s6.own n10
    exact k v10 R9 H10 S6 (s16.trans s9) (hC6.ext s6.own s9.ext n10.ext) (by rw [if_pos rfl]; exact q9)
   clear_value J13
   have tail : ∀ vkw vz R5 H5, Stp R2 H2 R5 H5 S S → Hp.ext H2 H5 → Rn R5 .u8 vkw (keyW (nb sh) (nb pu) point) → Rn R5 .u8 vz zeros12 →
     Cn P z4s #[.pointer (some ⟨p, 0, none⟩), vkw, vz, vx, .slice ak key.length ck] H5 fun t55 h => q P emp (Instr.extract t55 0) fun t56 => q P emp (Instr.extract t55 1) fun t57 => J13 t56 h := by
    intro vkw vz R5 H5 s5 x5 q4 q5
    have hC5 := hC2.ext s12.own s5.ext x5
    refine ziU s5.own hC5 hf q4 q5 (rx2.mono s5.ext.cle) (rk2.mono s5.ext.cle) bkw z4L bx bk (by omega) (by omega) fun v6 R6 H6 S6 s6 hC6 r6 => ?_
    have c6 : (zN c (keyW (nb sh) (nb pu) point) zeros12 ctx key).1 = 0 := by cases c <;> simp only [zN, if_pos hm]
    rw [c6, if_pos rfl] at r6
    rw [c6, ext0, ext1]
    exact q13 _ _ _ _ (s5.trans s6) hC6 r6
   clear q13
   refine ⟨zcC (s2.own.rn q1') (s2.own.rn q2) (s2.own.rn rp2) bsh bpu bp lsh lpu h2 fun v4 H4 n4 => ?_, ?_⟩
   ·obtain ⟨R4, s4, q4⟩ := Stp.newN s2.own n4
    refine z9P 12 (by decide) fun v5 H5 n5 => ?_
    obtain ⟨R5, s5, q5⟩ := Stp.newN s4.own n5
    exact tail v4 v5 R5 H5 (s4.trans s5) (n4.ext.trans n5.ext) (q4.mono s5.ext.cle) q5
   ·refine z9P 12 (by decide) fun v5 H5 n5 => ?_
    obtain ⟨R5, s5, q5⟩ := Stp.newN s2.own n5
    refine zcC (s5.own.rn (q1'.mono s5.ext.cle)) (s5.own.rn (q2.mono s5.ext.cle)) (s5.own.rn (rp2.mono s5.ext.cle)) bsh bpu bp lsh lpu h2 fun v4 H4 n4 => ?_
    obtain ⟨R4, s4, q4⟩ := Stp.newN s5.own n4
    exact tail v4 v5 R4 H4 (s5.trans s4) (n5.ext.trans n4.ext) q4 (q5.mono s4.ext.cle)
 clear_value J
 rw [ln]
 simp -zeta only [GL, ne32]
 by_cases h1 : once.length = 32
 ·have d1 : decide (once.length ≠ 32) = false := by simp [h1]
  simp -zeta only [d1, Bool.false_eq_true, if_false, if_true, ln, GL, ne32]
  by_cases h2 : point.length = 32
  ·have d2 : decide (point.length ≠ 32) = false := by simp [h2]
   simp -zeta only [d2, Bool.false_eq_true, if_false, if_true, ln, GL, ne32]
   by_cases h3 : key.length = 32
   ·have d3 : decide (key.length ≠ 32) = false := by simp [h3]
    simp -zeta only [d3, Bool.false_eq_true, if_false, if_true]
    exact qJ ⟨h3, h1, h2⟩
   ·have d3 : decide (key.length ≠ 32) = true := by simp [h3]
    simp -zeta only [d3, if_true]
    exact bad fun q => h3 q.1
  ·have d2 : decide (point.length ≠ 32) = true := by simp [h2]
   simp -zeta only [d2, Bool.true_eq_false, if_false, if_true]
   exact bad fun q => h2 q.2.2
 ·have d1 : decide (once.length ≠ 32) = true := by simp [h1]
  simp -zeta only [d1, Bool.true_eq_false, if_false, if_true]
  exact bad fun q => h1 q.2.1
theorem zfW {R : Hp} {p : Nat} {vs vp vx : Value} {c : Cr} {S scalar packet ctx : List Nat} (w : Own R h S) (hC : RefAt R h p c S) (hf : few 1000000 c) (rs : Rn R .u8 vs scalar) (rp : Rn R .u8 vp packet) (rx : Rn R .u8 vx ctx)
  (bs : Bytes scalar) (bp : Bytes packet) (bx : Bytes ctx) (lx : ctx.length ≤ 100000) (h32 : scalar.length = 32)
  (k : ∀ v R' h', Stp R h R' h' S S → RefAt R' h' p c S → (if (z1W c scalar packet ctx).1 = 0 then Rn R' .u8 v (z1W c scalar packet ctx).2 else v = .slice none 0 0) → K (.tuple #[v, .int .i64 (((z1W c scalar packet ctx).1 : Nat) : Int)]) h') :
  Cn P zai #[.pointer (some ⟨p, 0, none⟩), vs, vp, vx] h K := by
 refine zav ?_
 unfold z5B
 obtain ⟨asc, csc, rfl, _⟩ := rs.shape
 obtain ⟨ap, cp, rfl, hcp⟩ := rp.shape
 have ln : ∀ {G : Hp} {K : Value → Prop} (a : Option Addr) (n c : Nat), q P G (Builtin.len_ #[zd] zi #[.slice a n c]) K = K (.int .i64 (n : Nat)) := fun {G K} _ _ _ => z12 za _ _ _
 have d1 : decide (scalar.length ≠ 32) = false := by simp [h32]
 rw [ln]
 simp -zeta only [GL, ne32, d1, Bool.false_eq_true, if_false]
 have u1 : z1W c scalar packet ctx = if ¬ isPk packet then (8, []) else if z1C packet ≠ nb (zt scalar) then (9, []) else if zV scalar (z1V packet) = 0 then (10, []) else z1G c (keyW (nb (zV scalar (z1V packet))) (z1V packet) (z1C packet)) zeros12 ctx (z3l packet) := by rw [z1W, if_neg fun q => q h32]
 rw [u1] at k
 clear u1
 intro J
 have bad : ¬ isPk packet → K (.tuple #[.slice none 0 0, .int .i64 8]) h := fun hn => by
  rw [if_pos hn] at k
  exact k _ R h (.refl w) hC (by simp)
 have qJ : isPk packet → J h := by
  intro hp
  simp -zeta only [J]
  clear J bad
  rw [if_neg fun q => q hp] at k
  have l113 := hp.1
  have b0 : ((0 : Int) != 0) = false := rfl
  have b10 : ((10 : Int) != 0) = true := rfl
  refine zeZ (w.rn rs) bs h32 fun r1 H1 n1 => ?_
  generalize zt scalar = pu at *
  rw [ext0, ext1]
  obtain ⟨R1, s1, q1⟩ := Stp.newN w n1
  have sA : ∀ {H : Hp} {K : Value → Prop}, q P H (Instr.sliceAt zd (.slice ap packet.length cp) (some (.int .i64 1)) (some (.int .i64 33)) none) K = K (.slice (SL.cut ap cp 1 1) 32 (cp - 1)) := fun {H K} => zem za zp ap packet.length cp .i64 .i64 1 33 (by omega) (by omega)
  have sB : ∀ {H : Hp} {K : Value → Prop}, q P H (Instr.sliceAt zd (.slice ap packet.length cp) (some (.int .i64 33)) (some (.int .i64 65)) none) K = K (.slice (SL.cut ap cp 33 1) 32 (cp - 33)) := fun {H K} => zem za zp ap packet.length cp .i64 .i64 33 65 (by omega) (by omega)
  have sC : ∀ {H : Hp} {K : Value → Prop}, q P H (Instr.sliceAt zd (.slice ap packet.length cp) (some (.int .i64 65)) none none) K = K (.slice (SL.cut ap cp 65 1) (packet.length - 65) (cp - 65)) := fun {H K} => zaW za zp ap packet.length cp .i64 65 (by omega) hcp
  have rA : Rn R .u8 (.slice (SL.cut ap cp 1 1) 32 (cp - 1)) (z1C packet) := rp.cut 1 33 (by omega) (by omega)
  have rB : Rn R .u8 (.slice (SL.cut ap cp 33 1) 32 (cp - 33)) (z1V packet) := rp.cut 33 65 (by omega) (by omega)
  have rC : Rn R .u8 (.slice (SL.cut ap cp 65 1) (packet.length - 65) (cp - 65)) (z3l packet) := by
   have := rp.cut 65 113 (by omega) (by omega)
   rw [l113]
   exact this
  have lpt : (z1C packet).length = 32 := by rw [z1C, List.length_drop, List.length_take]; omega
  have lon : (z1V packet).length = 32 := by rw [z1V, List.length_drop, List.length_take]; omega
  have lbx : (z3l packet).length = 48 := by rw [z3l, List.length_drop, List.length_take]; omega
  have bpt : Bytes (z1C packet) := (bp.take 33).drop 1
  have bon : Bytes (z1V packet) := (bp.take 65).drop 33
  have bbx : Bytes (z3l packet) := (bp.take 113).drop 65
  generalize z1C packet = pt at *
  generalize z1V packet = on at *
  generalize z3l packet = bx' at *
  rw [sA]
  refine z1A (s1.own.rn q1) (s1.own.rn (rA.mono s1.ext.cle)) (by rw [zm]; decide) ?_
  have dc : decide (nb pu = pt) = decide (pt = nb pu) := decide_eq_decide.2 ⟨Eq.symm, Eq.symm⟩
  by_cases he : pt = nb pu
  ·rw [if_neg fun q => q he] at k
   have d : decide (pt = nb pu) = true := decide_eq_true he
   simp -zeta only [dc, d, GL, Bool.not_true, Bool.false_eq_true, if_false, sB]
   refine zf0 (s1.own.rn (rs.mono s1.ext.cle)) (s1.own.rn (rB.mono s1.ext.cle)) bs bon h32 lon (fun hz => ?_) fun hz r4 H4 n4 => ?_
   ·rw [if_pos hz] at k
    simp -zeta only [ext0, ext1, GL, b10, if_true]
    exact k _ R1 H1 s1 (hC.ext w s1.ext n1.ext) (by simp)
   ·rw [if_neg hz] at k
    clear hz
    generalize zV scalar on = sh at *
    obtain ⟨R4, s4, q4⟩ := Stp.newN s1.own n4
    have s14 := s1.trans s4
    have x14 := n1.ext.trans n4.ext
    have hC4 := hC.ext w s14.ext x14
    simp -zeta only [ext0, ext1, GL, b0, Bool.false_eq_true, if_false, sB, sC]
    have q1' := q1.mono s4.ext.cle
    have rA4 := rA.mono s14.ext.cle
    have rB4 := rB.mono s14.ext.cle
    have rC4 := rC.mono s14.ext.cle
    have rx4 := rx.mono s14.ext.cle
    have lsh := zm sh
    have lpu := zm pu
    have bpu := z1J pu
    have bsh := z1J sh
    have lkw := z6e (nb sh) on (nb pu)
    have bkw := z7e (nb sh) on (nb pu)
    rw [he] at k
    have tail : ∀ vkw vz R5 H5, Stp R4 H4 R5 H5 S S → Hp.ext H4 H5 → Rn R5 .u8 vkw (keyW (nb sh) on (nb pu)) → Rn R5 .u8 vz zeros12 →
      Cn P z4t #[.pointer (some ⟨p, 0, none⟩), vkw, vz, vx, .slice (SL.cut ap cp 65 1) (packet.length - 65) (cp - 65)] H5 fun t56 h => q P emp (Instr.extract t56 0) fun t57 => q P emp (Instr.extract t56 1) fun t58 => K (.tuple #[t57, t58]) h := by
     intro vkw vz R5 H5 s5 x5 q6 q7
     have hC5 := hC4.ext s14.own s5.ext x5
     refine ziT s5.own hC5 hf q6 q7 (rx4.mono s5.ext.cle) (rC4.mono s5.ext.cle) bkw z4L bx bbx (by omega) (by omega) fun v7 R7 H7 s7 hC7 r7 => ?_
     rw [ext0, ext1]
     exact k v7 R7 H7 ((s14.trans s5).trans s7) hC7 r7
    refine ⟨zcC (s4.own.rn q4) (s4.own.rn rB4) (s4.own.rn q1') bsh bon bpu lsh lon lpu fun v5 H5 n5 => ⟨pk_q fun K => sC, ?_⟩, ?_⟩
    ·obtain ⟨R5, s5, q5⟩ := Stp.newN s4.own n5
     refine z9P 12 (by decide) fun v6 H6 n6 => ⟨pk_q fun K => sC, ?_⟩
     obtain ⟨R6, s6, q6⟩ := Stp.newN s5.own n6
     exact tail v5 v6 R6 H6 (s5.trans s6) (n5.ext.trans n6.ext) (q5.mono s6.ext.cle) q6
    ·refine z9P 12 (by decide) fun v6 H6 n6 => ⟨pk_q fun K => sC, pk_q fun K => sB, ?_⟩
     obtain ⟨R6, s6, q6⟩ := Stp.newN s4.own n6
     refine zcC (s6.own.rn (q4.mono s6.ext.cle)) (s6.own.rn (rB4.mono s6.ext.cle)) (s6.own.rn (q1'.mono s6.ext.cle)) bsh bon bpu lsh lon lpu fun v5 H5 n5 => ⟨pk_q fun K => sC, ?_⟩
     obtain ⟨R5, s5, q5⟩ := Stp.newN s6.own n5
     exact tail v5 v6 R5 H5 (s6.trans s5) (n6.ext.trans n5.ext) q5 (q6.mono s5.ext.cle)
  ·rw [if_pos he] at k
   have d : decide (pt = nb pu) = false := decide_eq_false he
   simp -zeta only [dc, d, GL, Bool.not_false, if_true]
   exact k _ R1 H1 s1 (hC.ext w s1.ext n1.ext) (by simp)
 clear_value J
 have ne113 : (((packet.length : Nat) : Int) != 113) = decide (packet.length ≠ 113) := z3h packet.length 113
 simp -zeta only [ln, GL, ne113]
 by_cases h1 : packet.length = 113
 ·have d1 : decide (packet.length ≠ 113) = false := by simp [h1]
  obtain ⟨p1, p2, p3⟩ := z6i (P := P) (i := 0) (y := .int .u8 ((packet.getD 0 0 : Nat) : Int)) za zp (w.rn rp) (z1g _ _ _ (by omega))
  have p2' : ∀ {h' : Hp} {K : Value → Prop}, q P h' (Instr.indexAt zd (.slice ap packet.length cp) (.int .i64 0)) K = K (.pointer (some p1)) := p2
  have ne1 : (((packet.getD 0 0 : Nat) : Int) != 1) = decide (packet.getD 0 0 ≠ 1) := z3h _ 1
  simp -zeta only [d1, Bool.false_eq_true, if_false, if_true, p2', GL, RL, p3, ne1]
  by_cases h2 : packet.getD 0 0 = 1
  ·have d2 : decide (packet.getD 0 0 ≠ 1) = false := by rw [h2]; rfl
   simp -zeta only [d2, Bool.false_eq_true, if_false]
   exact qJ ⟨h1, h2⟩
  ·have d2 : decide (packet.getD 0 0 ≠ 1) = true := decide_eq_true h2
   simp -zeta only [d2, if_true]
   exact bad fun q => h2 q.2
 ·have d1 : decide (packet.length ≠ 113) = true := decide_eq_true h1
  simp -zeta only [d1, Bool.true_eq_false, if_false, if_true]
  exact bad fun q => h1 q.1
end
set_option maxHeartbeats 1000000
theorem zn9 {k : List Nat} (hb : Bytes k) (hl : k.length = 32) : ∃ m, z9 (z1i k) = 8 * m ∧ 2 ^ 251 ≤ m ∧ m < 2 ^ 252 := by
 match k, hb, hl with
 | a :: t, hb, hl =>
  have lt : t.length = 31 := by rw [List.length_cons] at hl; omega
  have ha : a < 256 := hb a (by simp)
  have hz : (a :: t).getD 31 0 % 64 + 64 < 256 := by omega
  have e : z1i (a :: t) = (a / 8 * 8) :: (t.take 30 ++ [(a :: t).getD 31 0 % 64 + 64]) := by
   show (a / 8 * 8) :: t.set 30 _ = _
   rw [List.set_eq_take_append_cons_drop, if_pos (by omega), List.drop_eq_nil_of_le (by omega)]
  have br : Bytes (t.take 30) := fun x hx => hb x (List.mem_cons_of_mem _ (List.mem_of_mem_take hx))
  have lr : (t.take 30).length = 30 := by rw [List.length_take]; omega
  have v := z27 _ br
  rw [e, z9, zY]
  rw [lr] at v ⊢
  show ∃ m, a / 8 * 8 + 256 * (z9 (t.take 30) + 256 ^ 30 * ((a :: t).getD 31 0 % 64 + 64 + 256 * 0)) = 8 * m ∧ _
  generalize z9 (t.take 30) = r at *
  generalize (a :: t).getD 31 0 = z at *
  have p1 : (2 : Nat) ^ 251 = 2048 * 256 ^ 30 := by decide +kernel
  have p2 : (2 : Nat) ^ 252 = 4096 * 256 ^ 30 := by decide +kernel
  rw [p1, p2]
  generalize (256 : Nat) ^ 30 = B at *
  have w1 : B * 64 ≤ B * (z % 64 + 64) := Nat.mul_le_mul_left _ (by omega)
  have w2 : B * (z % 64 + 64) ≤ B * 127 := Nat.mul_le_mul_left _ (by omega)
  rw [Nat.mul_zero, Nat.add_zero]
  generalize B * (z % 64 + 64) = w at *
  refine ⟨a / 8 + 32 * (r + w), ?_, ?_, ?_⟩ <;> omega
theorem za2 {k : List Nat} (hb : Bytes k) (hl : k.length = 32) : numB (z1u (z1i k)) 0 % el ≠ 0 := by
 obtain ⟨m, e, h1, h2⟩ := zn9 hb hl
 have p3 : (2 : Nat) ^ 255 = 8 * 2 ^ 252 := by decide +kernel
 have lt : 8 * m < 2 ^ 255 := by rw [p3]; exact Nat.mul_lt_mul_of_pos_left h2 (by decide)
 have e2 : 8 * m % 2 ^ 255 = 8 * m := Nat.mod_eq_of_lt lt
 have e3 : numB (z1u (z1i k)) 0 = 8 * m := by rw [z1u, zbH, e, Nat.zero_mul, Nat.zero_add, e2]
 rw [e3]
 exact zpw h1 h2
theorem zc8 (k : List Nat) (x : F) : zV k (nb x) = xlad (z1u (z1i k)) x := by
 have lt : x.val < 57896044618658097711785492504343953926634992332820282019728792003956564819968 := Nat.lt_trans x.isLt (by decide)
 rw [zV, z3L, Nat.mod_eq_of_lt lt, z4Z]
theorem dh {a b : List Nat} (ha : Bytes a) (hb : Bytes b) (la : a.length = 32) (lb : b.length = 32) : zV a (nb (zt b)) = zV b (nb (zt a)) := by
 rw [zc8, zc8]
 exact zm4 _ _ (za2 ha la) (za2 hb lb)
theorem dh0 {a b : List Nat} (ha : Bytes a) (hb : Bytes b) (la : a.length = 32) (lb : b.length = 32) : zV a (nb (zt b)) ≠ 0 := by
 rw [zc8]
 exact znJ _ _ (za2 ha la) (za2 hb lb)
def zeros32 : List Nat := List.replicate 32 0
theorem zgU : Bytes zeros32 := fun x hx => by rw [List.eq_of_mem_replicate hx]; decide
theorem low0 : zV zeros32 zeros32 = 0 := by decide +kernel
theorem zqj {c : Cr} {once scalar key ctx : List Nat} (bo : Bytes once) (bs : Bytes scalar) (bk : Bytes key) (lo : once.length = 32) (ls : scalar.length = 32) (lk : key.length = 32) (hm : much c < 18446744073709551616) :
  ∃ X, (z1H c once (nb (zt scalar)) key ctx).1 = 0 ∧ (z1H c once (nb (zt scalar)) key ctx).2.1 = X ∧ X.length = 113 ∧ Bytes X ∧ isPk X ∧ z1C X = nb (zt scalar) ∧ z1V X = nb (zt once) ∧
   Later c (z1H c once (nb (zt scalar)) key ctx).2.2 ∧
   (∀ c2, Later (z1H c once (nb (zt scalar)) key ctx).2.2 c2 → z1W c2 scalar X ctx = (0, key)) ∧
   ∀ c2 other, other.length = 32 → nb (zt other) ≠ nb (zt scalar) → z1W c2 other X ctx = (9, []) := by
 have hnb := zm (zt scalar)
 have hno := zm (zt once)
 have e : z1H c once (nb (zt scalar)) key ctx = (0, [1] ++ nb (zt scalar) ++ nb (zt once) ++ (zN c (keyW (nb (zV once (nb (zt scalar)))) (nb (zt once)) (nb (zt scalar))) zeros12 ctx key).2.1, (zN c (keyW (nb (zV once (nb (zt scalar)))) (nb (zt once)) (nb (zt scalar))) zeros12 ctx key).2.2) := by
  rw [z1H, if_neg fun q => q ⟨lk, lo, hnb⟩, if_neg (dh0 bo bs lo ls)]
 have d := dh bo bs lo ls
 have d0 := dh0 bs bo ls lo
 rw [d] at e
 rw [e]
 clear e d
 have hmay : may (keyW (nb (zV scalar (nb (zt once)))) (nb (zt once)) (nb (zt scalar))) zeros12 := ⟨z6e _ _ _, rfl⟩
 have c0 : (zN c (keyW (nb (zV scalar (nb (zt once)))) (nb (zt once)) (nb (zt scalar))) zeros12 ctx key).1 = 0 := by cases c <;> simp only [zN, if_pos hmay]
 have l6 := z9Z c0
 have b6 : Bytes (zN c (keyW (nb (zV scalar (nb (zt once)))) (nb (zt once)) (nb (zt scalar))) zeros12 ctx key).2.1 := zc6 bk
 have op := fun c2 (hl : Later _ c2) => zjr c0 hl hm
 have sl := zli c (keyW (nb (zV scalar (nb (zt once)))) (nb (zt once)) (nb (zt scalar))) zeros12 ctx key
 have sh := z6e (nb (zV scalar (nb (zt once)))) (nb (zt once)) (nb (zt scalar))
 have ub : ∀ c2 s X, z1W c2 s X ctx = if s.length ≠ 32 then (1, []) else if ¬ isPk X then (8, []) else if z1C X ≠ nb (zt s) then (9, []) else if zV s (z1V X) = 0 then (10, []) else z1G c2 (keyW (nb (zV s (z1V X))) (z1V X) (z1C X)) zeros12 ctx (z3l X) := fun c2 s X => rfl
 have bp := z1J (zt scalar)
 have bq := z1J (zt once)
 generalize hKW : keyW (nb (zV scalar (nb (zt once)))) (nb (zt once)) (nb (zt scalar)) = kw at *
 generalize hBX : (zN c kw zeros12 ctx key).2.1 = box at *
 generalize (zN c kw zeros12 ctx key).2.2 = c' at *
 generalize hP : nb (zt scalar) = pt at *
 generalize hO : nb (zt once) = on at *
 rw [lk] at l6
 have hX : ([1] ++ pt ++ on ++ box).length = 113 := by simp only [List.length_append, List.length_singleton]; omega
 have t33 : ([1] ++ pt ++ on ++ box).take 33 = [1] ++ pt := by
  rw [List.append_assoc, List.append_assoc, ← List.append_assoc [1], List.take_left' (by simp only [List.length_append, List.length_singleton]; omega)]
 have t65 : ([1] ++ pt ++ on ++ box).take 65 = [1] ++ pt ++ on := by
  rw [List.take_left' (by simp only [List.length_append, List.length_singleton]; omega)]
 have hpt : z1C ([1] ++ pt ++ on ++ box) = pt := by rw [z1C, t33]; rfl
 have hon : z1V ([1] ++ pt ++ on ++ box) = on := by
  rw [z1V, t65, List.drop_left' (by simp only [List.length_append, List.length_singleton]; omega)]
 have hbx : z3l ([1] ++ pt ++ on ++ box) = box := by
  rw [z3l, List.take_of_length_le (by omega), List.drop_left' (by simp only [List.length_append, List.length_singleton]; omega)]
 have hip : isPk ([1] ++ pt ++ on ++ box) := ⟨hX, rfl⟩
 have hby : Bytes ([1] ++ pt ++ on ++ box) := (((show Bytes [1] from fun x hx => by rw [List.mem_singleton.1 hx]; decide).append bp).append bq).append b6
 refine ⟨_, rfl, rfl, hX, hby, hip, hpt, hon, sl, fun c2 hl => ?_, fun c2 other lo' hne => ?_⟩
 ·rw [ub, if_neg fun q => q ls, if_neg fun q => q hip, hpt, hP, if_neg fun q => q rfl, hon, if_neg d0, hbx, hKW]
  exact op c2 hl
 ·rw [ub, if_neg fun q => q lo', if_neg fun q => q hip, hpt, if_pos fun q => hne q.symm]
theorem ziW {n : Nat} {c : Cr} {once point key ctx : List Nat} (f : few n c) (lk : key.length ≤ 1099511627776) : few (n + 1) (z1H c once point key ctx).2.2 := by
 have g := f.next (keyW (nb (zV once point)) (nb (zt once)) point) zeros12 ctx key lk
 rw [z1H]
 by_cases h1 : ¬ (key.length = 32 ∧ once.length = 32 ∧ point.length = 32)
 ·rw [if_pos h1]
  exact f.mono (Nat.le_succ n)
 ·rw [if_neg h1]
  generalize zV once point = sh at g ⊢
  by_cases h2 : sh = 0
  ·rw [if_pos h2]
   exact f.mono (Nat.le_succ n)
  ·rw [if_neg h2]
   dsimp only
   exact g
theorem zff : Bytes ([] : List Nat) := by intro y hy; cases hy
section
variable {h : Hp} {K : Value → Hp → Prop}
theorem zrA {R : Hp} {S : List Nat} (ideal : Bool) (w : Own R h S) (k : ∀ v h' S', CrAt R h' v (if ideal then .book [] [] else .real) S' → Own R h' S' → Stp R h R h' S S → (∀ b ∈ S', b ∉ S) → K v h') : Cn P zen #[.bool ideal] h K := by
 refine zev ?_
 unfold z87
 cases ideal with
 | true =>
  simp only [GL, if_true]
  exact zmM w fun p h1 S1 hB o1 s1 d => k _ h1 S1 ⟨p, rfl, hB⟩ o1 s1 d
 | false =>
  simp only [GL, Bool.false_eq_true, if_false]
  exact zrv (k _ h [] ⟨rfl, rfl⟩ w.nil (.refl w) fun b hb => by cases hb)
theorem zna (k : ∀ h', Hp.ext h h' → K (.bool true) h') : Cn P zaY #[] h K := by
 refine zb9 ?_
 unfold z6r
 have w0 : Own h h [] := ⟨.refl _, fun b hb => (by cases hb), fun b hb => (by cases hb)⟩
 refine zmM w0 fun p h1 S1 hB o1 s1 _ => ?_
 have x1 : Hp.ext h h1 := s1.own.sub
 simp -zeta only [zmP, GL, RL, Bool.false_eq_true, if_false, if_true, Bool.true_eq_false]
 refine z2w (n := 32) (c := 32) za zw rfl (by omega) (by omega) (by omega) fun t16 h2 n2 => ?_
 rw [z1E] at n2
 have n2' : Nn h1 zc .u8 t16 h2 zeros32 := n2
 obtain ⟨R2, s2, q2⟩ := Stp.newN o1 n2'
 have C2 : CrAt R2 h2 (.iface z45 (.pointer (some ⟨p, 0, none⟩))) (.book [] []) S1 := CrAt.ext (c := .book [] []) ⟨p, rfl, hB⟩ o1 s2.ext n2'.ext
 have lz : zeros32.length = 32 := rfl
 have bz := zgU
 have f0 : few 1000000 (.book [] [] : Cr) := ⟨by simp, fun s hs => by cases hs⟩
 have e1 : z1H (.book [] []) zeros32 zeros32 zeros32 [] = (10, [], .book [] []) := by rw [z1H, if_neg fun q => q ⟨lz, lz, lz⟩, if_pos low0]
 obtain ⟨X, w0', w1, w2, w3, _, _, _, _, w8, _⟩ := zqj (c := .book [] []) (ctx := []) bz bz bz lz lz lz (by simp [much])
 have e2 : z1W (.book [] []) zeros32 [] [] = (8, []) := by
  rw [z1W, if_neg fun q => q lz, if_pos (by decide)]
 have z10 : ((((10 : Nat) : Int)) == 10) = true := rfl
 have z8 : ((((8 : Nat) : Int)) == 8) = true := rfl
 have z0 : ((((0 : Nat) : Int)) == 0) = true := rfl
 have z113 : ((((113 : Nat) : Int)) == 113) = true := rfl
 generalize zeros32 = z at *
 generalize hvc : (.iface z45 (.pointer (some ⟨p, 0, none⟩)) : Value) = vc at *
 refine ziM s2.own C2 f0 q2 q2 q2 (z3y _ _) bz bz bz zff (by omega) (by omega) (by simp) fun v3 R3 h3 S3 s3 C3 _ => ?_
 rw [e1] at C3 ⊢
 rw [ext0, ext1]
 refine ze8 s3.own C3 f0 (q2.mono s3.ext.cle) (z3y _ _) (z3y _ _) bz zff zff (by omega) (by simp) (by simp) fun v4 R4 h4 s4 C4 _ => ?_
 rw [e2]
 rw [ext0, ext1]
 have q4 := q2.mono (s3.ext.trans s4.ext).cle
 refine z9O (s4.own.rn q4) bz (by omega) (fun hn => absurd lz hn) fun _ v5 h5 n5 => ?_
 obtain ⟨R5, s5, q5⟩ := Stp.newN s4.own n5
 have C5 := CrAt.ext C4 s4.own s5.ext n5.ext
 rw [ext0, ext1]
 have l5 := zm (zt z)
 have q45 := q4.mono s5.ext.cle
 refine ziM s5.own C5 f0 q45 q5 q45 (z3y _ _) bz (z1J _) bz zff (by omega) (by omega) (by simp) fun v6 R6 h6 S6 s6 C6 r6 => ?_
 have w8' := w8 _ (.refl _)
 rw [w0', w1, if_pos rfl] at r6
 rw [w0']
 have f1 : few 1000000 (z1H (.book [] []) z (nb (zt z)) z []).2.2 := by
  have : few (0 + 1) (z1H (.book [] []) z (nb (zt z)) z []).2.2 := ziW ⟨Nat.le_refl _, fun s hs => by cases hs⟩ (by omega)
  exact this.mono (by omega)
 generalize (z1H (.book [] []) z (nb (zt z)) z []).2.2 = c6 at *
 rw [ext0, ext1]
 have q46 := q45.mono s6.ext.cle
 refine ze8 s6.own C6 f1 q46 r6 (z3y _ _) bz w3 zff (by omega) (by omega) (by simp) fun v7 R7 h7 s7 C7 r7 => ?_
 rw [w8', if_pos rfl] at r7
 rw [w8']
 have r7 : Rn R7 .u8 v7 z := r7
 rw [ext0, ext1]
 obtain ⟨a6, c6', rfl, _⟩ := r6.shape
 have ln : ∀ {G : Hp} {K : Value → Prop}, q P G (Builtin.len_ #[zd] zi #[.slice a6 X.length c6']) K = K (.int .i64 ((113 : Nat) : Int)) := fun {G K} => by rw [z12 za, w2]
 simp -zeta only [ln, GL, z10, z8, z0, z113, if_true]
 refine z1A (s7.own.rn r7) (s7.own.rn (q46.mono s7.ext.cle)) (by omega) ?_
 rw [decide_eq_true rfl]
 exact k _ ((((((s2.ext.trans s3.ext).trans s4.ext).trans s5.ext).trans s6.ext).trans s7.ext).trans s7.own.sub)
end
theorem zc9 {h : Hp} {K : Value → Prop} (r : Nat) : q P h (Instr.fieldAt z1N (.pointer (some ⟨r, 0, none⟩)) 0) K = K (.pointer (some ⟨r, 0, none⟩)) := q_of (by kernel_rfl) K
theorem zca {h : Hp} {K : Value → Prop} (r : Nat) : q P h (Instr.fieldAt z1N (.pointer (some ⟨r, 0, none⟩)) 1) K = K (.pointer (some ⟨r, 32, none⟩)) := q_of (by kernel_rfl) K
theorem zcb {h : Hp} {K : Value → Prop} (r : Nat) : q P h (Instr.fieldAt z1N (.pointer (some ⟨r, 0, none⟩)) 2) K = K (.pointer (some ⟨r, 64, none⟩)) := q_of (by kernel_rfl) K
theorem z9g {h : Hp} {K : Value → Prop} (r : Nat) : q P h (Instr.fieldAt z1N (.pointer (some ⟨r, 0, none⟩)) 3) K = K (.pointer (some ⟨r, 96, none⟩)) := q_of (by kernel_rfl) K
theorem zcc {h : Hp} {K : Value → Prop} (r : Nat) : q P h (Instr.sliceAt z9t (.pointer (some ⟨r, 0, none⟩)) none none none) K = K (.slice (some ⟨r, 0, none⟩) 32 32) := q_of (by kernel_rfl) K
theorem zcd {h : Hp} {K : Value → Prop} (r : Nat) : q P h (Instr.sliceAt z9t (.pointer (some ⟨r, 32, none⟩)) none none none) K = K (.slice (some ⟨r, 32, none⟩) 32 32) := q_of (by kernel_rfl) K
theorem zce {h : Hp} {K : Value → Prop} (r : Nat) : q P h (Instr.sliceAt z9t (.pointer (some ⟨r, 64, none⟩)) none none none) K = K (.slice (some ⟨r, 64, none⟩) 32 32) := q_of (by kernel_rfl) K
def z2T (o s k : List Nat) (vx : Value) : List Value := nv .u8 o ++ nv .u8 s ++ nv .u8 k ++ [vx]
theorem zlw {o s k : List Nat} {vx : Value} (lo : o.length = 32) (ls : s.length = 32) (lk : k.length = 32) : (z2T o s k vx).length = 97 := by simp [z2T, ze, lo, ls, lk]
structure Ask18 (R : Hp) (r : Nat) (o s k : List Nat) (vx : Value) (x : List Nat) : Prop where
 row : ∃ f, R r = some (.row z1N (z2T o s k vx) 97 f)
 lo : o.length = 32
 ls : s.length = 32
 lk : k.length = 32
 bo : Bytes o
 bs : Bytes s
 bk : Bytes k
 bx : Bytes x
 rx : Rn R .u8 vx x
theorem zfX {h : Hp} {r e c : Nat} {f : Option (Nat × Nat)} {A B C : List Value} {l : List Nat} {o n : Nat} (hr : h r = some (.row e (A ++ nv .u8 l ++ C) c f)) (hA : A.length = o) (hl : l.length = n) : Rn h .u8 (.slice (some ⟨r, o, none⟩) n n) l := by
 subst hl hA
 refine ⟨by rw [ze]; omega, some ⟨r, A.length, none⟩, l.length, rfl, Nat.le_refl _, .inr ⟨r, A.length, rfl, fun i y ey => ?_⟩⟩
 have hi := (List.getElem?_eq_some_iff.1 ey).1
 rw [zj hr, List.append_assoc, List.getElem?_append_right (by omega), List.getElem?_append_left (by omega), show A.length + i - A.length = i by omega]
 exact ey
theorem Ask18.facts {R h : Hp} {r : Nat} {o s k : List Nat} {vx : Value} {x : List Nat} (a : Ask18 R r o s k vx x) (e : Hp.ext R h) :
  Rn h .u8 (.slice (some ⟨r, 0, none⟩) 32 32) o ∧ Rn h .u8 (.slice (some ⟨r, 32, none⟩) 32 32) s ∧ Rn h .u8 (.slice (some ⟨r, 64, none⟩) 32 32) k ∧ h.cell ⟨r, 96, none⟩ = some vx ∧ Rn h .u8 vx x := by
 obtain ⟨⟨f, hr⟩, lo, ls, lk, _, _, _, _, rx⟩ := a
 have hr := e _ _ hr
 have lo' : (nv .u8 o).length = 32 := by rw [ze, lo]
 have ls' : (nv .u8 s).length = 32 := by rw [ze, ls]
 have lk' : (nv .u8 k).length = 32 := by rw [ze, lk]
 refine ⟨zfX (e := z1N) (c := 97) (f := f) (A := []) (B := []) (C := nv .u8 s ++ (nv .u8 k ++ [vx])) (by rw [hr]; simp [z2T]) rfl lo, zfX (e := z1N) (c := 97) (f := f) (A := nv .u8 o) (B := []) (C := nv .u8 k ++ [vx]) (by rw [hr]; simp [z2T]) lo' ls, zfX (A := nv .u8 o ++ nv .u8 s) (B := []) (C := [vx]) hr (by rw [List.length_append, lo', ls']) lk, ?_, rx.mono e.cle⟩
 rw [zj hr, z2T, List.getElem?_append_right (by simp only [List.length_append]; omega)]
 simp only [List.length_append, lo', ls', lk']
 rfl
theorem zqk {o s k : List Nat} {vx : Value} : (Value.agg (z2T o s k vx).toArray).cells.toList = z2T o s k vx := rfl
theorem zql {o s k : List Nat} {vx : Value} (lo : o.length = 32) (ls : s.length = 32) (lk : k.length = 32) : (Value.agg (z2T o s k vx).toArray).cells.size = 97 := zlw lo ls lk
section
variable {h : Hp} {K : Value → Hp → Prop}
end
end Go.Proofs.YtoikhbagchfeoaaGreat
namespace Go.Proofs.YtoikhbagchfeoaaGreat
open Go Go.SL Go.Pure
def PsV (R : Hp) (ws : List Value) (ps : List (List Nat)) : Prop := ws.length = ps.length ∧ ∀ (j : Nat) (p : List Nat), ps[j]? = some p → ∃ y, ws[j]? = some y ∧ Rn R .u8 y p
theorem PsV.mono {R R' : Hp} {ws : List Value} {ps : List (List Nat)} (a : PsV R ws ps) (c : Hp.cle R R') : PsV R' ws ps := ⟨a.1, fun j p e => let ⟨y, h1, h2⟩ := a.2 j p e; ⟨y, h1, h2.mono c⟩⟩
theorem PsV.nil (R : Hp) : PsV R [] [] := ⟨rfl, fun j p e => by simp at e⟩
theorem PsV.one {R : Hp} {y : Value} {p : List Nat} (r : Rn R .u8 y p) : PsV R [y] [p] := ⟨rfl, fun j q e => by
 match j, e with
 | 0, e => simp only [List.getElem?_cons_zero, Option.some.injEq] at e; subst e; exact ⟨y, rfl, r⟩
 | j + 1, e => simp at e⟩
theorem PsV.app {R : Hp} {ws xs : List Value} {ps qs : List (List Nat)} (a : PsV R ws ps) (b : PsV R xs qs) : PsV R (ws ++ xs) (ps ++ qs) := ⟨by rw [List.length_append, List.length_append, a.1, b.1], fun j p e => by
 by_cases hj : j < ps.length
 ·rw [List.getElem?_append_left hj] at e
  rw [List.getElem?_append_left (by rw [a.1]; exact hj)]
  exact a.2 j p e
 ·rw [List.getElem?_append_right (by omega)] at e
  rw [List.getElem?_append_right (by rw [a.1]; omega), a.1]
  exact b.2 _ p e⟩
theorem PsV.take {R : Hp} {ws : List Value} {ps : List (List Nat)} (a : PsV R ws ps) (i : Nat) : PsV R (ws.take i) (ps.take i) := ⟨by rw [List.length_take, List.length_take, a.1], fun j p e => by
 rw [List.getElem?_take] at e
 split at e
 ·rename_i hj
  rw [List.getElem?_take, if_pos hj]
  exact a.2 j p e
 ·cases e⟩
theorem PsV.drop {R : Hp} {ws : List Value} {ps : List (List Nat)} (a : PsV R ws ps) (i : Nat) : PsV R (ws.drop i) (ps.drop i) := ⟨by rw [List.length_drop, List.length_drop, a.1], fun j p e => by
 rw [List.getElem?_drop] at e ⊢
 exact a.2 _ p e⟩
theorem PsV.set {R : Hp} {ws : List Value} {ps : List (List Nat)} {y : Value} {p : List Nat} (a : PsV R ws ps) (i : Nat) (r : Rn R .u8 y p) : PsV R (ws.set i y) (ps.set i p) := ⟨by rw [List.length_set, List.length_set, a.1], fun j q e => by
 rw [List.getElem?_set] at e ⊢
 by_cases hij : i = j
 ·subst hij
  rw [if_pos rfl] at e ⊢
  split at e
  ·rename_i hi
   rw [if_pos (by rw [a.1]; exact hi)]
   cases e
   exact ⟨y, rfl, r⟩
  ·cases e
 ·rw [if_neg hij] at e ⊢
  exact a.2 j q e⟩
theorem PsV.flat {R : Hp} {ws : List Value} {ps : List (List Nat)} (a : PsV R ws ps) : ∀ y ∈ ws, SL.flat y = true := by
 intro y hy
 obtain ⟨j, hj, rfl⟩ := List.getElem_of_mem hy
 obtain ⟨z, h1, h2⟩ := a.2 j _ (List.getElem?_eq_getElem (by rw [← a.1]; exact hj))
 rw [List.getElem?_eq_getElem hj, Option.some.injEq] at h1
 rw [h1]
 exact zO h2
def Ps (R : Hp) (v : Value) (ps : List (List Nat)) : Prop := ∃ ws, Rds R 1 v ws ps.length ∧ PsV R ws ps
theorem Ps.mono {R R' : Hp} {v : Value} {ps : List (List Nat)} (a : Ps R v ps) (c : Hp.cle R R') : Ps R' v ps := let ⟨ws, h1, h2⟩ := a; ⟨ws, h1.mono c, h2.mono c⟩
section
variable {h : Hp} {K : Value → Hp → Prop}
end
set_option maxHeartbeats 4000000
def cr0 (ideal : Bool) : Cr := if ideal then .book [] [] else .real
theorem zqm (ideal : Bool) (n : Nat) : few n (cr0 ideal) := by
 cases ideal
 ·trivial
 ·exact ⟨Nat.zero_le _, fun s hs => by cases hs⟩
theorem zsN {h : Hp} {K : Value → Prop} (ideal : Bool) : q P h (Instr.build zX #[(0, .bool ideal)]) K = K (.agg #[.bool ideal, .slice none 0 0, .slice none 0 0]) := by
 cases ideal
 ·exact q_of (by kernel_rfl) K
 ·exact q_of (by kernel_rfl) K
theorem znb {h : Hp} {F : Value → Hp → Prop} (ideal : Bool) (k : ∀ r, h r = none → F (.pointer (some ⟨r, 0, none⟩)) (h.set r (.row zX [.bool ideal, .slice none 0 0, .slice none 0 0] 3 (some (0, 0))))) :
  q P h (Instr.build zX #[(0, .bool ideal)]) fun t => aw P (Instr.box zX t) F h := by
 rw [zsN]
 exact z2S k
theorem zqn {R h : Hp} (ideal : Bool) {r : Nat} (hr : h r = none) : RefAt R (h.set r (.row zX [.bool ideal, .slice none 0 0, .slice none 0 0] 3 (some (0, 0)))) r (cr0 ideal) [r] := by
 cases ideal
 ·exact ⟨Hp.set_same .., rfl⟩
 ·exact ⟨.slice none 0 0, [], [], Hp.set_same .., .inl ⟨rfl, rfl, rfl, rfl⟩, ⟨rfl, fun i b e => by simp at e⟩, rfl, by simp, fun b hb => by cases hb⟩
section
variable {h : Hp} {K : Value → Hp → Prop}
end
end Go.Proofs.YtoikhbagchfeoaaGreat
set_option maxHeartbeats 2000000
namespace Go.Proofs.YtoikhbagchfeoaaGreat
open Go Go.SL Go.Pure Go.Curve
theorem zjC {n : Nat} {c : Cr} (f : few n c) (s p x : List Nat) : (z1W c s p x).2.length ≤ p.length := by
 unfold z1W
 by_cases h1 : s.length ≠ 32
 ·rw [if_pos h1]; simp
 ·rw [if_neg h1]
  by_cases h2 : ¬ isPk p
  ·rw [if_pos h2]; simp
  ·rw [if_neg h2]
   by_cases h3 : z1C p ≠ nb (zt s)
   ·rw [if_pos h3]; simp
   ·rw [if_neg h3]
    by_cases h4 : zV s (z1V p) = 0
    ·rw [if_pos h4]; simp
    ·rw [if_neg h4]
     refine Nat.le_trans (zlh f _ _ _ _) ?_
     rw [z3l, List.length_drop, List.length_take]
     omega
theorem zlx {c : Cr} {s p x : List Nat} (ls : s.length = 32) (h : ¬ isPk p) : z1W c s p x = (8, []) := by
 unfold z1W
 rw [if_neg fun q => q ls, if_pos h]
section
variable {h : Hp} {K : Value → Hp → Prop}
theorem zjD (ideal : Bool) {o s kk x pk : List Nat} {vx vq : Value} (lo : o.length = 32) (ls : s.length = 32) (lk : kk.length = 32) (bo : Bytes o) (bs : Bytes s) (bk : Bytes kk) (bx : Bytes x) (rx : Rn h .u8 vx x) (rq : Rn h .u8 vq pk) (bq : Bytes pk)
  (k : ∀ h', K (.bool true) h') : Cn P z4A #[.bool ideal, .agg (z2T o s kk vx).toArray, vq] h K := by
 refine z8r ?_
 unfold z4B
 refine z2S fun r1 hr1 => ?_
 rw [zqk, zql lo ls lk]
 have x1 := z1x (.row z1N (z2T o s kk vx) 97 (some (0, 0))) hr1
 have e1 : (h.set r1 (.row z1N (z2T o s kk vx) 97 (some (0, 0)))) r1 = _ := Hp.set_same ..
 generalize h.set r1 (.row z1N (z2T o s kk vx) 97 (some (0, 0))) = M at x1 e1
 refine zna fun h4 x4 => ?_
 have A : Ask18 h4 r1 o s kk vx x := ⟨⟨_, x4 _ _ e1⟩, lo, ls, lk, bo, bs, bk, bx, rx.mono (x1.trans x4).cle⟩
 replace rq := rq.mono (x1.trans x4).cle
 clear x4 x1 e1
 have w0 : Own h4 h4 [] := ⟨.refl _, fun b hb => (by cases hb), fun b hb => (by cases hb)⟩
 have A4 := (A.facts (.refl _)).2.2.2.1
 have rx4 := (A.facts (.refl _)).2.2.2.2
 obtain ⟨ax, cx, rfl, _⟩ := rx4.shape
 obtain ⟨aq, cq, rfl, hcq⟩ := rq.shape
 have ln : ∀ {G : Hp} {K : Value → Prop} (a : Option Addr) (n c : Nat), q P G (Builtin.len_ #[zd] zi #[.slice a n c]) K = K (.int .i64 (n : Nat)) := fun {G K} _ _ _ => z12 za _ _ _
 have d300 : ∀ n : Nat, decide ((300 : Int) < ((n : Nat) : Int)) = decide (300 < n) := fun n => by rw [decide_eq_decide]; omega
 simp -zeta only [GL, RL, Bool.not_true, Bool.false_eq_true, if_false]
 intro J5
 have qJ : x.length ≤ 300 → pk.length ≤ 300 → J5 h4 := by
  intro lx lq
  simp -zeta only [J5]
  clear J5
  have hfew := zqm ideal
  refine zrA ideal w0 fun vc h3 S3 C3 o3 s3 _ => ?_
  have C3 : CrAt h4 h3 vc (cr0 ideal) S3 := C3
  refine znb ideal fun p5 hp5 => ?_
  obtain ⟨o5p, o5, dj5, same5⟩ := o3.mk1 (.row zX [.bool ideal, .slice none 0 0, .slice none 0 0] 3 (some (0, 0))) hp5
  have A5 := zqn (R := h4) ideal hp5
  generalize h3.set p5 (.row zX [.bool ideal, .slice none 0 0, .slice none 0 0] 3 (some (0, 0))) = h5 at o5p o5 same5 A5 ⊢
  have C5 : CrAt h4 h5 vc (cr0 ideal) S3 := CrAt.keep C3 (.refl _) same5
  obtain ⟨f1, f2, f3, f4, f5⟩ := A.facts o5.sub
  simp -zeta (disch := omega) only [zc9, zca, zcb, z9g, zcc, zcd, zce, GL, RL, f4]
  refine z9O f2 bs (by omega) (fun hn => absurd ls hn) fun _ vpu h6 n6 => ?_
  rw [ext0, ext1]
  have bpu := z1J (zt s)
  have lpu := zm (zt s)
  generalize nb (zt s) = pu at *
  obtain ⟨R6, s6, q6⟩ := Stp.newN o5 n6
  obtain ⟨o6p, dj6, same6⟩ := s6.frame o5p fun b hb q => dj5 b q hb
  have C6 : CrAt R6 h6 vc (cr0 ideal) S3 := C5.keep s6.ext fun b hb => by
   obtain ⟨o', eo⟩ := o5.kn b hb
   rw [eo, n6.ext _ _ eo]
  have A6 := A5.keep s6.ext same6
  obtain ⟨f1, f2, f3, f4, f5⟩ := A.facts (s6.ext.trans s6.own.sub)
  obtain ⟨g1, g2, g3, g4, g5⟩ := A.facts s6.ext
  simp -zeta (disch := omega) only [zc9, zca, zcb, z9g, zcc, zcd, zce, GL, RL, f4]
  refine ziM s6.own C6 (hfew _) g1 q6 g3 g5 bo bpu bk bx (by omega) (by omega) (by omega) fun v7 R7 h7 S7 s7 C7 _ => ?_
  obtain ⟨o7p, dj7, same7⟩ := s7.frame o6p dj6
  have A7 := A6.keep s7.ext same7
  have x7 := s6.ext.trans s7.ext
  obtain ⟨f1, f2, f3, f4, f5⟩ := A.facts (x7.trans s7.own.sub)
  obtain ⟨g1, g2, g3, g4, g5⟩ := A.facts x7
  simp -zeta (disch := omega) only [zc9, zca, zcb, z9g, zcc, zcd, zce, GL, RL, f4]
  refine ziV o7p A7 (hfew _) g1 (q6.mono s7.ext.cle) g3 g5 bo bpu bk bx (by omega) fun v8 R8 h8 S8 s8 A8 _ => ?_
  obtain ⟨o8, dj8, same8⟩ := s8.frame s7.own fun b hb q => dj7 b q hb
  have C8 := C7.keep s8.ext same8
  have x8 := x7.trans s8.ext
  have hf8 := ziW (once := o) (point := pu) (key := kk) (ctx := x) (hfew 5) (by omega)
  generalize (z1H (cr0 ideal) o pu kk x).2.2 = c8 at *
  obtain ⟨f1, f2, f3, f4, f5⟩ := A.facts (x8.trans s8.own.sub)
  obtain ⟨g1, g2, g3, g4, g5⟩ := A.facts x8
  simp -zeta (disch := omega) only [zc9, zca, zcb, z9g, zcc, zcd, zce, GL, RL, f4]
  refine ze8 o8 C8 (hf8.mono (by omega)) g2 (rq.mono x8.cle) g5 bs bq bx (by omega) (by omega) (by omega) fun v9 R9 h9 s9 C9 hv9 => ?_
  rw [ext0, ext1]
  obtain ⟨o9p, dj9, same9⟩ := s9.frame s8.own fun b hb q => dj8 b q hb
  have A9 := A8.keep s9.ext same9
  have x9 := x8.trans s9.ext
  obtain ⟨f1, f2, f3, f4, f5⟩ := A.facts (x9.trans s9.own.sub)
  obtain ⟨g1, g2, g3, g4, g5⟩ := A.facts x9
  simp -zeta (disch := omega) only [zc9, zca, zcb, z9g, zcc, zcd, zce, GL, RL, f4]
  refine zfW o9p A9 (hf8.mono (by omega)) g2 (rq.mono x9.cle) g5 bs bq bx (by omega) ls fun v10 R10 h10 s10 A10 hv10 => ?_
  rw [ext0, ext1]
  have x10 := x9.trans s10.ext
  have rq10 := s10.own.rn (rq.mono x10.cle)
  have hl := zjC hf8 s pk x
  have nb1 : ((8 : Int) == 8) = true := rfl
  have nb0 : ((0 : Int) == 0) = true := rfl
  by_cases hp : isPk pk
  ·generalize z1W c8 s pk x = U at *
   have l113 := hp.1
   refine zoS rq10 bq (by omega) (fun hn => absurd hp hn) fun _ v11 h11 n11 => ?_
   rw [ext0, ext1]
   intro J19
   have q19 : J19 (.bool false) h11 := by
    simp -zeta only [J19]
    clear J19
    have i1 : (1 : Int) = ((1 : Nat) : Int) := rfl
    have sA : ∀ {H : Hp} {K : Value → Prop}, q P H (Instr.sliceAt zd (.slice aq pk.length cq) (some (.int .i64 1)) (some (.int .i64 33)) none) K = K (.slice (SL.cut aq cq 1 1) 32 (cq - 1)) := fun {H K} => zem za zp aq pk.length cq .i64 .i64 1 33 (by omega) (by omega)
    have rA : Rn h11 .u8 (.slice (SL.cut aq cq 1 1) 32 (cq - 1)) (z1C pk) := Rn.cut (rq10.mono n11.ext.cle) 1 33 (by omega) (by omega)
    have lpt : (z1C pk).length ≤ 9223372036854775807 := by rw [z1C, List.length_drop, List.length_take]; omega
    have fin : q P h11 (eqop .eql zkv (.tmp 117) (.const (.int .i64 0)) (.int .i64 0) (.int .i64 0)) (fun t118 => gd t118 true (q P h11 (Instr.sliceAt zd (.slice aq pk.length cq) (some (.int .i64 1)) (some (.int .i64 33)) none) fun t123 => Cn P z6q #[v11, t123] h11 fun t124 h => K t124 h) (K (.bool false) h11)) := by
     simp -zeta only [GL, nb0, if_true, sA]
     refine z1A n11.rn rA lpt ?_
     simp only [decide_true]
     exact k _
    simp -zeta only [GL, Bool.false_eq_true, if_false, beq_self_eq_true, if_true]
    by_cases e0 : U.1 = 0
    ·rw [if_pos e0] at hv9 hv10
     refine z1A ((s10.own.rn (hv9.mono s10.ext.cle)).mono n11.ext.cle) ((s10.own.rn hv10).mono n11.ext.cle) (by omega) ?_
     simp -zeta only [decide_true, GL, if_true]
     exact fin
    ·rw [if_neg e0] at hv9 hv10
     subst hv9 hv10
     refine z1A (z3y _ _) (z3y _ _) (by simp) ?_
     simp -zeta only [decide_true, GL, if_true]
     exact fin
   clear_value J19
   have ne113 : (((pk.length : Nat) : Int) != 113) = false := by rw [l113]; rfl
   obtain ⟨p1, p2, p3⟩ := z6i (P := P) (i := 0) (y := .int .u8 ((pk.getD 0 0 : Nat) : Int)) za zp (rq10.mono n11.ext.cle) (z1g _ _ _ (by omega))
   have p2' : ∀ {h' : Hp} {K : Value → Prop}, q P h' (Instr.indexAt zd (.slice aq pk.length cq) (.int .i64 0)) K = K (.pointer (some p1)) := p2
   have ne1 : (((pk.getD 0 0 : Nat) : Int) != 1) = false := by rw [hp.2]; rfl
   simp -zeta only [ln, GL, ne113, if_true, p2', RL, p3, ne1]
   exact q19
  ·have hu := zlx (c := c8) (x := x) ls hp
   rw [hu] at hv9 hv10 ⊢
   rw [if_neg (by decide)] at hv9 hv10
   subst hv9 hv10
   refine zoS rq10 bq (by omega) (fun hn => ?_) fun hy => absurd hy hp
   rw [ext0, ext1]
   intro J19
   have q19 : J19 (.bool true) h10 := by
    simp -zeta only [J19]
    clear J19
    have z0 : (((0 : Nat) : Int) == 0) = true := rfl
    simp -zeta only [GL, if_true, beq_self_eq_true, ln, z0, nb1]
    exact k _
   clear_value J19
   have ne113 : (((pk.length : Nat) : Int) != 113) = decide (pk.length ≠ 113) := z3h pk.length 113
   simp -zeta only [ln, GL, ne113]
   by_cases h1 : pk.length = 113
   ·have d1 : decide (pk.length ≠ 113) = false := by simp [h1]
    obtain ⟨p1, p2, p3⟩ := z6i (P := P) (i := 0) (y := .int .u8 ((pk.getD 0 0 : Nat) : Int)) za zp rq10 (z1g _ _ _ (by omega))
    have p2' : ∀ {h' : Hp} {K : Value → Prop}, q P h' (Instr.indexAt zd (.slice aq pk.length cq) (.int .i64 0)) K = K (.pointer (some p1)) := p2
    have ne1 : (((pk.getD 0 0 : Nat) : Int) != 1) = decide (pk.getD 0 0 ≠ 1) := z3h _ 1
    have d2 : decide (pk.getD 0 0 ≠ 1) = true := decide_eq_true fun q => hp ⟨h1, q⟩
    simp -zeta only [d1, Bool.false_eq_true, if_false, if_true, p2', GL, RL, p3, ne1, d2]
    exact q19
   ·have d1 : decide (pk.length ≠ 113) = true := decide_eq_true h1
    simp -zeta only [d1, Bool.true_eq_false, if_false, if_true]
    exact q19
 clear_value J5
 simp -zeta only [z9g, GL, RL, A4, ln, d300]
 by_cases q1 : 300 < x.length
 ·simp -zeta only [q1, decide_true, Bool.true_eq_false, if_false, if_true]
  exact k _
 ·simp -zeta only [q1, decide_false, Bool.false_eq_true, if_false, if_true, ln, GL, d300]
  by_cases q2 : 300 < pk.length
  ·simp -zeta only [q2, decide_true, if_true]
   exact k _
  ·simp -zeta only [q2, decide_false, Bool.false_eq_true, if_false]
   exact qJ (by omega) (by omega)
end
end Go.Proofs.YtoikhbagchfeoaaGreat
namespace Go.SL
open Go
theorem zrB (n : Int) (h : (Lit.int .u8 n).wf = true) : 0 ≤ n ∧ n < (256 : Nat) := by
 simp [Lit.wf, IntKind.min, IntKind.max, IntKind.signed, IntKind.bits] at h
 omega
end Go.SL
namespace Go.Proofs.YtoikhbagchfeoaaGreat
open Go Go.SL Go.Pure
open Go.ChangeShapes Go.WideShapes Go.ChangeAt Go.RowKit
def z2A (w : World) : Hp := fun b => match w.heap[b]? with
 | some (.cells c e _) => some (.row e c.toList c.size none)
 | _ => none
theorem zjE (w : World) : (z2A w).sat w := by
 intro b o e
 unfold z2A at e
 split at e
 ·rename_i c el f hb
  cases e
  refine ⟨_, hb, rfl, rfl, by simp, fun i v hv => by simpa using hv, fun f hf => by cases hf⟩
 ·cases e
theorem zjF (w : World) (b : Nat) : ¬ (z2A w).own b := by
 rintro ⟨o, e, hr⟩
 unfold z2A at e
 split at e
 ·cases e; cases hr
 ·cases e
theorem zcf {w : World} {b o : Nat} {v : Value} (e : w.cell? ⟨b, o, none⟩ = some v) : (z2A w).cell ⟨b, o, none⟩ = some v := by
 unfold World.cell? at e
 unfold Hp.cell z2A
 dsimp only at e ⊢
 split at e
 ·rename_i c el f hb
  rw [hb]
  simpa using e
 ·cases e
theorem zop {w w' : World} {h' : Hp} (f : Fr (z2A w) h' w w') : Below w.heap.size w w' :=
 ⟨f.os, f.tape, f.output, f.size, fun k hk => f.keep k hk (zjF w k)⟩
theorem zqo {H : Type} {enc : TypeId × Value → H} {w : World} {fuel : Nat} {v : Value} {x : DataW H × List MemPlace} (h : DataW.trod enc P w 0 (fun _ => true) true fuel zd [v] = some x) :
  ∃ l : List Nat, Rn (z2A w) .u8 v l ∧ Bytes l := by
 rcases Go.ChangeShapes.open_ints za z8D (by kernel_rfl) h with ⟨hcs, _⟩ | ⟨a, len, cap, zs, hcs, _, hl, hm, hz, _, hcell, hwz⟩
 ·simp only [List.cons.injEq, and_true] at hcs
  subst hcs
  exact ⟨[], z3y _ _, by intro y hy; cases hy⟩
 ·simp only [List.cons.injEq, and_true] at hcs
  subst hcs
  simp only [if_true] at hz
  have hnn : ∀ n ∈ zs, 0 ≤ n ∧ n < 256 := fun n hn => by
   have := hwz n hn
   simp [Lit.wf, IntKind.min, IntKind.max, IntKind.signed, IntKind.bits] at this
   omega
  have ll : ((zs.take len).map Int.toNat).length = len := by rw [List.length_map, List.length_take]; omega
  refine ⟨(zs.take len).map Int.toNat, ⟨by rw [ze]; omega, some a, cap, by rw [ll], by omega, ?_⟩, ?_⟩
  ·rw [ll]
   by_cases h0 : len = 0
   ·exact .inl h0
   ·right
    have hc0 := hcell 0 (by omega)
    obtain ⟨b, o, sp⟩ := a
    have hsp : sp = none := by
     cases sp with
     | none => rfl
     | some s =>
      unfold World.cell? Addr.add at hc0
      dsimp only at hc0
      split at hc0 <;> simp at hc0
    subst hsp
    refine ⟨b, o, rfl, fun i x hx => ?_⟩
    have hi : i < len := by
     have := (List.getElem?_eq_some_iff.1 hx).1
     rwa [ze, ll] at this
    rw [z1g _ _ _ (by rw [ll]; exact hi)] at hx
    cases hx
    have hci := hcell i (by omega)
    rw [z1d] at hci
    have hz' : zs.getD i 0 = (((zs.take len).map Int.toNat).getD i 0 : Nat) := by
     have hiz : i < zs.length := by omega
     have := hnn zs[i] (List.getElem_mem hiz)
     simp [List.getD_eq_getElem?_getD, hiz, hi]
     omega
    rw [hz'] at hci
    exact zcf hci
  ·intro y hy
   obtain ⟨n, hn, rfl⟩ := List.mem_map.1 hy
   have := hnn n (List.mem_of_mem_take hn)
   omega
theorem zly {H : Type} {enc : TypeId × Value → H} {w : World} {v : Value} {d : DataW H} {p : List MemPlace} (hv : ∃ a len cap, v = .slice a len cap) (h : DataW.Trod enc P w 0 (fun _ => true) true zd v d p) :
  ∃ l : List Nat, Rn (z2A w) .u8 v l ∧ Bytes l := by
 obtain ⟨a, n, c, rfl⟩ := hv
 obtain ⟨fuel, hf⟩ := h
 exact zqo hf
theorem zqp : ownKnob Tryz.prog.godebug = none := by kernel_rfl
theorem zfY : laidOutB Tryz.prog = true := by kernel_rfl
theorem zlz {f : FuncId} {args : Array Value} {w : World} (c : Cn P f args (z2A w) fun v _ => v = .bool true) : Calls P f args w fun e w' => e = .returned (.bool true) ∧ Below w.heap.size w w' :=
 (c.2 w (zjE w)).mono fun e w' ⟨v, h', he, _, f', hv⟩ => ⟨by rw [he, hv], zop f'⟩
end Go.Proofs.YtoikhbagchfeoaaGreat
namespace Go.Proofs.YtoikhbagchfeoaaGreat
open Go Go.SL Go.Pure
open Go.ChangeShapes Go.WideShapes Go.ChangeAt Go.RowKit
theorem zqq {H : Type} {enc : TypeId × Value → H} {w : World} : ∀ (ty : Ty),
  (∀ (t : TypeId) (fuel : Nat) (cs : List Value) (x : DataW H × List MemPlace), tyB P ty (.inl t) = true → DataW.trod enc P w 0 (fun _ => true) true fuel t cs = some x → ty.Rd (z2A w) cs) ∧
  (∀ (o : Nat) (l : List Field) (n : Nat) (cs : List Value), tyB P ty (.inr (o, l)) = true → cs.length = o + ty.size → (∀ (j : Nat) (f : Field), l[j]? = some f → ∃ y, DataW.trod enc P w 0 (fun _ => true) true n f.type ((cs.drop f.offset).take (P.cellsOf f.type)) = some y) → ty.Rd (z2A w) (cs.drop o)) := by
 intro ty
 induction ty with
 | int k =>
  refine ⟨fun t fuel cs x hb h => ?_, fun o l n cs hb => by simp [tyB] at hb⟩
  unfold tyB at hb
  split at hb
  ·rename_i k' hu
   obtain ⟨n, rfl, _, hw⟩ := DataW.trod_int hu h
   rw [beq_iff_eq] at hb
   subst hb
   exact ⟨n, rfl, hw⟩
  ·cases hb
 | bool =>
  refine ⟨fun t fuel cs x hb h => ?_, fun o l n cs hb => by simp [tyB] at hb⟩
  unfold tyB at hb
  split at hb
  ·rename_i hu
   obtain ⟨b, rfl, _⟩ := DataW.trod_bool hu h
   exact ⟨b, rfl⟩
  ·cases hb
 | str =>
  refine ⟨fun t fuel cs x hb h => ?_, fun o l n cs hb => by simp [tyB] at hb⟩
  unfold tyB at hb
  split at hb
  ·rename_i hu
   obtain ⟨s, rfl, _, hs⟩ := DataW.trod_string hu h
   exact ⟨s, rfl, Nat.le_trans hs (by decide)⟩
  ·cases hb
 | sl e ih =>
  refine ⟨fun t fuel cs x hb h => ?_, fun o l n cs hb => by simp [tyB] at hb⟩
  unfold tyB at hb
  split at hb
  ·rename_i te hu
   simp only [Bool.and_eq_true, beq_iff_eq, decide_eq_true_eq] at hb
   obtain ⟨⟨hc, h0⟩, hb⟩ := hb
   rcases DataW.trod_slice hu h with ⟨rfl, _⟩ | ⟨a', len, cap, elems, rest, m, _, rfl, _, _, hl, hm, hlen, hel, _, _⟩
   ·exact ⟨_, [], rfl, ⟨none, 0, rfl, Nat.le_refl _, .inl rfl⟩, by simp, by simp⟩
   ·have each : ∀ i, i < len → ∃ cs : List Value, cs.length = e.size ∧ e.Rd (z2A w) cs ∧ ∀ j y, cs[j]? = some y → w.cell? ((a'.add (i * e.size)).add j) = some y := by
     intro i hi
     have h1 := hel i hi
     rw [hc, List.getElem?_eq_getElem (by omega), Option.bind_eq_some_iff] at h1
     obtain ⟨cs, hcs, htr⟩ := h1
     obtain ⟨_, hlen, hcell⟩ := World.cells?_some hcs
     refine ⟨cs, hlen, ih.1 te m cs _ hb htr, fun j y ey => ?_⟩
     have hlt := (List.getElem?_eq_some_iff.1 ey).1
     rw [hcell j (by omega)]
     exact ey
    obtain ⟨f, hfn⟩ : ∃ f : Nat → List Value, ∀ i, i < len → (f i).length = e.size ∧ e.Rd (z2A w) (f i) ∧ ∀ j y, (f i)[j]? = some y → w.cell? ((a'.add (i * e.size)).add j) = some y := by
     refine ⟨fun i => if q : i < len then (each i q).choose else [], fun i hi => ?_⟩
     simp only [hi, dif_pos]
     exact (each i hi).choose_spec
    have hget : ∀ (i : Nat) (x : List Value), ((List.range len).map f)[i]? = some x → i < len ∧ x = f i := by
     intro i x e
     have hi : i < len := by simpa using (List.getElem?_eq_some_iff.1 e).1
     rw [List.getElem?_map, List.getElem?_range hi] at e
     exact ⟨hi, by simpa using e.symm⟩
    have ll : ((List.range len).map f).length = len := by simp
    have hm' : cap ≤ 9223372036854775807 := Nat.le_trans hm (by decide)
    refine ⟨_, (List.range len).map f, rfl, ⟨some a', cap, by rw [ll], by rw [ll]; exact hl, ?_⟩, by rw [ll]; omega, fun x hx => ?_⟩
    ·by_cases hl0 : len = 0
     ·left; subst hl0; rfl
     ·right
      obtain ⟨l0, _, c0⟩ := hfn 0 (by omega)
      have hc0 := c0 0 _ (List.getElem?_eq_getElem (by omega))
      obtain ⟨b, o, sp⟩ := a'
      have hsp : sp = none := by
       cases sp with
       | none => rfl
       | some s =>
        unfold World.cell? Addr.add at hc0
        dsimp only at hc0
        split at hc0 <;> simp at hc0
      subst hsp
      refine ⟨b, o, rfl, fun i x e j y ey => ?_⟩
      obtain ⟨hi, rfl⟩ := hget i x e
      have := (hfn i hi).2.2 j y ey
      rw [z1d, z1d] at this
      exact zcf this
    ·obtain ⟨i, hi, rfl⟩ := List.mem_map.1 hx
     have hi : i < len := by simpa using hi
     exact ⟨(hfn i hi).1, (hfn i hi).2.1⟩
  ·cases hb
 | arr n e ih =>
  refine ⟨fun t fuel cs x hb h => ?_, fun o l n cs hb => by simp [tyB] at hb⟩
  unfold tyB at hb
  split at hb
  ·rename_i m te hu
   simp only [Bool.and_eq_true, beq_iff_eq] at hb
   obtain ⟨⟨⟨rfl, hc⟩, hct⟩, hb⟩ := hb
   obtain ⟨xs, k, _, _, hlen, hl, hel⟩ := DataW.trod_array hu h
   rw [hct] at hlen
   have piece : ∀ i, i < m → ((cs.drop (i * e.size)).take e.size).length = e.size ∧ e.Rd (z2A w) ((cs.drop (i * e.size)).take e.size) := fun i hi => by
    have h1 := hel i hi
    rw [hc, List.getElem?_eq_getElem (by omega)] at h1
    refine ⟨?_, ih.1 te k _ _ hb h1⟩
    rw [List.length_take, List.length_drop, hlen]
    have : (i + 1) * e.size ≤ m * e.size := Nat.mul_le_mul_right _ hi
    rw [Nat.succ_mul] at this
    omega
   have flat : ∀ (m : Nat) (cs : List Value), cs.length = m * e.size → ((List.range m).map fun i => (cs.drop (i * e.size)).take e.size).flatten = cs := by
    intro m
    induction m with
    | zero => intro cs hl; obtain rfl : cs = [] := List.eq_nil_of_length_eq_zero (by simpa using hl); rfl
    | succ m ihm =>
     intro cs hl
     rw [Nat.succ_mul] at hl
     rw [List.range_succ_eq_map, List.map_cons, List.map_map, List.flatten_cons, Nat.zero_mul, List.drop_zero]
     have e1 : ((fun i => (cs.drop (i * e.size)).take e.size) ∘ Nat.succ) = fun i => ((cs.drop e.size).drop (i * e.size)).take e.size := by
      funext i
      show (cs.drop ((i + 1) * e.size)).take e.size = _
      rw [List.drop_drop, Nat.succ_mul, Nat.add_comm]
     rw [e1, ihm (cs.drop e.size) (by rw [List.length_drop]; omega), List.take_append_drop]
   refine ⟨_, (flat m cs hlen).symm, by simp, fun x hx => ?_⟩
   obtain ⟨i, hi, rfl⟩ := List.mem_map.1 hx
   exact piece i (by simpa using hi)
  ·cases hb
 | rcd fs ih =>
  refine ⟨fun t fuel cs x hb h => ?_, fun o l n cs hb => by simp [tyB] at hb⟩
  unfold tyB at hb
  split at hb
  ·rename_i fa hu
   simp only [Bool.and_eq_true, beq_iff_eq] at hb
   obtain ⟨xs, n, _, _, hl, hlen, hf⟩ := DataW.trod_struct hu h
   have := ih.2 0 fa.toList n cs hb.2 (by rw [hl, hb.1, Nat.zero_add]) fun j f hj => by
    have := hf j f (by simpa using hj)
    have hlt : j < xs.length := by
     have := (List.getElem?_eq_some_iff.1 hj).1
     simp at this
     omega
    exact ⟨_, this.trans (List.getElem?_eq_getElem hlt)⟩
   exact this
  ·cases hb
 | nil =>
  refine ⟨fun t fuel cs x hb h => by simp [tyB] at hb, fun o l n cs hb hl hf => ?_⟩
  exact List.drop_of_length_le (by rw [hl]; exact Nat.le_refl _)
 | cons a b iha ihb =>
  refine ⟨fun t fuel cs x hb h => by simp [tyB] at hb, fun o l n cs hb hl hf => ?_⟩
  unfold tyB at hb
  cases l with
  | nil => cases hb
  | cons f l =>
   simp only [Bool.and_eq_true, beq_iff_eq] at hb
   obtain ⟨⟨⟨ho, hc⟩, h1⟩, h2⟩ := hb
   have hsz : (Ty.cons a b).size = a.size + b.size := rfl
   obtain ⟨y, hy⟩ := hf 0 f rfl
   rw [ho, hc] at hy
   refine ⟨(cs.drop o).take a.size, cs.drop (o + a.size), by rw [← List.drop_drop, List.take_append_drop], ?_, iha.1 f.type n _ _ h1 hy, ihb.2 (o + a.size) l n cs h2 (by omega) fun j g hj => hf (j + 1) g hj⟩
   rw [List.length_take, List.length_drop]
   omega
theorem zqr {H : Type} {enc : TypeId × Value → H} {w : World} {v : Value} {d : DataW H} {p : List MemPlace} (ty : Ty) {t : TypeId} (hb : tyB P ty (.inl t) = true) (h : DataW.Trod enc P w 0 (fun _ => true) true t v d p) : ty.Rd (z2A w) v.cells.toList := by
 obtain ⟨fuel, hf⟩ := h
 exact (zqq ty).1 t fuel _ _ hb hf
end Go.Proofs.YtoikhbagchfeoaaGreat
namespace Go.Proofs.YtoikhbagchfeoaaGreat
open Go Go.SL Go.Pure
open Go.ChangeShapes Go.WideShapes Go.ChangeAt Go.RowKit
theorem zoV {R : Hp} : ∀ (items : List (List Value)), (∀ x ∈ items, x.length = (Ty.int .u8).size ∧ (Ty.int .u8).Rd R x) → ∃ l, items.flatten = nv .u8 l ∧ l.length = items.length ∧ Bytes l
 | [], _ => ⟨[], rfl, rfl, by intro y hy; cases hy⟩
 | x :: items, h => by
  obtain ⟨l, h1, h2, h3⟩ := zoV items fun y hy => h y (List.mem_cons_of_mem _ hy)
  obtain ⟨_, n, rfl, hw⟩ := h x (by simp)
  obtain ⟨g1, g2⟩ := zrB n hw
  refine ⟨n.toNat :: l, ?_, by simp [h2], ?_⟩
  ·rw [List.flatten_cons, h1]
   show _ = Value.int .u8 ((n.toNat : Nat) : Int) :: nv .u8 l
   rw [Int.toNat_of_nonneg g1]
   rfl
  ·intro y hy
   rcases List.mem_cons.1 hy with rfl | hy
   ·omega
   ·exact h3 y hy
theorem arrB {R : Hp} {n : Nat} {vs : List Value} (h : (Ty.arr n (.int .u8)).Rd R vs) : ∃ l, vs = nv .u8 l ∧ l.length = n ∧ Bytes l := by
 obtain ⟨items, h1, h2, h3⟩ := h
 obtain ⟨l, g1, g2, g3⟩ := zoV items h3
 exact ⟨l, h1.trans g1, g2.trans h2, g3⟩
def tyAsk18 : Ty := .rcd (.cons (.arr 32 (.int .u8)) (.cons (.arr 32 (.int .u8)) (.cons (.arr 32 (.int .u8)) (.cons (.sl (.int .u8)) .nil))))
theorem zoq {R : Hp} {cs : List Value} (h : tyAsk18.Rd R cs) : ∃ (o s k : List Nat) (vx : Value) (x : List Nat), cs = z2T o s k vx ∧ o.length = 32 ∧ s.length = 32 ∧ k.length = 32 ∧ Bytes o ∧ Bytes s ∧ Bytes k ∧ Rn R .u8 vx x ∧ Bytes x ∧ x.length ≤ 9223372036854775807 := by
 obtain ⟨a, r1, rfl, _, ha, b, r2, rfl, _, hb, c, r3, rfl, _, hc, d, r4, rfl, _, hd, rfl⟩ := h
 obtain ⟨o, rfl, lo, bo⟩ := arrB ha
 obtain ⟨s, rfl, ls, bs⟩ := arrB hb
 obtain ⟨k, rfl, lk, bk⟩ := arrB hc
 obtain ⟨v, x, rfl, rx, bx, lx⟩ := Ty.Rd.asBytes hd
 exact ⟨o, s, k, v, x, by simp [z2T], lo, ls, lk, bo, bs, bk, rx, bx, lx⟩
end Go.Proofs.YtoikhbagchfeoaaGreat
namespace Go.Proofs.YtoikhbagchfeoaaGreat
open Go Go.SL Go.Pure
open Go.ChangeShapes Go.WideShapes Go.ChangeAt Go.RowKit
namespace wrapOpens
theorem lifted (os : Os) (started : os.Started) (H : Type) (enc : TypeId × Value → H) :
  ReturnsInHanded {} Tryz.checked os z4A .any (Rows.wrapOpensSpec.pre6 enc Tryz.prog Tryz.f4 Rows.wrapOpensRow.domain false) (Rows.wrapOpensSpec.post enc Tryz.prog Tryz.f4 false true false false) := by
 refine returnsInHanded_of_change_sized (C := Tryz.checked) zqp started (by kernel_rfl) Tryz.func4
  (ChangeSpec.witness6 (enc := enc) (C := Tryz.checked) false ⟨#[], #[.bool false, .agg (z2T (List.replicate 32 0) (List.replicate 32 0) (List.replicate 32 0) (.slice none 0 0)).toArray, .slice none 0 0], []⟩ 8 (by kernel_rfl) (by kernel_rfl) (by kernel_rfl) (by kernel_rfl)) ?_
 intro W base args ds gs before hval0 hW hcnd hsz0 _
 have hval : ∀ (j : Nat) t v, Tryz.f4.params[j]? = some t → args[j]? = some v → Value.okWide Tryz.prog W .any base t v := hval0
 have hW' := hW
 obtain ⟨p, q, hA0, hV, rfl, hfz, hnd⟩ := hW
 have hA : DataW.TrodAll enc Tryz.prog W 0 (fun _ => true) true Tryz.f4.params.toList args.toList ds p := hA0
 rw [Tryz.params4] at hA hval
 obtain ⟨v0, vs0, d0, ds0, p0, q0, hargs, rfl, rfl, h0, r0⟩ := trodAll_cons hA
 obtain ⟨v1, vs1, d1, ds1, p1, q1, rfl, rfl, rfl, h1, r1⟩ := trodAll_cons r0
 obtain ⟨v2, vs2, d2, ds2, p2, q2, rfl, rfl, rfl, h2, r2⟩ := trodAll_cons r1
 obtain ⟨rfl, rfl, rfl⟩ := trodAll_nil r2
 obtain rfl : args = #[v0, v1, v2] := by cases args; simp_all
 obtain ⟨rfl, rfl⟩ := trodVars_none hV
 have lt0 : ∀ x ∈ p0, x.block < W.heap.size := by obtain ⟨m, hm⟩ := h0; exact DataW.trod_lt m _ _ _ hm
 have lt1 : ∀ x ∈ p1, x.block < W.heap.size := by obtain ⟨m, hm⟩ := h1; exact DataW.trod_lt m _ _ _ hm
 have lt2 : ∀ x ∈ p2, x.block < W.heap.size := by obtain ⟨m, hm⟩ := h2; exact DataW.trod_lt m _ _ _ hm
 obtain ⟨b0, rfl⟩ := okWide_bool Tryz.underlying4 (hval 0 4 v0 rfl rfl)
 obtain ⟨cs1, rfl, hs1⟩ := okWide_struct Tryz.underlying42 (hval 1 42 v1 rfl rfl)
 have D1 : Ty.Rd (z2A W) tyAsk18 cs1.toList := zqr tyAsk18 (by kernel_rfl) h1
 obtain ⟨o1, s1, k1, vx1, x1, e1, lo1, ls1, lk1, bo1, bs1, bk1, rx1, bx1, lx1⟩ := zoq D1
 obtain rfl : cs1 = (z2T o1 s1 k1 vx1).toArray := by rw [← e1]
 obtain ⟨o2, ho2⟩ := zly (okWide_slice Tryz.underlying22 (hval 2 22 v2 rfl rfl)) h2
 clear hA0 hval0 hsz0
 refine (zlz (zjD b0 lo1 ls1 lk1 bo1 bs1 bk1 bx1 rx1 ho2.1 ho2.2 (K := fun v _ => v = .bool true) fun _ => rfl)).mono fun e W' ⟨he, bel⟩ => ?_
 subst he
 exact ⟨_, rfl, _, _, _, [], _, [], hW', trodAll_mk1 (shut_bool Tryz.underlying4 _), (trodAll_cons_mk (Below.trod zfY (by kernel_rfl) (of_decide_eq_true (by kernel_rfl)) h0 bel lt0) (trodAll_cons_mk (Below.trod zfY (by kernel_rfl) (of_decide_eq_true (by kernel_rfl)) h1 bel lt1) (trodAll_cons_mk (Below.trod zfY (by kernel_rfl) (of_decide_eq_true (by kernel_rfl)) h2 bel lt2) trodAll_mk0))), rfl, bel.frame _, fun h => by cases h⟩
theorem over : Rows.wrapOpensRow.holds Tryz.pinned (OpenSpec.ofChange Rows.wrapOpensSpec) :=
 OpenClaim.holds_of_wide 4 Tryz.f4 rfl rfl rfl rfl rfl rfl rfl ⟨rfl, rfl, rfl, rfl, rfl⟩ rfl rfl rfl rfl rfl (by kernel_rfl) Tryz.func4 (by kernel_rfl)
  (of_decide_eq_true (by kernel_rfl)) (by unfold Func.isWrapper; first | (rw [if_pos (by decide +kernel)]; kernel_rfl) | (rw [if_neg (by decide +kernel)]; exact ⟨rfl, rfl⟩))
  (fun os started H enc _ => lifted os started H enc)
theorem proved : Rows.WrapOpensSaid := over
end wrapOpens
theorem wrapOpens_holds : Rows.WrapOpensSaid := wrapOpens.proved
end Go.Proofs.YtoikhbagchfeoaaGreat
