/- wrapOpens_holds wrapOpens proved lifted over: part 3 of its proof; each part's own remarks stand with its declarations. Conditions: each lemma names its own. -/
import Derived.Test.YtoikhbagchfeoaaGreatWrapOpens2
set_option linter.unusedSimpArgs false
set_option linter.unusedVariables false
set_option maxRecDepth 100000
namespace Go.Curve
open Go.Pure
def ph (x : Nat) : F := Fin.ofNat pp x
theorem z5o (x : Nat) : (ph x).val = x % pp := rfl
theorem z3B (a b : Nat) : ph (a + b) = ph a + ph b := by
 apply Fin.ext
 rw [Fin.val_add]
 simp only [z5o]
 rw [← Nat.add_mod]
theorem z5p (a b : Nat) : ph (a * b) = ph a * ph b := by
 apply Fin.ext
 rw [zeQ]
 simp only [z5o]
 rw [← Nat.mul_mod]
theorem z4Z (x : F) : ph x.val = x := by
 apply Fin.ext
 rw [z5o, Nat.mod_eq_of_lt x.isLt]
theorem zoF : ph 19 = 19 := by decide +kernel
def t51 : F := ph 2251799813685248
theorem zoG : t51 * t51 * t51 * t51 * t51 = 19 := by decide +kernel
theorem z99 (x : Nat) : ph x = ph (x % 2251799813685248) + t51 * ph (x / 2251799813685248) := by
 rw [t51, ← z5p, ← z3B]
 congr 1
 omega
def ev5 (a b c d e : Nat) : F := ph a + t51 * (ph b + t51 * (ph c + t51 * (ph d + t51 * ph e)))
theorem zm5 {a b c d e b' c' d' e' : Nat} (hb : b' = b + a / 2251799813685248) (hc : c' = c + b' / 2251799813685248) (hd : d' = d + c' / 2251799813685248) (he : e' = e + d' / 2251799813685248) :
  ev5 (a % 2251799813685248 + 19 * (e' / 2251799813685248)) (b' % 2251799813685248) (c' % 2251799813685248) (d' % 2251799813685248) (e' % 2251799813685248) = ev5 a b c d e := by
 have h0 := z99 a
 have h1 := z99 b'
 have h2 := z99 c'
 have h3 := z99 d'
 have h4 := z99 e'
 have t := zoG
 have g1 : ph b' = ph b + ph (a / 2251799813685248) := by rw [hb, z3B]
 have g2 : ph c' = ph c + ph (b' / 2251799813685248) := by rw [hc, z3B]
 have g3 : ph d' = ph d + ph (c' / 2251799813685248) := by rw [hd, z3B]
 have g4 : ph e' = ph e + ph (d' / 2251799813685248) := by rw [he, z3B]
 rw [g1] at h1
 rw [g2] at h2
 rw [g3] at h3
 rw [g4] at h4
 clear g1 g2 g3 g4
 simp only [ev5, z3B, z5p, zoF]
 generalize ph (a % 2251799813685248) = A at *
 generalize ph (a / 2251799813685248) = A' at *
 generalize ph (b' % 2251799813685248) = B at *
 generalize ph (b' / 2251799813685248) = B' at *
 generalize ph (c' % 2251799813685248) = C at *
 generalize ph (c' / 2251799813685248) = C' at *
 generalize ph (d' % 2251799813685248) = D at *
 generalize ph (d' / 2251799813685248) = D' at *
 generalize ph (e' % 2251799813685248) = X at *
 generalize ph (e' / 2251799813685248) = X' at *
 rw [h0]
 have q1 : ph b = B + t51 * B' - A' := by rw [← h1]; grobner
 have q2 : ph c = C + t51 * C' - B' := by rw [← h2]; grobner
 have q3 : ph d = D + t51 * D' - C' := by rw [← h3]; grobner
 have q4 : ph e = X + t51 * X' - D' := by rw [← h4]; grobner
 rw [q1, q2, q3, q4]
 clear h0 h1 h2 h3 h4 q1 q2 q3 q4 hb hc hd he
 generalize t51 = t at *
 grobner
theorem zi9 (a b c d e a' b' c' d' e' : Nat) : ev5 (a + a') (b + b') (c + c') (d + d') (e + e') = ev5 a b c d e + ev5 a' b' c' d' e' := by
 simp only [ev5, z3B]
 generalize t51 = t
 grobner
theorem zqV : ev5 9007199254740916 9007199254740988 9007199254740988 9007199254740988 9007199254740988 = 0 := by decide +kernel
theorem zqW {a b c d e a' b' c' d' e' : Nat} (ha : a' ≤ 9007199254740916) (hb : b' ≤ 9007199254740988) (hc : c' ≤ 9007199254740988) (hd : d' ≤ 9007199254740988) (he : e' ≤ 9007199254740988) :
  ev5 (a + (9007199254740916 - a')) (b + (9007199254740988 - b')) (c + (9007199254740988 - c')) (d + (9007199254740988 - d')) (e + (9007199254740988 - e')) = ev5 a b c d e - ev5 a' b' c' d' e' := by
 have h := zi9 (a + (9007199254740916 - a')) (b + (9007199254740988 - b')) (c + (9007199254740988 - c')) (d + (9007199254740988 - d')) (e + (9007199254740988 - e')) a' b' c' d' e'
 have e1 := zi9 a b c d e 9007199254740916 9007199254740988 9007199254740988 9007199254740988 9007199254740988
 rw [zqV] at e1
 rw [show a + (9007199254740916 - a') + a' = a + 9007199254740916 by omega, show b + (9007199254740988 - b') + b' = b + 9007199254740988 by omega, show c + (9007199254740988 - c') + c' = c + 9007199254740988 by omega,
  show d + (9007199254740988 - d') + d' = d + 9007199254740988 by omega, show e + (9007199254740988 - e') + e' = e + 9007199254740988 by omega, e1] at h
 grobner
theorem zqX (a b c d e v w x y z : Nat) :
  ev5 (a*v + 19*(b*z) + 19*(c*y) + 19*(d*x) + 19*(e*w)) (a*w + b*v + 19*(c*z) + 19*(d*y) + 19*(e*x)) (a*x + b*w + c*v + 19*(d*z) + 19*(e*y)) (a*y + b*x + c*w + d*v + 19*(e*z)) (a*z + b*y + c*x + d*w + e*v) = ev5 a b c d e * ev5 v w x y z := by
 have t := zoG
 simp only [ev5, z3B, z5p, zoF]
 generalize t51 = t at *
 generalize ph a = A
 generalize ph b = B
 generalize ph c = C
 generalize ph d = D
 generalize ph e = E
 generalize ph v = V
 generalize ph w = W
 generalize ph x = X
 generalize ph y = Y
 generalize ph z = Z
 grobner
theorem zss (a b c d e : Nat) : ev5 (a % 2251799813685248) (b + a / 2251799813685248) c d e = ev5 a b c d e := by
 have h0 := z99 a
 simp only [ev5, z3B]
 rw [h0]
 generalize t51 = t at *
 grobner
theorem zpx {a b c d e b' c' d' e' : Nat} (hb : b' = b + a / 2251799813685248) (hc : c' = c + b' / 2251799813685248) (hd : d' = d + c' / 2251799813685248) (he : e' = e + d' / 2251799813685248) :
  ev5 (19 * (e' / 2251799813685248) + a % 2251799813685248) (b' % 2251799813685248) (c' % 2251799813685248) (d' % 2251799813685248) (e' % 2251799813685248) = ev5 a b c d e := by
 rw [Nat.add_comm]
 exact zm5 hb hc hd he
def num5 (a b c d e : Nat) : Nat := a + 2251799813685248 * (b + 2251799813685248 * (c + 2251799813685248 * (d + 2251799813685248 * e)))
theorem zia (a b c d e : Nat) : ev5 a b c d e = ph (num5 a b c d e) := by
 simp only [num5, z3B, z5p]
 rfl
theorem zib {a b c d e : Nat} (ha : a < 2251799813685248) (hb : b < 2251799813685248) (hc : c < 2251799813685248) (hd : d < 2251799813685248) (he : e < 2251799813685248) : num5 a b c d e < 57896044618658097711785492504343953926634992332820282019728792003956564819968 := by
 unfold num5
 omega
def nb (x : F) : List Nat := le 32 x.val
theorem zfR {l : List Nat} (h : Bytes l) (n : Nat) : z9 (l.take n) = z9 l % 256 ^ n := by
 rcases Nat.lt_or_ge l.length n with q | q
 ·rw [List.take_of_length_le (by omega), Nat.mod_eq_of_lt]
  exact Nat.lt_of_lt_of_le (z27 l h) (Nat.pow_le_pow_right (by decide) (by omega))
 ·have e := zY (l.take n) (l.drop n)
  rw [List.take_append_drop, List.length_take, Nat.min_eq_left q] at e
  rw [e, Nat.add_mul_mod_self_left, Nat.mod_eq_of_lt]
  have := z27 (l.take n) (h.take n)
  rwa [List.length_take, Nat.min_eq_left q] at this
theorem z9a {l : List Nat} (h : Bytes l) {n : Nat} (q : n ≤ l.length) : z9 (l.drop n) = z9 l / 256 ^ n := by
 have e := zY (l.take n) (l.drop n)
 rw [List.take_append_drop, List.length_take, Nat.min_eq_left q] at e
 have lt := z27 (l.take n) (h.take n)
 rw [List.length_take, Nat.min_eq_left q] at lt
 rw [e, Nat.add_mul_div_left _ _ (Nat.lt_of_le_of_lt (Nat.zero_le _) lt), Nat.div_eq_of_lt lt, Nat.zero_add]
theorem z68 : ∀ {l : List Nat}, Bytes l → le l.length (z9 l) = l
 | [], _ => rfl
 | x :: l, h => by
  have h1 := h x (by simp)
  have h2 := z68 (l := l) fun y hy => h y (List.mem_cons_of_mem _ hy)
  rw [z9, List.length_cons, le, show (x + 256 * z9 l) % 256 = x by omega, show (x + 256 * z9 l) / 256 = z9 l by omega, h2]
theorem zbJ : ∀ (n v : Nat), le n (v % 256 ^ n) = le n v
 | 0, _ => rfl
 | n + 1, v => by
  have e1 : v % 256 ^ (n + 1) % 256 = v % 256 := by rw [Nat.pow_succ, Nat.mul_comm, Nat.mod_mul_right_mod]
  have e2 : v % 256 ^ (n + 1) / 256 = v / 256 % 256 ^ n := by rw [Nat.pow_succ, Nat.mul_comm, Nat.mod_mul_right_div_self]
  rw [le, le, e1, e2, zbJ n]
theorem z9b : ∀ (n m v : Nat), le (n + m) v = le n v ++ le m (v / 256 ^ n)
 | 0, m, v => by rw [Nat.zero_add, Nat.pow_zero, Nat.div_one]; rfl
 | n + 1, m, v => by
  rw [show n + 1 + m = (n + m) + 1 by omega, le, le, z9b n m, List.cons_append, Nat.div_div_eq_div_mul, Nat.pow_succ, Nat.mul_comm 256]
theorem zm6 {x y : F} (h : nb x = nb y) : x = y := by
 have e := congrArg z9 h
 unfold nb at e
 rw [z2C, z2C] at e
 have l1 := x.isLt
 have l2 := y.isLt
 apply Fin.ext
 have p256 : pp ≤ 256 ^ 32 := by decide +kernel
 rw [Nat.mod_eq_of_lt (by omega), Nat.mod_eq_of_lt (by omega)] at e
 exact e
theorem zm (x : F) : (nb x).length = 32 := zE 32 _
theorem z1J (x : F) : Bytes (nb x) := z1s 32 _
theorem z3L (x : F) : z9 (nb x) = x.val := by
 have p256 : pp ≤ 256 ^ 32 := by decide +kernel
 have := x.isLt
 unfold nb
 rw [z2C, Nat.mod_eq_of_lt (by omega)]
theorem zm7 {a b c d e b' c' d' e' : Nat} (g1 : b' = b + a / 2251799813685248) (g2 : c' = c + b' / 2251799813685248) (g3 : d' = d + c' / 2251799813685248) (g4 : e' = e + d' / 2251799813685248) :
  num5 (a % 2251799813685248) (b' % 2251799813685248) (c' % 2251799813685248) (d' % 2251799813685248) (e' % 2251799813685248) + 57896044618658097711785492504343953926634992332820282019728792003956564819968 * (e' / 2251799813685248) = num5 a b c d e := by
 have h0 := Nat.mod_add_div a 2251799813685248
 have h1 := Nat.mod_add_div b' 2251799813685248
 have h2 := Nat.mod_add_div c' 2251799813685248
 have h3 := Nat.mod_add_div d' 2251799813685248
 have h4 := Nat.mod_add_div e' 2251799813685248
 unfold num5
 generalize a % 2251799813685248 = ra at *
 generalize a / 2251799813685248 = qa at *
 generalize b' % 2251799813685248 = rb at *
 generalize b' / 2251799813685248 = qb at *
 generalize c' % 2251799813685248 = rc at *
 generalize c' / 2251799813685248 = qc at *
 generalize d' % 2251799813685248 = rd at *
 generalize d' / 2251799813685248 = qd at *
 generalize e' % 2251799813685248 = re at *
 generalize e' / 2251799813685248 = qe at *
 omega
theorem zpy {a b c d e q1 q2 q3 q4 q5 b' c' d' e' : Nat} (ha : a < 2251799813685248) (hb : b < 2251799813685248) (hc : c < 2251799813685248) (hd : d < 2251799813685248) (he : e < 2251799813685248)
  (h1 : q1 = (a + 19) / 2251799813685248) (h2 : q2 = (b + q1) / 2251799813685248) (h3 : q3 = (c + q2) / 2251799813685248) (h4 : q4 = (d + q3) / 2251799813685248) (h5 : q5 = (e + q4) / 2251799813685248)
  (g1 : b' = b + (a + 19 * q5) / 2251799813685248) (g2 : c' = c + b' / 2251799813685248) (g3 : d' = d + c' / 2251799813685248) (g4 : e' = e + d' / 2251799813685248) :
  num5 ((a + 19 * q5) % 2251799813685248) (b' % 2251799813685248) (c' % 2251799813685248) (d' % 2251799813685248) (e' % 2251799813685248) = num5 a b c d e % pp := by
 have hq : q5 = 0 ∨ q5 = 1 := by omega
 have C1 := zm7 (a := a + 19) (b := b) (c := c) (d := d) (e := e) (b' := b + q1) (c' := c + q2) (d' := d + q3) (e' := e + q4) (by rw [h1]) (by rw [h2]) (by rw [h3]) (by rw [h4])
 have C2 := zm7 g1 g2 g3 g4
 have L1 := zib (Nat.mod_lt (a + 19) (show 0 < 2251799813685248 by decide)) (Nat.mod_lt (b + q1) (show 0 < 2251799813685248 by decide)) (Nat.mod_lt (c + q2) (show 0 < 2251799813685248 by decide)) (Nat.mod_lt (d + q3) (show 0 < 2251799813685248 by decide)) (Nat.mod_lt (e + q4) (show 0 < 2251799813685248 by decide))
 have L2 := zib (Nat.mod_lt (a + 19 * q5) (show 0 < 2251799813685248 by decide)) (Nat.mod_lt b' (show 0 < 2251799813685248 by decide)) (Nat.mod_lt c' (show 0 < 2251799813685248 by decide)) (Nat.mod_lt d' (show 0 < 2251799813685248 by decide)) (Nat.mod_lt e' (show 0 < 2251799813685248 by decide))
 have L3 := zib ha hb hc hd he
 rw [← h5] at C1
 have e1 : num5 (a + 19) b c d e = num5 a b c d e + 19 := by unfold num5; omega
 have e2 : num5 (a + 19 * q5) b c d e = num5 a b c d e + 19 * q5 := by unfold num5; omega
 rw [e1] at C1
 rw [e2] at C2
 clear e1 e2 g1 g2 g3 g4 h1 h2 h3 h4 h5 ha hb hc hd he
 generalize num5 ((a + 19) % 2251799813685248) ((b + q1) % 2251799813685248) ((c + q2) % 2251799813685248) ((d + q3) % 2251799813685248) ((e + q4) % 2251799813685248) = R at *
 generalize num5 ((a + 19 * q5) % 2251799813685248) (b' % 2251799813685248) (c' % 2251799813685248) (d' % 2251799813685248) (e' % 2251799813685248) = M at *
 generalize num5 a b c d e = N at *
 generalize e' / 2251799813685248 = t at *
 show M = N % 57896044618658097711785492504343953926634992332820282019728792003956564819949
 rcases hq with rfl | rfl
 ·rw [Nat.mod_eq_of_lt (by omega)]
  omega
 ·rw [Nat.mod_eq_sub_mod (by omega), Nat.mod_eq_of_lt (by omega)]
  omega
end Go.Curve
set_option maxHeartbeats 1000000
namespace Go.Proofs.YtoikhbagchfeoaaGreat
open Go Go.SL Go.Pure Go.Curve
theorem zic : sz P zo = some 32 := by kernel_rfl
theorem zqY : zr P zo = some (.agg (nv .i64 (List.replicate 32 0)).toArray) := by kernel_rfl
def NV (l : List Nat) : Value := .agg (nv .i64 l).toArray
def LN (h : Hp) (r : Nat) (l : List Nat) : Prop := h r = some (.row zo (nv .i64 l) 32 (some (0, 0)))
theorem z9c (a t : List Nat) (y v : Nat) : (a ++ y :: t).set a.length v = (a ++ [v]) ++ t := by simp
section
variable {h : Hp}
theorem z2q {F : Value → Hp → Prop} (k : ∀ r H, h r = none → Hp.ext h H → LN H r (List.replicate 32 0) → (∀ b, b ≠ r → H b = h b) → F (.pointer (some ⟨r, 0, none⟩)) H) : aw P (Instr.alloc zo true (.tuple #[])) F h := by
 refine zS (nv .i64 (List.replicate 32 0)) zqY rfl fun r hr => k r _ hr (z1x _ hr) ?_ fun b hb => Hp.set_ne _ _ hb
 rw [ze]
 exact Hp.set_same ..
theorem z32 {F : Value → Hp → Prop} {l : List Nat} (hl : l.length = 32) (k : ∀ r H, h r = none → Hp.ext h H → LN H r l → (∀ b, b ≠ r → H b = h b) → F (.pointer (some ⟨r, 0, none⟩)) H) : aw P (Instr.box zo (NV l)) F h := by
 refine z2S fun r hr => ?_
 have e1 : (NV l).cells.toList = nv .i64 l := rfl
 have e2 : (NV l).cells.size = 32 := by show (nv .i64 l).length = 32; rw [ze, hl]
 rw [e1, e2]
 exact k r _ hr (z1x _ hr) (Hp.set_same ..) fun b hb => Hp.set_ne _ _ hb
theorem z3M {F : Unit → Hp → Prop} {r i x : Nat} {l : List Nat} (a : LN h r l) (hi : i < l.length) (k : ∀ H, LN H r (l.set i x) → (∀ b, b ≠ r → H b = h b) → F () H) : aw P (Instr.storeAt zi (.pointer (some ⟨r, i, none⟩)) (.int .i64 (x : Int))) F h :=
 z1a z1U a hi (by simp) (k _ (Hp.set_same ..) fun b hb => Hp.set_ne _ _ hb)
theorem z1b {F : Unit → Hp → Prop} {r : Nat} {l m : List Nat} (a : LN h r l) (hl : l.length = 32) (hm : m.length = 32) (k : ∀ H, LN H r m → (∀ b, b ≠ r → H b = h b) → F () H) : aw P (Instr.storeAt zo (.pointer (some ⟨r, 0, none⟩)) (NV m)) F h :=
 zD (ys := nv .i64 m) (by rw [ze, hm]; exact zic) a (by rw [ze, ze, hl, hm]) (zq _ _) (fun i _ => by simp) (k _ (Hp.set_same ..) fun b hb => Hp.set_ne _ _ hb)
theorem LN.ld {r : Nat} {l : List Nat} (a : LN h r l) (hl : l.length = 32) {F : Value → Prop} : q P h (Instr.loadAt zo (.pointer (some ⟨r, 0, none⟩))) F = F (NV l) := z1w z4Q rfl (by rw [ze, hl]; exact zic) a
theorem LN.res {r : Nat} {l : List Nat} (a : LN h r l) (hl : l.length = 32) {F : Value → Prop} : q P h ((asAddr (.pointer (some ⟨r, 0, none⟩))).bind (loadVar zo)) F = F (NV l) := z33 z4Q rfl (by rw [ze, hl]; exact zic) a
theorem LN.at {r i : Nat} {l : List Nat} (a : LN h r l) (hi : i < l.length) : h.cell ⟨r, i, none⟩ = some (.int .i64 ((l.getD i 0 : Nat) : Int)) := zJ a hi
theorem LN.ext {H : Hp} {r : Nat} {l : List Nat} (a : LN h r l) (x : Hp.ext h H) : LN H r l := x _ _ a
theorem z1m {base H H' : Hp} {r : Nat} (x : Hp.ext base H) (n : base r = none) (f : ∀ b, b ≠ r → H' b = H b) : Hp.ext base H' := fun b o e => by
 have hb : b ≠ r := by rintro rfl; rw [n] at e; cases e
 rw [f b hb]
 exact x _ _ e
end
section
variable {h : Hp} {K : Value → Hp → Prop}
theorem lt32 (i : Nat) : decide (((i : Nat) : Int) < 32) = decide (i < 32) := by rw [decide_eq_decide]; omega
theorem zbK (k : K (NV (le 32 pp)) h) : Cn P zb6 #[] h K := by
 refine Cn_wk (zbt ?_)
 unfold z6A
 refine z2q fun r0 H0 n0 x0 a0 _ => ?_
 refine z2q fun r1 H1 n1 x1 a1 _ => ?_
 refine Lp_mk (fun m vs H => ∃ (i : Nat) (t : List Nat), i + m = 32 ∧ t.length = m ∧ LN H r1 (List.replicate i 255 ++ t) ∧ Hp.ext H0 H ∧ vs = [.int .i64 (i : Int)]) 32 ⟨0, List.replicate 32 0, by omega, rfl, a1, x1, rfl⟩ ?_
 rintro m vs H ⟨i, t, hi, ht, a, x, rfl⟩
 have i255 : (255 : Int) = ((255 : Nat) : Int) := rfl
 simp -zeta (disch := omega) only [GL, RL, lt32, Int.toNat_natCast]
 by_cases h1 : i < 32
 ·rw [decide_eq_true h1]
  simp -zeta (disch := omega) only [GL, RL, if_true, Int.toNat_natCast, z1d, Nat.zero_add, i255]
  match t, ht with
  | y :: t, ht =>
   refine z3M a (by rw [List.length_append, List.length_replicate, List.length_cons]; omega) fun H2 a2 f2 => ?_
   have e : (List.replicate i 255 ++ y :: t).set i 255 = List.replicate (i + 1) 255 ++ t := by
    have := z9c (List.replicate i 255) t y 255
    rw [List.length_replicate] at this
    rw [this, List.replicate_succ']
   rw [e] at a2
   have w1 : IntKind.i64.wrap ((i : Int) + 1) = ((i + 1 : Nat) : Int) := by rw [wi64 (by omega) (by omega)]; rfl
   rw [List.length_cons] at ht
   simp -zeta (disch := omega) only [GL, w1]
   exact ⟨H2, .refl _, m - 1, by omega, i + 1, t, by omega, by omega, a2, z1m x n1 f2, rfl⟩
  | [], ht => rw [List.length_nil] at ht; omega
 ·rw [decide_eq_false h1]
  have i32 : i = 32 := by omega
  subst i32
  have t0 : t = [] := List.eq_nil_of_length_eq_zero (by omega)
  subst t0
  rw [List.append_nil] at a
  have t0' : ((0 : Int)).toNat = 0 := rfl
  have t31 : ((31 : Int)).toNat = 31 := rfl
  have i237 : (237 : Int) = ((237 : Nat) : Int) := rfl
  have i127 : (127 : Int) = ((127 : Nat) : Int) := rfl
  simp -zeta (disch := omega) only [GL, RL, Bool.false_eq_true, if_false, t0', t31, z1d, Nat.zero_add, i237, i127]
  refine z3M a (by decide) fun H2 a2 f2 => ?_
  refine z3M a2 (by decide) fun H3 a3 f3 => ?_
  have e : ((List.replicate 32 255).set 0 237).set 31 127 = le 32 pp := by decide +kernel
  rw [e] at a3
  have x3 := z1m (z1m x n1 f2) n1 f3
  have l3 : (le 32 pp).length = 32 := zE 32 _
  rw [a3.ld l3]
  refine z1b (a0.ext x3) (by simp) l3 fun H4 a4 f4 => ?_
  rw [a4.res l3]
  exact ⟨h, (z1m (x0.trans x3) n0 f4).le, k⟩
theorem zgd {a b : List Nat} (i : Nat) (hb : Bytes b) (ha : Bytes a) (la : a.length = 32) (lb : b.length = 32) (hi : i < 32) (e : a.drop (i + 1) = b.drop (i + 1)) (h : a.getD i 0 < b.getD i 0) : z9 a < z9 b := by
 have s : ∀ {l : List Nat}, l.length = 32 → z9 l = z9 (l.take i) + 256 ^ i * (l.getD i 0 + 256 * z9 (l.drop (i + 1))) := fun {l} hl => by
  have e1 := zY (l.take i) (l.drop i)
  have e2 : l.drop i = l.getD i 0 :: l.drop (i + 1) := by
   rw [List.getD_eq_getElem?_getD, List.getElem?_eq_getElem (by omega)]
   exact List.drop_eq_getElem_cons (by omega)
  rw [List.take_append_drop, List.length_take, Nat.min_eq_left (by omega), e2, z9] at e1
  exact e1
 rw [s la, s lb, e]
 have v := z27 (a.take i) (ha.take i)
 rw [List.length_take, Nat.min_eq_left (by omega)] at v
 have : 256 ^ i * (a.getD i 0 + 256 * z9 (b.drop (i + 1))) + 256 ^ i ≤ 256 ^ i * (b.getD i 0 + 256 * z9 (b.drop (i + 1))) := by
  rw [← Nat.mul_succ]
  exact Nat.mul_le_mul_left _ (by omega)
 omega
theorem ge0 (i : Nat) : decide ((0 : Int) ≤ ((i : Nat) : Int) - 1) = decide (0 < i) := by rw [decide_eq_decide]; omega
theorem z6E {l : List Nat} {i : Nat} (h : i < l.length) : l.drop i = l.getD i 0 :: l.drop (i + 1) := by
 rw [List.getD_eq_getElem?_getD, List.getElem?_eq_getElem h]
 exact List.drop_eq_getElem_cons h
theorem znK {a b : List Nat} (ha : Bytes a) (hb : Bytes b) (la : a.length = 32) (lb : b.length = 32) (k : K (.bool (decide (z9 a < z9 b))) h) : Cn P zcM #[NV a, NV b] h K := by
 refine Cn_wk (zd2 ?_)
 unfold z6R
 refine z32 la fun r0 H0 n0 x0 a0 _ => ?_
 refine z32 lb fun r1 H1 n1 x1 a1 _ => ?_
 replace a0 := a0.ext x1
 have le1 := (x0.trans x1).le
 refine Lp_mk (fun m vs H => ∃ i : Nat, i = m ∧ i ≤ 32 ∧ H = H1 ∧ a.drop i = b.drop i ∧ vs = [.bool false, .int .i64 ((i : Int) - 1)]) 32 ⟨32, rfl, by omega, rfl, by rw [List.drop_eq_nil_of_le (by omega), List.drop_eq_nil_of_le (by omega)], rfl⟩ ?_
 rintro m vs H ⟨i, rfl, hi, rfl, e, rfl⟩
 simp -zeta (disch := omega) only [GL, RL, ge0]
 match i, hi, e with
 | 0, _, e =>
  rw [decide_eq_false (by omega)]
  simp -zeta only [GL, Bool.false_eq_true, if_false]
  have e : a = b := e
  subst e
  rw [decide_eq_false (by omega)] at k
  exact ⟨h, le1, k⟩
 | i + 1, hi, e =>
  rw [decide_eq_true (by omega)]
  have i1 : ((i + 1 : Nat) : Int) - 1 = (i : Int) := by omega
  have ca := a0.at (i := i) (by omega)
  have cb := a1.at (i := i) (by omega)
  have ba := ha.getD i
  have bb := hb.getD i
  have ne : ((((a.getD i 0 : Nat) : Int)) != ((b.getD i 0 : Nat) : Int)) = decide (a.getD i 0 ≠ b.getD i 0) := by
   rw [Bool.eq_iff_iff, bne_iff_ne, decide_eq_true_eq]; omega
  have lt : decide (((a.getD i 0 : Nat) : Int) < ((b.getD i 0 : Nat) : Int)) = decide (a.getD i 0 < b.getD i 0) := by rw [decide_eq_decide]; omega
  simp -zeta (disch := omega) only [GL, RL, if_true, i1, Int.toNat_natCast, z1d, Nat.zero_add, ca, cb, ne, lt]
  by_cases hne : a.getD i 0 = b.getD i 0
  ·rw [decide_eq_false (by omega)]
   have w1 : IntKind.i64.wrap ((i : Int) - 1) = (i : Int) - 1 := by rw [wi64 (by omega) (by omega)]
   simp -zeta only [GL, Bool.false_eq_true, if_false, w1]
   exact ⟨_, .refl _, i, by omega, i, rfl, by omega, rfl, by rw [z6E (by omega), z6E (l := b) (by omega), hne, e], rfl⟩
  ·rw [decide_eq_true hne]
   simp -zeta only [GL, if_true]
   rcases Nat.lt_or_gt_of_ne hne with q | q
   ·have v := zgd i hb ha la lb (by omega) e q
    rw [decide_eq_true q]
    rw [decide_eq_true v] at k
    exact ⟨h, le1, k⟩
   ·have v := zgd i ha hb lb la (by omega) e.symm q
    rw [decide_eq_false (by omega)]
    rw [decide_eq_false (by omega)] at k
    exact ⟨h, le1, k⟩
end
theorem z50 {l : List Nat} {i : Nat} (h : i < l.length) : l.take (i + 1) = l.take i ++ [l.getD i 0] := by
 rw [List.take_succ_eq_append_getElem h, List.getD_eq_getElem?_getD, List.getElem?_eq_getElem h]
 rfl
theorem z3D (x : Nat) : z9 [x] = x := by simp [z9]
theorem zl0 {A O B W ai bi c c' d : Nat} (e : A + c * W = O + B) (h : ai + 256 * c' = c + d + bi) : A + W * ai + c' * (W * 256) = O + W * d + (B + W * bi) := by
 have h1 : W * (ai + 256 * c') = W * (c + d + bi) := congrArg _ h
 rw [Nat.mul_add, Nat.mul_add, Nat.mul_add] at h1
 have e1 : c' * (W * 256) = W * (256 * c') := by rw [Nat.mul_comm c', Nat.mul_assoc]
 have e2 : c * W = W * c := Nat.mul_comm _ _
 rw [e1]
 rw [e2] at e
 omega
def MInv (h : Hp) (r0 r1 r2 : Nat) (a b : List Nat) (m : Nat) (vs : List Value) (H : Hp) : Prop :=
 ∃ (i c : Nat) (o : List Nat), i + m = 32 ∧ o.length = i ∧ c ≤ 1 ∧ Bytes o ∧ z9 (a.take i) + c * 256 ^ i = z9 o + z9 (b.take i) ∧ LN H r0 (o ++ a.drop i) ∧ LN H r1 b ∧ LN H r2 (List.replicate 32 0) ∧ Hp.ext h H ∧ vs = [.int .i64 (c : Int), .int .i64 (i : Int)]
section
variable {h : Hp} {K : Value → Hp → Prop}
theorem zbL {a b : List Nat} (ha : Bytes a) (hb : Bytes b) (la : a.length = 32) (lb : b.length = 32) (hle : z9 b ≤ z9 a) (k : K (NV (le 32 (z9 a - z9 b))) h) : Cn P zb5 #[NV a, NV b] h K := by
 refine Cn_wk (zbs ?_)
 unfold z6z
 refine z32 la fun r0 H0 n0 x0 a0 _ => ?_
 refine z32 lb fun r1 H1 n1 x1 a1 _ => ?_
 refine z2q fun r2 H2 n2 x2 a2 _ => ?_
 have ne1 : r1 ≠ r0 := by rintro rfl; unfold LN at a0; rw [n1] at a0; cases a0
 have ne2 : r2 ≠ r0 := by rintro rfl; have := a0.ext x1; unfold LN at this; rw [n2] at this; cases this
 have n2h : h r2 = none := (x0.trans x1).none n2
 refine Lp_mk (MInv h r0 r1 r2 a b) 32 ⟨0, 0, [], by omega, rfl, by omega, (by intro y hy; cases hy), by simp [z9], (a0.ext x1).ext x2, a1.ext x2, a2, (x0.trans x1).trans x2, rfl⟩ ?_
 rintro m vs H ⟨i, c, o, hi, lo, hc, bo, e, A0, A1, A2, x, rfl⟩
 simp -zeta (disch := omega) only [GL, RL, lt32]
 by_cases h1 : i < 32
 ·have d := z6E (l := a) (i := i) (by omega)
  have lod : (o ++ a.drop i).length = 32 := by rw [List.length_append, List.length_drop]; omega
  have ca := A0.at (i := i) (by omega)
  have gi : (o ++ a.drop i).getD i 0 = a.getD i 0 := by
   rw [List.getD_eq_getElem?_getD, List.getElem?_append_right (by omega), lo, Nat.sub_self, d]; rfl
  rw [gi] at ca
  have cb := A1.at (i := i) (by omega)
  have ba := ha.getD i
  have bb := hb.getD i
  have go : ∀ (c' v : Nat), c' ≤ 1 → v < 256 → a.getD i 0 + 256 * c' = c + v + b.getD i 0 → ∀ G, LN G r0 ((o ++ a.drop i).set i v) → (∀ b, b ≠ r0 → G b = H b) →
    ∃ h0, Hp.le h0 G ∧ ∃ m', m' < m ∧ MInv h r0 r1 r2 a b m' [.int .i64 (c' : Int), .int .i64 ((i + 1 : Nat) : Int)] h0 := by
   intro c' v hc' hv he G AG f
   have es : (o ++ a.drop i).set i v = (o ++ [v]) ++ a.drop (i + 1) := by
    have := z9c o (a.drop (i + 1)) (a.getD i 0) v
    rw [lo, ← d] at this
    exact this
   rw [es] at AG
   refine ⟨G, .refl _, m - 1, by omega, i + 1, c', o ++ [v], by omega, by rw [List.length_append, lo]; rfl, hc', bo.append (fun y hy => by rw [List.mem_singleton.1 hy]; exact hv), ?_, AG, ?_, ?_, z1m x n0 f, rfl⟩
   ·have lta : (a.take i).length = i := by rw [List.length_take]; omega
    have ltb : (b.take i).length = i := by rw [List.length_take]; omega
    rw [z50 (l := a) (by omega), z50 (l := b) (by omega), zY, zY, zY, z3D, z3D, z3D, lta, ltb, lo, Nat.pow_succ]
    exact zl0 e he
   ·show G r1 = _
    rw [f _ ne1]; exact A1
   ·show G r2 = _
    rw [f _ ne2]; exact A2
  rw [decide_eq_true h1]
  simp -zeta (disch := omega) only [GL, RL, if_true, Int.toNat_natCast, z1d, Nat.zero_add, ca, cb, wi64]
  by_cases q : a.getD i 0 < c + b.getD i 0
  ·have dn : decide (((a.getD i 0 : Nat) : Int) - ((b.getD i 0 : Nat) : Int) - (c : Int) < 0) = true := decide_eq_true (by omega)
   have ev : ((a.getD i 0 : Nat) : Int) - ((b.getD i 0 : Nat) : Int) - (c : Int) + 256 = ((a.getD i 0 + 256 - b.getD i 0 - c : Nat) : Int) := by omega
   simp -zeta (disch := omega) only [GL, RL, dn, if_true, wi64, Int.toNat_natCast, z1d, Nat.zero_add, ev]
   refine z3M A0 (by omega) fun G AG f => ?_
   exact go 1 _ (by omega) (by omega) (by omega) G AG f
  ·have dn : decide (((a.getD i 0 : Nat) : Int) - ((b.getD i 0 : Nat) : Int) - (c : Int) < 0) = false := decide_eq_false (by omega)
   have ev : ((a.getD i 0 : Nat) : Int) - ((b.getD i 0 : Nat) : Int) - (c : Int) = ((a.getD i 0 - b.getD i 0 - c : Nat) : Int) := by omega
   simp -zeta (disch := omega) only [GL, RL, dn, Bool.false_eq_true, if_false, Int.toNat_natCast, z1d, Nat.zero_add, ev]
   refine z3M A0 (by omega) fun G AG f => ?_
   exact go 0 _ (by omega) (by omega) (by omega) G AG f
 ·rw [decide_eq_false h1]
  have i32 : i = 32 := by omega
  subst i32
  rw [List.drop_eq_nil_of_le (by omega), List.append_nil] at A0
  rw [List.take_of_length_le (by omega), List.take_of_length_le (by omega)] at e
  have vo := z27 o bo
  rw [lo] at vo
  have c0 : c = 0 := by
   apply Classical.byContradiction
   intro hn
   have : c = 1 := by omega
   subst this
   omega
  subst c0
  have eo : o = le 32 (z9 a - z9 b) := by
   have := z68 bo
   rw [lo] at this
   rw [← this]
   congr 1
   omega
  subst eo
  have l3 := zE 32 (z9 a - z9 b)
  generalize le 32 (z9 a - z9 b) = z at *
  simp -zeta only [GL, Bool.false_eq_true, if_false]
  rw [A0.ld l3]
  refine z1b A2 (by simp) l3 fun G AG f => ?_
  rw [AG.res l3]
  exact ⟨h, (z1m x n2h f).le, k⟩
end
def lp : List Nat := le 32 pp
theorem zqZ : lp.length = 32 := zE 32 _
theorem znL : Bytes lp := z1s 32 _
theorem zeR : z9 lp = pp := by
 unfold lp
 rw [z2C]
 decide +kernel
theorem zoH {x : Nat} (h : x < pp) : nb (ph x) = le 32 x := by
 unfold nb
 rw [z5o, Nat.mod_eq_of_lt h]
theorem zpz {x y : Nat} (h : x % pp = y % pp) : nb (ph x) = nb (ph y) := by
 unfold nb
 rw [z5o, z5o, h]
theorem zr0 : 0 < pp := by decide
section
variable {h : Hp} {K : Value → Hp → Prop}
theorem zdZ {a : List Nat} (ha : Bytes a) (la : a.length = 32) (k : K (NV (nb (ph (z9 a)))) h) : Cn P zcH #[NV a] h K := by
 refine Cn_wk (zcX ?_)
 unfold z6M
 refine z32 la fun r1 H1 n1 x1 a1 _ => ?_
 refine z2q fun r2 H2 n2 x2 a2 _ => ?_
 refine zbK ?_
 refine z2q fun r3 H3 n3 x3 a3 _ => ?_
 have n2h : h r2 = none := x1.none n2
 have n3h : h r3 = none := (x1.trans x2).none n3
 have ne21 : r2 ≠ r1 := by rintro rfl; unfold LN at a1; rw [n2] at a1; cases a1
 have ne31 : r3 ≠ r1 := by rintro rfl; have := a1.ext x2; unfold LN at this; rw [n3] at this; cases this
 have ne32 : r3 ≠ r2 := by rintro rfl; unfold LN at a2; rw [n3] at a2; cases a2
 have b1 := (a1.ext x2).ext x3
 have b2 := a2.ext x3
 have y3 := (x1.trans x2).trans x3
 clear a1 a2 x1 x2 x3
 have pl := zqZ
 have pb := znL
 have pv := zeR
 rw [show le 32 pp = lp from rfl]
 generalize lp = p at *
 refine z1b a3 (by simp) pl fun H4 a4 f4 => ?_
 have b1 : LN H4 r1 a := by show H4 r1 = _; rw [f4 _ (Ne.symm ne31)]; exact b1
 have b2 : LN H4 r2 (List.replicate 32 0) := by show H4 r2 = _; rw [f4 _ (Ne.symm ne32)]; exact b2
 have y4 := z1m y3 n3h f4
 have pp0 := zr0
 generalize hP : pp = N at *
 refine Lp_mk (fun m vs H => ∃ x : List Nat, z9 x = m ∧ x.length = 32 ∧ Bytes x ∧ z9 x % N = z9 a % N ∧ LN H r1 x ∧ LN H r2 (List.replicate 32 0) ∧ LN H r3 p ∧ Hp.ext h H ∧ vs = []) (z9 a) ⟨a, rfl, la, ha, rfl, b1, b2, a4, y4, rfl⟩ ?_
 rintro m vs H ⟨x, rfl, lx, bx, ex, A1, A2, A3, y, rfl⟩
 rw [A1.ld lx, A3.ld pl]
 refine znK bx pb lx pl ?_
 rw [pv]
 simp -zeta only [GL]
 by_cases q : z9 x < N
 ·rw [decide_eq_true q]
  simp -zeta only [GL, Bool.not_true, Bool.false_eq_true, if_false]
  rw [A1.ld lx]
  refine z1b A2 (by simp) lx fun G AG f => ?_
  rw [AG.res lx]
  subst hP
  rw [← zpz ex, zoH q] at k
  have e := z68 bx
  rw [lx] at e
  rw [e] at k
  exact ⟨h, (z1m y n2h f).le, k⟩
 ·rw [decide_eq_false q]
  simp -zeta only [GL, Bool.not_false, if_true]
  rw [A1.ld lx, A3.ld pl]
  refine zbL bx pb lx pl (by rw [pv]; omega) ?_
  have lm := zE 32 (z9 x - z9 p)
  have bm := z1s 32 (z9 x - z9 p)
  have vm : z9 (le 32 (z9 x - z9 p)) = z9 x - N := by
   have lt := z27 x bx
   rw [lx] at lt
   rw [z2C, pv, Nat.mod_eq_of_lt (by omega)]
  generalize le 32 (z9 x - z9 p) = z at *
  refine z1b A1 lx lm fun G AG f => ?_
  refine ⟨G, .refl _, z9 z, by omega, z, rfl, lm, bm, ?_, AG, ?_, ?_, z1m y n1 f, by trivial⟩
  ·rw [vm, ← ex, ← Nat.mod_eq_sub_mod (by omega)]
  ·show G r2 = _
   rw [f _ ne21]; exact A2
  ·show G r3 = _
   rw [f _ ne31]; exact A3
end
end Go.Proofs.YtoikhbagchfeoaaGreat
namespace Go.SL
open Go
theorem ze0 (s : ByteArray) : s.toList = s.data.toList := by
 have key : ∀ (n i : Nat) (r : List UInt8), s.size - i = n → i ≤ s.size → ByteArray.toList.loop s i r = r.reverse ++ s.data.toList.drop i := by
  intro n
  induction n with
  | zero =>
   intro i r h h2
   rw [ByteArray.toList.loop.eq_def, if_neg (by omega), List.drop_of_length_le (by rw [Array.length_toList]; show s.size ≤ i; omega)]
   simp
  | succ n ih =>
   intro i r h h2
   have hlt : i < s.data.toList.length := by rw [Array.length_toList]; show i < s.size; omega
   rw [ByteArray.toList.loop.eq_def, if_pos (by omega), ih (i + 1) _ (by omega) (by omega), List.drop_eq_getElem_cons hlt]
   have : s.get! i = s.data.toList[i] := by
    show s.data[i]! = _
    rw [getElem!_pos s.data i (by show i < s.size; omega)]
    simp
   rw [this]
   simp
 have := key s.size 0 [] (by omega) (by omega)
 show ByteArray.toList.loop s 0 [] = _
 rw [this]
 simp
theorem zbM (l : List Nat) : (strL l).data.toList = l.map UInt8.ofNat := by
 have key : ∀ (l : List Nat) (s : ByteArray), (l.foldl (fun s x => s.push (UInt8.ofNat x)) s).data.toList = s.data.toList ++ l.map UInt8.ofNat := by
  intro l
  induction l with
  | nil => intro s; simp
  | cons x l ih =>
   intro s
   rw [List.foldl_cons, ih]
   show (s.data.push (UInt8.ofNat x)).toList ++ _ = _
   simp
 have := key l ByteArray.empty
 simpa [strL] using this
theorem zm8 {l m : List Nat} (hl : ∀ x ∈ l, x < 256) (hm : ∀ x ∈ m, x < 256) (e : l.map UInt8.ofNat = m.map UInt8.ofNat) : l = m := by
 induction l generalizing m with
 | nil => cases m with
  | nil => rfl
  | cons y m => cases e
 | cons x l ih => cases m with
  | nil => cases e
  | cons y m =>
   simp only [List.map_cons, List.cons.injEq] at e
   have hx := hl x (List.mem_cons_self ..)
   have hy := hm y (List.mem_cons_self ..)
   have : x = y := by
    have := congrArg UInt8.toNat e.1
    simpa [UInt8.toNat_ofNat', Nat.mod_eq_of_lt hx, Nat.mod_eq_of_lt hy] using this
   rw [this, ih (fun z hz => hl z (List.mem_cons_of_mem _ hz)) (fun z hz => hm z (List.mem_cons_of_mem _ hz)) e.2]
section
variable {P : Program}
theorem z6i {t e : Nat} {h : Hp} {v : Value} {xs : List Value} {n i : Nat} {y : Value} (ht : P.underlying t = some (.slice e)) (hs : sz P e = some 1) (r : Rds h 1 v xs n) (hi : xs[i]? = some y) :
  ∃ p : Addr, (∀ {h' : Hp} {K : Value → Prop}, q P h' (Instr.indexAt t v (.int .i64 (i : Int))) K = K (.pointer (some p))) ∧ h.cell p = some y := by
 obtain ⟨hl, a, c, rfl, hc, h0⟩ := r
 have hlt := (List.getElem?_eq_some_iff.1 hi).1
 rcases h0 with h0 | ⟨b, o, rfl, hx⟩
 ·omega
 have hx := hx i y hi
 refine ⟨_, fun {h' K} => z6n ht hs _ _ _ _ _ (by omega) (by omega), ?_⟩
 rw [show (Addr.add ⟨b, o, none⟩ (((i : Nat) : Int).toNat * 1)) = ⟨b, o + i, none⟩ by rw [Int.toNat_natCast, Nat.mul_one]; simp [Addr.add]]
 exact hx
end
end Go.SL
namespace Go.Proofs.YtoikhbagchfeoaaGreat
open Go Go.SL Go.Pure Go.Curve
theorem zpA {l : List Nat} (hb : Bytes l) (hl : l.length = 32) : z9 (l.set 31 (l.getD 31 0 % 128)) = z9 l % 57896044618658097711785492504343953926634992332820282019728792003956564819968 := by
 have d : l.drop 31 = [l.getD 31 0] := by rw [z6E (by omega), List.drop_eq_nil_of_le (by omega)]
 have e1 := zY (l.take 31) (l.drop 31)
 have l31 : (l.take 31).length = 31 := by rw [List.length_take]; omega
 rw [List.take_append_drop, d, z3D, l31] at e1
 have e2 : l.set 31 (l.getD 31 0 % 128) = l.take 31 ++ [l.getD 31 0 % 128] := by
  rw [List.set_eq_take_append_cons_drop, if_pos (by omega), List.drop_eq_nil_of_le (by omega)]
 have v := z27 (l.take 31) (hb.take 31)
 rw [l31] at v
 rw [e2, zY, z3D, l31, e1]
 have p : (57896044618658097711785492504343953926634992332820282019728792003956564819968 : Nat) = 256 ^ 31 * 128 := by decide +kernel
 rw [p]
 generalize (256 : Nat) ^ 31 = W at *
 rw [Nat.mod_mul, Nat.add_mul_mod_self_left, Nat.mod_eq_of_lt v, Nat.add_mul_div_left _ _ (by omega), Nat.div_eq_of_lt v, Nat.zero_add]
section
variable {h : Hp} {K : Value → Hp → Prop}
theorem znM {v : Value} {l : List Nat} (rv : Rn h .u8 v l) (hb : Bytes l) (hl : l.length = 32) (k : K (NV (nb (ph (z9 l % 57896044618658097711785492504343953926634992332820282019728792003956564819968)))) h) : Cn P zcE #[v] h K := by
 refine Cn_wk (zcU ?_)
 unfold z6J
 refine z2q fun r2 H2 n2 x2 a2 _ => ?_
 refine z2q fun r3 H3 n3 x3 a3 _ => ?_
 have n3h : h r3 = none := x2.none n3
 have ne32 : r3 ≠ r2 := by rintro rfl; unfold LN at a2; rw [n3] at a2; cases a2
 obtain ⟨av, cv, rfl, hc⟩ := rv.shape
 have ln : ∀ {G : Hp} {K : Value → Prop}, q P G (Builtin.len_ #[zd] zi #[.slice av l.length cv]) K = K (.int .i64 (l.length : Nat)) := fun {G K} => z12 za _ _ _
 intro J3
 have qJ3 : ∀ H, Hp.ext h H → LN H r2 (List.replicate 32 0) → LN H r3 l → J3 H := by
  intro H x A2 A3
  simp -zeta only [J3]
  clear J3
  have t31 : ((31 : Int)).toNat = 31 := rfl
  have c31 := A3.at (i := 31) (by omega)
  have m128 : ((l.getD 31 0 : Nat) : Int).tmod 128 = ((l.getD 31 0 % 128 : Nat) : Int) := by
   rw [Int.tmod_eq_emod_of_nonneg (by omega)]; rfl
  simp -zeta (disch := omega) only [GL, RL, t31, z1d, Nat.zero_add, c31, m128]
  refine z3M A3 (by omega) fun H4 A4 f4 => ?_
  have b2 : LN H4 r2 (List.replicate 32 0) := by show H4 r2 = _; rw [f4 _ (Ne.symm ne32)]; exact A2
  have l4 : (l.set 31 (l.getD 31 0 % 128)).length = 32 := by rw [List.length_set, hl]
  have b4 : Bytes (l.set 31 (l.getD 31 0 % 128)) := hb.set _ (by omega)
  have e4 := zpA hb hl
  generalize l.set 31 (l.getD 31 0 % 128) = z at *
  rw [A4.ld l4]
  refine zdZ b4 l4 ?_
  rw [e4]
  have ln := zm (ph (z9 l % 57896044618658097711785492504343953926634992332820282019728792003956564819968))
  generalize nb (ph (z9 l % 57896044618658097711785492504343953926634992332820282019728792003956564819968)) = y at *
  refine z1b b2 (by simp) ln fun G AG f => ?_
  rw [AG.res ln]
  exact ⟨h, (z1m (z1m x n3h f4) n2 f).le, k⟩
 clear_value J3
 refine Lp_mk (fun m vs H => ∃ (i : Nat) (t : List Nat), i + m = 32 ∧ t.length = m ∧ LN H r3 (l.take i ++ t) ∧ LN H r2 (List.replicate 32 0) ∧ Hp.ext h H ∧ vs = [.int .i64 (i : Int)]) 32 ⟨0, List.replicate 32 0, by omega, rfl, a3, a2.ext x3, x2.trans x3, rfl⟩ ?_
 rintro m vs H ⟨i, t, hi, ht, A3, A2, x, rfl⟩
 intro J6
 by_cases h1 : i < 32
 ·have qJ6 : J6 H := by
   simp -zeta only [J6]
   clear J6
   obtain ⟨p, hp1, hp2⟩ := z6i (P := P) (i := i) (y := .int .u8 ((l.getD i 0 : Nat) : Int)) za zp (rv.mono x.cle) (z1g _ _ _ (by omega))
   have bi := hb.getD i
   simp -zeta (disch := omega) only [GL, RL, hp1, hp2, Int.toNat_natCast, z1d, Nat.zero_add, wi64]
   match t, ht with
   | y :: t, ht =>
    have hb3 : i < (l.take i ++ y :: t).length := by rw [List.length_append, List.length_take, List.length_cons]; omega
    refine z3M (i := i) (x := l.getD i 0) A3 hb3 fun G AG f => ?_
    have e : (l.take i ++ y :: t).set i (l.getD i 0) = l.take (i + 1) ++ t := by
     have := z9c (l.take i) t y (l.getD i 0)
     rw [List.length_take, Nat.min_eq_left (by omega)] at this
     rw [this, z50 (l := l) (i := i) (by omega)]
    rw [e] at AG
    rw [List.length_cons] at ht
    exact ⟨G, .refl _, m - 1, by omega, i + 1, t, by omega, by omega, AG, by show G r2 = _; rw [f _ (Ne.symm ne32)]; exact A2, z1m x n3h f, rfl⟩
   | [], ht => rw [List.length_nil] at ht; omega
  clear_value J6
  simp -zeta (disch := omega) only [GL, RL, lt32, ln, zL]
  rw [decide_eq_true h1, decide_eq_true (show i < l.length by omega)]
  simp -zeta only [if_true]
  exact qJ6
 ·clear_value J6
  simp -zeta (disch := omega) only [GL, RL, lt32]
  rw [decide_eq_false h1]
  have t0 : t = [] := List.eq_nil_of_length_eq_zero (by omega)
  subst t0
  rw [List.append_nil, List.take_of_length_le (by omega)] at A3
  simp -zeta only [GL, Bool.false_eq_true, if_false]
  exact qJ3 H x A2 A3
end
section
variable {h : Hp} {K : Value → Hp → Prop}
theorem zge {l : List Nat} (hb : Bytes l) (hl : l.length = 32) (k : ∀ r h', Nn h zc .u8 r h' l → K r h') : Cn P zb1 #[NV l] h K := by
 refine Cn_wk (zbj ?_)
 unfold z6v
 refine z32 hl fun r1 H1 n1 x1 a1 _ => ?_
 refine Lp_mk (fun m vs H => ∃ (i : Nat) (v : Value), i + m = 32 ∧ Nn H1 zc .u8 v H (l.take i) ∧ vs = [v, .int .i64 (i : Int)]) 32 ⟨0, _, by omega, Nn.nil H1 zc .u8, rfl⟩ ?_
 rintro m vs H ⟨i, v, hi, nw, rfl⟩
 have lti : (l.take i).length = i := by rw [List.length_take]; omega
 simp -zeta (disch := omega) only [GL, RL, lt32]
 by_cases h1 : i < 32
 ·rw [decide_eq_true h1]
  have ci := (a1.ext nw.ext).at (i := i) (by omega)
  have bi := hb.getD i
  simp -zeta (disch := omega) only [GL, RL, if_true, Int.toNat_natCast, z1d, Nat.zero_add, ci, wu8i]
  have nw' : New H1 zc 1 v H (nv .u8 (l.take i)) (l.take i).length := nw
  refine zT (ps := [(0, _)]) za zp z1p rfl (by omega) (by intro p hp; rw [List.mem_singleton.1 hp]; exact ⟨rfl, by show _ < 1; omega⟩) fun x h4 hx' _ => ?_
  refine zQ za za zw rfl (by omega) nw' hx' (by intro y hy; simp [z1f] at hy; subst hy; rfl) (by omega) fun v2 h5 hw5 => ?_
  have hw6 : Nn H1 zc .u8 v2 h5 (l.take (i + 1)) := by
   rw [z50 (l := l) (i := i) (by omega)]
   show New H1 zc 1 v2 h5 (nv .u8 (l.take i ++ [l.getD i 0])) (l.take i ++ [l.getD i 0]).length
   rw [z13, List.length_append]
   exact hw5
  simp -zeta (disch := omega) only [GL, wi64]
  exact ⟨h5, .refl _, m - 1, by omega, i + 1, v2, by omega, hw6, rfl⟩
 ·rw [decide_eq_false h1]
  rw [List.take_of_length_le (by omega)] at nw
  simp -zeta only [GL, Bool.false_eq_true, if_false]
  obtain ⟨h0, l0, nw0⟩ := nw.down x1.le
  exact ⟨h0, l0, k _ _ nw0⟩
end
theorem zst (n i : Nat) : ((n : Nat) : Int).fdiv (2 ^ (8 * i)) = ((n / 256 ^ i : Nat) : Int) := by
 have e : (2 : Int) ^ (8 * i) = ((256 ^ i : Nat) : Int) := by
  rw [show (256 : Nat) = 2 ^ 8 from rfl, ← Nat.pow_mul, Int.natCast_pow]
  rfl
 rw [e, Int.fdiv_eq_ediv_of_nonneg _ (Int.natCast_nonneg _)]
 exact (Int.natCast_ediv _ _).symm
theorem znN {n : Nat} (h : n < 4294967296) : le 4 n ++ List.replicate 28 0 = nb (ph n) := by
 have hp : (4294967296 : Nat) < pp := by decide
 have e := z9b 4 28 n
 have d : n / 256 ^ 4 = 0 := Nat.div_eq_of_lt (by show n < 4294967296; exact h)
 rw [d, show le 28 0 = List.replicate 28 0 by decide] at e
 rw [zoH (Nat.lt_trans h hp), ← e]
section
variable {h : Hp} {K : Value → Hp → Prop}
theorem z3E {n : Nat} (hn : n < 4294967296) (k : K (NV (nb (ph n))) h) : Cn P zb0 #[.int .u32 (n : Int)] h K := by
 refine Cn_wk (zbi ?_)
 unfold z6u
 refine z2q fun r2 H2 n2 x2 a2 _ => ?_
 refine z2q fun r3 H3 n3 x3 a3 _ => ?_
 have n3h : h r3 = none := x2.none n3
 have ne32 : r3 ≠ r2 := by rintro rfl; unfold LN at a2; rw [n3] at a2; cases a2
 refine Lp_mk (fun m vs H => ∃ i : Nat, i + m = 4 ∧ LN H r3 (le i n ++ List.replicate (m + 28) 0) ∧ LN H r2 (List.replicate 32 0) ∧ Hp.ext h H ∧ vs = [.int .i64 (i : Int)]) 4 ⟨0, by omega, a3, a2.ext x3, x2.trans x3, rfl⟩ ?_
 rintro m vs H ⟨i, hi, A3, A2, x, rfl⟩
 have lt4 : decide (((i : Nat) : Int) < 4) = decide (i < 4) := by rw [decide_eq_decide]; omega
 simp -zeta (disch := omega) only [GL, RL, lt4]
 by_cases h1 : i < 4
 ·rw [decide_eq_true h1]
  have e8 : (8 * ((i : Nat) : Int)).toNat = 8 * i := by omega
  have hm : min (8 * i) (IntKind.u32.bits) = 8 * i := by show min (8 * i) 32 = 8 * i; omega
  have ql : n / 256 ^ i ≤ n := Nat.div_le_self _ _
  have tm : ((n / 256 ^ i : Nat) : Int).tmod 256 = ((n / 256 ^ i % 256 : Nat) : Int) := by
   rw [Int.tmod_eq_emod_of_nonneg (Int.natCast_nonneg _)]; rfl
  generalize hq : n / 256 ^ i = z at *
  have fd : ((n : Nat) : Int).fdiv (2 ^ (8 * i)) = ((z : Nat) : Int) := by rw [← hq]; exact zst n i
  simp -zeta (disch := omega) only [GL, RL, if_true, wi64, z2j, e8, hm, fd, tm, Int.toNat_natCast, z1d, Nat.zero_add]
  match m, hi with
  | m + 1, hi =>
   have li := zE i n
   have hl : i < (le i n ++ List.replicate (m + 1 + 28) 0).length := by rw [List.length_append, List.length_replicate]; omega
   refine z3M (i := i) A3 hl fun G AG f => ?_
   have e : (le i n ++ List.replicate (m + 1 + 28) 0).set i (z % 256) = le (i + 1) n ++ List.replicate (m + 28) 0 := by
    have := z9c (le i n) (List.replicate (m + 28) 0) 0 (z % 256)
    rw [li, ← List.replicate_succ] at this
    rw [show m + 1 + 28 = m + 28 + 1 by omega, this, z9b i 1 n, hq]
    rfl
   rw [e] at AG
   exact ⟨G, .refl _, m, by omega, i + 1, by omega, AG, by show G r2 = _; rw [f _ (Ne.symm ne32)]; exact A2, z1m x n3h f, rfl⟩
  | 0, hi => omega
 ·rw [decide_eq_false h1]
  have i4 : i = 4 := by omega
  have m0 : m = 0 := by omega
  subst i4 m0
  rw [show 0 + 28 = 28 from rfl, znN hn] at A3
  have ln := zm (ph n)
  generalize nb (ph n) = y at *
  simp -zeta only [GL, Bool.false_eq_true, if_false]
  rw [A3.ld ln]
  refine z1b A2 (by simp) ln fun G AG f => ?_
  rw [AG.res ln]
  exact ⟨h, (z1m x n2 f).le, k⟩
end
end Go.Proofs.YtoikhbagchfeoaaGreat
namespace Go.Curve
open Go.Pure
theorem zsu : ph (256 ^ 32) = 38 := by decide +kernel
theorem zr1 : ph 38 = 38 := by decide +kernel
theorem z3w (l : List Nat) (n : Nat) : z9 l = z9 (l.take n) + 256 ^ n * z9 (l.drop n) := by
 rcases Nat.lt_or_ge l.length n with q | q
 ·rw [List.take_of_length_le (by omega), List.drop_eq_nil_of_le (by omega)]
  rfl
 ·have e := zY (l.take n) (l.drop n)
  rw [List.take_append_drop, List.length_take, Nat.min_eq_left q] at e
  exact e
theorem zm9 {z c out : Nat} {l : List Nat} (e : z + 256 ^ 32 * c = out + z9 (l.take 32)) : ph (z + 38 * (c + z9 (l.drop 32))) = ph (out + z9 l) := by
 have h1 : out + z9 l = z + 256 ^ 32 * (c + z9 (l.drop 32)) := by
  have := z3w l 32
  rw [Nat.mul_add]
  generalize (256 : Nat) ^ 32 * z9 (l.drop 32) = w at *
  omega
 rw [h1, z3B, z5p, z3B z, z5p, zsu, zr1]
theorem zma {z c out : Nat} {l : List Nat} (e : z + 256 ^ 32 * c = out + z9 (l.take 32)) : z + 38 * (c + z9 (l.drop 32)) + c ≤ out + z9 l := by
 have h1 : out + z9 l = z + 256 ^ 32 * (c + z9 (l.drop 32)) := by
  have := z3w l 32
  rw [Nat.mul_add]
  generalize (256 : Nat) ^ 32 * z9 (l.drop 32) = w at *
  omega
 rw [h1]
 have p : 39 ≤ (256 : Nat) ^ 32 := by decide +kernel
 have := Nat.mul_le_mul_right (c + z9 (l.drop 32)) p
 omega
theorem zid : ∀ l : List Nat, z9 (l.map fun x => 38 * x) = 38 * z9 l
 | [] => rfl
 | x :: l => by
  rw [List.map_cons, z9, z9, zid l]
  omega
theorem zl1 {l : List Nat} (h : 0 < l.length) (x : Nat) : z9 (l.set 0 (l.getD 0 0 + x)) = z9 l + x := by
 match l, h with
 | y :: l, _ =>
  show (y + x) + 256 * z9 l = y + 256 * z9 l + x
  omega
end Go.Curve
namespace Go.Proofs.YtoikhbagchfeoaaGreat
open Go Go.SL Go.Pure Go.Curve
theorem znO {O c A W v d c' : Nat} (e : O + W * c = A) (h : v = d + 256 * c') (x : Nat) (hx : v = x + c) : O + W * d + W * 256 * c' = A + W * x := by
 have h1 : W * (x + c) = W * (d + 256 * c') := by rw [← hx, h]
 rw [Nat.mul_add, Nat.mul_add, ← Nat.mul_assoc] at h1
 omega
theorem z69 (l : List Nat) (i : Nat) : z9 (l.take (i + 1)) = z9 (l.take i) + 256 ^ i * l.getD i 0 := by
 rcases Nat.lt_or_ge i l.length with q | q
 ·rw [z50 q, zY, z3D, List.length_take, Nat.min_eq_left (by omega)]
 ·rw [List.take_of_length_le (by omega), List.take_of_length_le (by omega), List.getD_eq_getElem?_getD, List.getElem?_eq_none q]
  rfl
def FInv (base : Hp) (r3 : Nat) (X : Nat) (out l : List Nat) (m : Nat) (vs : List Value) (H : Hp) : Prop :=
 ∃ (i c : Nat) (o : List Nat), i + m = 32 ∧ o.length = i ∧ Bytes o ∧ c ≤ X / 255 + 1 ∧ z9 o + 256 ^ i * c = z9 (out.take i) + z9 (l.take i) ∧ LN H r3 (o ++ out.drop i) ∧ (∀ b, b ≠ r3 → H b = base b) ∧ vs = [.int .i64 (c : Int), .int .i64 (i : Int)]
section
variable {h : Hp} {K : Value → Hp → Prop}
theorem zl2 {r3 X : Nat} {v : Value} {out l : List Nat} (rl : ∀ G, (∀ b, b ≠ r3 → G b = h b) → Rn G .i64 v l) (hX : ∀ i, l.getD i 0 ≤ X) (hX0 : 2 ≤ X) (hX1 : X ≤ 1073741824) (bo : Bytes out) (lo : out.length = 32) (ll : l.length ≤ 1000) (A3 : LN h r3 out)
  {E : (List Value → Hp → Prop) → List Value → Hp → Prop}
  (kE : ∀ (nx : List Value → Hp → Prop) (z : List Nat) (c : Nat) (H : Hp), c ≤ X / 255 + 1 → Bytes z → z.length = 32 → z9 z + 256 ^ 32 * c = z9 out + z9 (l.take 32) → LN H r3 z → (∀ b, b ≠ r3 → H b = h b) → E nx [.int .i64 (c : Int), .int .i64 ((32 : Nat) : Int)] H) :
  Lp [Value.int .i64 0, Value.int .i64 0] h fun nx10 vs10 h =>
   q P h (binOp .lss zi (vs10.getD 1 undef) (Value.int .i64 32)) fun t13 => cnd t13 (q P h (Instr.indexAt zo (.pointer (some ⟨r3, 0, none⟩)) (vs10.getD 1 undef)) fun t17 => q P h (Instr.loadAt zi t17) fun t18 => q P h (binOp .add zi t18 (vs10.getD 0 undef)) fun t20 =>
    let J15 : Value → Hp → Prop := fun t6 h => q P h (binOp .rem zi t6 (Value.int .i64 256)) fun t33 => q P h (Instr.indexAt zo (.pointer (some ⟨r3, 0, none⟩)) (vs10.getD 1 undef)) fun t34 => aw P (Instr.storeAt zi t34 t33) (fun _ h => q P h (binOp .quo zi t6 (Value.int .i64 256)) fun t36 => q P h (binOp .add zi (vs10.getD 1 undef) (Value.int .i64 1)) fun t15 => nx10 [t36, t15] h) h
    q P h (Builtin.len_ #[zH] zi #[v]) fun t23 => q P h (binOp .lss zi (vs10.getD 1 undef) t23) fun t24 => cnd t24 (q P h (Instr.indexAt zH v (vs10.getD 1 undef)) fun t28 => q P h (Instr.loadAt zi t28) fun t29 => q P h (binOp .add zi t20 t29) fun t30 => J15 t30 h) (J15 t20 h)) (E nx10 vs10 h) := by
 refine Lp_mk (FInv h r3 X out l) 32 ⟨0, 0, [], by omega, rfl, (by intro y hy; cases hy), by omega, by simp [z9], A3, fun _ _ => rfl, rfl⟩ ?_
 rintro m vs H ⟨i, c, o, hi, lo', bo', hc, e, A, f, rfl⟩
 simp -zeta (disch := omega) only [GL, RL, lt32]
 by_cases h1 : i < 32
 ·rw [decide_eq_true h1]
  have d := z6E (l := out) (i := i) (by omega)
  have lod : (o ++ out.drop i).length = 32 := by rw [List.length_append, List.length_drop]; omega
  have ca := A.at (i := i) (by omega)
  have gi : (o ++ out.drop i).getD i 0 = out.getD i 0 := by
   rw [List.getD_eq_getElem?_getD, List.getElem?_append_right (by omega), lo', Nat.sub_self, d]; rfl
  rw [gi] at ca
  have bi := bo.getD i
  have xi := hX i
  simp -zeta (disch := omega) only [GL, RL, if_true, Int.toNat_natCast, z1d, Nat.zero_add, ca, wi64]
  intro J
  have qJ : ∀ x : Nat, x = out.getD i 0 + l.getD i 0 + c → J (.int .i64 (x : Int)) H := by
   intro x hx
   simp -zeta only [J]
   clear J
   have tm : ((x : Nat) : Int).tmod 256 = ((x % 256 : Nat) : Int) := by rw [Int.tmod_eq_emod_of_nonneg (Int.natCast_nonneg _)]; rfl
   have td : ((x : Nat) : Int).tdiv 256 = ((x / 256 : Nat) : Int) := by rw [Int.tdiv_eq_ediv_of_nonneg (Int.natCast_nonneg _)]; rfl
   simp -zeta (disch := omega) only [GL, RL, Int.toNat_natCast, z1d, Nat.zero_add, tm, td, wi64]
   refine z3M (i := i) A (by omega) fun G AG fG => ?_
   have es : (o ++ out.drop i).set i (x % 256) = (o ++ [x % 256]) ++ out.drop (i + 1) := by
    have := z9c o (out.drop (i + 1)) (out.getD i 0) (x % 256)
    rw [lo', ← d] at this
    exact this
   rw [es] at AG
   refine ⟨G, .refl _, m - 1, by omega, i + 1, x / 256, o ++ [x % 256], by omega, by rw [List.length_append, lo']; rfl, bo'.append (fun y hy => by rw [List.mem_singleton.1 hy]; omega), by omega, ?_, AG, fun b hb => by rw [fG b hb, f b hb], rfl⟩
   rw [zY, z3D, lo', z69, z69, Nat.pow_succ]
   have := znO (x := out.getD i 0 + l.getD i 0) (v := x) (d := x % 256) (c' := x / 256) e (by omega) (by omega)
   rw [Nat.mul_add] at this
   omega
  clear_value J
  have rv := rl H f
  obtain ⟨av, cv, ev, hcv⟩ := rv.shape
  have ln : ∀ {K : Value → Prop}, q P H (Builtin.len_ #[zH] zi #[v]) K = K (.int .i64 (l.length : Nat)) := fun {K} => by rw [ev]; exact z12 zK _ _ _
  simp -zeta (disch := omega) only [ln, GL, RL, zL]
  by_cases h2 : i < l.length
  ·rw [decide_eq_true h2]
   obtain ⟨p, hp1, hp2⟩ := z6i (P := P) (i := i) (y := .int .i64 ((l.getD i 0 : Nat) : Int)) zK z1U rv (z1g _ _ _ h2)
   simp -zeta (disch := omega) only [GL, RL, if_true, hp1, hp2, wi64]
   exact qJ (out.getD i 0 + c + l.getD i 0) (by omega)
  ·rw [decide_eq_false h2]
   simp -zeta (disch := omega) only [GL, RL, Bool.false_eq_true, if_false]
   have l0 : l.getD i 0 = 0 := by rw [List.getD_eq_getElem?_getD, List.getElem?_eq_none (by omega)]; rfl
   exact qJ (out.getD i 0 + c) (by omega)
 ·rw [decide_eq_false h1]
  have i32 : i = 32 := by omega
  subst i32
  rw [List.drop_eq_nil_of_le (by omega), List.append_nil] at A
  rw [List.take_of_length_le (by omega : out.length ≤ 32)] at e
  simp -zeta only [GL, Bool.false_eq_true, if_false]
  exact kE _ o c H hc bo' lo' e A f
end
def OInv (h : Hp) (r2 r3 : Nat) (l : List Nat) (m : Nat) (vs : List Value) (H : Hp) : Prop :=
 ∃ (v : Value) (a out : List Nat), z9 out + z9 a + a.length = m ∧ (∀ G, (∀ b, b ≠ r3 → G b = H b) → Rn G .i64 v a) ∧ (32 < a.length → a.length ≤ 63 ∧ ∀ i, a.getD i 0 ≤ 2097152) ∧ (∀ i, a.getD i 0 ≤ 536870912) ∧ Bytes out ∧ out.length = 32 ∧ ph (z9 out + z9 a) = ph (z9 l) ∧ LN H r3 out ∧ LN H r2 (List.replicate 32 0) ∧ Hp.ext h H ∧ vs = [v]
theorem zr2 {h G G' : Hp} {r : Nat} {e : Nat} {k : IntKind} {v : Value} {a : List Nat} {o : AObj} (nw : Nn h e k v G a) (hr : h r = some o) (f : ∀ b, b ≠ r → G' b = G b) : Rn G' k v a := by
 rcases Nat.eq_zero_or_pos a.length with q | q
 ·have a0 : a = [] := List.eq_nil_of_length_eq_zero q
  subst a0
  obtain ⟨x, c, rfl, hc⟩ := nw.rn.shape
  exact ⟨rfl, x, c, rfl, hc, .inl rfl⟩
 ·obtain ⟨b, c, fz, hb, hc, rfl, hh, _⟩ := New.form nw q
  have hn : b ≠ r := by rintro rfl; rw [hb] at hr; cases hr
  have hg : G' b = some (.row e (nv k a) (c * 1) (some fz)) := by rw [f b hn, hh, Hp.set_same]
  exact ⟨by rw [ze, Nat.mul_one], some ⟨b, 0, none⟩, c, rfl, hc, .inr ⟨b, 0, rfl, fun i y ey => by rw [zj hg, Nat.zero_add]; exact ey⟩⟩
section
variable {h : Hp} {K : Value → Hp → Prop}
theorem zie {v : Value} {l : List Nat} (rv : Rn h .i64 v l) (hl : l.length ≤ 63) (hB : ∀ i, l.getD i 0 ≤ 2097152) (k : ∀ z, Bytes z → z.length = 32 → ph (z9 z) = ph (z9 l) → K (NV z) h) : Cn P zcL #[v] h K := by
 refine Cn_wk (zd1 ?_)
 unfold z6Q
 refine z2q fun r2 H2 n2 x2 a2 _ => ?_
 refine z2q fun r3 H3 n3 x3 a3 _ => ?_
 have n3h : h r3 = none := x2.none n3
 have ne32 : r3 ≠ r2 := by rintro rfl; unfold LN at a2; rw [n3] at a2; cases a2
 have lv0 : z9 (List.replicate 32 0) = 0 := by decide
 refine Lp_mk (OInv h r2 r3 l) (z9 l + l.length) ⟨v, l, List.replicate 32 0, by rw [lv0, Nat.zero_add], fun G f => rv.mono (z1m (x2.trans x3) n3h f).cle, fun _ => ⟨hl, hB⟩, fun i => Nat.le_trans (hB i) (by decide), (fun x hx => by rw [List.eq_of_mem_replicate hx]; decide), by simp, by rw [lv0, Nat.zero_add], a3, a2.ext x3, x2.trans x3, rfl⟩ ?_
 rintro m vs H ⟨w, a, out, hm, rw', b1, b2, bo, lo, ev, A3, A2, x, rfl⟩
 obtain ⟨aw', cw, ew, hcw⟩ := (rw' H fun _ _ => rfl).shape
 have ln : ∀ {G : Hp} {K : Value → Prop}, q P G (Builtin.len_ #[zH] zi #[w]) K = K (.int .i64 (a.length : Nat)) := fun {G K} => by rw [ew]; exact z12 zK _ _ _
 have gt0 : decide ((0 : Int) < ((a.length : Nat) : Int)) = decide (0 < a.length) := by rw [decide_eq_decide]; omega
 show q P H (Builtin.len_ #[zH] zi #[w]) _
 rw [ln]
 simp -zeta (disch := omega) only [GL, RL, gt0]
 by_cases h1 : 0 < a.length
 ·rw [decide_eq_true h1]
  simp -zeta only [if_true]
  have X0 : ∀ i, a.getD i 0 ≤ 536870912 := b2
  refine zl2 (X := 536870912) rw' X0 (by omega) (by omega) bo lo (by by_cases q : 32 < a.length; have := (b1 q).1; omega; omega) A3 fun nx z c H1 hc bz lz ez A3' f1 => ?_
  have x1 := z1m x n3h f1
  have B2 : LN H1 r2 (List.replicate 32 0) := by show H1 r2 = _; rw [f1 _ (Ne.symm ne32)]; exact A2
  have P1 := zm9 ez
  have P2 := zma ez
  have n3s : H1 r3 = some _ := A3'
  have rw1 := rw' H1 f1
  have la63 : a.length ≤ 63 := by
   by_cases q : 32 < a.length
   ·exact (b1 q).1
   ·omega
  have cgt : decide ((0 : Int) < ((c : Nat) : Int)) = decide (0 < c) := by rw [decide_eq_decide]; omega
  intro J19
  have qJ19 : ∀ v' G next, Nn H1 zi .i64 v' G next → z9 next = 38 * z9 (a.drop 32) → (∀ i, next.getD i 0 ≤ 79691776) → next.length = a.length - 32 → J19 v' G := by
   intro v' G next nw en bn lnx
   simp -zeta only [J19]
   clear J19
   intro J26
   have qJ26 : ∀ B v' G next, Hp.ext H1 B → Nn B zi .i64 v' G next → z9 next = 38 * z9 (a.drop 32) → (∀ i, next.getD i 0 ≤ 79691776) → (next.length < a.length ∨ next.length ≤ a.length ∧ 0 < c) → (0 < c → 0 < next.length) → next.length ≤ 32 → J26 v' G := by
    intro B v' G next hB nw en bn l2 l3 l4
    simp -zeta only [J26]
    clear J26
    have fin : ∀ G' next', Nn B zi .i64 v' G' next' → z9 next' = 38 * (c + z9 (a.drop 32)) → (∀ i, next'.getD i 0 ≤ 536870912) → next'.length = next.length → ∃ h0, Hp.le h0 G' ∧ ∃ m', m' < m ∧ OInv h r2 r3 l m' [v'] h0 := by
     intro G' nx' nw' e' b' l'
     have y := hB.trans nw'.ext
     refine ⟨G', .refl _, z9 z + z9 nx' + nx'.length, ?_, v', nx', z, rfl, fun G f => zr2 nw' (hB _ _ n3s) f, fun q => absurd q (by omega), b', bz, lz, ?_, A3'.ext y, B2.ext y, x1.trans y, rfl⟩
     ·rw [e']
      omega
     ·rw [e', P1, ev]
    simp -zeta (disch := omega) only [GL, RL, cgt]
    by_cases c0 : 0 < c
    ·rw [decide_eq_true c0]
     obtain ⟨b, cc, fz, hb, hcc, rfl, hG, hf⟩ := New.form nw (l3 c0)
     have hrow : G b = some (.row zi (nv .i64 next) (cc * 1) (some fz)) := by rw [hG, Hp.set_same]
     have g0 := zJ (i := 0) hrow (l3 c0)
     have i0 : ((0 : Int)).toNat = 0 := rfl
     have q0 := bn 0
     have l30 := l3 c0
     have ex : ((next.getD 0 0 : Nat) : Int) + 38 * (c : Int) = ((next.getD 0 0 + 38 * c : Nat) : Int) := by omega
     simp -zeta (disch := omega) only [GL, RL, if_true, i0, Nat.add_zero, Nat.zero_add, g0, wi64, ex]
     have nwN : New B zi 1 (.slice (some ⟨b, 0, none⟩) next.length cc) G (nv .i64 next) next.length := nw
     refine z1K z1U nwN l30 rfl fun G2 nw2 => ?_
     rw [z1O] at nw2
     refine fin G2 (next.set 0 (next.getD 0 0 + 38 * c)) ?_ ?_ ?_ (List.length_set ..)
     ·show New B zi 1 _ G2 _ (next.set 0 (next.getD 0 0 + 38 * c)).length
      rw [List.length_set]
      exact nw2
     ·rw [zl1 l30, en]
      omega
     ·intro i
      have := bn i
      rw [List.getD_eq_getElem?_getD, List.getElem?_set]
      by_cases hi : 0 = i
      ·rw [if_pos hi, if_pos l30]
       show next.getD 0 0 + 38 * c ≤ _
       omega
      ·rw [if_neg hi, ← List.getD_eq_getElem?_getD]
       omega
    ·rw [decide_eq_false c0]
     simp -zeta only [Bool.false_eq_true, if_false]
     have cz : c = 0 := by omega
     exact fin G next nw (by rw [en, cz, Nat.zero_add]) (fun i => Nat.le_trans (bn i) (by decide)) rfl
   clear_value J26
   obtain ⟨an, cn, en', hcn⟩ := nw.rn.shape
   have lnn : ∀ {K : Value → Prop}, q P G (Builtin.len_ #[zH] zi #[v']) K = K (.int .i64 (next.length : Nat)) := fun {K} => by rw [en']; exact z12 zK _ _ _
   have eqz : (((next.length : Nat) : Int) == 0) = decide (next.length = 0) := by rw [Bool.eq_iff_iff, beq_iff_eq, decide_eq_true_eq]; omega
   simp -zeta (disch := omega) only [GL, RL, cgt]
   by_cases c0 : 0 < c
   ·rw [decide_eq_true c0]
    simp -zeta only [lnn, GL, eqz, if_true]
    by_cases ne : next.length = 0
    ·rw [decide_eq_true ne]
     simp -zeta only [if_true]
     have e0 : next = [] := List.eq_nil_of_length_eq_zero ne
     have D0 : z9 (a.drop 32) = 0 := by
      rw [e0] at en
      have : z9 ([] : List Nat) = 0 := rfl
      omega
     refine zT (ps := [(0, _)]) zK z1U z4b rfl (by omega) (by intro p hp; rw [List.mem_singleton.1 hp]; exact ⟨rfl, by show _ < 1; omega⟩) fun v1 H4 n1 _ => ?_
     have n1' : Nn G zi .i64 v1 H4 [0] := n1
     exact qJ26 G v1 H4 [0] nw.ext n1' (by rw [D0]; rfl) (fun i => by cases i <;> simp) (.inr ⟨by show 1 ≤ _; omega, c0⟩) (fun _ => by decide) (by decide)
    ·rw [decide_eq_false ne]
     simp -zeta only [Bool.false_eq_true, if_false]
     exact qJ26 H1 v' G next (.refl _) nw en bn (.inl (by omega)) (fun _ => by omega) (by omega)
   ·rw [decide_eq_false c0]
    simp -zeta only [GL, Bool.false_eq_true, Bool.true_eq_false, if_false]
    exact qJ26 H1 v' G next (.refl _) nw en bn (.inl (by omega)) (fun q => absurd q c0) (by omega)
  clear_value J19
  have gt32 : decide ((32 : Int) < ((a.length : Nat) : Int)) = decide (32 < a.length) := by rw [decide_eq_decide]; omega
  simp -zeta (disch := omega) only [ln, GL, RL, gt32]
  by_cases g : 32 < a.length
  ·rw [decide_eq_true g]
   simp -zeta only [if_true]
   have b63 := (b1 g).2
   have ld : (a.drop 32).length = a.length - 32 := by rw [List.length_drop]
   have gd : ∀ j, (a.drop 32).getD j 0 = a.getD (32 + j) 0 := fun j => by rw [List.getD_eq_getElem?_getD, List.getElem?_drop, ← List.getD_eq_getElem?_getD]
   refine Lp_mk (fun m' vs G => ∃ (j : Nat) (v' : Value), j + m' = a.length - 32 ∧ Nn H1 zi .i64 v' G (((a.drop 32).take j).map fun x => 38 * x) ∧ vs = [v', .int .i64 ((32 + j : Nat) : Int)]) (a.length - 32) ⟨0, _, by omega, Nn.nil H1 zi .i64, rfl⟩ ?_
   rintro m' vs G ⟨j, v', hj, nw, rfl⟩
   have ltj : ((((a.drop 32).take j).map fun x => 38 * x)).length = j := by rw [List.length_map, List.length_take, ld]; omega
   simp -zeta (disch := omega) only [GL, RL, zL]
   by_cases h2 : 32 + j < a.length
   ·rw [decide_eq_true h2]
    obtain ⟨p, hp1, hp2⟩ := z6i (P := P) (i := 32 + j) (y := .int .i64 ((a.getD (32 + j) 0 : Nat) : Int)) zK z1U (rw1.mono nw.ext.cle) (z1g _ _ _ h2)
    have bj := b63 (32 + j)
    have e38 : 38 * ((a.getD (32 + j) 0 : Nat) : Int) = ((38 * a.getD (32 + j) 0 : Nat) : Int) := by omega
    simp -zeta (disch := omega) only [GL, RL, if_true, hp1, hp2, wi64, e38]
    have nw' : New H1 zi 1 v' G (nv .i64 (((a.drop 32).take j).map fun x => 38 * x)) (((a.drop 32).take j).map fun x => 38 * x).length := nw
    refine zT (ps := [(0, _)]) zK z1U z4b rfl (by omega) (by intro p hp; rw [List.mem_singleton.1 hp]; exact ⟨rfl, by show _ < 1; omega⟩) fun x h4 hx' _ => ?_
    refine zQ zK zK z2J rfl (by omega) nw' hx' (by intro y hy; simp [z1f] at hy; subst hy; rfl) (by omega) fun v2 h5 hw5 => ?_
    have hw6 : Nn H1 zi .i64 v2 h5 (((a.drop 32).take (j + 1)).map fun x => 38 * x) := by
     rw [z50 (l := a.drop 32) (i := j) (by omega), List.map_append, gd]
     show New H1 zi 1 v2 h5 (nv .i64 (_ ++ [38 * a.getD (32 + j) 0])) (_ ++ [38 * a.getD (32 + j) 0]).length
     rw [z13, List.length_append]
     exact hw5
    exact ⟨h5, .refl _, m' - 1, by omega, j + 1, v2, by omega, hw6, rfl⟩
   ·rw [decide_eq_false h2]
    simp -zeta only [GL, Bool.false_eq_true, if_false]
    have ej : (a.drop 32).take j = a.drop 32 := List.take_of_length_le (by omega)
    rw [ej] at nw
    refine qJ19 v' G _ nw (zid _) (fun i => ?_) (by rw [List.length_map, ld])
    have bi := b63 (32 + i)
    rw [← gd, List.getD_eq_getElem?_getD] at bi
    rw [List.getD_eq_getElem?_getD, List.getElem?_map]
    cases hq : (a.drop 32)[i]? with
    | none => simp
    | some y =>
     rw [hq] at bi
     simp only [Option.getD_some] at bi
     simp only [Option.map_some, Option.getD_some]
     omega
  ·rw [decide_eq_false g]
   simp -zeta only [Bool.false_eq_true, if_false]
   refine qJ19 _ H1 [] (Nn.nil H1 zi .i64) ?_ (fun i => by simp) (by rw [List.length_nil]; omega)
   rw [List.drop_eq_nil_of_le (by omega)]
   rfl
 ·rw [decide_eq_false h1]
  have a0 : a = [] := List.eq_nil_of_length_eq_zero (by omega)
  subst a0
  simp -zeta only [GL, Bool.false_eq_true, if_false]
  rw [A3.ld lo]
  refine z1b A2 (by simp) lo fun G AG f => ?_
  rw [AG.res lo]
  exact ⟨h, (z1m x n2 f).le, k out bo lo (by rw [← ev]; rfl)⟩
end
def z3N (a b : List Nat) (i : Nat) : List Nat := (List.range i).map fun j => a.getD j 0 + b.getD j 0
theorem ze1 (a b : List Nat) (i : Nat) : (z3N a b i).length = i := by simp [z3N]
theorem zgf (a b : List Nat) (i : Nat) : z3N a b (i + 1) = z3N a b i ++ [a.getD i 0 + b.getD i 0] := by simp [z3N, List.range_succ]
theorem zif (a b : List Nat) : ∀ i, z9 (z3N a b i) = z9 (a.take i) + z9 (b.take i)
 | 0 => by simp [z3N, z9]
 | i + 1 => by
  rw [zgf, zY, z3D, ze1, zif a b i, z69, z69, Nat.mul_add]
  omega
theorem zpB {a b : List Nat} (ha : Bytes a) (hb : Bytes b) (n i : Nat) : (z3N a b n).getD i 0 ≤ 510 := by
 rw [List.getD_eq_getElem?_getD, z3N, List.getElem?_map]
 cases hq : (List.range n)[i]? with
 | none => simp
 | some y =>
  have := ha.getD y
  have := hb.getD y
  simp only [Option.map_some, Option.getD_some]
  omega
section
variable {h : Hp} {K : Value → Hp → Prop}
theorem zjQ {a b : List Nat} (ha : Bytes a) (hb : Bytes b) (la : a.length = 32) (lb : b.length = 32) (k : K (NV (nb (ph (z9 a) + ph (z9 b)))) h) : Cn P z7o #[NV a, NV b] h K := by
 refine Cn_wk (zdJ ?_)
 unfold z7C
 refine z32 la fun r0 H0 n0 x0 a0 _ => ?_
 refine z32 lb fun r1 H1 n1 x1 a1 _ => ?_
 refine z2q fun r2 H2 n2 x2 a2 _ => ?_
 have n2h : h r2 = none := (x0.trans x1).none n2
 have b0 := (a0.ext x1).ext x2
 have b1 := a1.ext x2
 refine Lp_mk (fun m vs G => ∃ (i : Nat) (v : Value), i + m = 32 ∧ Nn H2 zi .i64 v G (z3N a b i) ∧ vs = [v, .int .i64 (i : Int)]) 32 ⟨0, _, by omega, Nn.nil H2 zi .i64, rfl⟩ ?_
 rintro m vs G ⟨i, v, hi, nw, rfl⟩
 simp -zeta (disch := omega) only [GL, RL, lt32]
 by_cases h1 : i < 32
 ·rw [decide_eq_true h1]
  have ca := (b0.ext nw.ext).at (i := i) (by omega)
  have cb := (b1.ext nw.ext).at (i := i) (by omega)
  have ba := ha.getD i
  have bb := hb.getD i
  have es : ((a.getD i 0 : Nat) : Int) + ((b.getD i 0 : Nat) : Int) = ((a.getD i 0 + b.getD i 0 : Nat) : Int) := by omega
  simp -zeta (disch := omega) only [GL, RL, if_true, Int.toNat_natCast, z1d, Nat.zero_add, ca, cb, wi64, es]
  have nw' : New H2 zi 1 v G (nv .i64 (z3N a b i)) (z3N a b i).length := nw
  have sl := ze1 a b i
  refine zT (ps := [(0, _)]) zK z1U z4b rfl (by omega) (by intro p hp; rw [List.mem_singleton.1 hp]; exact ⟨rfl, by show _ < 1; omega⟩) fun x h4 hx' _ => ?_
  refine zQ zK zK z2J rfl (by omega) nw' hx' (by intro y hy; simp [z1f] at hy; subst hy; rfl) (by omega) fun v2 h5 hw5 => ?_
  have hw6 : Nn H2 zi .i64 v2 h5 (z3N a b (i + 1)) := by
   rw [zgf]
   show New H2 zi 1 v2 h5 (nv .i64 (z3N a b i ++ [a.getD i 0 + b.getD i 0])) (z3N a b i ++ [a.getD i 0 + b.getD i 0]).length
   rw [z13, List.length_append]
   exact hw5
  exact ⟨h5, .refl _, m - 1, by omega, i + 1, v2, by omega, hw6, rfl⟩
 ·rw [decide_eq_false h1]
  simp -zeta only [GL, Bool.false_eq_true, if_false]
  have i32 : i = 32 := by omega
  subst i32
  refine zie nw.rn (by rw [ze1]; omega) (fun j => Nat.le_trans (zpB ha hb 32 j) (by decide)) fun z bz lz ez => ?_
  refine zdZ bz lz ?_
  rw [ez, zif, List.take_of_length_le (by omega), List.take_of_length_le (by omega), z3B]
  have ln := zm (ph (z9 a) + ph (z9 b))
  generalize nb (ph (z9 a) + ph (z9 b)) = y at *
  refine z1b (a2.ext nw.ext) (by simp) ln fun G2 AG f => ?_
  rw [AG.res ln]
  exact ⟨h, (z1m (((x0.trans x1).trans x2).trans nw.ext) n2h f).le, k⟩
end
theorem zr4 (x y : F) : x + ph (pp - y.val) = x - y := by
 apply Fin.ext
 rw [Fin.val_add, z5o, Nat.add_mod_mod, Fin.sub_def]
 show _ = (pp - y.val + x.val) % pp
 rw [Nat.add_comm]
section
variable {h : Hp} {K : Value → Hp → Prop}
theorem zbN (x y : F) (k : K (NV (nb (x + y))) h) : Cn P z7o #[NV (nb x), NV (nb y)] h K := by
 refine zjQ (z1J x) (z1J y) (zm x) (zm y) ?_
 rw [z3L, z3L, z4Z, z4Z]
 exact k
theorem zbO (x y : F) (k : K (NV (nb (x - y))) h) : Cn P zdx #[NV (nb x), NV (nb y)] h K := by
 refine Cn_wk (zdK ?_)
 unfold z7D
 refine z32 (zm x) fun r0 H0 n0 x0 a0 _ => ?_
 refine z32 (zm y) fun r1 H1 n1 x1 a1 _ => ?_
 refine z2q fun r2 H2 n2 x2 a2 _ => ?_
 have n2h : h r2 = none := (x0.trans x1).none n2
 have b0 := (a0.ext x1).ext x2
 have b1 := a1.ext x2
 rw [b0.ld (zm x), b1.ld (zm y)]
 refine zbK ?_
 refine ⟨pk_q fun K => b1.ld (zm y), pk_q fun K => b0.ld (zm x), ?_⟩
 have vy : z9 (nb y) ≤ z9 (le 32 pp) := by
  have e : z9 (le 32 pp) = pp := zeR
  rw [z3L, e]
  exact Nat.le_of_lt y.isLt
 refine zbL (z1s 32 pp) (z1J y) (zE 32 pp) (zm y) vy ?_
 refine ⟨pk_q fun K => b0.ld (zm x), ?_⟩
 refine zjQ (z1J x) (z1s 32 _) (zm x) (zE 32 _) ?_
 have e1 : z9 (le 32 (z9 (le 32 pp) - z9 (nb y))) = pp - y.val := by
  have e : z9 (le 32 pp) = pp := zeR
  rw [e, z3L, z2C]
  exact Nat.mod_eq_of_lt (Nat.lt_of_le_of_lt (Nat.sub_le _ _) (by decide +kernel))
 rw [e1, z3L, z4Z, zr4]
 have ln := zm (x - y)
 generalize nb (x - y) = z at *
 refine z1b a2 (by simp) ln fun G2 AG f => ?_
 rw [AG.res ln]
 exact ⟨h, (z1m ((x0.trans x1).trans x2) n2h f).le, k⟩
end
theorem zgg : ∀ (l : List Nat) (n x : Nat), n < l.length → z9 (l.set n (l.getD n 0 + x)) = z9 l + 256 ^ n * x
 | y :: l, 0, x, _ => by
  show (y + x) + 256 * z9 l = y + 256 * z9 l + 256 ^ 0 * x
  rw [Nat.pow_zero]
  omega
 | y :: l, n + 1, x, h => by
  have := zgg l n x (by rw [List.length_cons] at h; omega)
  show y + 256 * z9 (l.set n (l.getD n 0 + x)) = y + 256 * z9 l + 256 ^ (n + 1) * x
  rw [this, Nat.pow_succ, Nat.mul_comm (256 ^ n) 256, Nat.mul_assoc, Nat.mul_add]
  omega
structure MulS (a b s : List Nat) (i k : Nat) : Prop where
 len : s.length = 63
 val : z9 s = z9 (a.take i) * z9 b + 256 ^ i * (a.getD i 0 * z9 (b.take k))
 le : ∀ n, s.getD n 0 ≤ (if i ≤ n ∧ n < i + k then i + 1 else i) * 65025
theorem MulS.step {a b s : List Nat} {i k : Nat} (w : MulS a b s i k) (ha : Bytes a) (hb : Bytes b) (hi : i < 32) (hk : k < 32) : MulS a b (s.set (i + k) (s.getD (i + k) 0 + a.getD i 0 * b.getD k 0)) i (k + 1) := by
 have ai := ha.getD i
 have bk := hb.getD k
 have pr : a.getD i 0 * b.getD k 0 ≤ 255 * 255 := Nat.mul_le_mul (by omega) (by omega)
 refine ⟨by rw [List.length_set, w.len], ?_, fun n => ?_⟩
 ·rw [zgg _ _ _ (by rw [w.len]; omega), w.val, z69 b k, Nat.pow_add, Nat.mul_add, Nat.mul_add]
  have e : 256 ^ i * 256 ^ k * (a.getD i 0 * b.getD k 0) = 256 ^ i * (a.getD i 0 * (256 ^ k * b.getD k 0)) := by
   rw [Nat.mul_assoc, Nat.mul_left_comm (256 ^ k)]
  rw [e]
  omega
 ·have g := w.le n
  rw [List.getD_eq_getElem?_getD, List.getElem?_set]
  by_cases hn : i + k = n
  ·subst hn
   rw [if_pos rfl, if_pos (by rw [w.len]; omega), if_pos (by omega)]
   rw [if_neg (by omega)] at g
   show s.getD (i + k) 0 + a.getD i 0 * b.getD k 0 ≤ _
   omega
  ·rw [if_neg hn, ← List.getD_eq_getElem?_getD]
   by_cases h2 : i ≤ n ∧ n < i + k
   ·rw [if_pos h2] at g
    rw [if_pos (by omega)]
    exact g
   ·rw [if_neg h2] at g
    rw [if_neg (by omega)]
    exact g
theorem MulS.next {a b s : List Nat} {i : Nat} (w : MulS a b s i 32) (lb : b.length = 32) (hi : i < 32) : MulS a b s (i + 1) 0 := by
 refine ⟨w.len, ?_, fun n => ?_⟩
 ·have tb : b.take 32 = b := List.take_of_length_le (by omega)
  rw [w.val, z69 a i, tb, Nat.add_mul, Nat.mul_assoc]
  simp [z9]
 ·have g := w.le n
  refine Nat.le_trans g (Nat.mul_le_mul_right _ ?_)
  split <;> split <;> omega
theorem MulS.start (a b : List Nat) : MulS a b (List.replicate 63 0) 0 0 := by
 refine ⟨by simp, ?_, fun n => ?_⟩
 ·have : z9 (List.replicate 63 0) = 0 := by decide
  rw [this]
  simp [z9]
 ·rw [List.getD_eq_getElem?_getD, List.getElem?_replicate]
  split <;> simp
section
variable {h : Hp} {K : Value → Hp → Prop}
theorem zpC {a b : List Nat} (ha : Bytes a) (hb : Bytes b) (la : a.length = 32) (lb : b.length = 32) (k : K (NV (nb (ph (z9 a) * ph (z9 b)))) h) : Cn P z3e #[NV a, NV b] h K := by
 refine Cn_wk (zdL ?_)
 unfold z7E
 refine z32 la fun r0 H0 n0 x0 a0 _ => ?_
 refine z32 lb fun r1 H1 n1 x1 a1 _ => ?_
 refine z2q fun r2 H2 n2 x2 a2 _ => ?_
 have n2h : h r2 = none := (x0.trans x1).none n2
 have b0 := (a0.ext x1).ext x2
 have b1 := a1.ext x2
 refine z2w (n := 63) (c := 63) zK z2J rfl (by omega) (by omega) (by omega) fun v G0 nw0 => ?_
 rw [z1E] at nw0
 obtain ⟨p, cc, fz, hp, hcc, rfl, _, _⟩ := New.form nw0 (by omega)
 refine Lp_mk (fun m vs G => ∃ (i : Nat) (s : List Nat), i + m = 32 ∧ MulS a b s i 0 ∧ New H2 zi 1 (.slice (some ⟨p, 0, none⟩) 63 cc) G (nv .i64 s) 63 ∧ vs = [.int .i64 (i : Int)]) 32 ⟨0, _, by omega, MulS.start a b, nw0, rfl⟩ ?_
 rintro m vs G ⟨i, s, hi, ms, nw, rfl⟩
 simp -zeta (disch := omega) only [GL, RL, lt32]
 by_cases h1 : i < 32
 ·rw [decide_eq_true h1]
  simp -zeta only [if_true]
  refine Lp_mk (fun m2 vs G => ∃ (j : Nat) (s : List Nat), j + m2 = 32 ∧ MulS a b s i j ∧ New H2 zi 1 (.slice (some ⟨p, 0, none⟩) 63 cc) G (nv .i64 s) 63 ∧ vs = [.int .i64 (j : Int)]) 32 ⟨0, s, by omega, ms, nw, rfl⟩ ?_
  rintro m2 vs G ⟨j, s, hj, ms, nw, rfl⟩
  simp -zeta (disch := omega) only [GL, RL, lt32]
  by_cases h2 : j < 32
  ·rw [decide_eq_true h2]
   have ca := (b0.ext nw.ext).at (i := i) (by omega)
   have cb := (b1.ext nw.ext).at (i := j) (by omega)
   have ba := ha.getD i
   have bb := hb.getD j
   have sl := ms.len
   have st := ms.step ha hb h1 h2
   have sg := ms.le (i + j)
   rw [if_neg (by omega)] at sg
   have sg2 : s.getD (i + j) 0 ≤ 32 * 65025 := Nat.le_trans sg (Nat.mul_le_mul_right _ (by omega))
   have pr : a.getD i 0 * b.getD j 0 ≤ 255 * 255 := Nat.mul_le_mul (by omega) (by omega)
   obtain ⟨p', cc', fz', hp', hcc', ev, hG, _⟩ := New.form nw (by omega)
   simp only [Value.slice.injEq, Option.some.injEq, Addr.mk.injEq, and_true, true_and] at ev
   obtain ⟨rfl, rfl⟩ := ev
   have hrow : G p = some (.row zi (nv .i64 s) (cc * 1) (some fz')) := by rw [hG, Hp.set_same]
   have cs := zJ (i := i + j) hrow (by omega)
   have eij : ((i : Nat) : Int) + ((j : Nat) : Int) = ((i + j : Nat) : Int) := by omega
   have em : ((a.getD i 0 : Nat) : Int) * ((b.getD j 0 : Nat) : Int) = ((a.getD i 0 * b.getD j 0 : Nat) : Int) := (Int.natCast_mul _ _).symm
   generalize a.getD i 0 * b.getD j 0 = pq at *
   have es : ((s.getD (i + j) 0 : Nat) : Int) + ((pq : Nat) : Int) = ((s.getD (i + j) 0 + pq : Nat) : Int) := by omega
   simp -zeta (disch := omega) only [GL, RL, if_true, Int.toNat_natCast, z1d, Nat.zero_add, ca, cb, cs, wi64, eij, em, es]
   refine z1K z1U nw (by omega) rfl fun G2 nw2 => ?_
   rw [z1O] at nw2
   exact ⟨G2, .refl _, m2 - 1, by omega, j + 1, _, by omega, st, nw2, rfl⟩
  ·rw [decide_eq_false h2]
   have j32 : j = 32 := by omega
   subst j32
   simp -zeta (disch := omega) only [GL, RL, Bool.false_eq_true, if_false, wi64]
   exact ⟨G, .refl _, m - 1, by omega, i + 1, s, by omega, ms.next lb h1, nw, rfl⟩
 ·rw [decide_eq_false h1]
  simp -zeta only [GL, Bool.false_eq_true, if_false]
  have i32 : i = 32 := by omega
  subst i32
  have nwN : Nn H2 zi .i64 (.slice (some ⟨p, 0, none⟩) 63 cc) G s := by
   show New H2 zi 1 _ G (nv .i64 s) s.length
   rw [ms.len]
   exact nw
  refine zie nwN.rn (by rw [ms.len]; omega) (fun j => ?_) fun z bz lz ez => ?_
  ·have := ms.le j
   split at this <;> omega
  ·refine zdZ bz lz ?_
   have ev : z9 s = z9 a * z9 b := by
    rw [ms.val, List.take_of_length_le (l := a) (i := 32) (by omega)]
    simp [z9]
   rw [ez, ev, z5p]
   have ln := zm (ph (z9 a) * ph (z9 b))
   generalize nb (ph (z9 a) * ph (z9 b)) = y at *
   refine z1b (a2.ext nw.ext) (by simp) ln fun G2 AG f => ?_
   rw [AG.res ln]
   exact ⟨h, (z1m (((x0.trans x1).trans x2).trans nw.ext) n2h f).le, k⟩
theorem z3s (x y : F) (k : K (NV (nb (x * y))) h) : Cn P z3e #[NV (nb x), NV (nb y)] h K := by
 refine zpC (z1J x) (z1J y) (zm x) (zm y) ?_
 rw [z3L, z3L, z4Z, z4Z]
 exact k
end
end Go.Proofs.YtoikhbagchfeoaaGreat
set_option maxHeartbeats 2000000
namespace Go.Proofs.YtoikhbagchfeoaaGreat
open Go Go.SL Go.Pure
theorem z1r {h H : Hp} {r : Nat} {o : AObj} (x : Hp.ext h H) (n : h r = none) : Hp.ext h (H.set r o) := fun b o' e => by
 have hb : b ≠ r := by rintro rfl; rw [n] at e; cases e
 rw [Hp.set_ne _ _ hb]; exact x b o' e
theorem fe0 {h : Hp} {K : Value → Prop} (b : Nat) : q P h (Instr.fieldAt zb (.pointer (some ⟨b, 0, none⟩)) 0) K = K (.pointer (some ⟨b, 0, none⟩)) := q_of (by kernel_rfl) K
theorem zpD : zr P zb = some (.agg (nv .u64 [0, 0, 0, 0, 0]).toArray) := by kernel_rfl
theorem z2L : sz P zb = some 5 := by kernel_rfl
theorem zcr {a : Nat} (ha : a < 18446744073709551616) : iand .u64 (a : Int) 2251799813685247 = ((a % 2251799813685248 : Nat) : Int) := by
 rw [z83 (by omega) (by omega) (by omega) (by omega), Int.toNat_natCast]
 have := Nat.and_two_pow_sub_one_eq_mod a 51
 simp only [Nat.reducePow, Nat.add_one_sub_one, Nat.reduceSub] at this
 show ((a &&& 2251799813685247 : Nat) : Int) = _
 rw [this]
theorem zcs (a : Nat) : ((a : Int).fdiv (2 ^ min ((51 : Int)).toNat IntKind.u64.bits)) = ((a / 2251799813685248 : Nat) : Int) := zeO a 51 (by omega)
def carN (S : List Nat) : Nat → List Nat × Nat
 | 0 => (S, 0)
 | i + 1 => ((carN S i).1.set i ((((carN S i).1.getD i 0 + (carN S i).2) % 18446744073709551616) % 2251799813685248), (((carN S i).1.getD i 0 + (carN S i).2) % 18446744073709551616) / 2251799813685248)
theorem z9M (S : List Nat) : ∀ i, (carN S i).1.length = S.length
 | 0 => rfl
 | i + 1 => by rw [carN, List.length_set, z9M S i]
def carL (S : List Nat) : List Nat := (carN S 5).1.set 0 (((carN S 5).1.getD 0 0 + 19 * (carN S 5).2 % 18446744073709551616) % 18446744073709551616)
theorem z6a (S : List Nat) : (carL S).length = S.length := by rw [carL, List.length_set, z9M]
section
variable {h : Hp} {K : Value → Hp → Prop}
theorem zig {H : Hp} {r1 r2 e1 e2 : Nat} {S Z : List Nat} {f1 : Option (Nat × Nat)} {F : Value → Hp → Prop} (h1 : H r1 = some (.row e1 (nv .u64 S) 5 f1)) (h2 : H r2 = some (.row e2 (nv .u64 Z) 5 (some (0, 0)))) (lS : S.length = 5) (lZ : Z.length = 5)
  (k : F (.agg (nv .u64 S).toArray) (H.set r2 (.row e2 (nv .u64 S) 5 (some (0, 0))))) :
  q P H (Instr.loadAt zb (.pointer (some ⟨r1, 0, none⟩))) fun t37 => aw P (Instr.storeAt zb (.pointer (some ⟨r2, 0, none⟩)) t37) (fun _ h => q P h ((asAddr (.pointer (some ⟨r2, 0, none⟩))).bind (loadVar zb)) fun r0 => F r0 h) H := by
 have l5 : sz P zb = some (nv .u64 S).length := by rw [ze, lS]; exact z2L
 rw [z1w z2l rfl l5 h1]
 refine zD l5 h2 (by rw [ze, ze, lS, lZ]) (zq _ _) (fun i _ => by simp) ?_
 rw [z33 z2l rfl l5 (Hp.set_same ..)]
 exact k
theorem zct {H : Hp} {r2 e2 : Nat} {S Z : List Nat} {F : Value → Hp → Prop} (h2 : H r2 = some (.row e2 (nv .u64 Z) 5 (some (0, 0)))) (lS : S.length = 5) (lZ : Z.length = 5)
  (k : F (.agg (nv .u64 S).toArray) (H.set r2 (.row e2 (nv .u64 S) 5 (some (0, 0))))) :
  aw P (Instr.storeAt zb (.pointer (some ⟨r2, 0, none⟩)) (.agg (nv .u64 S).toArray)) (fun _ h => q P h ((asAddr (.pointer (some ⟨r2, 0, none⟩))).bind (loadVar zb)) fun r0 => F r0 h) H := by
 have l5 : sz P zb = some (nv .u64 S).length := by rw [ze, lS]; exact z2L
 refine zD l5 h2 (by rw [ze, ze, lS, lZ]) (zq _ _) (fun i _ => by simp) ?_
 rw [z33 z2l rfl l5 (Hp.set_same ..)]
 exact k
theorem z3W {H : Hp} {S : List Nat} {F : Value → Hp → Prop} (lS : S.length = 5) (x : Hp.ext h H) (k : ∀ r H', h r = none → H r = none → Hp.ext h H' → Hp.ext H H' → H' r = some (.row zb (nv .u64 S) 5 (some (0, 0))) → (∀ b, b ≠ r → H' b = H b) → F (.pointer (some ⟨r, 0, none⟩)) H') :
  aw P (Instr.box zb (.agg (nv .u64 S).toArray)) F H := by
 refine z2S fun r hr => ?_
 have e1 : (Value.agg (nv .u64 S).toArray).cells.toList = nv .u64 S := rfl
 have e2 : (Value.agg (nv .u64 S).toArray).cells.size = 5 := by show (nv .u64 S).toArray.size = 5; simp [ze, lS]
 rw [e1, e2]
 exact k r _ (x.none hr) hr (x.trans (z1x _ hr)) (z1x _ hr) (Hp.set_same ..) fun b hb => Hp.set_ne _ _ hb
theorem z15 {H : Hp} {F : Value → Hp → Prop} (x : Hp.ext h H) (k : ∀ r H', h r = none → H r = none → Hp.ext h H' → Hp.ext H H' → H' r = some (.row zb (nv .u64 [0, 0, 0, 0, 0]) 5 (some (0, 0))) → (∀ b, b ≠ r → H' b = H b) → F (.pointer (some ⟨r, 0, none⟩)) H') :
  aw P (Instr.alloc zb true (.tuple #[])) F H := by
 refine zS (nv .u64 [0, 0, 0, 0, 0]) zpD rfl fun r hr => ?_
 exact k r _ (x.none hr) hr (x.trans (z1x _ hr)) (z1x _ hr) (Hp.set_same ..) fun b hb => Hp.set_ne _ _ hb
theorem z9k {S : List Nat} {i x : Nat} (hi : i < S.length) : (S.set i x).getD i 0 = x := by
 rw [List.getD_eq_getElem?_getD, List.getElem?_set_self hi]; rfl
theorem z3F (a : List Nat) (la : a.length = 5) (k : K (.agg (nv .u64 (carL a)).toArray) h) : Cn P z9o #[.agg (nv .u64 a).toArray] h K := by
 refine Cn_wk (z9z ?_)
 unfold z5f
 refine z3W la (.refl h) fun r1 H1 n1 m1 x1 y1 e1 f1 => ?_
 refine z15 x1 fun r2 H2 n2 m2 x2 y2 e2 f2 => ?_
 have ne : r1 ≠ r2 := by rintro rfl; rw [e1] at m2; cases m2
 have e1' := y2 _ _ e1
 clear m1 m2 f1 f2 y1 y2 e1
 refine Lp_mk (fun m vs H => ∃ i : Nat, i + m = 5 ∧ Hp.ext h H ∧ H r1 = some (.row zb (nv .u64 (carN a i).1) 5 (some (0, 0))) ∧ H r2 = some (.row zb (nv .u64 [0, 0, 0, 0, 0]) 5 (some (0, 0))) ∧ vs = [.int .u64 (((carN a i).2 : Nat) : Int), .int .i64 (i : Int)]) 5
  ⟨0, rfl, x2, e1', e2, rfl⟩ ?_
 clear e1' e2 x2 x1
 rintro m vs H ⟨i, hi, x, e1, e2, rfl⟩
 have lS : (carN a i).1.length = 5 := by rw [z9M, la]
 simp (disch := omega) only [GL, RL, z2D]
 by_cases hlt : i < 5
 ·have c1 := zJ (i := i) e1 (by omega)
  simp (disch := omega) only [GL, RL, fe0, hlt, decide_true, if_true, c1, z2H]
  refine z1a z14 e1 (by omega) (by simp) ?_
  generalize hX : ((carN a i).1.getD i 0 + (carN a i).2) % 18446744073709551616 = X
  have hXl : X < 18446744073709551616 := by rw [← hX]; exact Nat.mod_lt _ (by decide)
  have e1b : (H.set r1 (.row zb (nv .u64 ((carN a i).1.set i X)) 5 (some (0, 0)))) r1 = _ := Hp.set_same ..
  have c2 := zJ (i := i) e1b (by rw [List.length_set]; omega)
  rw [z9k (by omega)] at c2
  have ei : IntKind.i64.wrap ((i : Int) + 1) = ((i + 1 : Nat) : Int) := by rw [wi64 (by omega) (by omega)]; omega
  simp (disch := omega) only [GL, RL, fe0, c2, zcs, zcr hXl, ei]
  refine z1a z14 e1b (by rw [List.length_set]; omega) (by simp) ?_
  rw [Hp.set_set, List.set_set]
  refine ⟨_, .refl _, m - 1, by omega, i + 1, by omega, z1r x n1, ?_, ?_, ?_⟩
  ·rw [Hp.set_same, carN, hX]
  ·rw [Hp.set_ne _ _ (Ne.symm ne)]; exact e2
  ·rw [carN, hX]
 ·obtain rfl : i = 5 := by omega
  have c1 := zJ (i := 0) e1 (by omega)
  have i0 : ((0 : Int)).toNat = 0 := rfl
  simp (disch := omega) only [GL, RL, fe0, decide_false, Bool.false_eq_true, if_false, i0, Nat.add_zero, hlt, c1]
  have m19 : IntKind.u64.wrap (19 * (((carN a 5).2 : Nat) : Int)) = ((19 * (carN a 5).2 % 18446744073709551616 : Nat) : Int) := by
   have := z6h 19 (carN a 5).2
   exact this
  rw [m19, z2H]
  refine z1a z14 e1 (by omega) (by simp) ?_
  refine zig (Hp.set_same ..) (by rw [Hp.set_ne _ _ (Ne.symm ne)]; exact e2) (by rw [List.length_set]; omega) rfl ?_
  exact ⟨h, (z1r (z1r x n1) n2).le, k⟩
theorem zr6 (a b : List Nat) (la : a.length = 5) (lb : b.length = 5) (k : K (.agg (nv .u64 (carL (addL a b))).toArray) h) : Cn P z4O #[.agg (nv .u64 a).toArray, .agg (nv .u64 b).toArray] h K := by
 refine Cn_wk (zdO ?_)
 unfold z7H
 refine z3W la (.refl h) fun r1 H1 n1 m1 x1 y1 e1 f1 => ?_
 refine z3W lb x1 fun r2 H2 n2 m2 x2 y2 e2 f2 => ?_
 refine z15 x2 fun r3 H3 n3 m3 x3 y3 e3 f3 => ?_
 have e1' := y2 _ _ e1
 have ne12 : r1 ≠ r2 := by rintro rfl; rw [e1] at m2; cases m2
 have ne13 : r1 ≠ r3 := by rintro rfl; rw [e1'] at m3; cases m3
 have e1'' := y3 _ _ e1'
 have e2' := y3 _ _ e2
 clear m1 m2 m3 f1 f2 f3 y1 y2 y3 e1 e1' e2
 refine Lp_mk (fun m vs H => ∃ i : Nat, i + m = 5 ∧ Hp.ext h H ∧ H r1 = some (.row zb (nv .u64 (addN a b i)) 5 (some (0, 0))) ∧ H r2 = some (.row zb (nv .u64 b) 5 (some (0, 0))) ∧ H r3 = some (.row zb (nv .u64 [0, 0, 0, 0, 0]) 5 (some (0, 0))) ∧ vs = [.int .i64 (i : Int)]) 5
  ⟨0, rfl, x3, e1'', e2', e3, rfl⟩ ?_
 clear e1'' e2' e3 x3 x2 x1
 rintro m vs H ⟨i, hi, x, e1, e2, e3, rfl⟩
 have lS : (addN a b i).length = 5 := by rw [z62, la]
 simp (disch := omega) only [GL, RL, z2D]
 by_cases hlt : i < 5
 ·have c1 := zJ (i := i) e1 (by omega)
  have c2 := zJ (i := i) e2 (by omega)
  simp (disch := omega) only [GL, RL, fe0, hlt, decide_true, if_true, c1, c2, z2H]
  refine z1a z14 e1 (by omega) (by simp) ?_
  have ei : IntKind.i64.wrap ((i : Int) + 1) = ((i + 1 : Nat) : Int) := by rw [wi64 (by omega) (by omega)]; omega
  rw [ei]
  refine ⟨_, .refl _, m - 1, by omega, i + 1, by omega, z1r x n1, ?_, ?_, ?_, rfl⟩
  ·rw [Hp.set_same, addN]
  ·rw [Hp.set_ne _ _ (Ne.symm ne12)]; exact e2
  ·rw [Hp.set_ne _ _ (Ne.symm ne13)]; exact e3
 ·obtain rfl : i = 5 := by omega
  simp only [hlt, decide_false, Bool.false_eq_true, if_false]
  rw [z1w z2l rfl (by rw [ze, lS]; exact z2L) e1]
  refine z3F _ lS ?_
  refine zct e3 (by rw [z6a]; exact lS) rfl ?_
  exact ⟨h, (z1r x n3).le, k⟩
def tw (i : Nat) : Nat := if i = 0 then 9007199254740916 else 9007199254740988
def subN (S M : List Nat) : Nat → List Nat
 | 0 => S
 | i + 1 => (subN S M i).set i (((subN S M i).getD i 0 + (tw i - M.getD i 0)) % 18446744073709551616)
theorem zih (S M : List Nat) : ∀ i, (subN S M i).length = S.length
 | 0 => rfl
 | i + 1 => by rw [subN, List.length_set, zih S M i]
theorem zr7 (a b : List Nat) (la : a.length = 5) (lb : b.length = 5) (hb : ∀ i, i < 5 → (carL (carL b)).getD i 0 ≤ tw i) (k : K (.agg (nv .u64 (carL (subN a (carL (carL b)) 5))).toArray) h) : Cn P z4P #[.agg (nv .u64 a).toArray, .agg (nv .u64 b).toArray] h K := by
 refine Cn_wk (zdP ?_)
 unfold z7I
 refine z3W la (.refl h) fun r1 H1 n1 m1 x1 y1 e1 f1 => ?_
 refine z3W lb x1 fun r2 H2 n2 m2 x2 y2 e2 f2 => ?_
 refine z15 x2 fun r3 H3 n3 m3 x3 y3 e3 f3 => ?_
 have e1' := y2 _ _ e1
 have ne12 : r1 ≠ r2 := by rintro rfl; rw [e1] at m2; cases m2
 have ne13 : r1 ≠ r3 := by rintro rfl; rw [e1'] at m3; cases m3
 have ne23 : r2 ≠ r3 := by rintro rfl; rw [e2] at m3; cases m3
 have e1'' := y3 _ _ e1'
 have e2' := y3 _ _ e2
 clear m1 m2 m3 f1 f2 f3 y1 y2 y3 e1 e1' e2
 rw [z1w z2l rfl (by rw [ze, lb]; exact z2L) e2']
 refine z3F _ lb ?_
 refine z3F _ (by rw [z6a, lb]) ?_
 have lc : (carL (carL b)).length = 5 := by rw [z6a, z6a, lb]
 generalize carL (carL b) = c at hb k lc
 refine zD (by rw [ze, lc]; exact z2L) e2' (by rw [ze, ze, lb, lc]) (zq _ _) (fun i _ => by simp) ?_
 refine Lp_mk (fun m vs H => ∃ i : Nat, i + m = 5 ∧ Hp.ext h H ∧ H r1 = some (.row zb (nv .u64 (subN a c i)) 5 (some (0, 0))) ∧ H r2 = some (.row zb (nv .u64 c) 5 (some (0, 0))) ∧ H r3 = some (.row zb (nv .u64 [0, 0, 0, 0, 0]) 5 (some (0, 0))) ∧ vs = [.int .i64 (i : Int)]) 5
  ⟨0, rfl, z1r x3 n2, by rw [Hp.set_ne _ _ ne12]; exact e1'', Hp.set_same .., by rw [Hp.set_ne _ _ (Ne.symm ne23)]; exact e3, rfl⟩ ?_
 clear e1'' e2' e3 x3 x2 x1
 rintro m vs H ⟨i, hi, x, e1, e2, e3, rfl⟩
 have lS : (subN a c i).length = 5 := by rw [zih, la]
 simp (disch := omega) only [GL, RL, z2D]
 by_cases hlt : i < 5
 ·have c1 := zJ (i := i) e1 (by omega)
  have c2 := zJ (i := i) e2 (by omega)
  have hbi := hb i hlt
  have ei : IntKind.i64.wrap ((i : Int) + 1) = ((i + 1 : Nat) : Int) := by rw [wi64 (by omega) (by omega)]; omega
  have fin : aw P (Instr.storeAt z7u (.pointer (some ⟨r1, i, none⟩)) (.int .u64 ((((subN a c i).getD i 0 + (tw i - c.getD i 0)) % 18446744073709551616 : Nat) : Int)))
    (fun _ h2 => ∃ h0, Hp.le h0 h2 ∧ ∃ m1, m1 < m ∧ ∃ i1 : Nat, i1 + m1 = 5 ∧ Hp.ext h h0 ∧ h0 r1 = some (.row zb (nv .u64 (subN a c i1)) 5 (some (0, 0))) ∧ h0 r2 = some (.row zb (nv .u64 c) 5 (some (0, 0))) ∧ h0 r3 = some (.row zb (nv .u64 [0, 0, 0, 0, 0]) 5 (some (0, 0))) ∧ [Value.int .i64 ((i + 1 : Nat) : Int)] = [.int .i64 (i1 : Int)]) H := by
   refine z1a z14 e1 (by omega) (by simp) ?_
   refine ⟨_, .refl _, m - 1, by omega, i + 1, by omega, z1r x n1, ?_, ?_, ?_, rfl⟩
   ·rw [Hp.set_same, subN]
   ·rw [Hp.set_ne _ _ (Ne.symm ne12)]; exact e2
   ·rw [Hp.set_ne _ _ (Ne.symm ne13)]; exact e3
  have sb : ∀ (t : Int) (T : Nat), IntKind.u64.wrap (2 * t) = (T : Int) → tw i = T → T < 18446744073709551616 → IntKind.u64.wrap (((subN a c i).getD i 0 : Nat) + IntKind.u64.wrap (IntKind.u64.wrap (2 * t) - ((c.getD i 0 : Nat) : Int))) = ((((subN a c i).getD i 0 + (tw i - c.getD i 0)) % 18446744073709551616 : Nat) : Int) := by
   intro t T h1 h2 h3
   have hT : c.getD i 0 ≤ T := by omega
   have e2 : (T : Int) - ((c.getD i 0 : Nat) : Int) = ((T - c.getD i 0 : Nat) : Int) := by omega
   have e3 : IntKind.u64.wrap ((T - c.getD i 0 : Nat) : Int) = ((T - c.getD i 0 : Nat) : Int) := z2j (by omega) (by omega)
   rw [h1, e2, e3, z2H, h2]
  by_cases h0 : i = 0
  ·subst h0
   have b0 : (((0 : Nat) : Int) == 0) = true := rfl
   simp (disch := omega) only [GL, RL, fe0, hlt, decide_true, if_true, c1, c2, b0, ei]
   rw [sb 4503599627370458 9007199254740916 (by decide +kernel) rfl (by decide)]
   exact fin
  ·have b0 : (((i : Nat) : Int) == 0) = false := by rw [beq_eq_false_iff_ne]; omega
   simp (disch := omega) only [GL, RL, fe0, hlt, decide_true, if_true, c1, c2, b0, Bool.false_eq_true, if_false, ei]
   rw [sb 4503599627370494 9007199254740988 (by decide +kernel) (by rw [tw, if_neg h0]) (by decide)]
   exact fin
 ·obtain rfl : i = 5 := by omega
  simp only [hlt, decide_false, Bool.false_eq_true, if_false]
  rw [z1w z2l rfl (by rw [ze, lS]; exact z2L) e1]
  refine z3F _ lS ?_
  refine zct e3 (by rw [z6a]; exact lS) rfl ?_
  exact ⟨h, (z1r x n3).le, k⟩
end
end Go.Proofs.YtoikhbagchfeoaaGreat
namespace Go.SL
open Go
section
variable {P : Program} {h : Hp}
theorem zbP {t : Nat} {b o : Nat} {e : TypeId} {xs : List Value} {cap : Nat} {f : Nat × Nat} {ys : List Value} {K : Unit → Hp → Prop} (hs : sz P t = some ys.length) (hb : h b = some (.row e xs cap (some f))) (hl : o + ys.length ≤ xs.length) (hfl : ∀ y ∈ ys, flat y = true)
  (hf : ∀ i, i < xs.length → ¬ (f.1 ≤ i ∧ i < f.2)) (k : K () (h.set b (.row e (putL xs o ys) cap (some f)))) : aw P (Instr.storeAt t (.pointer (some ⟨b, o, none⟩)) (.agg ys.toArray)) K h := by
 refine z4k ?_
 show awp P (Sem.bind (sizeOf t) _) K h
 rw [zl, zC P _ _ _ (z1S hs)]
 show awp P (if (Value.agg ys.toArray).cells.size ≠ ys.length then _ else _) K h
 rw [if_neg (by simp [Value.cells])]
 show awp P (storeCells ⟨b, o, none⟩ ys.toArray.toList 0) K h
 exact z4e ys xs h K o 0 hb hfl (by omega) hf k
theorem zii {t : Nat} {d : TypeDesc} {K : Value → Prop} {b o : Nat} {e : TypeId} {xs ys : List Value} {cap : Nat} {fz : Option (Nat × Nat)} (ht : P.underlying t = some d) (hd : aggB d = true) (hs : sz P t = some ys.length)
  (hb : h b = some (.row e xs cap fz)) (hy : ∀ (j : Nat) (x : Value), ys[j]? = some x → xs[o + j]? = some x) : q P h (Instr.loadAt t (.pointer (some ⟨b, o, none⟩))) K = K (.agg ys.toArray) :=
 z7i ht hd hs fun j x e => by rw [zj hb]; exact hy j x e
theorem zji (n c : Nat) (k' k2 : IntKind) (hi mx : Nat) (h2 : hi ≤ mx) (h3 : mx ≤ c) : peek P h (Instr.sliceBounds true n c none (some (.int k' hi)) (some (.int k2 mx))) = some (0, hi, mx) := by
 have e0 : peek P h (Instr.sliceBound (.int k2 (mx : Int)) c .slice3Acap) = some mx := z3u k2 mx c h3 _
 have e1 : peek P h (Instr.sliceBound (.int k' (hi : Int)) mx .slice3B) = some hi := z3u k' hi mx h2 _
 unfold Instr.sliceBounds
 simp only [if_true, Option.isSome_some, z2u e0, z2u e1]
 rfl
theorem zr8 {t e s : Nat} {K : Value → Prop} (ht : P.underlying t = some (.slice e)) (hs : sz P e = some s) (a : Option Addr) (n c : Nat) (k' k2 : IntKind) (hi mx : Nat) (h2 : hi ≤ mx) (h3 : mx ≤ c) :
  q P h (Instr.sliceAt t (.slice a n c) none (some (.int k' hi)) (some (.int k2 mx))) K = K (.slice (cut a mx 0 s) hi mx) := q_of (by
 show peek P h (Sem.bind (underlying t) _) = _
 rw [zh, z11 ht, Option.bind_some]
 show peek P h (Sem.bind (underlying t) _) = _
 rw [zh, z11 ht, Option.bind_some]
 show peek P h (Sem.bind (Instr.sliceBounds true n c _ _ _) _) = _
 rw [zh, zji n c k' k2 hi mx h2 h3, Option.bind_some]
 show peek P h (Sem.bind (sizeOf e) _) = _
 rw [zh, z1S hs]
 rfl) K
theorem zij {g : FuncId} {x y : Array Value} {args : List Value} {K : Value → Hp → Prop} (e : extB P g = false) (c : Cn P g (x.toList ++ args ++ y.toList).toArray h K) : z44 P (.func (.func g) x y) args h K := by
 show (if extB P g = true then _ else _)
 rw [if_neg (by rw [e]; decide)]
 exact c
end
end Go.SL
namespace Go.Proofs.YtoikhbagchfeoaaGreat
open Go Go.SL Go.Pure
theorem zeS {a : Nat} (ha : a < 18446744073709551616) : iand .u64 (a : Int) 4294967295 = ((a % 4294967296 : Nat) : Int) := by
 rw [z83 (by omega) (by omega) (by omega) (by omega), Int.toNat_natCast]
 have := Nat.and_two_pow_sub_one_eq_mod a 32
 simp only [Nat.reducePow, Nat.add_one_sub_one, Nat.reduceSub] at this
 show ((a &&& 4294967295 : Nat) : Int) = _
 rw [this]
theorem zgY (a : Nat) : ((a : Int).fdiv (2 ^ min ((32 : Int)).toNat IntKind.u64.bits)) = ((a / 4294967296 : Nat) : Int) := zeO a 32 (by omega)
theorem zmb (x y : Nat) (hx : x < 18446744073709551616) (hy : y < 18446744073709551616) :
  x * y = (x / 4294967296 * (y / 4294967296)) * 18446744073709551616 + (x / 4294967296 * (y % 4294967296) + x % 4294967296 * (y / 4294967296)) * 4294967296 + x % 4294967296 * (y % 4294967296) ∧
   x / 4294967296 * (y / 4294967296) ≤ 18446744065119617025 ∧ x / 4294967296 * (y % 4294967296) ≤ 18446744065119617025 ∧ x % 4294967296 * (y / 4294967296) ≤ 18446744065119617025 ∧ x % 4294967296 * (y % 4294967296) ≤ 18446744065119617025 := by
 have b1 : x / 4294967296 ≤ 4294967295 := by omega
 have b2 : x % 4294967296 ≤ 4294967295 := by omega
 have b3 : y / 4294967296 ≤ 4294967295 := by omega
 have b4 : y % 4294967296 ≤ 4294967295 := by omega
 have e1 : x = x / 4294967296 * 4294967296 + x % 4294967296 := by omega
 have e2 : y = y / 4294967296 * 4294967296 + y % 4294967296 := by omega
 refine ⟨?_, Nat.mul_le_mul b1 b3, Nat.mul_le_mul b1 b4, Nat.mul_le_mul b2 b3, Nat.mul_le_mul b2 b4⟩
 generalize x / 4294967296 = x1 at *
 generalize x % 4294967296 = x0 at *
 generalize y / 4294967296 = y1 at *
 generalize y % 4294967296 = y0 at *
 subst e1 e2
 grind
section
variable {h : Hp} {K : Value → Hp → Prop}
theorem zjR (x y : Nat) (hx : x < 18446744073709551616) (hy : y < 18446744073709551616) (k : K (.tuple #[.int .u64 ((x * y / 18446744073709551616 : Nat) : Int), .int .u64 ((x * y % 18446744073709551616 : Nat) : Int)]) h) :
  Cn P z7q #[.int .u64 (x : Int), .int .u64 (y : Int)] h K := by
 refine zhJ ?_
 unfold zbq
 obtain ⟨hxy, b1, b2, b3, b4⟩ := zmb x y hx hy
 simp (disch := omega) only [GL, RL, zeS hx, zeS hy, zgY, z6h]
 generalize x / 4294967296 * (y / 4294967296) = D at *
 generalize x / 4294967296 * (y % 4294967296) = B at *
 generalize x % 4294967296 * (y / 4294967296) = C at *
 generalize x % 4294967296 * (y % 4294967296) = A at *
 have w1 : A % 18446744073709551616 = A := Nat.mod_eq_of_lt (by omega)
 have w2 : B % 18446744073709551616 = B := Nat.mod_eq_of_lt (by omega)
 have w3 : C % 18446744073709551616 = C := Nat.mod_eq_of_lt (by omega)
 have w4 : D % 18446744073709551616 = D := Nat.mod_eq_of_lt (by omega)
 simp (disch := omega) only [GL, RL, zgY, z6h, z2H, w1, w2, w3, w4]
 have w5 : (B + A / 4294967296) % 18446744073709551616 = B + A / 4294967296 := Nat.mod_eq_of_lt (by omega)
 simp (disch := omega) only [GL, RL, zeS, zgY, z6h, z2H, w5]
 have w6 : ((B + A / 4294967296) % 4294967296 + C) % 18446744073709551616 = (B + A / 4294967296) % 4294967296 + C := Nat.mod_eq_of_lt (by omega)
 have w7 : (D + (B + A / 4294967296) / 4294967296) % 18446744073709551616 = D + (B + A / 4294967296) / 4294967296 := Nat.mod_eq_of_lt (by omega)
 simp (disch := omega) only [GL, RL, zeS, zgY, z6h, z2H, w6, w7]
 have e : (D + (B + A / 4294967296) / 4294967296 + ((B + A / 4294967296) % 4294967296 + C) / 4294967296) % 18446744073709551616 = x * y / 18446744073709551616 := by rw [hxy]; omega
 rw [e]
 exact k
theorem zcu (a b : Nat) : exP P z7p #[.int .u64 (a : Int), .int .u64 (b : Int), .int .u64 0] h K = K (.tuple #[.int .u64 (((a + b) % 18446744073709551616 : Nat) : Int), .int .u64 (((a + b) / 18446744073709551616 : Nat) : Int)]) h :=
 zlD (v := .tuple #[.int .u64 (((a + b) % 18446744073709551616 : Nat) : Int), .int .u64 (((a + b) / 18446744073709551616 : Nat) : Int)]) (by kernel_rfl)
theorem zpE (a b : Nat) : exP P z7p #[.int .u64 (a : Int), .int .u64 (b : Int), .int .u64 1] h K = K (.tuple #[.int .u64 (((a + b + 1) % 18446744073709551616 : Nat) : Int), .int .u64 (((a + b + 1) / 18446744073709551616 : Nat) : Int)]) h :=
 zlD (v := .tuple #[.int .u64 (((a + b + 1) % 18446744073709551616 : Nat) : Int), .int .u64 (((a + b + 1) / 18446744073709551616 : Nat) : Int)]) (by kernel_rfl)
theorem zmc (a b c : Nat) (hc : c ≤ 1) : exP P z7p #[.int .u64 (a : Int), .int .u64 (b : Int), .int .u64 (c : Int)] h K = K (.tuple #[.int .u64 (((a + b + c) % 18446744073709551616 : Nat) : Int), .int .u64 (((a + b + c) / 18446744073709551616 : Nat) : Int)]) h := by
 match c with
 | 0 => exact zcu a b
 | 1 => exact zpE a b
 | c + 2 => omega
theorem fw0 {h : Hp} {K : Value → Prop} (b o : Nat) : q P h (Instr.fieldAt zu (.pointer (some ⟨b, o, none⟩)) 0) K = K (.pointer (some ⟨b, o + 0, none⟩)) := q_of (by kernel_rfl) K
theorem fw1 {h : Hp} {K : Value → Prop} (b o : Nat) : q P h (Instr.fieldAt zu (.pointer (some ⟨b, o, none⟩)) 1) K = K (.pointer (some ⟨b, o + 1, none⟩)) := q_of (by kernel_rfl) K
def wv (v : Nat) : List Nat := [v / 18446744073709551616, v % 18446744073709551616]
theorem z3i (v : Nat) : (wv v).length = 2 := rfl
theorem z6b : sz P zu = some 2 := by kernel_rfl
theorem zfS : zr P zu = some (.agg (nv .u64 [0, 0]).toArray) := by kernel_rfl
theorem zr9 (v x y : Nat) (hv : v + x * y < 340282366920938463463374607431768211456) (hx : x < 18446744073709551616) (hy : y < 18446744073709551616) (k : K (.agg (nv .u64 (wv (v + x * y))).toArray) h) :
  Cn P zcK #[.agg (nv .u64 (wv v)).toArray, .int .u64 (x : Int), .int .u64 (y : Int)] h K := by
 refine Cn_wk (zd0 ?_)
 unfold z6P
 refine z2S fun r1 m1 => ?_
 have hC : (Value.agg (nv .u64 (wv v)).toArray).cells.toList = nv .u64 (wv v) := rfl
 have hC2 : (Value.agg (nv .u64 (wv v)).toArray).cells.size = 2 := rfl
 rw [hC, hC2]
 refine zS (nv .u64 [0, 0]) zfS rfl fun r2 m2 => ?_
 have ne : r1 ≠ r2 := by rintro rfl; rw [Hp.set_same] at m2; cases m2
 have n2 : h r2 = none := by rwa [Hp.set_ne _ _ (Ne.symm ne)] at m2
 have x0 : Hp.ext h ((h.set r1 (.row zu (nv .u64 (wv v)) 2 (some (0, 0)))).set r2 (.row zu (nv .u64 [0, 0]) 2 (some (0, 0)))) := (z1x _ m1).trans (z1x _ m2)
 have e1 : ((h.set r1 (.row zu (nv .u64 (wv v)) 2 (some (0, 0)))).set r2 (.row zu (nv .u64 [0, 0]) 2 (some (0, 0)))) r1 = some (.row zu (nv .u64 (wv v)) 2 (some (0, 0))) := by rw [Hp.set_ne _ _ ne, Hp.set_same]
 have e2 : ((h.set r1 (.row zu (nv .u64 (wv v)) 2 (some (0, 0)))).set r2 (.row zu (nv .u64 [0, 0]) 2 (some (0, 0)))) r2 = some (.row zu (nv .u64 [0, 0]) 2 (some (0, 0))) := Hp.set_same ..
 show Cn P z7q _ ((h.set r1 (.row zu (nv .u64 (wv v)) 2 (some (0, 0)))).set r2 (.row zu (nv .u64 [0, 0]) 2 (some (0, 0)))) _
 generalize (h.set r1 (.row zu (nv .u64 (wv v)) 2 (some (0, 0)))).set r2 (.row zu (nv .u64 [0, 0]) 2 (some (0, 0))) = H at *
 refine zjR x y hx hy ?_
 have c1 := zJ (i := 1) e1 (by rw [z3i]; omega)
 rw [ext0, ext1]
 simp (disch := omega) only [GL, RL, fw0, fw1, c1]
 rw [zcu, ext0, ext1]
 refine z1a z14 e1 (by rw [z3i]; omega) (by simp) ?_
 have e1b : (H.set r1 (.row zu (nv .u64 ((wv v).set 1 (((wv v).getD 1 0 + x * y % 18446744073709551616) % 18446744073709551616))) 2 (some (0, 0)))) r1 = _ := Hp.set_same ..
 have c2 := zJ (i := 0) e1b (by rw [List.length_set, z3i]; omega)
 simp (disch := omega) only [GL, RL, fw0, fw1, c2]
 rw [zmc _ _ _ (by
  have h1 : (wv v).getD 1 0 = v % 18446744073709551616 := rfl
  rw [h1]
  omega), ext0, ext1]
 refine z1a z14 e1b (by rw [List.length_set, z3i]; omega) (by simp) ?_
 rw [Hp.set_set]
 have fin : (((wv v).set 1 (((wv v).getD 1 0 + x * y % 18446744073709551616) % 18446744073709551616)).set 0
   ((((wv v).set 1 (((wv v).getD 1 0 + x * y % 18446744073709551616) % 18446744073709551616)).getD 0 0 + x * y / 18446744073709551616 + ((wv v).getD 1 0 + x * y % 18446744073709551616) / 18446744073709551616) % 18446744073709551616)) = wv (v + x * y) := by
  simp only [wv, List.set_cons_succ, List.set_cons_zero, List.getD_cons_zero, List.getD_cons_succ]
  generalize x * y = z at *
  congr 1
  ·omega
  ·congr 1
   omega
 rw [fin]
 have l2 : sz P zu = some (nv .u64 (wv (v + x * y))).length := by rw [ze]; exact z6b
 rw [z1w z7w rfl l2 (Hp.set_same ..)]
 refine zD (xs := nv .u64 [0, 0]) (f := (0, 0)) l2 (by rw [Hp.set_ne _ _ (Ne.symm ne)]; exact e2) (by rw [ze, ze]; rfl) (zq _ _) (fun i _ => by simp) ?_
 rw [z33 z7w rfl l2 (Hp.set_same ..)]
 exact ⟨h, (z1r (z1r x0 m1) n2).le, k⟩
end
set_option maxHeartbeats 4000000
theorem len5 : ∀ {l : List Nat}, l.length = 5 → ∃ a b c d e, l = [a, b, c, d, e]
 | [a, b, c, d, e], _ => ⟨a, b, c, d, e, rfl⟩
 | [], h => by simp at h
 | [_], h => by simp at h
 | [_, _], h => by simp at h
 | [_, _, _], h => by simp at h
 | [_, _, _, _], h => by simp at h
 | _ :: _ :: _ :: _ :: _ :: _ :: _, h => by simp at h
def z5q (a b : List Nat) (i : Nat) (W : List Nat) : Nat → List Nat
 | 0 => W
 | k + 1 => (z5q a b i W k).set ((i + k) % 5) ((z5q a b i W k).getD ((i + k) % 5) 0 + a.getD i 0 * (if 5 ≤ i + k then b.getD k 0 * 19 else b.getD k 0))
def z3j (a b : List Nat) : Nat → List Nat
 | 0 => [0, 0, 0, 0, 0]
 | i + 1 => z5q a b i (z3j a b i) 5
theorem zbQ (a b : List Nat) (i : Nat) (W : List Nat) : ∀ k, (z5q a b i W k).length = W.length
 | 0 => rfl
 | k + 1 => by rw [z5q, List.length_set, zbQ a b i W k]
theorem zeT (a b : List Nat) : ∀ i, (z3j a b i).length = 5
 | 0 => rfl
 | i + 1 => by rw [z3j, zbQ, zeT a b i]
theorem zmd (a b c d e v w x y z : Nat) : z3j [a, b, c, d, e] [v, w, x, y, z] 5 =
  [0 + a*v + b*(z*19) + c*(y*19) + d*(x*19) + e*(w*19), 0 + a*w + b*v + c*(z*19) + d*(y*19) + e*(x*19), 0 + a*x + b*w + c*v + d*(z*19) + e*(y*19), 0 + a*y + b*x + c*w + d*v + e*(z*19), 0 + a*z + b*y + c*x + d*w + e*v] := by
 simp [z3j, z5q]
def carW (W : List Nat) : Nat → List Nat × Nat
 | 0 => ([0, 0, 0, 0, 0], 0)
 | i + 1 => ((carW W i).1.set i ((W.getD i 0 + (carW W i).2) % 2251799813685248), (W.getD i 0 + (carW W i).2) / 2251799813685248)
theorem zik (W : List Nat) : ∀ i, (carW W i).1.length = 5
 | 0 => rfl
 | i + 1 => by rw [carW, List.length_set, zik W i]
theorem zjS {W : List Nat} (h : ∀ i, W.getD i 0 < 10384593717069655257060992658440192) : ∀ i, (carW W i).2 < 10384593717069655257060992658440192
 | 0 => by show 0 < _; omega
 | i + 1 => by
  have := zjS h i
  have := h i
  rw [carW]
  show (W.getD i 0 + (carW W i).2) / 2251799813685248 < _
  omega
def zeU (W : List Nat) : List Nat :=
 ((carW W 5).1.set 0 ((19 * (carW W 5).2 + (carW W 5).1.getD 0 0) % 2251799813685248)).set 1 (((carW W 5).1.getD 1 0) + (19 * (carW W 5).2 + (carW W 5).1.getD 0 0) / 2251799813685248)
def fl2 (W : List Nat) : List Nat := W.flatMap wv
theorem zpF {W : List Nat} (lW : W.length = 5) {j : Nat} (hj : j < 5) (i : Nat) (x : Value) (hx : (nv .u64 (wv (W.getD j 0)))[i]? = some x) : (nv .u64 (fl2 W))[0 + j * 2 + i]? = some x := by
 obtain ⟨a, b, c, d, e, rfl⟩ := len5 lW
 match i with
 | 0 =>
  match j with
  | 0 => exact hx
  | 1 => exact hx
  | 2 => exact hx
  | 3 => exact hx
  | 4 => exact hx
 | 1 =>
  match j with
  | 0 => exact hx
  | 1 => exact hx
  | 2 => exact hx
  | 3 => exact hx
  | 4 => exact hx
 | i + 2 => simp [nv, wv] at hx
theorem zpG {W : List Nat} (lW : W.length = 5) {j : Nat} (hj : j < 5) (z : Nat) : putL (nv .u64 (fl2 W)) (0 + j * 2) (nv .u64 (wv z)) = nv .u64 (fl2 (W.set j z)) := by
 obtain ⟨a, b, c, d, e, rfl⟩ := len5 lW
 match j with
 | 0 => rfl
 | 1 => rfl
 | 2 => rfl
 | 3 => rfl
 | 4 => rfl
theorem zjT {W : List Nat} (lW : W.length = 5) : (fl2 W).length = 10 := by
 obtain ⟨a, b, c, d, e, rfl⟩ := len5 lW
 rfl
theorem idx5 {h : Hp} {K : Value → Prop} {a : List Nat} (la : a.length = 5) {i : Nat} (hi : i < 5) : q P h (Instr.index zet (.agg (nv .u64 a).toArray) (.int .i64 (i : Int))) K = K (.int .u64 ((a.getD i 0 : Nat) : Int)) := by
 obtain ⟨a, b, c, d, e, rfl⟩ := len5 la
 match i with
 | 0 => exact q_of (by kernel_rfl) K
 | 1 => exact q_of (by kernel_rfl) K
 | 2 => exact q_of (by kernel_rfl) K
 | 3 => exact q_of (by kernel_rfl) K
 | 4 => exact q_of (by kernel_rfl) K
theorem idxW {h : Hp} {K : Value → Prop} {W : List Nat} (la : W.length = 5) {i : Nat} (hi : i < 5) : q P h (Instr.index z1B (.agg (nv .u64 (fl2 W)).toArray) (.int .i64 (i : Int))) K = K (.agg (nv .u64 (wv (W.getD i 0))).toArray) := by
 obtain ⟨a, b, c, d, e, rfl⟩ := len5 la
 match i with
 | 0 => exact q_of (by kernel_rfl) K
 | 1 => exact q_of (by kernel_rfl) K
 | 2 => exact q_of (by kernel_rfl) K
 | 3 => exact q_of (by kernel_rfl) K
 | 4 => exact q_of (by kernel_rfl) K
theorem ix5w {h : Hp} {K : Value → Prop} (b j : Nat) (hj : j < 5) : q P h (Instr.indexAt z1B (.pointer (some ⟨b, 0, none⟩)) (.int .i64 (j : Int))) K = K (.pointer (some ⟨b, 0 + j * 2, none⟩)) := by
 rw [z3x z8E z6b _ _ _ (by omega) (by omega), Int.toNat_natCast, z1d]
theorem znP : zr P z1B = some (.agg (nv .u64 (fl2 [0, 0, 0, 0, 0])).toArray) := by kernel_rfl
theorem znQ : sz P z1B = some 10 := by kernel_rfl
theorem zme {h : Hp} {K : Value → Prop} : q P h (Instr.build zu #[]) K = K (.agg (nv .u64 (wv 0)).toArray) := q_of (by kernel_rfl) K
theorem znR {h : Hp} {K : Value → Prop} (a b : Int) : q P h (Instr.build zu #[(0, .int .u64 a), (1, .int .u64 b)]) K = K (.agg #[.int .u64 a, .int .u64 b]) := q_of (by kernel_rfl) K
theorem or13 (a b : Nat) (ha : a < 8192) (hb : b * 8192 < 18446744073709551616) : ior .u64 (a : Int) ((b * 8192 : Nat) : Int) = ((a + b * 8192 : Nat) : Int) := by
 rw [or64 (by omega) (by omega) (by omega) (by omega), Int.toNat_natCast, Int.toNat_natCast]
 have := Nat.two_pow_add_eq_or_of_lt (i := 13) (b := a) (by simpa using ha) b
 rw [Nat.or_comm, Nat.mul_comm b, show 8192 = 2 ^ 13 from rfl, ← this, Nat.add_comm]
theorem zoI (a : Nat) (ha : a * 8192 < 18446744073709551616) : IntKind.u64.wrap ((a : Int) * 2 ^ min ((13 : Int)).toNat IntKind.u64.bits) = ((a * 8192 : Nat) : Int) := by
 have e : ((a : Int) * 2 ^ min ((13 : Int)).toNat IntKind.u64.bits) = ((a * 8192 : Nat) : Int) := by
  show (a : Int) * 2 ^ 13 = _
  omega
 rw [e, wu64, Nat.mod_eq_of_lt ha]
theorem zsv (i k : Nat) : ((i : Int) + (k : Int)).tmod 5 = (((i + k) % 5 : Nat) : Int) := by
 rw [Int.tmod_eq_emod_of_nonneg (by omega)]; omega
theorem zpH (i k : Nat) : decide ((5 : Int) ≤ (i : Int) + (k : Int)) = decide (5 ≤ i + k) := by
 rw [decide_eq_decide]; omega
section
variable {h : Hp} {K : Value → Hp → Prop}
theorem znS (x : Nat) (hx : x < 18446744073709551616) (k : K (.tuple #[.int .u64 ((x * 19 / 18446744073709551616 : Nat) : Int), .int .u64 ((x * 19 % 18446744073709551616 : Nat) : Int)]) h) :
  Cn P z7q #[.int .u64 (x : Int), .int .u64 19] h K := zjR x 19 hx (by omega) k
theorem zra (a b : List Nat) (la : a.length = 5) (lb : b.length = 5) (ha : ∀ i, a.getD i 0 < 4503599627370496) (hb : ∀ i, b.getD i 0 < 4503599627370496) (hW : ∀ i, (z3j a b 5).getD i 0 < 10384593717069655257060992658440192) (hc : (carW (z3j a b 5) 5).2 < 288230376151711744)
  (k : K (.agg (nv .u64 (carL (zeU (z3j a b 5)))).toArray) h) : Cn P z1X #[.agg (nv .u64 a).toArray, .agg (nv .u64 b).toArray] h K := by
 refine Cn_wk (zdI ?_)
 unfold z7B
 refine z3W la (.refl h) fun r1 H1 n1 m1 x1 y1 e1 f1 => ?_
 refine z3W lb x1 fun r2 H2 n2 m2 x2 y2 e2 f2 => ?_
 refine z15 x2 fun r3 H3 n3 m3 x3 y3 e3 f3 => ?_
 have e1' := y3 _ _ (y2 _ _ e1)
 have e2' := y3 _ _ e2
 refine zS (nv .u64 (fl2 [0, 0, 0, 0, 0])) znP rfl fun r4 m4 => ?_
 rw [show (nv .u64 (fl2 [0, 0, 0, 0, 0])).length = 10 from rfl]
 have n4 := x3.none m4
 have x4 : Hp.ext h (H3.set r4 (.row z1B (nv .u64 (fl2 [0, 0, 0, 0, 0])) 10 (some (0, 0)))) := x3.trans (z1x _ m4)
 have ne14 : r1 ≠ r4 := by rintro rfl; rw [e1'] at m4; cases m4
 have ne24 : r2 ≠ r4 := by rintro rfl; rw [e2'] at m4; cases m4
 have ne34 : r3 ≠ r4 := by rintro rfl; rw [e3] at m4; cases m4
 have E1 : (H3.set r4 (.row z1B (nv .u64 (fl2 [0, 0, 0, 0, 0])) 10 (some (0, 0)))) r1 = some (.row zb (nv .u64 a) 5 (some (0, 0))) := by rw [Hp.set_ne _ _ ne14]; exact e1'
 have E2 : (H3.set r4 (.row z1B (nv .u64 (fl2 [0, 0, 0, 0, 0])) 10 (some (0, 0)))) r2 = some (.row zb (nv .u64 b) 5 (some (0, 0))) := by rw [Hp.set_ne _ _ ne24]; exact e2'
 have E3 : (H3.set r4 (.row z1B (nv .u64 (fl2 [0, 0, 0, 0, 0])) 10 (some (0, 0)))) r3 = some (.row zb (nv .u64 [0, 0, 0, 0, 0]) 5 (some (0, 0))) := by rw [Hp.set_ne _ _ ne34]; exact e3
 have E4 : (H3.set r4 (.row z1B (nv .u64 (fl2 [0, 0, 0, 0, 0])) 10 (some (0, 0)))) r4 = some (.row z1B (nv .u64 (fl2 [0, 0, 0, 0, 0])) 10 (some (0, 0))) := Hp.set_same ..
 rw [fe0, z1w z9v rfl (by rw [ze, la]; exact z9w) E1]
 have inc5 : ∀ {i : Nat}, i < 5 → IntKind.i64.wrap ((i : Int) + 1) = ((i + 1 : Nat) : Int) := fun {i} hi => by rw [wi64 (by omega) (by omega)]; omega
 refine Lp_mk (fun m vs H => ∃ i : Nat, i + m = 5 ∧ Hp.ext h H ∧ H r2 = some (.row zb (nv .u64 b) 5 (some (0, 0))) ∧ H r3 = some (.row zb (nv .u64 [0, 0, 0, 0, 0]) 5 (some (0, 0))) ∧ H r4 = some (.row z1B (nv .u64 (fl2 (z3j a b i))) 10 (some (0, 0))) ∧ (∀ j, (z3j a b i).getD j 0 ≤ i * 5 * 649037107316853453566312041152512) ∧ vs = [.int .i64 (i : Int)]) 5
  ⟨0, rfl, x4, E2, E3, E4, fun j => by
   match j with
   | 0 => exact Nat.zero_le _
   | 1 => exact Nat.zero_le _
   | 2 => exact Nat.zero_le _
   | 3 => exact Nat.zero_le _
   | 4 => exact Nat.zero_le _
   | j + 5 => exact Nat.zero_le _, rfl⟩ ?_
 clear E1 E2 E3 E4 x4 m4 e1' e2' e3 x1 x2 x3 y1 y2 y3 e1 e2 f1 f2 f3 m1 m2 m3
 rintro m vs H ⟨i, hi, x, e2, e3, e4, hB, rfl⟩
 have lW := zeT a b i
 simp -zeta (disch := omega) only [GL, RL, z2D]
 by_cases hlt : i < 5
 ·simp -zeta (disch := omega) only [hlt, decide_true, if_true]
  rw [idx5 la hlt, fe0, z1w z9v rfl (by rw [ze, lb]; exact z9w) e2]
  refine Lp_mk (fun m' vs' H' => ∃ k : Nat, k + m' = 5 ∧ Hp.ext h H' ∧ H' r2 = some (.row zb (nv .u64 b) 5 (some (0, 0))) ∧ H' r3 = some (.row zb (nv .u64 [0, 0, 0, 0, 0]) 5 (some (0, 0))) ∧ H' r4 = some (.row z1B (nv .u64 (fl2 (z5q a b i (z3j a b i) k))) 10 (some (0, 0))) ∧ (∀ j, (z5q a b i (z3j a b i) k).getD j 0 ≤ (i * 5 + k) * 649037107316853453566312041152512) ∧ vs' = [.int .i64 (k : Int)]) 5
   ⟨0, rfl, x, e2, e3, e4, hB, rfl⟩ ?_
  clear x e2 e3 e4 hB
  rintro m' vs' H' ⟨kk, hk, x, e2, e3, e4, hB, rfl⟩
  simp -zeta (disch := omega) only [GL, RL, z2D]
  by_cases hlk : kk < 5
  ·simp -zeta (disch := omega) only [hlk, decide_true, if_true]
   rw [idx5 lb hlk]
   intro J
   have qJ : ∀ Y : Nat, Y = (if 5 ≤ i + kk then b.getD kk 0 * 19 else b.getD kk 0) → J (.int .u64 (Y : Int)) H' := by
    intro Y hY
    simp -zeta only [J]
    clear J
    have hj : (i + kk) % 5 < 5 := Nat.mod_lt _ (by decide)
    have lV : (z5q a b i (z3j a b i) kk).length = 5 := by rw [zbQ, lW]
    have hYb : Y < 144115188075855872 := by
     have := hb kk
     rw [hY]
     split <;> omega
    have hai := ha i
    have hBj := hB ((i + kk) % 5)
    have hpr : a.getD i 0 * Y ≤ 649037107316853453566312041152512 := by
     have := Nat.mul_le_mul (Nat.le_of_lt hai) (Nat.le_of_lt hYb)
     omega
    have wik : IntKind.i64.wrap ((i : Int) + (kk : Int)) = (i : Int) + (kk : Int) := wi64 (by omega) (by omega)
    have n5 : ((5 : Int) ≠ 0) := by decide
    simp -zeta (disch := first | omega | decide) only [GL, RL, wik, zsv]
    rw [ix5w _ _ hj, zii z7w rfl (by rw [ze]; exact z6b) e4 (zpF lV hj)]
    refine zr9 _ _ _ (by omega) (by omega) (by omega) ?_
    rw [ix5w _ _ hj]
    refine zbP (by rw [ze]; exact z6b) e4 (by rw [ze, ze, zjT lV, z3i]; omega) (zq _ _) (fun i _ => by simp) ?_
    rw [zpG lV hj]
    simp -zeta (disch := first | omega | decide) only [GL, RL, inc5 hlk]
    refine ⟨_, .refl _, m' - 1, by omega, kk + 1, by omega, z1r x n4, by rw [Hp.set_ne _ _ ne24]; exact e2, by rw [Hp.set_ne _ _ ne34]; exact e3, by rw [Hp.set_same, z5q, hY], ?_, rfl⟩
    intro j
    rw [z5q, ← hY, List.getD_eq_getElem?_getD, List.getElem?_set]
    split
    ·rename_i hjj
     split
     ·show _ + _ ≤ _
      omega
     ·exact Nat.zero_le _
    ·have := hB j
     rw [List.getD_eq_getElem?_getD] at this
     exact Nat.le_trans this (Nat.mul_le_mul_right _ (by omega))
   clear_value J
   have wik : IntKind.i64.wrap ((i : Int) + (kk : Int)) = (i : Int) + (kk : Int) := wi64 (by omega) (by omega)
   simp -zeta (disch := omega) only [GL, RL, wik, zpH]
   by_cases h5 : 5 ≤ i + kk
   ·have := hb kk
    have m19 : IntKind.u64.wrap (((b.getD kk 0 : Nat) : Int) * 19) = ((b.getD kk 0 * 19 : Nat) : Int) := by
     have e := z6h (b.getD kk 0) 19
     rw [Nat.mod_eq_of_lt (by omega)] at e
     exact e
    simp -zeta (disch := omega) only [h5, decide_true, if_true, GL, RL, m19]
    exact qJ _ (by rw [if_pos h5])
   ·simp -zeta (disch := omega) only [h5, decide_false, Bool.false_eq_true, if_false]
    exact qJ _ (by rw [if_neg h5])
  ·obtain rfl : kk = 5 := by omega
   simp -zeta (disch := omega) only [hlk, decide_false, Bool.false_eq_true, if_false, GL, RL, inc5 hlt]
   exact ⟨_, .refl _, m - 1, by omega, i + 1, by omega, x, e2, e3, e4, fun j => by rw [z3j]; exact Nat.le_trans (hB j) (Nat.mul_le_mul_right _ (by omega)), rfl⟩
 ·obtain rfl : i = 5 := by omega
  simp -zeta only [hlt, decide_false, Bool.false_eq_true, if_false]
  clear hB hi hlt e2 ha hb
  generalize z3j a b 5 = W at *
  refine z15 x fun r5 H5 n5 m5 x5 y5 e5 f5 => ?_
  have e3' := y5 _ _ e3
  have e4' := y5 _ _ e4
  have ne35 : r3 ≠ r5 := by rintro rfl; rw [e3] at m5; cases m5
  have ne45 : r4 ≠ r5 := by rintro rfl; rw [e4] at m5; cases m5
  rw [zme]
  refine zS (nv .u64 [0, 0]) zfS rfl fun r6 m6 => ?_
  rw [show (nv .u64 [0, 0]).length = 2 from rfl]
  have n6 := x5.none m6
  have ne36 : r3 ≠ r6 := by rintro rfl; rw [e3'] at m6; cases m6
  have ne46 : r4 ≠ r6 := by rintro rfl; rw [e4'] at m6; cases m6
  have ne56 : r5 ≠ r6 := by rintro rfl; rw [e5] at m6; cases m6
  refine zD (xs := nv .u64 [0, 0]) (f := (0, 0)) (by rw [ze]; exact z6b) (Hp.set_same ..) (by rw [ze, ze]; rfl) (zq _ _) (fun i _ => by simp) ?_
  have e4s : (H5.set r6 (.row zu (nv .u64 (wv 0)) 2 (some (0, 0)))) r4 = some (.row z1B (nv .u64 (fl2 W)) 10 (some (0, 0))) := by rw [Hp.set_ne _ _ ne46]; exact e4'
  rw [Hp.set_set, z1w z8E rfl (by rw [ze, zjT lW]; exact znQ) e4s]
  refine Lp_mk (fun m vs H => ∃ i : Nat, i + m = 5 ∧ Hp.ext h H ∧ H r3 = some (.row zb (nv .u64 [0, 0, 0, 0, 0]) 5 (some (0, 0))) ∧ H r5 = some (.row zb (nv .u64 (carW W i).1) 5 (some (0, 0))) ∧ H r6 = some (.row zu (nv .u64 (wv (carW W i).2)) 2 (some (0, 0))) ∧ vs = [.int .i64 (i : Int)]) 5
   ⟨0, rfl, z1r (x5.trans (Hp.ext.refl _)) n6, by rw [Hp.set_ne _ _ ne36]; exact e3', by rw [Hp.set_ne _ _ ne56]; exact e5, Hp.set_same .., rfl⟩ ?_
  clear x e3 e4 x5 y5 e3' e4' e5 f5 m5 m6
  rintro m vs H ⟨i, hi, x, e3, e5, e6, rfl⟩
  have lC := zik W i
  have bC := zjS hW i
  have bW := hW i
  simp -zeta (disch := omega) only [GL, RL, z2D]
  by_cases hlt : i < 5
  ·simp -zeta (disch := omega) only [hlt, decide_true, if_true]
   rw [idxW lW hlt]
   refine zS (nv .u64 [0, 0]) zfS rfl fun r7 m7 => ?_
   rw [show (nv .u64 [0, 0]).length = 2 from rfl]
   have n7 := x.none m7
   have ne37 : r3 ≠ r7 := by rintro rfl; rw [e3] at m7; cases m7
   have ne57 : r5 ≠ r7 := by rintro rfl; rw [e5] at m7; cases m7
   have ne67 : r6 ≠ r7 := by rintro rfl; rw [e6] at m7; cases m7
   refine zD (xs := nv .u64 [0, 0]) (f := (0, 0)) (by rw [ze]; exact z6b) (Hp.set_same ..) (by rw [ze, ze]; rfl) (zq _ _) (fun i _ => by simp) ?_
   rw [Hp.set_set]
   have x7 := z1r (o := .row zu (nv .u64 (wv (W.getD i 0))) 2 (some (0, 0))) x n7
   have e3b : (H.set r7 (.row zu (nv .u64 (wv (W.getD i 0))) 2 (some (0, 0)))) r3 = some (.row zb (nv .u64 [0, 0, 0, 0, 0]) 5 (some (0, 0))) := by rw [Hp.set_ne _ _ ne37]; exact e3
   have e5b : (H.set r7 (.row zu (nv .u64 (wv (W.getD i 0))) 2 (some (0, 0)))) r5 = some (.row zb (nv .u64 (carW W i).1) 5 (some (0, 0))) := by rw [Hp.set_ne _ _ ne57]; exact e5
   have e6b : (H.set r7 (.row zu (nv .u64 (wv (W.getD i 0))) 2 (some (0, 0)))) r6 = some (.row zu (nv .u64 (wv (carW W i).2)) 2 (some (0, 0))) := by rw [Hp.set_ne _ _ ne67]; exact e6
   have e7 : (H.set r7 (.row zu (nv .u64 (wv (W.getD i 0))) 2 (some (0, 0)))) r7 = some (.row zu (nv .u64 (wv (W.getD i 0))) 2 (some (0, 0))) := Hp.set_same ..
   generalize H.set r7 (.row zu (nv .u64 (wv (W.getD i 0))) 2 (some (0, 0))) = G at *
   have c1 := zJ (i := 1) e7 (by rw [z3i]; omega)
   have c2 := zJ (i := 1) e6b (by rw [z3i]; omega)
   simp -zeta (disch := omega) only [GL, RL, fw0, fw1, c1, c2]
   rw [zcu, ext0, ext1]
   refine z1a z14 e7 (by rw [z3i]; omega) (by simp) ?_
   generalize hS : W.getD i 0 + (carW W i).2 = S at *
   have hSb : S < 20769187434139310514121985316880384 := by omega
   have w0 : ∀ v, (wv v).getD 0 0 = v / 18446744073709551616 := fun v => rfl
   have w1 : ∀ v, (wv v).getD 1 0 = v % 18446744073709551616 := fun v => rfl
   have lo : ((wv (W.getD i 0)).getD 1 0 + (wv (carW W i).2).getD 1 0) % 18446744073709551616 = S % 18446744073709551616 := by rw [w1, w1, ← hS]; omega
   have e7b : (G.set r7 (.row zu (nv .u64 ((wv (W.getD i 0)).set 1 (S % 18446744073709551616))) 2 (some (0, 0)))) r7 = _ := Hp.set_same ..
   rw [lo]
   have c3 := zJ (i := 0) e7b (by rw [List.length_set, z3i]; omega)
   have c4 := zJ (i := 0) (h := G.set r7 (.row zu (nv .u64 ((wv (W.getD i 0)).set 1 (S % 18446744073709551616))) 2 (some (0, 0)))) (g := r6) (by rw [Hp.set_ne _ _ ne67]; exact e6b) (by rw [z3i]; omega)
   have hu : ((wv (W.getD i 0)).getD 1 0 + (wv (carW W i).2).getD 1 0) / 18446744073709551616 ≤ 1 := by rw [w1, w1]; omega
   simp -zeta (disch := omega) only [GL, RL, fw0, fw1, c3, c4]
   rw [zmc _ _ _ hu, ext0, ext1]
   refine z1a z14 e7b (by rw [List.length_set, z3i]; omega) (by simp) ?_
   rw [Hp.set_set]
   have hiS : (((wv (W.getD i 0)).set 1 (S % 18446744073709551616)).getD 0 0 + (wv (carW W i).2).getD 0 0 + ((wv (W.getD i 0)).getD 1 0 + (wv (carW W i).2).getD 1 0) / 18446744073709551616) % 18446744073709551616 = S / 18446744073709551616 := by
    have q0 : ((wv (W.getD i 0)).set 1 (S % 18446744073709551616)).getD 0 0 = W.getD i 0 / 18446744073709551616 := rfl
    rw [q0, w0, w1, w1, ← hS]
    omega
   rw [hiS]
   have hrow : ((wv (W.getD i 0)).set 1 (S % 18446744073709551616)).set 0 (S / 18446744073709551616) = wv S := rfl
   rw [hrow]
   have e7c : (G.set r7 (.row zu (nv .u64 (wv S)) 2 (some (0, 0)))) r7 = some (.row zu (nv .u64 (wv S)) 2 (some (0, 0))) := Hp.set_same ..
   have e5c : (G.set r7 (.row zu (nv .u64 (wv S)) 2 (some (0, 0)))) r5 = some (.row zb (nv .u64 (carW W i).1) 5 (some (0, 0))) := by rw [Hp.set_ne _ _ ne57]; exact e5b
   have e6c : (G.set r7 (.row zu (nv .u64 (wv S)) 2 (some (0, 0)))) r6 = some (.row zu (nv .u64 (wv (carW W i).2)) 2 (some (0, 0))) := by rw [Hp.set_ne _ _ ne67]; exact e6b
   have e3c : (G.set r7 (.row zu (nv .u64 (wv S)) 2 (some (0, 0)))) r3 = some (.row zb (nv .u64 [0, 0, 0, 0, 0]) 5 (some (0, 0))) := by rw [Hp.set_ne _ _ ne37]; exact e3b
   have x7c : Hp.ext h (G.set r7 (.row zu (nv .u64 (wv S)) 2 (some (0, 0)))) := z1r x7 n7
   generalize G.set r7 (.row zu (nv .u64 (wv S)) 2 (some (0, 0))) = G2 at *
   have c5 := zJ (i := 1) e7c (by rw [z3i]; omega)
   rw [w1] at c5
   simp -zeta (disch := omega) only [GL, RL, fw0, fw1, fe0, c5, zcr]
   refine z1a z14 e5c (by omega) (by simp) ?_
   have e7d : (G2.set r5 (.row zb (nv .u64 ((carW W i).1.set i (S % 18446744073709551616 % 2251799813685248))) 5 (some (0, 0)))) r7 = some (.row zu (nv .u64 (wv S)) 2 (some (0, 0))) := by rw [Hp.set_ne _ _ (Ne.symm ne57)]; exact e7c
   have c6 := zJ (i := 1) e7d (by rw [z3i]; omega)
   have c7 := zJ (i := 0) e7d (by rw [z3i]; omega)
   rw [w1] at c6
   rw [w0] at c7
   have sh : S / 18446744073709551616 * 8192 < 18446744073709551616 := by omega
   simp -zeta (disch := omega) only [GL, RL, fw0, fw1, fe0, c6, c7, zcs, zoI _ sh, or13 _ _ (show S % 18446744073709551616 / 2251799813685248 < 8192 by omega) sh]
   rw [znR]
   have hc2 : (#[Value.int .u64 ((S / 18446744073709551616 / 2251799813685248 : Nat) : Int), .int .u64 ((S % 18446744073709551616 / 2251799813685248 + S / 18446744073709551616 * 8192 : Nat) : Int)] : Array Value) = (nv .u64 (wv (S / 2251799813685248))).toArray := by
    have a1 : S / 18446744073709551616 / 2251799813685248 = S / 2251799813685248 / 18446744073709551616 := by omega
    have a2 : S % 18446744073709551616 / 2251799813685248 + S / 18446744073709551616 * 8192 = S / 2251799813685248 % 18446744073709551616 := by omega
    rw [a1, a2]
    rfl
   rw [hc2]
   refine zD (xs := nv .u64 (wv (carW W i).2)) (f := (0, 0)) (by rw [ze]; exact z6b) (by rw [Hp.set_ne _ _ (Ne.symm ne56)]; exact e6c) (by rw [ze, ze]; rfl) (zq _ _) (fun i _ => by simp) ?_
   simp -zeta (disch := omega) only [GL, RL, inc5 hlt]
   have mm : S % 18446744073709551616 % 2251799813685248 = S % 2251799813685248 := by omega
   refine ⟨_, .refl _, m - 1, by omega, i + 1, by omega, z1r (z1r x7c n5) n6, ?_, ?_, ?_, rfl⟩
   ·rw [Hp.set_ne _ _ ne36, Hp.set_ne _ _ ne35]; exact e3c
   ·rw [Hp.set_ne _ _ ne56, Hp.set_same, carW, hS, mm]
   ·rw [Hp.set_same, carW, hS]
  ·obtain rfl : i = 5 := by omega
   simp -zeta only [hlt, decide_false, Bool.false_eq_true, if_false]
   have c1 := zJ (i := 1) e6 (by rw [z3i]; omega)
   have w1 : ∀ v, (wv v).getD 1 0 = v % 18446744073709551616 := fun v => rfl
   rw [w1, Nat.mod_eq_of_lt (by omega)] at c1
   simp -zeta (disch := omega) only [GL, RL, fw0, fw1, c1]
   refine znS (carW W 5).2 (by omega) ?_
   have a1 : (carW W 5).2 * 19 / 18446744073709551616 = 0 := by omega
   have a2 : (carW W 5).2 * 19 % 18446744073709551616 = 19 * (carW W 5).2 := by omega
   have i0 : ((0 : Int)).toNat = 0 := rfl
   have hb0 : (carW W 5).1.getD 0 0 < 2251799813685248 := by
    obtain ⟨q0, q1, q2, q3, q4, hq⟩ := len5 lW
    rw [hq]
    simp only [carW, List.set_cons_zero, List.set_cons_succ, List.getD_cons_zero]
    exact Nat.mod_lt _ (by decide)
   have c2 := zJ (i := 0) e5 (by omega)
   rw [a1, a2, ext0, ext1]
   simp -zeta (disch := omega) only [GL, RL, fe0, i0, Nat.add_zero, c2]
   rw [zcu, ext0, ext1, Nat.mod_eq_of_lt (by omega)]
   have a3 : (19 * (carW W 5).2 + (carW W 5).1.getD 0 0) / 18446744073709551616 = 0 := by omega
   rw [a3]
   simp -zeta (disch := omega) only [GL, RL, fe0, i0, Nat.add_zero, zcr]
   refine z1a z14 e5 (by omega) (by simp) ?_
   have e5b : (H.set r5 (.row zb (nv .u64 ((carW W 5).1.set 0 ((19 * (carW W 5).2 + (carW W 5).1.getD 0 0) % 2251799813685248))) 5 (some (0, 0)))) r5 = _ := Hp.set_same ..
   have i1 : ((1 : Int)).toNat = 1 := rfl
   have c3 := zJ (i := 1) e5b (by rw [List.length_set]; omega)
   have g1 : ((carW W 5).1.set 0 ((19 * (carW W 5).2 + (carW W 5).1.getD 0 0) % 2251799813685248)).getD 1 0 = (carW W 5).1.getD 1 0 := by
    rw [List.getD_eq_getElem?_getD, List.getElem?_set, if_neg (by omega), ← List.getD_eq_getElem?_getD]
   rw [g1] at c3
   have m0 : (19 * (carW W 5).2 + (carW W 5).1.getD 0 0) / 2251799813685248 < 9223372036854775808 := by omega
   have zz : IntKind.u64.wrap (((0 : Nat) : Int) + ((0 : Nat) : Int)) = ((0 : Nat) : Int) := rfl
   have or0 : ∀ n : Nat, n < 9223372036854775808 → ior .u64 (n : Int) ((0 * 8192 : Nat) : Int) = (n : Int) := fun n hn => by
    rw [or64 (by omega) (by omega) (by omega) (by omega), Int.toNat_natCast, Int.toNat_natCast, Nat.zero_mul, Nat.or_zero]
   have g1b : (carW W 5).1.getD 1 0 < 2251799813685248 := by
    obtain ⟨q0, q1, q2, q3, q4, hq⟩ := len5 lW
    rw [hq]
    simp only [carW, List.set_cons_zero, List.set_cons_succ, List.getD_cons_zero, List.getD_cons_succ]
    exact Nat.mod_lt _ (by decide)
   simp -zeta (disch := omega) only [GL, RL, fe0, i1, Nat.zero_add, c3, zcs, zz, zoI 0 (by decide), or0 _ m0, z2H]
   rw [Nat.mod_eq_of_lt (by omega)]
   refine z1a z14 e5b (by rw [List.length_set]; omega) (by simp) ?_
   rw [Hp.set_set]
   have lE : (zeU W).length = 5 := by rw [zeU, List.length_set, List.length_set, lC]
   rw [z1w z2l rfl (by rw [ze]; exact (by rw [show ((((carW W 5).1.set 0 ((19 * (carW W 5).2 + (carW W 5).1.getD 0 0) % 2251799813685248)).set 1 (((carW W 5).1.getD 1 0) + (19 * (carW W 5).2 + (carW W 5).1.getD 0 0) / 2251799813685248))).length = 5 from lE]; exact z2L)) (Hp.set_same ..)]
   refine z3F _ lE ?_
   refine zct (Z := [0, 0, 0, 0, 0]) (by rw [Hp.set_ne _ _ ne35]; exact e3) (by rw [z6a]; exact lE) rfl ?_
   exact ⟨h, (z1r (z1r x n5) n3).le, k⟩
end
end Go.Proofs.YtoikhbagchfeoaaGreat
namespace Go.Proofs.YtoikhbagchfeoaaGreat
open Go Go.SL Go.Pure Go.Curve
def Lim (a : List Nat) : Prop := a.length = 5 ∧ ∀ i, a.getD i 0 < 4503599627370496
def evL (a : List Nat) : F := ev5 (a.getD 0 0) (a.getD 1 0) (a.getD 2 0) (a.getD 3 0) (a.getD 4 0)
theorem lim5 {a b c d e : Nat} (ha : a < 4503599627370496) (hb : b < 4503599627370496) (hc : c < 4503599627370496) (hd : d < 4503599627370496) (he : e < 4503599627370496) : Lim [a, b, c, d, e] := by
 refine ⟨rfl, fun i => ?_⟩
 match i with
 | 0 => exact ha
 | 1 => exact hb
 | 2 => exact hc
 | 3 => exact hd
 | 4 => exact he
 | i + 5 => show 0 < _; omega
theorem Lim.form {l : List Nat} (h : Lim l) : ∃ a b c d e, l = [a, b, c, d, e] ∧ a < 4503599627370496 ∧ b < 4503599627370496 ∧ c < 4503599627370496 ∧ d < 4503599627370496 ∧ e < 4503599627370496 := by
 obtain ⟨a, b, c, d, e, rfl⟩ := len5 h.1
 exact ⟨a, b, c, d, e, rfl, h.2 0, h.2 1, h.2 2, h.2 3, h.2 4⟩
theorem zcv {a b c d e : Nat} (ha : a < 9223372036854775808) (hb : b < 9223372036854775808) (hc : c < 9223372036854775808) (hd : d < 9223372036854775808) (he : e < 9223372036854775808) :
  ∃ b' c' d' e', b' = b + a / 2251799813685248 ∧ c' = c + b' / 2251799813685248 ∧ d' = d + c' / 2251799813685248 ∧ e' = e + d' / 2251799813685248 ∧
   carL [a, b, c, d, e] = [a % 2251799813685248 + 19 * (e' / 2251799813685248), b' % 2251799813685248, c' % 2251799813685248, d' % 2251799813685248, e' % 2251799813685248] := by
 refine ⟨_, _, _, _, rfl, rfl, rfl, rfl, ?_⟩
 have n1 : (a + 0) % 18446744073709551616 = a := by omega
 have n2 : (b + a / 2251799813685248) % 18446744073709551616 = b + a / 2251799813685248 := by omega
 have n3 : (c + (b + a / 2251799813685248) / 2251799813685248) % 18446744073709551616 = c + (b + a / 2251799813685248) / 2251799813685248 := by omega
 have n4 : (d + (c + (b + a / 2251799813685248) / 2251799813685248) / 2251799813685248) % 18446744073709551616 = d + (c + (b + a / 2251799813685248) / 2251799813685248) / 2251799813685248 := by omega
 have n5 : (e + (d + (c + (b + a / 2251799813685248) / 2251799813685248) / 2251799813685248) / 2251799813685248) % 18446744073709551616 = e + (d + (c + (b + a / 2251799813685248) / 2251799813685248) / 2251799813685248) / 2251799813685248 := by omega
 have c1 : carN [a, b, c, d, e] 1 = ([a % 2251799813685248, b, c, d, e], a / 2251799813685248) := by
  simp only [carN, List.set_cons_zero, List.getD_cons_zero, n1]
 have c2 : carN [a, b, c, d, e] 2 = ([a % 2251799813685248, (b + a / 2251799813685248) % 2251799813685248, c, d, e], (b + a / 2251799813685248) / 2251799813685248) := by
  rw [carN, c1]
  simp only [List.set_cons_zero, List.set_cons_succ, List.getD_cons_zero, List.getD_cons_succ, n2]
 have c3 : carN [a, b, c, d, e] 3 = ([a % 2251799813685248, (b + a / 2251799813685248) % 2251799813685248, (c + (b + a / 2251799813685248) / 2251799813685248) % 2251799813685248, d, e], (c + (b + a / 2251799813685248) / 2251799813685248) / 2251799813685248) := by
  rw [carN, c2]
  simp only [List.set_cons_zero, List.set_cons_succ, List.getD_cons_zero, List.getD_cons_succ, n3]
 generalize (c + (b + a / 2251799813685248) / 2251799813685248) = C at *
 generalize (b + a / 2251799813685248) = B at *
 have c4 : carN [a, b, c, d, e] 4 = ([a % 2251799813685248, B % 2251799813685248, C % 2251799813685248, (d + C / 2251799813685248) % 2251799813685248, e], (d + C / 2251799813685248) / 2251799813685248) := by
  rw [carN, c3]
  simp only [List.set_cons_zero, List.set_cons_succ, List.getD_cons_zero, List.getD_cons_succ, n4]
 generalize (d + C / 2251799813685248) = D at *
 have c5 : carN [a, b, c, d, e] 5 = ([a % 2251799813685248, B % 2251799813685248, C % 2251799813685248, D % 2251799813685248, (e + D / 2251799813685248) % 2251799813685248], (e + D / 2251799813685248) / 2251799813685248) := by
  rw [carN, c4]
  simp only [List.set_cons_zero, List.set_cons_succ, List.getD_cons_zero, List.getD_cons_succ, n5]
 rw [carL, c5]
 simp only [List.set_cons_zero, List.getD_cons_zero]
 have : e + D / 2251799813685248 < 18446744073709551616 := by omega
 congr 1
 omega
theorem z51 {l : List Nat} (h : l.length = 5) (hb : ∀ i, l.getD i 0 < 36028797018963968) : Lim (carL l) ∧ evL (carL l) = evL l := by
 obtain ⟨a, b, c, d, e, rfl⟩ := len5 h
 have b0 : a < 36028797018963968 := hb 0
 have b1 : b < 36028797018963968 := hb 1
 have b2 : c < 36028797018963968 := hb 2
 have b3 : d < 36028797018963968 := hb 3
 have b4 : e < 36028797018963968 := hb 4
 obtain ⟨b', c', d', e', h1, h2, h3, h4, q⟩ := zcv (a := a) (b := b) (c := c) (d := d) (e := e) (by omega) (by omega) (by omega) (by omega) (by omega)
 rw [q]
 exact ⟨lim5 (by omega) (by omega) (by omega) (by omega) (by omega), zm5 h1 h2 h3 h4⟩
section
variable {h : Hp} {K : Value → Hp → Prop}
theorem zsw {a b : List Nat} (la : Lim a) (lb : Lim b) (k : ∀ r, Lim r → evL r = evL a + evL b → K (.agg (nv .u64 r).toArray) h) : Cn P z4O #[.agg (nv .u64 a).toArray, .agg (nv .u64 b).toArray] h K := by
 refine zr6 a b la.1 lb.1 ?_
 obtain ⟨a0, a1, a2, a3, a4, rfl, ha0, ha1, ha2, ha3, ha4⟩ := la.form
 obtain ⟨b0, b1, b2, b3, b4, rfl, hb0, hb1, hb2, hb3, hb4⟩ := lb.form
 have e : addL [a0, a1, a2, a3, a4] [b0, b1, b2, b3, b4] = [a0 + b0, a1 + b1, a2 + b2, a3 + b3, a4 + b4] := by
  simp only [addL, addN, List.set_cons_zero, List.set_cons_succ, List.getD_cons_zero, List.getD_cons_succ]
  rw [Nat.mod_eq_of_lt (by omega), Nat.mod_eq_of_lt (by omega), Nat.mod_eq_of_lt (by omega), Nat.mod_eq_of_lt (by omega), Nat.mod_eq_of_lt (by omega)]
 rw [e]
 obtain ⟨h1, h2⟩ := z51 (l := [a0 + b0, a1 + b1, a2 + b2, a3 + b3, a4 + b4]) rfl fun i => by
  match i with
  | 0 => show a0 + b0 < _; omega
  | 1 => show a1 + b1 < _; omega
  | 2 => show a2 + b2 < _; omega
  | 3 => show a3 + b3 < _; omega
  | 4 => show a4 + b4 < _; omega
  | i + 5 => show 0 < _; omega
 exact k _ h1 (h2.trans (zi9 ..))
theorem zsx {a b : List Nat} (la : Lim a) (lb : Lim b) (k : ∀ r, Lim r → evL r = evL a - evL b → K (.agg (nv .u64 r).toArray) h) : Cn P z4P #[.agg (nv .u64 a).toArray, .agg (nv .u64 b).toArray] h K := by
 obtain ⟨l1, v1⟩ := z51 lb.1 fun i => Nat.lt_trans (lb.2 i) (by decide)
 obtain ⟨l2, v2⟩ := z51 l1.1 fun i => Nat.lt_trans (l1.2 i) (by decide)
 have v3 := v2.trans v1
 refine zr7 a b la.1 lb.1 (fun i _ => by
  have := l2.2 i
  unfold tw
  split <;> omega) ?_
 generalize carL (carL b) = c at *
 obtain ⟨a0, a1, a2, a3, a4, rfl, ha0, ha1, ha2, ha3, ha4⟩ := la.form
 obtain ⟨b0, b1, b2, b3, b4, rfl, hb0, hb1, hb2, hb3, hb4⟩ := l2.form
 have t0 : tw 0 = 9007199254740916 := rfl
 have t1 : tw 1 = 9007199254740988 := rfl
 have t2 : tw 2 = 9007199254740988 := rfl
 have t3 : tw 3 = 9007199254740988 := rfl
 have t4 : tw 4 = 9007199254740988 := rfl
 have e : subN [a0, a1, a2, a3, a4] [b0, b1, b2, b3, b4] 5 = [a0 + (9007199254740916 - b0), a1 + (9007199254740988 - b1), a2 + (9007199254740988 - b2), a3 + (9007199254740988 - b3), a4 + (9007199254740988 - b4)] := by
  simp only [subN, List.set_cons_zero, List.set_cons_succ, List.getD_cons_zero, List.getD_cons_succ, t0, t1, t2, t3, t4]
  rw [Nat.mod_eq_of_lt (by omega), Nat.mod_eq_of_lt (by omega), Nat.mod_eq_of_lt (by omega), Nat.mod_eq_of_lt (by omega), Nat.mod_eq_of_lt (by omega)]
 rw [e]
 obtain ⟨h1, h2⟩ := z51 (l := [a0 + (9007199254740916 - b0), a1 + (9007199254740988 - b1), a2 + (9007199254740988 - b2), a3 + (9007199254740988 - b3), a4 + (9007199254740988 - b4)]) rfl fun i => by
  match i with
  | 0 => show a0 + (9007199254740916 - b0) < _; omega
  | 1 => show a1 + (9007199254740988 - b1) < _; omega
  | 2 => show a2 + (9007199254740988 - b2) < _; omega
  | 3 => show a3 + (9007199254740988 - b3) < _; omega
  | 4 => show a4 + (9007199254740988 - b4) < _; omega
  | i + 5 => show 0 < _; omega
 refine k _ h1 (h2.trans ?_)
 rw [← v3]
 exact zqW (by omega) (by omega) (by omega) (by omega) (by omega)
theorem z2E {x y : Nat} (hx : x < 4503599627370496) (hy : y < 4503599627370496) : x * y ≤ 20282409603651670423947251286016 := by
 have := Nat.mul_le_mul (Nat.le_of_lt hx) (Nat.le_of_lt hy)
 omega
theorem z3c {x y : Nat} (hx : x < 4503599627370496) (hy : y < 4503599627370496) : x * (y * 19) ≤ 385365782469381738054997774434304 := by
 have := z2E hx hy
 rw [← Nat.mul_assoc]
 omega
theorem zsy (w0 w1 w2 w3 w4 : Nat) : ∃ s1 s2 s3 s4, s1 = w1 + w0 / 2251799813685248 ∧ s2 = w2 + s1 / 2251799813685248 ∧ s3 = w3 + s2 / 2251799813685248 ∧ s4 = w4 + s3 / 2251799813685248 ∧
  carW [w0, w1, w2, w3, w4] 5 = ([w0 % 2251799813685248, s1 % 2251799813685248, s2 % 2251799813685248, s3 % 2251799813685248, s4 % 2251799813685248], s4 / 2251799813685248) := by
 refine ⟨_, _, _, _, rfl, rfl, rfl, rfl, ?_⟩
 simp only [carW, List.set_cons_zero, List.set_cons_succ, List.getD_cons_zero, List.getD_cons_succ, Nat.add_zero]
theorem zsz {a b : List Nat} (la : Lim a) (lb : Lim b) (k : ∀ r, Lim r → evL r = evL a * evL b → K (.agg (nv .u64 r).toArray) h) : Cn P z1X #[.agg (nv .u64 a).toArray, .agg (nv .u64 b).toArray] h K := by
 have aL := la.2
 have bL := lb.2
 obtain ⟨a0, a1, a2, a3, a4, rfl, ha0, ha1, ha2, ha3, ha4⟩ := la.form
 obtain ⟨b0, b1, b2, b3, b4, rfl, hb0, hb1, hb2, hb3, hb4⟩ := lb.form
 have W := zmd a0 a1 a2 a3 a4 b0 b1 b2 b3 b4
 have p00 := z2E ha0 hb0
 have p01 := z2E ha0 hb1
 have p02 := z2E ha0 hb2
 have p03 := z2E ha0 hb3
 have p04 := z2E ha0 hb4
 have p10 := z2E ha1 hb0
 have p11 := z2E ha1 hb1
 have p12 := z2E ha1 hb2
 have p13 := z2E ha1 hb3
 have p20 := z2E ha2 hb0
 have p21 := z2E ha2 hb1
 have p22 := z2E ha2 hb2
 have p30 := z2E ha3 hb0
 have p31 := z2E ha3 hb1
 have p40 := z2E ha4 hb0
 have q14 := z3c ha1 hb4
 have q23 := z3c ha2 hb3
 have q32 := z3c ha3 hb2
 have q41 := z3c ha4 hb1
 have q24 := z3c ha2 hb4
 have q33 := z3c ha3 hb3
 have q42 := z3c ha4 hb2
 have q34 := z3c ha3 hb4
 have q43 := z3c ha4 hb3
 have q44 := z3c ha4 hb4
 have B0 : 0 + a0*b0 + a1*(b4*19) + a2*(b3*19) + a3*(b2*19) + a4*(b1*19) < 2596148429267413814265248164610048 := by omega
 have B1 : 0 + a0*b1 + a1*b0 + a2*(b4*19) + a3*(b3*19) + a4*(b2*19) < 2596148429267413814265248164610048 := by omega
 have B2 : 0 + a0*b2 + a1*b1 + a2*b0 + a3*(b4*19) + a4*(b3*19) < 2596148429267413814265248164610048 := by omega
 have B3 : 0 + a0*b3 + a1*b2 + a2*b1 + a3*b0 + a4*(b4*19) < 649037107316853453566312041152512 := by omega
 have B4 : 0 + a0*b4 + a1*b3 + a2*b2 + a3*b1 + a4*b0 ≤ 101412048018258352119736256430080 := by omega
 have eV : ev5 (0 + a0*b0 + a1*(b4*19) + a2*(b3*19) + a3*(b2*19) + a4*(b1*19)) (0 + a0*b1 + a1*b0 + a2*(b4*19) + a3*(b3*19) + a4*(b2*19)) (0 + a0*b2 + a1*b1 + a2*b0 + a3*(b4*19) + a4*(b3*19)) (0 + a0*b3 + a1*b2 + a2*b1 + a3*b0 + a4*(b4*19)) (0 + a0*b4 + a1*b3 + a2*b2 + a3*b1 + a4*b0) = ev5 a0 a1 a2 a3 a4 * ev5 b0 b1 b2 b3 b4 := by
  rw [← zqX]
  have f : ∀ x y : Nat, x * (y * 19) = 19 * (x * y) := fun x y => by rw [← Nat.mul_assoc, Nat.mul_comm]
  simp only [f, Nat.zero_add]
 generalize 0 + a0*b0 + a1*(b4*19) + a2*(b3*19) + a3*(b2*19) + a4*(b1*19) = w0 at *
 generalize 0 + a0*b1 + a1*b0 + a2*(b4*19) + a3*(b3*19) + a4*(b2*19) = w1 at *
 generalize 0 + a0*b2 + a1*b1 + a2*b0 + a3*(b4*19) + a4*(b3*19) = w2 at *
 generalize 0 + a0*b3 + a1*b2 + a2*b1 + a3*b0 + a4*(b4*19) = w3 at *
 generalize 0 + a0*b4 + a1*b3 + a2*b2 + a3*b1 + a4*b0 = w4 at *
 clear p00 p01 p02 p03 p04 p10 p11 p12 p13 p20 p21 p22 p30 p31 p40 q14 q23 q32 q41 q24 q33 q42 q34 q43 q44 ha0 ha1 ha2 ha3 ha4 hb0 hb1 hb2 hb3 hb4
 obtain ⟨s1, s2, s3, s4, h1, h2, h3, h4, hC⟩ := zsy w0 w1 w2 w3 w4
 have b1' : s1 < 2596148429267413814265248164610048 + 1152921504606846976 := by omega
 have b2' : s2 < 2596148429267413814265248164610048 + 1152921504606849000 := by omega
 have b3' : s3 < 649037107316853453566312041152512 + 1152921504606849000 := by omega
 have b4' : s4 < 101412048018258352119736256430080 + 288230376151713000 := by omega
 refine zra _ _ la.1 lb.1 aL bL (by
  rw [W]
  intro i
  match i with
  | 0 => show w0 < _; omega
  | 1 => show w1 < _; omega
  | 2 => show w2 < _; omega
  | 3 => show w3 < _; omega
  | 4 => show w4 < _; omega
  | i + 5 => show 0 < _; omega) (by rw [W, hC]; show s4 / 2251799813685248 < _; omega) ?_
 rw [W, zeU, hC]
 simp only [List.set_cons_zero, List.set_cons_succ, List.getD_cons_zero, List.getD_cons_succ]
 have hs4 : s4 / 2251799813685248 < 45035996273706000 := by omega
 obtain ⟨r1, r2⟩ := z51 (l := [(19 * (s4 / 2251799813685248) + w0 % 2251799813685248) % 2251799813685248, s1 % 2251799813685248 + (19 * (s4 / 2251799813685248) + w0 % 2251799813685248) / 2251799813685248, s2 % 2251799813685248, s3 % 2251799813685248, s4 % 2251799813685248]) rfl fun i => by
  match i with
  | 0 => show _ % _ < _; omega
  | 1 => show _ + _ < _; omega
  | 2 => show _ % _ < _; omega
  | 3 => show _ % _ < _; omega
  | 4 => show _ % _ < _; omega
  | i + 5 => show 0 < _; omega
 refine k _ r1 (r2.trans ?_)
 show ev5 _ _ _ _ _ = ev5 a0 a1 a2 a3 a4 * ev5 b0 b1 b2 b3 b4
 rw [← eV]
 show ev5 ((19 * (s4 / 2251799813685248) + w0 % 2251799813685248) % 2251799813685248) (s1 % 2251799813685248 + (19 * (s4 / 2251799813685248) + w0 % 2251799813685248) / 2251799813685248) (s2 % 2251799813685248) (s3 % 2251799813685248) (s4 % 2251799813685248) = _
 rw [zss]
 exact zpx h1 h2 h3 h4
end
def VE (v : Value) (x : F) : Prop := ∃ l, v = .agg (nv .u64 l).toArray ∧ Lim l ∧ evL l = x
def EA (h : Hp) (r : Nat) (x : F) : Prop := ∃ l, h r = some (.row zb (nv .u64 l) 5 (some (0, 0))) ∧ Lim l ∧ evL l = x
theorem EA.ext {h h' : Hp} {r : Nat} {x : F} (a : EA h r x) (e : Hp.ext h h') : EA h' r x := by
 obtain ⟨l, h1, h2, h3⟩ := a
 exact ⟨l, e _ _ h1, h2, h3⟩
theorem EA.ld {h : Hp} {r : Nat} {x : F} (a : EA h r x) : ∃ v, VE v x ∧ ∀ h' : Hp, h' r = h r → (peek P h' (Instr.loadAt zb (.pointer (some ⟨r, 0, none⟩))) = some v ∧ ∀ K : Value → Prop, q P h' (Instr.loadAt zb (.pointer (some ⟨r, 0, none⟩))) K = K v) := by
 obtain ⟨l, h1, h2, h3⟩ := a
 refine ⟨_, ⟨l, rfl, h2, h3⟩, fun h' e => ?_⟩
 have k : ∀ K : Value → Prop, q P h' (Instr.loadAt zb (.pointer (some ⟨r, 0, none⟩))) K = K (.agg (nv .u64 l).toArray) := fun K => z1w z2l rfl (by rw [ze, h2.1]; exact z2L) (by rw [e]; exact h1)
 exact ⟨pk_q k, k⟩
section
variable {h : Hp} {K : Value → Hp → Prop}
theorem zgZ {v w : Value} {x y : F} (a : VE v x) (b : VE w y) (k : ∀ r, VE r (x + y) → K r h) : Cn P z4O #[v, w] h K := by
 obtain ⟨l, rfl, a1, rfl⟩ := a
 obtain ⟨m, rfl, b1, rfl⟩ := b
 exact zsw a1 b1 fun r h1 h2 => k _ ⟨r, rfl, h1, h2⟩
theorem zh0 {v w : Value} {x y : F} (a : VE v x) (b : VE w y) (k : ∀ r, VE r (x - y) → K r h) : Cn P z4P #[v, w] h K := by
 obtain ⟨l, rfl, a1, rfl⟩ := a
 obtain ⟨m, rfl, b1, rfl⟩ := b
 exact zsx a1 b1 fun r h1 h2 => k _ ⟨r, rfl, h1, h2⟩
theorem z3O {v w : Value} {x y : F} (a : VE v x) (b : VE w y) (k : ∀ r, VE r (x * y) → K r h) : Cn P z1X #[v, w] h K := by
 obtain ⟨l, rfl, a1, rfl⟩ := a
 obtain ⟨m, rfl, b1, rfl⟩ := b
 exact zsz a1 b1 fun r h1 h2 => k _ ⟨r, rfl, h1, h2⟩
theorem z6c {H : Hp} {v : Value} {x : F} {F' : Value → Hp → Prop} (a : VE v x) (e : Hp.ext h H) (k : ∀ r H', h r = none → H r = none → Hp.ext h H' → Hp.ext H H' → EA H' r x → (∀ b, b ≠ r → H' b = H b) → F' (.pointer (some ⟨r, 0, none⟩)) H') :
  aw P (Instr.box zb v) F' H := by
 obtain ⟨l, rfl, a1, rfl⟩ := a
 exact z3W a1.1 e fun r H' n m x1 x2 e1 f => k r H' n m x1 x2 ⟨l, e1, a1, rfl⟩ f
theorem z2F {H : Hp} {r : Nat} {Z : List Nat} {v : Value} {x : F} {F' : Unit → Hp → Prop} (a : VE v x) (e : H r = some (.row zb (nv .u64 Z) 5 (some (0, 0)))) (lZ : Z.length = 5) (k : ∀ H', EA H' r x → (∀ b, b ≠ r → H' b = H b) → F' () H') :
  aw P (Instr.storeAt zb (.pointer (some ⟨r, 0, none⟩)) v) F' H := by
 obtain ⟨l, rfl, a1, rfl⟩ := a
 refine zD (by rw [ze, a1.1]; exact z2L) e (by rw [ze, ze, a1.1, lZ]) (zq _ _) (fun i _ => by simp) ?_
 exact k _ ⟨l, Hp.set_same .., a1, rfl⟩ fun b hb => Hp.set_ne _ _ hb
theorem z2y {h H H' : Hp} {r : Nat} (x : Hp.ext h H) (n : h r = none) (f : ∀ b, b ≠ r → H' b = H b) : Hp.ext h H' := fun b o e => by
 have hb : b ≠ r := by rintro rfl; rw [n] at e; cases e
 rw [f b hb]; exact x b o e
theorem zh1 {H : Hp} {r2 : Nat} {Z : List Nat} {v : Value} {x : F} {F' : Value → Hp → Prop} (a : VE v x) (e : H r2 = some (.row zb (nv .u64 Z) 5 (some (0, 0)))) (lZ : Z.length = 5) (k : ∀ H', (∀ b, b ≠ r2 → H' b = H b) → F' v H') :
  aw P (Instr.storeAt zb (.pointer (some ⟨r2, 0, none⟩)) v) (fun _ h => q P h ((asAddr (.pointer (some ⟨r2, 0, none⟩))).bind (loadVar zb)) fun r0 => F' r0 h) H := by
 obtain ⟨l, rfl, a1, rfl⟩ := a
 exact zct e a1.1 lZ (k _ fun b hb => Hp.set_ne _ _ hb)
theorem zl3 {H : Hp} {r : Nat} {x : F} (a : EA H r x) : ∃ v, VE v x ∧ ∀ K : Value → Prop, q P H ((asAddr (.pointer (some ⟨r, 0, none⟩))).bind (loadVar zb)) K = K v := by
 obtain ⟨l, h1, h2, h3⟩ := a
 exact ⟨_, ⟨l, rfl, h2, h3⟩, fun K => z33 z2l rfl (by rw [ze, h2.1]; exact z2L) h1⟩
theorem z4T {v : Value} {x : F} (a : VE v x) (k : ∀ r, VE r (x * x) → K r h) : Cn P z3Z #[v] h K := by
 refine Cn_wk (zaG ?_)
 unfold z5K
 refine z6c a (.refl h) fun r1 H1 n1 m1 x1 y1 e1 f1 => ?_
 refine z15 x1 fun r2 H2 n2 m2 x2 y2 e2 f2 => ?_
 obtain ⟨w, hw, lw⟩ := (e1.ext y2).ld
 rw [(lw H2 rfl).2, (lw H2 rfl).2]
 refine z3O hw hw fun r hr => ?_
 exact zh1 hr e2 rfl fun H' f => ⟨h, (z2y x2 n2 f).le, k _ hr⟩
def sqF (x : F) : Nat → F
 | 0 => x
 | n + 1 => sqF x n * sqF x n
theorem zbR {v : Value} {x : F} (n : Nat) (hn : n < 1000) (a : VE v x) (k : ∀ r, VE r (sqF x n) → K r h) : Cn P z3I #[v, .int .i64 (n : Int)] h K := by
 refine Cn_wk (z9A ?_)
 unfold z5g
 refine z6c a (.refl h) fun r1 H1 n1 m1 x1 y1 e1 f1 => ?_
 refine z15 x1 fun r2 H2 n2 m2 x2 y2 e2 f2 => ?_
 have ne : r1 ≠ r2 := by rintro rfl; obtain ⟨l, e, _⟩ := e1; rw [e] at m2; cases m2
 refine Lp_mk (fun m vs H => ∃ i : Nat, i + m = n ∧ Hp.ext h H ∧ EA H r1 (sqF x i) ∧ H r2 = some (.row zb (nv .u64 [0, 0, 0, 0, 0]) 5 (some (0, 0))) ∧ vs = [.int .i64 (i : Int)]) n
  ⟨0, by omega, x2, e1.ext y2, e2, rfl⟩ ?_
 clear e1 e2 x2 y2 x1 y1 f1 f2 m1 m2
 rintro m vs H ⟨i, hi, x, e1, e2, rfl⟩
 have ed : decide ((i : Int) < (n : Int)) = decide (i < n) := zL i n
 obtain ⟨w, hw, lw⟩ := e1.ld
 simp (disch := omega) only [GL, RL, ed]
 by_cases hlt : i < n
 ·simp (disch := omega) only [hlt, decide_true, if_true]
  rw [(lw H rfl).2]
  refine z4T hw fun r hr => ?_
  obtain ⟨l, e1, l1, _⟩ := id e1
  refine z2F hr e1 l1.1 fun H' e f => ?_
  have ei : IntKind.i64.wrap ((i : Int) + 1) = ((i + 1 : Nat) : Int) := by rw [wi64 (by omega) (by omega)]; omega
  simp (disch := omega) only [GL, RL, ei]
  exact ⟨H', .refl _, m - 1, by omega, i + 1, by omega, z2y x n1 f, e, by rw [f _ (Ne.symm ne)]; exact e2, rfl⟩
 ·obtain rfl : i = n := by omega
  simp (disch := omega) only [hlt, decide_false, Bool.false_eq_true, if_false]
  rw [(lw H rfl).2]
  exact zh1 hw e2 rfl fun H' f => ⟨h, (z2y x n2 f).le, k _ hw⟩
theorem zpI {v : Value} {x : F} (n : Nat) (hn : n < 4294967296) (a : VE v x) (k : ∀ r, VE r (x * ph n) → K r h) : Cn P zb4 #[v, .int .u32 (n : Int)] h K := by
 refine Cn_wk (zbp ?_)
 unfold z6y
 refine z6c a (.refl h) fun r1 H1 n1 m1 x1 y1 e1 f1 => ?_
 refine z15 x1 fun r2 H2 n2 m2 x2 y2 e2 f2 => ?_
 obtain ⟨w, hw, lw⟩ := (e1.ext y2).ld
 have cv : IntKind.u64.wrap (n : Int) = (n : Int) := z2j (by omega) (by omega)
 have b1 : ∀ {K : Value → Prop}, q P H2 (Instr.build zet #[(0, .int .u64 (n : Int))]) K = K (.agg (nv .u64 [n, 0, 0, 0, 0]).toArray) := fun {K} => q_of (by kernel_rfl) K
 have b2 : ∀ {K : Value → Prop}, q P H2 (Instr.build zb #[(0, .agg (nv .u64 [n, 0, 0, 0, 0]).toArray)]) K = K (.agg (nv .u64 [n, 0, 0, 0, 0]).toArray) := fun {K} => q_of (by kernel_rfl) K
 rw [(lw H2 rfl).2]
 simp (disch := omega) only [GL, RL, cv]
 rw [b1, b2]
 have hv : VE (.agg (nv .u64 [n, 0, 0, 0, 0]).toArray) (ph n) := ⟨_, rfl, lim5 (by omega) (by omega) (by omega) (by omega) (by omega), by
  show ev5 n 0 0 0 0 = ph n
  rw [zia]
  unfold num5
  rfl⟩
 refine z3O hw hv fun r hr => ?_
 exact zh1 hr e2 rfl fun H' f => ⟨h, (z2y x2 n2 f).le, k _ hr⟩
theorem z52 {H : Hp} {ra rb n : Nat} {x y : F} (hn : n < 1000) {F' : Value → Hp → Prop} (eH : Hp.ext h H) (a : EA H ra x) (b : EA H rb y) (k : ∀ r H', H r = none → Hp.ext H H' → EA H' r (sqF x n * y) → F' (.pointer (some ⟨r, 0, none⟩)) H') :
  q P H (Instr.loadAt zb (.pointer (some ⟨ra, 0, none⟩))) fun t16 => q P H (Instr.loadAt zb (.pointer (some ⟨rb, 0, none⟩))) fun t18 =>
  (Cn P z3I #[t16, (Value.int .i64 (n : Int))] H fun t17 h => peek P h (Instr.loadAt zb (.pointer (some ⟨rb, 0, none⟩))) = some t18 ∧ (Cn P z1X #[t17, t18] h fun t19 h => aw P (Instr.alloc zb true (.tuple #[])) (fun t4 h => aw P (Instr.storeAt zb t4 t19) (fun _ h => F' t4 h) h) h) ∧ (aw P (Instr.alloc zb true (.tuple #[])) (fun t4 h => peek P h (Instr.loadAt zb (.pointer (some ⟨rb, 0, none⟩))) = some t18 ∧ Cn P z1X #[t17, t18] h fun t19 h => aw P (Instr.storeAt zb t4 t19) (fun _ h => F' t4 h) h) h)) ∧
  (aw P (Instr.alloc zb true (.tuple #[])) (fun t4 h => peek P h (Instr.loadAt zb (.pointer (some ⟨rb, 0, none⟩))) = some t18 ∧ peek P h (Instr.loadAt zb (.pointer (some ⟨ra, 0, none⟩))) = some t16 ∧ Cn P z3I #[t16, (Value.int .i64 (n : Int))] h fun t17 h => peek P h (Instr.loadAt zb (.pointer (some ⟨rb, 0, none⟩))) = some t18 ∧ Cn P z1X #[t17, t18] h fun t19 h => aw P (Instr.storeAt zb t4 t19) (fun _ h => F' t4 h) h) H) := by
 obtain ⟨v, hv, lv⟩ := a.ld
 obtain ⟨w, hw, lw⟩ := b.ld
 rw [(lv H rfl).2, (lw H rfl).2]
 have na : ∀ {r : Nat}, H r = none → r ≠ ra ∧ r ≠ rb := fun {r} e => by
  obtain ⟨_, a1, _⟩ := a
  obtain ⟨_, b1, _⟩ := b
  exact ⟨(by rintro rfl; rw [e] at a1; cases a1), (by rintro rfl; rw [e] at b1; cases b1)⟩
 refine ⟨zbR n hn hv fun s hs => ⟨(lw H rfl).1, z3O hs hw fun t ht => z15 (.refl H) fun r H' _ m x1 _ e f => z2F ht e rfl fun H2 e2 f2 => k r H2 m (z2y x1 m f2) e2,
  z15 (.refl H) fun r H' _ m x1 _ e f => ⟨(lw H' (f _ (Ne.symm (na m).2))).1, z3O hs hw fun t ht => z2F ht e rfl fun H2 e2 f2 => k r H2 m (z2y x1 m f2) e2⟩⟩,
  z15 (.refl H) fun r H' _ m x1 _ e f => ⟨(lw H' (f _ (Ne.symm (na m).2))).1, (lv H' (f _ (Ne.symm (na m).1))).1, zbR n hn hv fun s hs => ⟨(lw H' (f _ (Ne.symm (na m).2))).1, z3O hs hw fun t ht => z2F ht e rfl fun H2 e2 f2 => k r H2 m (z2y x1 m f2) e2⟩⟩⟩
theorem znT {H : Hp} {ra rb : Nat} {x y : F} {F' : Value → Hp → Prop} (a : EA H ra x) (b : EA H rb y) (k : ∀ r H', H r = none → Hp.ext H H' → EA H' r (sqF x 1 * y) → F' (.pointer (some ⟨r, 0, none⟩)) H') :
  q P H (Instr.loadAt zb (.pointer (some ⟨ra, 0, none⟩))) fun t16 => q P H (Instr.loadAt zb (.pointer (some ⟨rb, 0, none⟩))) fun t18 =>
  (Cn P z3Z #[t16] H fun t17 h => peek P h (Instr.loadAt zb (.pointer (some ⟨rb, 0, none⟩))) = some t18 ∧ (Cn P z1X #[t17, t18] h fun t19 h => aw P (Instr.alloc zb true (.tuple #[])) (fun t4 h => aw P (Instr.storeAt zb t4 t19) (fun _ h => F' t4 h) h) h) ∧ (aw P (Instr.alloc zb true (.tuple #[])) (fun t4 h => peek P h (Instr.loadAt zb (.pointer (some ⟨rb, 0, none⟩))) = some t18 ∧ Cn P z1X #[t17, t18] h fun t19 h => aw P (Instr.storeAt zb t4 t19) (fun _ h => F' t4 h) h) h)) ∧
  (aw P (Instr.alloc zb true (.tuple #[])) (fun t4 h => peek P h (Instr.loadAt zb (.pointer (some ⟨rb, 0, none⟩))) = some t18 ∧ peek P h (Instr.loadAt zb (.pointer (some ⟨ra, 0, none⟩))) = some t16 ∧ Cn P z3Z #[t16] h fun t17 h => peek P h (Instr.loadAt zb (.pointer (some ⟨rb, 0, none⟩))) = some t18 ∧ Cn P z1X #[t17, t18] h fun t19 h => aw P (Instr.storeAt zb t4 t19) (fun _ h => F' t4 h) h) H) := by
 obtain ⟨v, hv, lv⟩ := a.ld
 obtain ⟨w, hw, lw⟩ := b.ld
 rw [(lv H rfl).2, (lw H rfl).2]
 have na : ∀ {r : Nat}, H r = none → r ≠ ra ∧ r ≠ rb := fun {r} e => by
  obtain ⟨_, a1, _⟩ := a
  obtain ⟨_, b1, _⟩ := b
  exact ⟨(by rintro rfl; rw [e] at a1; cases a1), (by rintro rfl; rw [e] at b1; cases b1)⟩
 refine ⟨z4T hv fun s hs => ⟨(lw H rfl).1, z3O hs hw fun t ht => z15 (.refl H) fun r H' _ m x1 _ e f => z2F ht e rfl fun H2 e2 f2 => k r H2 m (z2y x1 m f2) e2,
  z15 (.refl H) fun r H' _ m x1 _ e f => ⟨(lw H' (f _ (Ne.symm (na m).2))).1, z3O hs hw fun t ht => z2F ht e rfl fun H2 e2 f2 => k r H2 m (z2y x1 m f2) e2⟩⟩,
  z15 (.refl H) fun r H' _ m x1 _ e f => ⟨(lw H' (f _ (Ne.symm (na m).2))).1, (lv H' (f _ (Ne.symm (na m).1))).1, z4T hv fun s hs => ⟨(lw H' (f _ (Ne.symm (na m).2))).1, z3O hs hw fun t ht => z2F ht e rfl fun H2 e2 f2 => k r H2 m (z2y x1 m f2) e2⟩⟩⟩
theorem zmf {Q : Nat → F} (hQ : ∀ a b, Q a * Q b = Q (a + b)) (a : Nat) : ∀ n, sqF (Q a) n = Q (a * 2 ^ n)
 | 0 => by rw [sqF, Nat.pow_zero, Nat.mul_one]
 | n + 1 => by
  rw [sqF, zmf hQ a n, hQ, Nat.pow_succ, ← Nat.mul_assoc, Nat.mul_two]
theorem z4F {Q : Nat → F} (hQ : ∀ a b, Q a * Q b = Q (a + b)) (a n b c : Nat) (h : a * 2 ^ n + b = c) : sqF (Q a) n * Q b = Q c := by rw [zmf hQ, hQ, h]
theorem zmg {Q : Nat → F} (hQ : ∀ a b, Q a * Q b = Q (a + b)) {v : Value} (a : VE v (Q 1)) (k : ∀ r, VE r (Q (pp - 2)) → K r h) : Cn P z5w #[v] h K := by
 refine Cn_wk (zaC ?_)
 unfold z41
 refine z6c a (.refl h) fun r1 H1 n1 m1 x1 y1 e1 f1 => ?_
 refine z15 x1 fun r2 H2 n2 m2 x2 y2 e2 f2 => ?_
 replace e1 := e1.ext y2
 unfold z30
 obtain ⟨w, hw, lw⟩ := e1.ld
 rw [(lw H2 rfl).2]
 refine z4T hw fun t ht => ?_
 rw [hQ] at ht
 refine z15 (.refl H2) fun r3 H3' _ m3 x3 _ e3' f3 => z2F ht e3' rfl fun H3 e3 f3' => ?_
 have y3 : Hp.ext H2 H3 := z2y x3 m3 f3'
 clear x3 e3' f3 f3' lw hw ht f1 f2 y2 y1 m1 m2 m3
 replace e1 := e1.ext y3
 replace e2 := y3 _ _ e2
 replace x2 := x2.trans y3
 unfold z2Z
 refine z52 (n := 2) (by omega) (.refl H3) e3 e1 fun r4 H4 _ y4 e4 => ?_
 rw [z4F hQ 2 2 1 9 (by decide)] at e4
 replace e3 := e3.ext y4
 replace e2 := y4 _ _ e2
 replace x2 := x2.trans y4
 clear y4 y3 e1
 unfold z2i
 obtain ⟨w, hw, lw⟩ := e4.ld
 obtain ⟨u, hu, lu⟩ := e3.ld
 rw [(lw H4 rfl).2, (lu H4 rfl).2]
 refine z3O hw hu fun t ht => ?_
 rw [hQ] at ht
 refine z15 (.refl H4) fun r5 H5' _ m5 x5 _ e5' f5 => z2F ht e5' rfl fun H5 e5 f5' => ?_
 have y5 : Hp.ext H4 H5 := z2y x5 m5 f5'
 clear x5 e5' f5 f5' lw hw hu lu ht m5 e3
 replace e4 := e4.ext y5
 replace e2 := y5 _ _ e2
 replace x2 := x2.trans y5
 clear y5
 unfold z2Y
 refine znT e5 e4 fun r6 H6 _ y6 e6 => ?_
 rw [z4F hQ (9 + 2) 1 9 31 (by decide)] at e6
 replace e5 := e5.ext y6
 replace e2 := y6 _ _ e2
 replace x2 := x2.trans y6
 clear y6 e4
 unfold z2h
 refine z52 (n := 5) (by omega) (.refl H6) e6 e6 fun r7 H7 _ y7 e7 => ?_
 rw [z4F hQ 31 5 31 1023 (by decide)] at e7
 replace e5 := e5.ext y7
 replace e2 := y7 _ _ e2
 replace x2 := x2.trans y7
 clear y7 e6
 unfold z2g
 refine z52 (n := 10) (by omega) (.refl H7) e7 e7 fun r8 H8 _ y8 e8 => ?_
 rw [z4F hQ 1023 10 1023 1048575 (by decide)] at e8
 replace e5 := e5.ext y8
 replace e7 := e7.ext y8
 replace e2 := y8 _ _ e2
 replace x2 := x2.trans y8
 clear y8
 unfold z2f
 refine z52 (n := 20) (by omega) (.refl H8) e8 e8 fun r9 H9 _ y9 e9 => ?_
 rw [z4F hQ 1048575 20 1048575 1099511627775 (by decide)] at e9
 replace e5 := e5.ext y9
 replace e7 := e7.ext y9
 replace e2 := y9 _ _ e2
 replace x2 := x2.trans y9
 clear y9 e8
 unfold z2e
 refine z52 (n := 10) (by omega) (.refl H9) e9 e7 fun r10 H10 _ y10 e10 => ?_
 rw [z4F hQ 1099511627775 10 1023 1125899906842623 (by decide)] at e10
 replace e5 := e5.ext y10
 replace e2 := y10 _ _ e2
 replace x2 := x2.trans y10
 clear y10 e9 e7
 unfold z2d
 refine z52 (n := 50) (by omega) (.refl H10) e10 e10 fun r11 H11 _ y11 e11 => ?_
 rw [z4F hQ 1125899906842623 50 1125899906842623 1267650600228229401496703205375 (by decide)] at e11
 replace e5 := e5.ext y11
 replace e10 := e10.ext y11
 replace e2 := y11 _ _ e2
 replace x2 := x2.trans y11
 clear y11
 unfold z25
 refine z52 (n := 100) (by omega) (.refl H11) e11 e11 fun r12 H12 _ y12 e12 => ?_
 rw [z4F hQ 1267650600228229401496703205375 100 1267650600228229401496703205375 1606938044258990275541962092341162602522202993782792835301375 (by decide)] at e12
 replace e5 := e5.ext y12
 replace e10 := e10.ext y12
 replace e2 := y12 _ _ e2
 replace x2 := x2.trans y12
 clear y12 e11
 unfold z24
 refine z52 (n := 50) (by omega) (.refl H12) e12 e10 fun r13 H13 _ y13 e13 => ?_
 rw [z4F hQ 1606938044258990275541962092341162602522202993782792835301375 50 1125899906842623 1809251394333065553493296640760748560207343510400633813116524750123642650623 (by decide)] at e13
 replace e5 := e5.ext y13
 replace e2 := y13 _ _ e2
 replace x2 := x2.trans y13
 clear y13 e12 e10
 unfold z23
 obtain ⟨w, hw, lw⟩ := e13.ld
 obtain ⟨u, hu, lu⟩ := e5.ld
 rw [(lw H13 rfl).2, (lu H13 rfl).2]
 refine zbR 5 (by omega) hw fun t ht => ⟨(lu H13 rfl).1, z3O ht hu fun t ht => ?_⟩
 rw [z4F hQ 1809251394333065553493296640760748560207343510400633813116524750123642650623 5 (9 + 2) (pp - 2) (by decide)] at ht
 refine z2F ht e2 rfl fun H14 e14 f14 => ?_
 unfold z2Q
 obtain ⟨r, hr, lr⟩ := zl3 e14
 rw [lr]
 exact ⟨h, (z2y x2 n2 f14).le, k _ hr⟩
theorem znU {v : Value} {x : F} (a : VE v x) (k : ∀ r, VE r (invP x) → K r h) : Cn P z5w #[v] h K := by
 refine zmg (Q := fun n => ph (x.val ^ n)) (fun a b => by show ph _ * ph _ = ph _; rw [← z5p, ← Nat.pow_add]) (by
  show VE v (ph (x.val ^ 1))
  rw [Nat.pow_one, z4Z]; exact a) fun r hr => k r ?_
 have e : invP x = ph (x.val ^ (pp - 2)) := Fin.ext (zfQ x)
 rw [e]
 exact hr
end
def swN (a b : List Nat) (i : Nat) : List Nat := b.take i ++ a.drop i
theorem zcw {a b : List Nat} (la : a.length = 5) (lb : b.length = 5) {i : Nat} (hi : i ≤ 5) : (swN a b i).length = 5 := by
 rw [swN, List.length_append, List.length_take, List.length_drop, la, lb]; omega
theorem zfT {a b : List Nat} (la : a.length = 5) (lb : b.length = 5) {i : Nat} (hi : i < 5) : (swN a b i).getD i 0 = a.getD i 0 := by
 obtain ⟨a0, a1, a2, a3, a4, rfl⟩ := len5 la
 obtain ⟨b0, b1, b2, b3, b4, rfl⟩ := len5 lb
 match i with
 | 0 => rfl
 | 1 => rfl
 | 2 => rfl
 | 3 => rfl
 | 4 => rfl
theorem zcx {a b : List Nat} (la : a.length = 5) (lb : b.length = 5) {i : Nat} (hi : i < 5) : (swN a b i).set i (b.getD i 0) = swN a b (i + 1) := by
 obtain ⟨a0, a1, a2, a3, a4, rfl⟩ := len5 la
 obtain ⟨b0, b1, b2, b3, b4, rfl⟩ := len5 lb
 match i with
 | 0 => rfl
 | 1 => rfl
 | 2 => rfl
 | 3 => rfl
 | 4 => rfl
theorem zl4 (a b : List Nat) : swN a b 0 = a := by simp [swN]
theorem zl5 {a b : List Nat} (la : a.length = 5) (lb : b.length = 5) : swN a b 5 = b := by
 rw [swN, List.take_of_length_le (by omega), List.drop_of_length_le (by omega), List.append_nil]
theorem xorN {a b : Nat} (ha : a < 18446744073709551616) (hb : b < 18446744073709551616) : ixor .u64 (a : Int) (b : Int) = ((a ^^^ b : Nat) : Int) := by
 rw [zrO (by omega) (by omega) (by omega) (by omega), Int.toNat_natCast, Int.toNat_natCast]
theorem znV {a b : Nat} (ha : a < 18446744073709551616) (hb : b < 18446744073709551616) : a ^^^ b < 18446744073709551616 := Nat.xor_lt_two_pow (n := 64) ha hb
theorem zpJ {x : Nat} (hx : x < 18446744073709551616) : iand .u64 (18446744073709551615 : Int) (x : Int) = (x : Int) := by
 rw [z83 (by omega) (by omega) (by omega) (by omega), Int.toNat_natCast]
 have := Nat.and_two_pow_sub_one_eq_mod x 64
 simp only [Nat.reducePow, Nat.add_one_sub_one, Nat.reduceSub] at this
 show ((18446744073709551615 &&& x : Nat) : Int) = _
 rw [Nat.and_comm, this, Nat.mod_eq_of_lt hx]
theorem znW {x : Nat} (hx : x < 18446744073709551616) : iand .u64 (0 : Int) (x : Int) = ((0 : Nat) : Int) := by
 rw [z83 (by omega) (by omega) (by omega) (by omega), Int.toNat_natCast]
 show ((0 &&& x : Nat) : Int) = _
 rw [Nat.zero_and]
section
variable {h : Hp} {K : Value → Hp → Prop}
theorem zmh {v w : Value} {x y : F} (bit : Bool) (a : VE v x) (b : VE w y) (k : ∀ r s, VE r (if bit then y else x) → VE s (if bit then x else y) → K (.tuple #[r, s]) h) : Cn P zhp #[.int .u64 (if bit then 1 else 0), v, w] h K := by
 refine Cn_wk (zhI ?_)
 unfold zbo
 obtain ⟨l, rfl, a1, rfl⟩ := a
 obtain ⟨m, rfl, b1, rfl⟩ := b
 refine z3W a1.1 (.refl h) fun r1 H1 n1 m1 x1 y1 e1 f1 => ?_
 refine z3W b1.1 x1 fun r2 H2 n2 m2 x2 y2 e2 f2 => ?_
 refine z15 x2 fun r3 H3 n3 m3 x3 y3 e3 f3 => ?_
 refine z15 x3 fun r4 H4 n4 m4 x4 y4 e4 f4 => ?_
 have ne12 : r1 ≠ r2 := by rintro rfl; rw [e1] at m2; cases m2
 have e1b := y2 _ _ e1
 have ne13 : r1 ≠ r3 := by rintro rfl; rw [e1b] at m3; cases m3
 have ne23 : r2 ≠ r3 := by rintro rfl; rw [e2] at m3; cases m3
 have e1c := y3 _ _ e1b
 have e2c := y3 _ _ e2
 have ne14 : r1 ≠ r4 := by rintro rfl; rw [e1c] at m4; cases m4
 have ne24 : r2 ≠ r4 := by rintro rfl; rw [e2c] at m4; cases m4
 have ne34 : r3 ≠ r4 := by rintro rfl; rw [e3] at m4; cases m4
 have e1d := y4 _ _ e1c
 have e2d := y4 _ _ e2c
 have e3d := y4 _ _ e3
 clear e1 e2 e3 e1b e1c e2c m1 m2 m3 m4 f1 f2 f3 f4 y1 y2 y3 y4 x1 x2 x3
 have l64 : ∀ i, l.getD i 0 < 18446744073709551616 := fun i => Nat.lt_trans (a1.2 i) (by decide)
 have m64 : ∀ i, m.getD i 0 < 18446744073709551616 := fun i => Nat.lt_trans (b1.2 i) (by decide)
 have al1 : ∀ {H : Hp} {K : Value → Prop}, q P H (binOp .and z7u (.int .u64 (if bit then 1 else 0)) (.int .u64 1)) K = K (.int .u64 (if bit then 1 else 0)) := fun {H K} => by
  cases bit <;> exact q_of (by kernel_rfl) _
 have al2 : ∀ {H : Hp} {K : Value → Prop}, q P H (Op.unary .neg (.int .u64 (if bit then 1 else 0))) K = K (.int .u64 (if bit then 18446744073709551615 else 0)) := fun {H K} => by
  cases bit <;> exact q_of (by kernel_rfl) _
 rw [al1, al2]
 refine Lp_mk (fun mm vs H => ∃ i : Nat, i + mm = 5 ∧ Hp.ext h H ∧ H r1 = some (.row zb (nv .u64 (swN l (if bit then m else l) i)) 5 (some (0, 0))) ∧ H r2 = some (.row zb (nv .u64 (swN m (if bit then l else m) i)) 5 (some (0, 0))) ∧ H r3 = some (.row zb (nv .u64 [0, 0, 0, 0, 0]) 5 (some (0, 0))) ∧ H r4 = some (.row zb (nv .u64 [0, 0, 0, 0, 0]) 5 (some (0, 0))) ∧ vs = [.int .i64 (i : Int)]) 5
  ⟨0, rfl, x4, by rw [zl4]; exact e1d, by rw [zl4]; exact e2d, e3d, e4, rfl⟩ ?_
 clear e1d e2d e3d e4 x4
 rintro mm vs H ⟨i, hi, x, e1, e2, e3, e4, rfl⟩
 have lA : (if bit then m else l).length = 5 := by split <;> first | exact b1.1 | exact a1.1
 have lB : (if bit then l else m).length = 5 := by split <;> first | exact b1.1 | exact a1.1
 have L1 := zcw a1.1 lA (i := i) (by omega)
 have L2 := zcw b1.1 lB (i := i) (by omega)
 simp (disch := omega) only [GL, RL, z2D]
 by_cases hlt : i < 5
 ·have c1 := zJ (i := i) e1 (by omega)
  have c2 := zJ (i := i) e2 (by omega)
  rw [zfT a1.1 lA hlt] at c1
  rw [zfT b1.1 lB hlt] at c2
  have hx := znV (l64 i) (m64 i)
  have ei : IntKind.i64.wrap ((i : Int) + 1) = ((i + 1 : Nat) : Int) := by rw [wi64 (by omega) (by omega)]; omega
  simp (disch := omega) only [hlt, decide_true, if_true, GL, RL, fe0, c1, c2, xorN (l64 i) (m64 i)]
  have ha : iand .u64 (if bit then 18446744073709551615 else 0) ((l.getD i 0 ^^^ m.getD i 0 : Nat) : Int) = ((if bit then l.getD i 0 ^^^ m.getD i 0 else 0 : Nat) : Int) := by
   cases bit
   ·exact znW hx
   ·exact zpJ hx
  have hz : (if bit then l.getD i 0 ^^^ m.getD i 0 else 0) < 18446744073709551616 := by
   split
   ·exact hx
   ·decide
  rw [ha, xorN (l64 i) hz]
  have q1 : l.getD i 0 ^^^ (if bit then l.getD i 0 ^^^ m.getD i 0 else 0) = (if bit then m else l).getD i 0 := by
   cases bit
   ·show l.getD i 0 ^^^ 0 = _; rw [Nat.xor_zero]; rfl
   ·show l.getD i 0 ^^^ (l.getD i 0 ^^^ m.getD i 0) = m.getD i 0; rw [← Nat.xor_assoc, Nat.xor_self, Nat.zero_xor]
  have q2 : m.getD i 0 ^^^ (if bit then l.getD i 0 ^^^ m.getD i 0 else 0) = (if bit then l else m).getD i 0 := by
   cases bit
   ·show m.getD i 0 ^^^ 0 = _; rw [Nat.xor_zero]; rfl
   ·show m.getD i 0 ^^^ (l.getD i 0 ^^^ m.getD i 0) = l.getD i 0; rw [Nat.xor_comm (l.getD i 0), ← Nat.xor_assoc, Nat.xor_self, Nat.zero_xor]
  rw [q1]
  refine z1a z14 e1 (by omega) (by simp) ?_
  have c2' : (H.set r1 (.row zb (nv .u64 ((swN l (if bit then m else l) i).set i ((if bit then m else l).getD i 0))) 5 (some (0, 0)))).cell ⟨r2, i, none⟩ = some (.int .u64 ((m.getD i 0 : Nat) : Int)) := by
   have e2' : (H.set r1 (.row zb (nv .u64 ((swN l (if bit then m else l) i).set i ((if bit then m else l).getD i 0))) 5 (some (0, 0)))) r2 = some (.row zb (nv .u64 (swN m (if bit then l else m) i)) 5 (some (0, 0))) := by rw [Hp.set_ne _ _ (Ne.symm ne12)]; exact e2
   have := zJ (i := i) e2' (by omega)
   rwa [zfT b1.1 lB hlt] at this
  simp (disch := omega) only [GL, RL, fe0, c2', xorN (m64 i) hz, ei]
  rw [q2]
  refine z1a z14 (by rw [Hp.set_ne _ _ (Ne.symm ne12)]; exact e2) (by omega) (by simp) ?_
  refine ⟨_, .refl _, mm - 1, by omega, i + 1, by omega, z1r (z1r x n1) n2, ?_, ?_, ?_, ?_, rfl⟩
  ·rw [Hp.set_ne _ _ ne12, Hp.set_same, zcx a1.1 lA hlt]
  ·rw [Hp.set_same, zcx b1.1 lB hlt]
  ·rw [Hp.set_ne _ _ (Ne.symm ne23), Hp.set_ne _ _ (Ne.symm ne13)]; exact e3
  ·rw [Hp.set_ne _ _ (Ne.symm ne24), Hp.set_ne _ _ (Ne.symm ne14)]; exact e4
 ·obtain rfl : i = 5 := by omega
  simp (disch := omega) only [hlt, decide_false, Bool.false_eq_true, if_false]
  rw [zl5 a1.1 lA] at e1
  rw [zl5 b1.1 lB] at e2
  have E1 : EA H r1 (if bit then evL m else evL l) := ⟨_, e1, by split <;> assumption, by split <;> rfl⟩
  have E2 : EA H r2 (if bit then evL l else evL m) := ⟨_, e2, by split <;> assumption, by split <;> rfl⟩
  obtain ⟨u, hu, lu⟩ := E1.ld
  obtain ⟨t, ht, lt⟩ := E2.ld
  rw [(lu H rfl).2, (lt H rfl).2]
  refine z2F hu e3 rfl fun H5 e5 f5 => ⟨(lt H5 (f5 _ ne23)).1, ?_⟩
  refine z2F ht (by rw [f5 _ (Ne.symm ne34)]; exact e4) rfl fun H6 e6 f6 => ?_
  obtain ⟨w1, hw1, lw1⟩ := zl3 (H := H6) (r := r3) (x := if bit then evL m else evL l) (by
   obtain ⟨z, z1, z2⟩ := e5
   exact ⟨z, by rw [f6 _ ne34]; exact z1, z2⟩)
  obtain ⟨w2, hw2, lw2⟩ := zl3 e6
  rw [lw1, lw2]
  exact ⟨h, (z2y (z2y x n3 f5) n4 f6).le, k _ _ hw1 hw2⟩
end
def z1q (l : List Nat) : List Nat := l ++ List.replicate (40 - l.length) 0
def z47 (l : List Nat) : List Nat := (z1q l).set 31 ((z1q l).getD 31 0 % 128)
theorem zbS {l : List Nat} (h : l.length ≤ 32) : (z1q l).length = 40 := by rw [z1q, List.length_append, List.length_replicate]; omega
theorem zmi {l : List Nat} (h : l.length ≤ 32) : (z47 l).length = 40 := by rw [z47, List.length_set, zbS h]
theorem z8z {l : List Nat} (h : Bytes l) : Bytes (z1q l) := Bytes.append h fun x hx => by rw [List.eq_of_mem_replicate hx]; decide
theorem zjj {l : List Nat} (h : Bytes l) : Bytes (z47 l) := fun x hx => by
 rcases List.mem_or_eq_of_mem_set hx with q | q
 ·exact z8z h x q
 ·rw [q]; exact Nat.lt_trans (Nat.mod_lt _ (by decide)) (by decide)
theorem z8A : ∀ n, z9 (List.replicate n 0) = 0
 | 0 => rfl
 | n + 1 => by rw [List.replicate_succ, z9, z8A n]
theorem zmj {l : List Nat} (h : l.length ≤ 32) (hb : Bytes l) : z9 (z47 l) = z9 l % 57896044618658097711785492504343953926634992332820282019728792003956564819968 := by
 have lA := zbS h
 have bA := z8z hb
 have e0 : z9 (z1q l) = z9 l := by rw [z1q, zY, z8A, Nat.mul_zero, Nat.add_zero]
 have e1 : z1q l = (z1q l).take 31 ++ (z1q l).getD 31 0 :: (z1q l).drop 32 := by
  rw [List.getD_eq_getElem?_getD, List.getElem?_eq_getElem (by omega)]
  show z1q l = List.take 31 (z1q l) ++ (z1q l)[31] :: List.drop 32 (z1q l)
  rw [List.getElem_cons_drop, List.take_append_drop]
 have e2 : z47 l = (z1q l).take 31 ++ ((z1q l).getD 31 0 % 128) :: (z1q l).drop 32 := by
  have := List.set_eq_take_append_cons_drop (l := z1q l) (i := 31) (a := (z1q l).getD 31 0 % 128)
  rw [if_pos (by omega)] at this
  exact this
 have d0 : z9 ((z1q l).drop 32) = 0 := by
  rw [z1q, List.drop_append, List.drop_of_length_le h, List.nil_append, List.drop_replicate, z8A]
 have t0 : z9 ((z1q l).take 31) < 452312848583266388373324160190187140051835877600158453279131187530910662656 := by
  have := z18 (z1q l) bA 31
  simpa using this
 have l31 : ((z1q l).take 31).length = 31 := by rw [List.length_take, lA]; rfl
 have f1 : z9 (z1q l) = z9 ((z1q l).take 31) + 452312848583266388373324160190187140051835877600158453279131187530910662656 * (z1q l).getD 31 0 := by
  have q : z9 (z1q l) = z9 ((z1q l).take 31 ++ (z1q l).getD 31 0 :: (z1q l).drop 32) := congrArg z9 e1
  rw [zY, z9, d0, l31] at q
  simpa using q
 have f2 : z9 (z47 l) = z9 ((z1q l).take 31) + 452312848583266388373324160190187140051835877600158453279131187530910662656 * ((z1q l).getD 31 0 % 128) := by
  rw [e2, zY, z9, d0, l31]
  simp
 rw [e0] at f1
 rw [f2, f1]
 generalize z9 ((z1q l).take 31) = T at *
 generalize (z1q l).getD 31 0 = X at *
 clear f1 f2 e0 e1 e2 d0
 omega
theorem zsA : zr P z1L = some (.agg (nv .u8 (List.replicate 40 0)).toArray) := by kernel_rfl
theorem zsB {h : Hp} {K : Value → Prop} (r : Nat) : q P h (Instr.sliceAt z1L (.pointer (some ⟨r, 0, none⟩)) none (some (.int .i64 32)) none) K = K (.slice (some ⟨r, 0, none⟩) 32 40) := q_of (by kernel_rfl) K
theorem zrb {a : Nat} (ha : a < 256) : iand .u8 (a : Int) 127 = ((a % 128 : Nat) : Int) := by
 rw [and8 (by omega) (by omega) (by omega) (by omega), Int.toNat_natCast]
 have := Nat.and_two_pow_sub_one_eq_mod a 7
 simp only [Nat.reducePow, Nat.add_one_sub_one, Nat.reduceSub] at this
 show ((a &&& 127 : Nat) : Int) = _
 rw [this]
theorem zrc {H : Hp} {r e cap : Nat} {A : List Nat} {fz : Option (Nat × Nat)} (hg : H r = some (.row e (nv .u8 A) cap fz)) {q : Nat} (hq : q ≤ A.length) : Rn H .u8 (.slice (some ⟨r, q, none⟩) (A.length - q) (A.length - q)) (A.drop q) := by
 refine ⟨by rw [ze, List.length_drop]; omega, some ⟨r, q, none⟩, A.length - q, by rw [List.length_drop], by rw [List.length_drop]; omega, .inr ⟨r, q, rfl, fun i x e => ?_⟩⟩
 rw [zj hg]
 rw [nv, List.getElem?_map, List.getElem?_drop] at e
 rw [nv, List.getElem?_map]
 exact e
theorem shlN (a n : Nat) (hn : n ≤ 64) : IntKind.u64.wrap ((a : Int) * 2 ^ min ((n : Nat) : Int).toNat IntKind.u64.bits) = ((a * 2 ^ n % 18446744073709551616 : Nat) : Int) := by
 have : min ((n : Nat) : Int).toNat IntKind.u64.bits = n := by simp only [IntKind.bits, Int.toNat_natCast]; omega
 rw [this, mulp, wu64]
theorem shlM (a n : Nat) (hn : n ≤ 64) : IntKind.u64.wrap ((a : Int) * 2 ^ min n IntKind.u64.bits) = ((a * 2 ^ n % 18446744073709551616 : Nat) : Int) := shlN a n hn
theorem shrM (a n : Nat) (hn : n ≤ 64) : ((a : Int).fdiv (2 ^ min n IntKind.u64.bits)) = ((a / 2 ^ n : Nat) : Int) := zeO a n hn
theorem zl6 {a b : Nat} (ha : a < 18446744073709551616) (hb : b < 18446744073709551616) : ior .u64 (a : Int) (b : Int) = ((a ||| b : Nat) : Int) := by
 rw [or64 (by omega) (by omega) (by omega) (by omega), Int.toNat_natCast, Int.toNat_natCast]
theorem zcy {a b : Nat} (ha : a < 18446744073709551616) (hb : b < 18446744073709551616) : a ||| b < 18446744073709551616 := Nat.or_lt_two_pow (n := 64) ha hb
def z39 (N : Nat) : List Nat := [N % 2251799813685248, N / 2251799813685248 % 2251799813685248, N / 5070602400912917605986812821504 % 2251799813685248, N / 11417981541647679048466287755595961091061972992 % 2251799813685248, N / 25711008708143844408671393477458601640355247900524685364822016 % 2251799813685248]
theorem zbT (N : Nat) : Lim (z39 N) := lim5 (by omega) (by omega) (by omega) (by omega) (by omega)
theorem znX {N : Nat} (h : N < 57896044618658097711785492504343953926634992332820282019728792003956564819968) : evL (z39 N) = ph N := by
 have d2 : N / 5070602400912917605986812821504 = N / 2251799813685248 / 2251799813685248 := by rw [Nat.div_div_eq_div_mul]
 have d3 : N / 11417981541647679048466287755595961091061972992 = N / 2251799813685248 / 2251799813685248 / 2251799813685248 := by rw [Nat.div_div_eq_div_mul, Nat.div_div_eq_div_mul]
 have d4 : N / 25711008708143844408671393477458601640355247900524685364822016 = N / 2251799813685248 / 2251799813685248 / 2251799813685248 / 2251799813685248 := by rw [Nat.div_div_eq_div_mul, Nat.div_div_eq_div_mul, Nat.div_div_eq_div_mul]
 show ev5 (N % 2251799813685248) (N / 2251799813685248 % 2251799813685248) (N / 5070602400912917605986812821504 % 2251799813685248) (N / 11417981541647679048466287755595961091061972992 % 2251799813685248) (N / 25711008708143844408671393477458601640355247900524685364822016 % 2251799813685248) = _
 rw [zia]
 congr 1
 unfold num5
 rw [d2, d3, d4]
 clear d2 d3 d4
 omega
theorem zpK {A : List Nat} (bA : Bytes A) (lA : A.length = 40) {i : Nat} (hi : i < 5) (high : Nat) :
  (z9 ((A.drop (51 * i / 8)).take 8) / 2 ^ (51 * i % 8)) % 2251799813685248 = (z39 (z9 A)).getD i 0 ∧ (high * 2 ^ (64 - 51 * i % 8) % 18446744073709551616) % 2251799813685248 = 0 := by
 have e : z9 ((A.drop (51 * i / 8)).take 8) = z9 A / 256 ^ (51 * i / 8) % 18446744073709551616 := by
  rw [zfR (bA.drop _), z9a bA (by omega)]
 rw [e]
 generalize z9 A = N
 match i with
 | 0 => exact ⟨by show N / 1 % 18446744073709551616 / 1 % 2251799813685248 = N % 2251799813685248; omega, by show high * 18446744073709551616 % 18446744073709551616 % 2251799813685248 = 0; omega⟩
 | 1 => exact ⟨by show N / 281474976710656 % 18446744073709551616 / 8 % 2251799813685248 = N / 2251799813685248 % 2251799813685248; omega, by show high * 2305843009213693952 % 18446744073709551616 % 2251799813685248 = 0; omega⟩
 | 2 => exact ⟨by show N / 79228162514264337593543950336 % 18446744073709551616 / 64 % 2251799813685248 = N / 5070602400912917605986812821504 % 2251799813685248; omega, by show high * 288230376151711744 % 18446744073709551616 % 2251799813685248 = 0; omega⟩
 | 3 => exact ⟨by show N / 5708990770823839524233143877797980545530986496 % 18446744073709551616 / 2 % 2251799813685248 = N / 11417981541647679048466287755595961091061972992 % 2251799813685248; omega, by show high * 9223372036854775808 % 18446744073709551616 % 2251799813685248 = 0; omega⟩
 | 4 => exact ⟨by show N / 1606938044258990275541962092341162602522202993782792835301376 % 18446744073709551616 / 16 % 2251799813685248 = N / 25711008708143844408671393477458601640355247900524685364822016 % 2251799813685248; omega, by show high * 1152921504606846976 % 18446744073709551616 % 2251799813685248 = 0; omega⟩
theorem at_i {i : Nat} (hi : i < 5) : IntKind.i64.wrap (51 * (i : Int)) = ((51 * i : Nat) : Int) ∧ IntKind.i64.wrap (((51 * i : Nat) : Int).tdiv 8) = ((51 * i / 8 : Nat) : Int) ∧ ((51 * i : Nat) : Int).tmod 8 = ((51 * i % 8 : Nat) : Int) ∧ IntKind.i64.wrap (64 - ((51 * i % 8 : Nat) : Int)) = ((64 - 51 * i % 8 : Nat) : Int) ∧ IntKind.i64.wrap (((51 * i / 8 : Nat) : Int) + 8) = ((51 * i / 8 + 8 : Nat) : Int) := by
 match i with
 | 0 => decide
 | 1 => decide
 | 2 => decide
 | 3 => decide
 | 4 => decide
section
variable {h : Hp} {K : Value → Hp → Prop}
theorem zil {v : Value} {l : List Nat} (rv : Rn h .u8 v l) (hb : Bytes l) (hl : l.length ≤ 32) (k : ∀ r, VE r (ph (z9 l % 57896044618658097711785492504343953926634992332820282019728792003956564819968)) → K r h) : Cn P zhl #[v] h K := by
 refine Cn_wk (zhD ?_)
 unfold zbe
 refine z15 (.refl h) fun r2 H2 n2 m2 x2 y2 e2 f2 => ?_
 refine zS (nv .u8 (List.replicate 40 0)) zsA rfl fun r3 m3 => ?_
 have n3 := x2.none m3
 have ne23 : r2 ≠ r3 := by rintro rfl; rw [e2] at m3; cases m3
 have lz : (nv .u8 (List.replicate 40 0)).length = 40 := rfl
 rw [lz]
 have x3 := x2.trans (z1x (.row z1L (nv .u8 (List.replicate 40 0)) 40 (some (0, 0))) m3)
 have e2b : (H2.set r3 (.row z1L (nv .u8 (List.replicate 40 0)) 40 (some (0, 0)))) r2 = some (.row zb (nv .u64 [0, 0, 0, 0, 0]) 5 (some (0, 0))) := by rw [Hp.set_ne _ _ ne23]; exact e2
 have e3 : (H2.set r3 (.row z1L (nv .u8 (List.replicate 40 0)) 40 (some (0, 0)))) r3 = some (.row z1L (nv .u8 (List.replicate 40 0)) 40 (some (0, 0))) := Hp.set_same ..
 show q P (H2.set r3 (.row z1L (nv .u8 (List.replicate 40 0)) 40 (some (0, 0)))) _ _
 generalize H2.set r3 (.row z1L (nv .u8 (List.replicate 40 0)) 40 (some (0, 0))) = H3 at *
 rw [zsB]
 refine zdg za zp e3 (rv.mono x3.cle) (zq _ _) (by rw [ze, List.length_replicate]; omega) (fun i _ => by simp) ?_
 have ep : putL (nv .u8 (List.replicate 40 0)) 0 ((nv .u8 l).take 32) = nv .u8 (z1q l) := by
  rw [zcp, List.take_of_length_le hl, zfH _ _ _ (by rw [List.length_replicate]; omega), List.take_zero, List.nil_append, List.drop_replicate, z1q, Nat.zero_add]
 rw [ep]
 have lA := zbS hl
 have bA := z8z hb
 have e3b : (H3.set r3 (.row z1L (nv .u8 (z1q l)) 40 (some (0, 0)))) r3 = some (.row z1L (nv .u8 (z1q l)) 40 (some (0, 0))) := Hp.set_same ..
 have c31 := zJ (i := 31) e3b (by omega)
 have i31 : ((31 : Int)).toNat = 31 := rfl
 simp (disch := omega) only [GL, RL, i31, Nat.zero_add, c31, zrb (bA.getD 31)]
 refine z1a zp e3b (by omega) (by simp) ?_
 have em : (z1q l).set 31 ((z1q l).getD 31 0 % 128) = z47 l := rfl
 rw [em, Hp.set_set]
 have x3b := z1r (o := .row z1L (nv .u8 (z47 l)) 40 (some (0, 0))) x3 n3
 have e2c : (H3.set r3 (.row z1L (nv .u8 (z47 l)) 40 (some (0, 0)))) r2 = some (.row zb (nv .u64 [0, 0, 0, 0, 0]) 5 (some (0, 0))) := by rw [Hp.set_ne _ _ ne23]; exact e2b
 have e3c : (H3.set r3 (.row z1L (nv .u8 (z47 l)) 40 (some (0, 0)))) r3 = some (.row z1L (nv .u8 (z47 l)) 40 (some (0, 0))) := Hp.set_same ..
 generalize H3.set r3 (.row z1L (nv .u8 (z47 l)) 40 (some (0, 0))) = H4 at *
 have lM := zmi hl
 have bM := zjj hb
 have vM := zmj hl hb
 rw [← vM] at k
 have hN : z9 (z47 l) < 57896044618658097711785492504343953926634992332820282019728792003956564819968 := by rw [vM]; exact Nat.mod_lt _ (by decide)
 clear vM em c31 e3b bA lA ep e3 x3 e2b m3 lz e2 x2 y2 m2 f2
 generalize z47 l = A at *
 refine z15 x3b fun r4 H5 n4 m4 x4 y4 e4 f4 => ?_
 have ne24 : r2 ≠ r4 := by rintro rfl; rw [e2c] at m4; cases m4
 have ne34 : r3 ≠ r4 := by rintro rfl; rw [e3c] at m4; cases m4
 refine Lp_mk (fun m vs H => ∃ i : Nat, i + m = 5 ∧ Hp.ext h H ∧ H r2 = some (.row zb (nv .u64 [0, 0, 0, 0, 0]) 5 (some (0, 0))) ∧ H r3 = some (.row z1L (nv .u8 A) 40 (some (0, 0))) ∧ H r4 = some (.row zb (nv .u64 (swN [0, 0, 0, 0, 0] (z39 (z9 A)) i)) 5 (some (0, 0))) ∧ vs = [.int .i64 (i : Int)]) 5
  ⟨0, rfl, x4, y4 _ _ e2c, y4 _ _ e3c, by rw [zl4]; exact e4, rfl⟩ ?_
 clear e2c e3c e4 x4 y4 x3b m4 f4
 rintro m vs H ⟨i, hi, x, e2, e3, e4, rfl⟩
 have lL := (zbT (z9 A)).1
 have L1 := zcw (a := [0, 0, 0, 0, 0]) rfl lL (i := i) (by omega)
 simp (disch := omega) only [GL, RL, z2D]
 by_cases hlt : i < 5
 ·obtain ⟨a1, a2, a3, a4, a5⟩ := at_i hlt
  have n8 : ((8 : Int) ≠ 0) := by decide
  have hq : 51 * i / 8 ≤ 25 := by omega
  have c9 := zJ (i := 51 * i / 8 + 8) e3 (by omega)
  have g9 := bM.getD (51 * i / 8 + 8)
  have cvh : IntKind.u64.wrap ((A.getD (51 * i / 8 + 8) 0 : Nat) : Int) = ((A.getD (51 * i / 8 + 8) 0 : Nat) : Int) := z2j (by omega) (by omega)
  simp (disch := first | omega | decide) only [hlt, decide_true, if_true, GL, RL, a1, a2, a5]
  rw [zga zkx zp _ _ _ (by omega), if_neg (by omega), z1d, Nat.mul_one, Nat.zero_add]
  simp (disch := first | omega | decide) only [GL, RL, a1, a2, a5, Nat.zero_add, c9, cvh]
  have RA := zrc e3 (q := 51 * i / 8) (by omega)
  rw [lM] at RA
  refine z5k RA (bM.drop _) ⟨?_, ?_, ?_⟩
  ·exact pk_q fun K => by simp (disch := omega) only [RL, GL, cvh]
  ·exact pk_q fun K => by simp (disch := omega) only [RL, GL, c9]
  ·obtain ⟨b1, b2⟩ := zpK bM lM hlt (A.getD (51 * i / 8 + 8) 0)
   have hlow : z9 ((A.drop (51 * i / 8)).take 8) < 18446744073709551616 := by
    have := z18 (A.drop (51 * i / 8)) (bM.drop _) 8
    simpa using this
   generalize z9 ((A.drop (51 * i / 8)).take 8) = low at *
   have hsr : low / 2 ^ (51 * i % 8) < 18446744073709551616 := Nat.lt_of_le_of_lt (Nat.div_le_self _ _) hlow
   have hsl : A.getD (51 * i / 8 + 8) 0 * 2 ^ (64 - 51 * i % 8) % 18446744073709551616 < 18446744073709551616 := Nat.mod_lt _ (by decide)
   have hor := zcy hsr hsl
   have hX : (low / 2 ^ (51 * i % 8) ||| A.getD (51 * i / 8 + 8) 0 * 2 ^ (64 - 51 * i % 8) % 18446744073709551616) % 2251799813685248 = (z39 (z9 A)).getD i 0 := by
    rw [← b1, show 2251799813685248 = 2 ^ 51 from rfl, Nat.or_mod_two_pow]
    have b2 : (A.getD (51 * i / 8 + 8) 0 * 2 ^ (64 - 51 * i % 8) % 18446744073709551616) % 2 ^ 51 = 0 := b2
    rw [b2, Nat.or_zero]
   have ei : IntKind.i64.wrap ((i : Int) + 1) = ((i + 1 : Nat) : Int) := by rw [wi64 (by omega) (by omega)]; omega
   simp (disch := first | omega | decide) only [GL, RL, a2, a3, a4, shrM, shlM, zl6 hsr hsl, zcr hor, fe0, Nat.zero_add, hX]
   refine z1a z14 e4 (by omega) (by simp) ?_
   rw [zcx rfl lL hlt]
   have fin : ∃ h0, Hp.le h0 (H.set r4 (.row zb (nv .u64 (swN [0, 0, 0, 0, 0] (z39 (z9 A)) (i + 1))) 5 (some (0, 0)))) ∧ ∃ m_1, m_1 < m ∧ ∃ i_1 : Nat, i_1 + m_1 = 5 ∧ Hp.ext h h0 ∧ h0 r2 = some (.row zb (nv .u64 [0, 0, 0, 0, 0]) 5 (some (0, 0))) ∧ h0 r3 = some (.row z1L (nv .u8 A) 40 (some (0, 0))) ∧ h0 r4 = some (.row zb (nv .u64 (swN [0, 0, 0, 0, 0] (z39 (z9 A)) i_1)) 5 (some (0, 0))) ∧ [Value.int .i64 ((i + 1 : Nat) : Int)] = [.int .i64 (i_1 : Int)] :=
    ⟨_, .refl _, m - 1, by omega, i + 1, by omega, z1r x n4, by rw [Hp.set_ne _ _ ne24]; exact e2, by rw [Hp.set_ne _ _ ne34]; exact e3, Hp.set_same .., rfl⟩
   simp (disch := first | omega | decide) only [GL, RL, a3, ei]
   by_cases h0 : 51 * i % 8 = 0
   ·have z0 : (((51 * i % 8 : Nat) : Int) == 0) = true := by rw [h0]; rfl
    have hl51 : low % 2251799813685248 = (z39 (z9 A)).getD i 0 := by
     rw [← b1, h0, Nat.pow_zero, Nat.div_one]
    simp (disch := first | omega | decide) only [z0, if_true, GL, RL, zcr hlow, hl51, fe0, Nat.zero_add]
    refine z1a z14 (Hp.set_same ..) (by rw [zcw rfl lL (by omega)]; omega) (by simp) ?_
    have e2 : (swN [0, 0, 0, 0, 0] (z39 (z9 A)) (i + 1)).set i ((z39 (z9 A)).getD i 0) = swN [0, 0, 0, 0, 0] (z39 (z9 A)) (i + 1) := by
     rw [← zcx rfl lL hlt, List.set_set]
    rw [e2, Hp.set_set]
    exact fin
   ·have z0 : (((51 * i % 8 : Nat) : Int) == 0) = false := by rw [beq_eq_false_iff_ne]; omega
    simp (disch := first | omega | decide) only [z0, Bool.false_eq_true, if_false]
    exact fin
 ·obtain rfl : i = 5 := by omega
  rw [zl5 rfl lL] at e4
  simp (disch := omega) only [hlt, decide_false, Bool.false_eq_true, if_false]
  have E4 : EA H r4 (ph (z9 A)) := ⟨_, e4, zbT _, znX hN⟩
  obtain ⟨w, hw, lw⟩ := E4.ld
  rw [(lw H rfl).2]
  exact zh1 hw e2 rfl fun H' f => ⟨h, (z2y x n2 f).le, k _ hw⟩
end
set_option maxHeartbeats 400000
theorem zsC {a b c d e : Nat} (ha : a < 9223372036854775808) (hb : b < 9223372036854775808) (hc : c < 9223372036854775808) (hd : d < 9223372036854775808) (he : e < 9223372036854775808) :
  ∃ b' c' d' e', b' = b + a / 2251799813685248 ∧ c' = c + b' / 2251799813685248 ∧ d' = d + c' / 2251799813685248 ∧ e' = e + d' / 2251799813685248 ∧
   (carN [a, b, c, d, e] 5).1 = [a % 2251799813685248, b' % 2251799813685248, c' % 2251799813685248, d' % 2251799813685248, e' % 2251799813685248] := by
 refine ⟨_, _, _, _, rfl, rfl, rfl, rfl, ?_⟩
 have n1 : (a + 0) % 18446744073709551616 = a := by omega
 have n2 : (b + a / 2251799813685248) % 18446744073709551616 = b + a / 2251799813685248 := by omega
 have n3 : (c + (b + a / 2251799813685248) / 2251799813685248) % 18446744073709551616 = c + (b + a / 2251799813685248) / 2251799813685248 := by omega
 have n4 : (d + (c + (b + a / 2251799813685248) / 2251799813685248) / 2251799813685248) % 18446744073709551616 = d + (c + (b + a / 2251799813685248) / 2251799813685248) / 2251799813685248 := by omega
 have n5 : (e + (d + (c + (b + a / 2251799813685248) / 2251799813685248) / 2251799813685248) / 2251799813685248) % 18446744073709551616 = e + (d + (c + (b + a / 2251799813685248) / 2251799813685248) / 2251799813685248) / 2251799813685248 := by omega
 have c1 : carN [a, b, c, d, e] 1 = ([a % 2251799813685248, b, c, d, e], a / 2251799813685248) := by
  simp only [carN, List.set_cons_zero, List.getD_cons_zero, n1]
 have c2 : carN [a, b, c, d, e] 2 = ([a % 2251799813685248, (b + a / 2251799813685248) % 2251799813685248, c, d, e], (b + a / 2251799813685248) / 2251799813685248) := by
  rw [carN, c1]
  simp only [List.set_cons_zero, List.set_cons_succ, List.getD_cons_zero, List.getD_cons_succ, n2]
 have c3 : carN [a, b, c, d, e] 3 = ([a % 2251799813685248, (b + a / 2251799813685248) % 2251799813685248, (c + (b + a / 2251799813685248) / 2251799813685248) % 2251799813685248, d, e], (c + (b + a / 2251799813685248) / 2251799813685248) / 2251799813685248) := by
  rw [carN, c2]
  simp only [List.set_cons_zero, List.set_cons_succ, List.getD_cons_zero, List.getD_cons_succ, n3]
 generalize (c + (b + a / 2251799813685248) / 2251799813685248) = C at *
 generalize (b + a / 2251799813685248) = B at *
 have c4 : carN [a, b, c, d, e] 4 = ([a % 2251799813685248, B % 2251799813685248, C % 2251799813685248, (d + C / 2251799813685248) % 2251799813685248, e], (d + C / 2251799813685248) / 2251799813685248) := by
  rw [carN, c3]
  simp only [List.set_cons_zero, List.set_cons_succ, List.getD_cons_zero, List.getD_cons_succ, n4]
 generalize (d + C / 2251799813685248) = D at *
 rw [carN, c4]
 simp only [List.set_cons_zero, List.set_cons_succ, List.getD_cons_zero, List.getD_cons_succ, n5]
theorem zpL {l : List Nat} (h : Lim l) : ∀ i, (carL (carL (carL l))).getD i 0 < 2251799813685248 := by
 obtain ⟨a, b, c, d, e, rfl, ha, hb, hc, hd, he⟩ := h.form
 obtain ⟨b1, c1, d1, e1, p1, p2, p3, p4, q1⟩ := zcv (a := a) (b := b) (c := c) (d := d) (e := e) (by omega) (by omega) (by omega) (by omega) (by omega)
 rw [q1]
 have A1 : a % 2251799813685248 + 19 * (e1 / 2251799813685248) < 2251799813685248 + 57 := by omega
 have B1 : b1 % 2251799813685248 < 2251799813685248 := Nat.mod_lt _ (by decide)
 have C1 : c1 % 2251799813685248 < 2251799813685248 := Nat.mod_lt _ (by decide)
 have D1 : d1 % 2251799813685248 < 2251799813685248 := Nat.mod_lt _ (by decide)
 have E1 : e1 % 2251799813685248 < 2251799813685248 := Nat.mod_lt _ (by decide)
 generalize a % 2251799813685248 + 19 * (e1 / 2251799813685248) = a2 at *
 generalize b1 % 2251799813685248 = b2 at *
 generalize c1 % 2251799813685248 = c2 at *
 generalize d1 % 2251799813685248 = d2 at *
 generalize e1 % 2251799813685248 = e2 at *
 clear q1 p1 p2 p3 p4 ha hb hc hd he h
 obtain ⟨b3, c3, d3, e3, p1, p2, p3, p4, q1⟩ := zcv (a := a2) (b := b2) (c := c2) (d := d2) (e := e2) (by omega) (by omega) (by omega) (by omega) (by omega)
 rw [q1]
 have A2 : a2 % 2251799813685248 + 19 * (e3 / 2251799813685248) < 2251799813685248 := by omega
 have B2 : b3 % 2251799813685248 < 2251799813685248 := Nat.mod_lt _ (by decide)
 have C2 : c3 % 2251799813685248 < 2251799813685248 := Nat.mod_lt _ (by decide)
 have D2 : d3 % 2251799813685248 < 2251799813685248 := Nat.mod_lt _ (by decide)
 have E2 : e3 % 2251799813685248 < 2251799813685248 := Nat.mod_lt _ (by decide)
 generalize a2 % 2251799813685248 + 19 * (e3 / 2251799813685248) = a4 at *
 generalize b3 % 2251799813685248 = b4 at *
 generalize c3 % 2251799813685248 = c4 at *
 generalize d3 % 2251799813685248 = d4 at *
 generalize e3 % 2251799813685248 = e4 at *
 clear q1 p1 p2 p3 p4 A1 B1 C1 D1 E1
 obtain ⟨b5, c5, d5, e5, p1, p2, p3, p4, q1⟩ := zcv (a := a4) (b := b4) (c := c4) (d := d4) (e := e4) (by omega) (by omega) (by omega) (by omega) (by omega)
 rw [q1]
 intro i
 match i with
 | 0 => show a4 % 2251799813685248 + 19 * (e5 / 2251799813685248) < _; omega
 | 1 => show b5 % 2251799813685248 < _; omega
 | 2 => show c5 % 2251799813685248 < _; omega
 | 3 => show d5 % 2251799813685248 < _; omega
 | 4 => show e5 % 2251799813685248 < _; omega
 | i + 5 => show 0 < _; omega
def qL (a : List Nat) : Nat → Nat
 | 0 => (a.getD 0 0 + 19) / 2251799813685248
 | j + 1 => (a.getD (j + 1) 0 + qL a j) / 2251799813685248
theorem z9d (a : List Nat) (j : Nat) : qL a (j + 1) = (a.getD (j + 1) 0 + qL a j) / 2251799813685248 := rfl
theorem zh2 {a : List Nat} (h : ∀ i, a.getD i 0 < 2251799813685248) : ∀ j, qL a j ≤ 1
 | 0 => by have := h 0; rw [qL]; omega
 | j + 1 => by have := h (j + 1); have := zh2 h j; rw [qL]; omega
theorem zmk {a b c d e : Nat} (ha : a < 2251799813685248) (hb : b < 2251799813685248) (hc : c < 2251799813685248) (hd : d < 2251799813685248) (he : e < 2251799813685248) : z39 (num5 a b c d e) = [a, b, c, d, e] := by
 have d2 : ∀ N : Nat, N / 5070602400912917605986812821504 = N / 2251799813685248 / 2251799813685248 := fun N => by rw [Nat.div_div_eq_div_mul]
 have d3 : ∀ N : Nat, N / 11417981541647679048466287755595961091061972992 = N / 2251799813685248 / 2251799813685248 / 2251799813685248 := fun N => by rw [Nat.div_div_eq_div_mul, Nat.div_div_eq_div_mul]
 have d4 : ∀ N : Nat, N / 25711008708143844408671393477458601640355247900524685364822016 = N / 2251799813685248 / 2251799813685248 / 2251799813685248 / 2251799813685248 := fun N => by rw [Nat.div_div_eq_div_mul, Nat.div_div_eq_div_mul, Nat.div_div_eq_div_mul]
 unfold z39
 rw [d2, d3, d4]
 clear d2 d3 d4
 unfold num5
 have e1 : (a + 2251799813685248 * (b + 2251799813685248 * (c + 2251799813685248 * (d + 2251799813685248 * e)))) / 2251799813685248 = b + 2251799813685248 * (c + 2251799813685248 * (d + 2251799813685248 * e)) := by omega
 have e2 : (b + 2251799813685248 * (c + 2251799813685248 * (d + 2251799813685248 * e))) / 2251799813685248 = c + 2251799813685248 * (d + 2251799813685248 * e) := by omega
 have e3 : (c + 2251799813685248 * (d + 2251799813685248 * e)) / 2251799813685248 = d + 2251799813685248 * e := by omega
 have e4 : (d + 2251799813685248 * e) / 2251799813685248 = e := by omega
 rw [e1, e2, e3, e4]
 congr 1
 ·omega
 ·congr 1
  ·omega
  ·congr 1
   ·omega
   ·congr 1
    ·omega
    ·congr 1
     omega
theorem zrd {a : List Nat} (la : a.length = 5) (h : ∀ i, a.getD i 0 < 2251799813685248) : (carN (a.set 0 (a.getD 0 0 + 19 * qL a 4)) 5).1 = z39 (evL a).val := by
 have hq := zh2 h 4
 obtain ⟨a0, a1, a2, a3, a4, rfl⟩ := len5 la
 have h0 : a0 < 2251799813685248 := h 0
 have h1 : a1 < 2251799813685248 := h 1
 have h2 : a2 < 2251799813685248 := h 2
 have h3 : a3 < 2251799813685248 := h 3
 have h4 : a4 < 2251799813685248 := h 4
 have s0 : qL [a0, a1, a2, a3, a4] 0 = (a0 + 19) / 2251799813685248 := by simp only [qL, List.getD_cons_zero]
 have s1 : qL [a0, a1, a2, a3, a4] 1 = (a1 + qL [a0, a1, a2, a3, a4] 0) / 2251799813685248 := (z9d _ 0).trans (by simp only [List.getD_cons_zero, List.getD_cons_succ])
 have s2 : qL [a0, a1, a2, a3, a4] 2 = (a2 + qL [a0, a1, a2, a3, a4] 1) / 2251799813685248 := (z9d _ 1).trans (by simp only [List.getD_cons_zero, List.getD_cons_succ])
 have s3 : qL [a0, a1, a2, a3, a4] 3 = (a3 + qL [a0, a1, a2, a3, a4] 2) / 2251799813685248 := (z9d _ 2).trans (by simp only [List.getD_cons_zero, List.getD_cons_succ])
 have s4 : qL [a0, a1, a2, a3, a4] 4 = (a4 + qL [a0, a1, a2, a3, a4] 3) / 2251799813685248 := (z9d _ 3).trans (by simp only [List.getD_cons_zero, List.getD_cons_succ])
 simp only [List.set_cons_zero, List.getD_cons_zero, evL, List.getD_cons_succ]
 generalize qL [a0, a1, a2, a3, a4] 4 = q4 at *
 generalize qL [a0, a1, a2, a3, a4] 3 = q3 at *
 generalize qL [a0, a1, a2, a3, a4] 2 = q2 at *
 generalize qL [a0, a1, a2, a3, a4] 1 = q1 at *
 generalize qL [a0, a1, a2, a3, a4] 0 = q0 at *
 obtain ⟨b1, c1, d1, e1, p1, p2, p3, p4, r⟩ := zsC (a := a0 + 19 * q4) (b := a1) (c := a2) (d := a3) (e := a4) (by omega) (by omega) (by omega) (by omega) (by omega)
 rw [r, zia, z5o]
 have R := zpy h0 h1 h2 h3 h4 s0 s1 s2 s3 s4 p1 p2 p3 p4
 rw [← R, zmk (Nat.mod_lt _ (by decide)) (Nat.mod_lt _ (by decide)) (Nat.mod_lt _ (by decide)) (Nat.mod_lt _ (by decide)) (Nat.mod_lt _ (by decide))]
section
variable {h : Hp} {K : Value → Hp → Prop}
theorem zml {v : Value} {x : F} (a : VE v x) (k : K (.agg (nv .u64 (z39 x.val)).toArray) h) : Cn P z9p #[v] h K := by
 refine Cn_wk (z9B ?_)
 unfold z5h
 refine z6c a (.refl h) fun r1 H1 n1 m1 x1 y1 e1 f1 => ?_
 refine z15 x1 fun r2 H2 n2 m2 x2 y2 e2 f2 => ?_
 have ne : r1 ≠ r2 := by rintro rfl; obtain ⟨l, e, _⟩ := e1; rw [e] at m2; cases m2
 obtain ⟨l, e1, l1, v1⟩ := e1.ext y2
 clear y2 y1 f1 f2 m1 m2 x1
 rw [z1w z2l rfl (by rw [ze, l1.1]; exact z2L) e1]
 obtain ⟨g1, w1⟩ := z51 l1.1 fun i => Nat.lt_trans (l1.2 i) (by decide)
 obtain ⟨g2, w2⟩ := z51 g1.1 fun i => Nat.lt_trans (g1.2 i) (by decide)
 obtain ⟨g3, w3⟩ := z51 g2.1 fun i => Nat.lt_trans (g2.2 i) (by decide)
 refine z3F l l1.1 ?_
 refine z3F (carL l) g1.1 ?_
 refine z3F (carL (carL l)) g2.1 ?_
 have lt := zpL l1
 have ev := w3.trans (w2.trans (w1.trans v1))
 clear w1 w2 w3 v1
 have lg := g3.1
 clear g1 g2 g3
 generalize carL (carL (carL l)) = A at *
 refine zD (by rw [ze, lg]; exact z2L) e1 (by rw [ze, ze, l1.1, lg]) (zq _ _) (fun i _ => by simp) ?_
 have x3 := z1r (o := .row zb (nv .u64 A) 5 (some (0, 0))) x2 n1
 have e1b : (H2.set r1 (.row zb (nv .u64 A) 5 (some (0, 0)))) r1 = some (.row zb (nv .u64 A) 5 (some (0, 0))) := Hp.set_same ..
 have e2b : (H2.set r1 (.row zb (nv .u64 A) 5 (some (0, 0)))) r2 = some (.row zb (nv .u64 [0, 0, 0, 0, 0]) 5 (some (0, 0))) := by rw [Hp.set_ne _ _ (Ne.symm ne)]; exact e2
 generalize H2.set r1 (.row zb (nv .u64 A) 5 (some (0, 0))) = H3 at *
 have lt0 := lt 0
 have c0 := zJ (i := 0) e1b (by omega)
 have q00 : qL A 0 = (A.getD 0 0 + 19) / 2251799813685248 := by rw [qL]
 have i0 : ((0 : Int)).toNat = 0 := rfl
 have a19 : IntKind.u64.wrap (((A.getD 0 0 : Nat) : Int) + 19) = ((A.getD 0 0 + 19 : Nat) : Int) := by
  have := z2H (A.getD 0 0) 19
  rw [Nat.mod_eq_of_lt (by omega)] at this
  exact this
 simp (disch := omega) only [GL, RL, fe0, i0, Nat.add_zero, c0, a19, zcs]
 refine Lp_mk (fun m vs H => ∃ i : Nat, 1 ≤ i ∧ i + m = 5 ∧ H = H3 ∧ vs = [.int .u64 ((qL A (i - 1) : Nat) : Int), .int .i64 (i : Int)]) 4
  ⟨1, Nat.le_refl _, rfl, rfl, by rw [show (1 - 1) = 0 from rfl, q00]; rfl⟩ ?_
 rintro m vs H ⟨i, hi1, hi, rfl, rfl⟩
 simp (disch := omega) only [GL, RL, z2D]
 by_cases hlt : i < 5
 ·have ci := zJ (i := i) e1b (by omega)
  have li := lt i
  have ql := zh2 lt (i - 1)
  have ei : IntKind.i64.wrap ((i : Int) + 1) = ((i + 1 : Nat) : Int) := by rw [wi64 (by omega) (by omega)]; omega
  simp (disch := omega) only [hlt, decide_true, if_true, GL, RL, fe0, ci, z2H, zcs, ei]
  refine ⟨_, .refl _, m - 1, by omega, i + 1, by omega, by omega, rfl, ?_⟩
  have : qL A (i + 1 - 1) = (A.getD i 0 + qL A (i - 1)) % 18446744073709551616 / 2251799813685248 := by
   obtain ⟨j, rfl⟩ : ∃ j, i = j + 1 := ⟨i - 1, by omega⟩
   rw [show j + 1 + 1 - 1 = j + 1 from rfl, show j + 1 - 1 = j from rfl, z9d, Nat.mod_eq_of_lt (by rw [show j + 1 - 1 = j from rfl] at ql; omega)]
  rw [this]
 ·obtain rfl : i = 5 := by omega
  have ql := zh2 lt 4
  have m19 : IntKind.u64.wrap (19 * ((qL A 4 : Nat) : Int)) = ((19 * qL A 4 : Nat) : Int) := by
   have := z6h 19 (qL A 4)
   rw [Nat.mod_eq_of_lt (by omega)] at this
   exact this
  have i4 : 5 - 1 = 4 := rfl
  simp (disch := omega) only [hlt, decide_false, Bool.false_eq_true, if_false, GL, RL, fe0, i0, i4, Nat.add_zero, c0, m19, z2H]
  rw [Nat.mod_eq_of_lt (by omega)]
  refine z1a z14 e1b (by omega) (by simp) ?_
  have lS : (A.set 0 (A.getD 0 0 + 19 * qL A 4)).length = 5 := by rw [List.length_set, lg]
  have R := zrd lg lt
  rw [ev] at R
  generalize A.set 0 (A.getD 0 0 + 19 * qL A 4) = S at *
  refine Lp_mk (fun m vs H' => ∃ i : Nat, i + m = 5 ∧ Hp.ext h H' ∧ H' r1 = some (.row zb (nv .u64 (carN S i).1) 5 (some (0, 0))) ∧ H' r2 = some (.row zb (nv .u64 [0, 0, 0, 0, 0]) 5 (some (0, 0))) ∧ vs = [.int .u64 (((carN S i).2 : Nat) : Int), .int .i64 (i : Int)]) 5
   ⟨0, rfl, z1r x3 n1, Hp.set_same .., by rw [Hp.set_ne _ _ (Ne.symm ne)]; exact e2b, rfl⟩ ?_
  clear e1b e2b x3 c0
  rintro m vs H' ⟨i, hi, x, e1, e2, rfl⟩
  have lC : (carN S i).1.length = 5 := by rw [z9M, lS]
  simp (disch := omega) only [GL, RL, z2D]
  by_cases hlt : i < 5
  ·have c1 := zJ (i := i) e1 (by omega)
   simp (disch := omega) only [GL, RL, fe0, hlt, decide_true, if_true, c1, z2H]
   refine z1a z14 e1 (by omega) (by simp) ?_
   generalize hX : ((carN S i).1.getD i 0 + (carN S i).2) % 18446744073709551616 = X
   have hXl : X < 18446744073709551616 := by rw [← hX]; exact Nat.mod_lt _ (by decide)
   have e1b : (H'.set r1 (.row zb (nv .u64 ((carN S i).1.set i X)) 5 (some (0, 0)))) r1 = _ := Hp.set_same ..
   have c2 := zJ (i := i) e1b (by rw [List.length_set]; omega)
   rw [z9k (by omega)] at c2
   have ei : IntKind.i64.wrap ((i : Int) + 1) = ((i + 1 : Nat) : Int) := by rw [wi64 (by omega) (by omega)]; omega
   simp (disch := omega) only [GL, RL, fe0, c2, zcs, zcr hXl, ei]
   refine z1a z14 e1b (by rw [List.length_set]; omega) (by simp) ?_
   rw [Hp.set_set, List.set_set]
   refine ⟨_, .refl _, m - 1, by omega, i + 1, by omega, z1r x n1, ?_, ?_, ?_⟩
   ·rw [Hp.set_same, carN, hX]
   ·rw [Hp.set_ne _ _ (Ne.symm ne)]; exact e2
   ·rw [carN, hX]
  ·obtain rfl : i = 5 := by omega
   simp (disch := omega) only [hlt, decide_false, Bool.false_eq_true, if_false]
   refine zig e1 e2 lC rfl ?_
   rw [R]
   exact ⟨h, (z1r x n2).le, k⟩
end
set_option maxHeartbeats 1000000
def wN (L : List Nat) : Nat → List Nat
 | 0 => [0, 0, 0, 0]
 | i + 1 => if 13 < 51 * i % 64 ∧ 51 * i / 64 + 1 < 4 then ((wN L i).set (51 * i / 64) ((wN L i).getD (51 * i / 64) 0 ||| L.getD i 0 * 2 ^ (51 * i % 64) % 18446744073709551616)).set (51 * i / 64 + 1)
   (((wN L i).set (51 * i / 64) ((wN L i).getD (51 * i / 64) 0 ||| L.getD i 0 * 2 ^ (51 * i % 64) % 18446744073709551616)).getD (51 * i / 64 + 1) 0 ||| L.getD i 0 / 2 ^ (64 - 51 * i % 64))
  else (wN L i).set (51 * i / 64) ((wN L i).getD (51 * i / 64) 0 ||| L.getD i 0 * 2 ^ (51 * i % 64) % 18446744073709551616)
theorem zim (L : List Nat) : ∀ i, (wN L i).length = 4
 | 0 => rfl
 | i + 1 => by
  rw [wN]
  split
  ·rw [List.length_set, List.length_set, zim L i]
  ·rw [List.length_set, zim L i]
theorem zoJ {L : List Nat} (h : ∀ i, L.getD i 0 < 2251799813685248) : ∀ i j, (wN L i).getD j 0 < 18446744073709551616
 | 0, j => by
  match j with
  | 0 => show 0 < _; decide
  | 1 => show 0 < _; decide
  | 2 => show 0 < _; decide
  | 3 => show 0 < _; decide
  | j + 4 => show 0 < _; decide
 | i + 1, j => by
  have st : ∀ (W : List Nat) (p x : Nat), (∀ j, W.getD j 0 < 18446744073709551616) → x < 18446744073709551616 → ∀ j, (W.set p x).getD j 0 < 18446744073709551616 := fun W p x hW hx j => by
   rw [List.getD_eq_getElem?_getD, List.getElem?_set]
   split
   ·split
    ·exact hx
    ·show 0 < _; decide
   ·have := hW j; rwa [List.getD_eq_getElem?_getD] at this
  have h1 := zoJ h i
  have h2 := st _ (51 * i / 64) _ h1 (zcy (h1 (51 * i / 64)) (Nat.mod_lt (L.getD i 0 * 2 ^ (51 * i % 64)) (by decide)))
  rw [wN]
  split
  ·refine st _ _ _ h2 (zcy (h2 _) ?_) j
   have := h i
   exact Nat.lt_of_le_of_lt (Nat.div_le_self _ _) (by omega)
  ·exact h2 j
theorem zh3 {a b n : Nat} (h : a < 2 ^ n) : a ||| b * 2 ^ n = a + b * 2 ^ n := z7R a b n h
theorem dw2 (N : Nat) : N / 340282366920938463463374607431768211456 = N / 18446744073709551616 / 18446744073709551616 := by
 have e : 340282366920938463463374607431768211456 = 18446744073709551616 * 18446744073709551616 := by decide
 rw [e, Nat.div_div_eq_div_mul]
theorem dw3 (N : Nat) : N / 6277101735386680763835789423207666416102355444464034512896 = N / 18446744073709551616 / 18446744073709551616 / 18446744073709551616 := by
 have e : 6277101735386680763835789423207666416102355444464034512896 = 18446744073709551616 * 18446744073709551616 * 18446744073709551616 := by decide
 rw [e, Nat.div_div_eq_div_mul, Nat.div_div_eq_div_mul]
theorem wN_5 {a b c d e : Nat} (ha : a < 2251799813685248) (hb : b < 2251799813685248) (hc : c < 2251799813685248) (hd : d < 2251799813685248) (he : e < 2251799813685248) :
  wN [a, b, c, d, e] 5 = [num5 a b c d e % 18446744073709551616, num5 a b c d e / 18446744073709551616 % 18446744073709551616, num5 a b c d e / 340282366920938463463374607431768211456 % 18446744073709551616, num5 a b c d e / 6277101735386680763835789423207666416102355444464034512896 % 18446744073709551616] := by
 have e0 : wN [a, b, c, d, e] 5 = [(0 ||| a * 1 % 18446744073709551616) ||| b * 2251799813685248 % 18446744073709551616, (0 ||| b / 8192) ||| c * 274877906944 % 18446744073709551616, (0 ||| c / 67108864) ||| d * 33554432 % 18446744073709551616, (0 ||| d / 549755813888) ||| e * 4096 % 18446744073709551616] := by
  simp [wN]
 rw [e0, Nat.zero_or, Nat.zero_or, Nat.zero_or, Nat.zero_or, Nat.mul_one]
 have m1 : b * 2251799813685248 % 18446744073709551616 = (b % 8192) * 2 ^ 51 := by rw [show (2 : Nat) ^ 51 = 2251799813685248 from by decide, show (18446744073709551616 : Nat) = 8192 * 2251799813685248 from by decide, Nat.mul_mod_mul_right]
 have m2 : c * 274877906944 % 18446744073709551616 = (c % 67108864) * 2 ^ 38 := by rw [show (2 : Nat) ^ 38 = 274877906944 from by decide, show (18446744073709551616 : Nat) = 67108864 * 274877906944 from by decide, Nat.mul_mod_mul_right]
 have m3 : d * 33554432 % 18446744073709551616 = (d % 549755813888) * 2 ^ 25 := by rw [show (2 : Nat) ^ 25 = 33554432 from by decide, show (18446744073709551616 : Nat) = 549755813888 * 33554432 from by decide, Nat.mul_mod_mul_right]
 have m4 : e * 4096 % 18446744073709551616 = e * 2 ^ 12 := by rw [show (2 : Nat) ^ 12 = 4096 from by decide]; omega
 have m0 : a % 18446744073709551616 = a := by omega
 rw [m0, m1, m2, m3, m4, zh3 (Nat.lt_of_lt_of_eq (m := 2251799813685248) (by omega) (by decide)), zh3 (Nat.lt_of_lt_of_eq (m := 274877906944) (by omega) (by decide)), zh3 (Nat.lt_of_lt_of_eq (m := 33554432) (by omega) (by decide)), zh3 (Nat.lt_of_lt_of_eq (m := 4096) (by omega) (by decide))]
 have p51 : (2 : Nat) ^ 51 = 2251799813685248 := rfl
 have p38 : (2 : Nat) ^ 38 = 274877906944 := rfl
 have p25 : (2 : Nat) ^ 25 = 33554432 := rfl
 have p12 : (2 : Nat) ^ 12 = 4096 := rfl
 rw [p51, p38, p25, p12]
 clear m0 m1 m2 m3 m4 e0 p51 p38 p25 p12
 have e1 : num5 a b c d e = (a + b % 8192 * 2251799813685248) + 18446744073709551616 * ((b / 8192 + c % 67108864 * 274877906944) + 18446744073709551616 * ((c / 67108864 + d % 549755813888 * 33554432) + 18446744073709551616 * (d / 549755813888 + e * 4096))) := by
  unfold num5
  omega
 have d2 := dw2
 have d3 := dw3
 rw [d2, d3, e1]
 have b0 : a + b % 8192 * 2251799813685248 < 18446744073709551616 := by omega
 have b1 : b / 8192 + c % 67108864 * 274877906944 < 18446744073709551616 := by omega
 have b2 : c / 67108864 + d % 549755813888 * 33554432 < 18446744073709551616 := by omega
 have b3 : d / 549755813888 + e * 4096 < 18446744073709551616 := by omega
 generalize a + b % 8192 * 2251799813685248 = w0 at *
 generalize b / 8192 + c % 67108864 * 274877906944 = w1 at *
 generalize c / 67108864 + d % 549755813888 * 33554432 = w2 at *
 generalize d / 549755813888 + e * 4096 = w3 at *
 clear e1 d2 d3
 have q1 : (w0 + 18446744073709551616 * (w1 + 18446744073709551616 * (w2 + 18446744073709551616 * w3))) / 18446744073709551616 = w1 + 18446744073709551616 * (w2 + 18446744073709551616 * w3) := by omega
 have q2 : (w1 + 18446744073709551616 * (w2 + 18446744073709551616 * w3)) / 18446744073709551616 = w2 + 18446744073709551616 * w3 := by omega
 have q3 : (w2 + 18446744073709551616 * w3) / 18446744073709551616 = w3 := by omega
 rw [q1, q2, q3]
 congr 1
 ·omega
 ·congr 1
  ·omega
  ·congr 1
   ·omega
   ·congr 1
    omega
def wB (W : List Nat) : Nat → List Nat
 | 0 => []
 | i + 1 => wB W i ++ le 8 (W.getD i 0)
theorem zmm (W : List Nat) : ∀ i, (wB W i).length = 8 * i
 | 0 => rfl
 | i + 1 => by rw [wB, List.length_append, zmm W i, zE]; omega
theorem wB_4 (N : Nat) : wB [N % 18446744073709551616, N / 18446744073709551616 % 18446744073709551616, N / 340282366920938463463374607431768211456 % 18446744073709551616, N / 6277101735386680763835789423207666416102355444464034512896 % 18446744073709551616] 4 = le 32 N := by
 have m : ∀ v, le 8 (v % 18446744073709551616) = le 8 v := fun v => zbJ 8 v
 have d2 := dw2 N
 have d3 := dw3 N
 have p8 : (256 : Nat) ^ 8 = 18446744073709551616 := rfl
 simp only [wB, List.getD_cons_zero, List.getD_cons_succ, m, List.nil_append]
 rw [show 32 = 8 + (8 + (8 + 8)) from rfl, z9b 8, z9b 8, z9b 8, p8, d2, d3]
 simp only [List.append_assoc]
theorem zl7 {N : Nat} (h : N < 57896044618658097711785492504343953926634992332820282019728792003956564819968) : ∃ a b c d e, z39 N = [a, b, c, d, e] ∧ a < 2251799813685248 ∧ b < 2251799813685248 ∧ c < 2251799813685248 ∧ d < 2251799813685248 ∧ e < 2251799813685248 ∧ num5 a b c d e = N := by
 refine ⟨_, _, _, _, _, rfl, Nat.mod_lt _ (by decide), Nat.mod_lt _ (by decide), Nat.mod_lt _ (by decide), Nat.mod_lt _ (by decide), Nat.mod_lt _ (by decide), ?_⟩
 have d2 : N / 5070602400912917605986812821504 = N / 2251799813685248 / 2251799813685248 := by rw [Nat.div_div_eq_div_mul]
 have d3 : N / 11417981541647679048466287755595961091061972992 = N / 2251799813685248 / 2251799813685248 / 2251799813685248 := by rw [Nat.div_div_eq_div_mul, Nat.div_div_eq_div_mul]
 have d4 : N / 25711008708143844408671393477458601640355247900524685364822016 = N / 2251799813685248 / 2251799813685248 / 2251799813685248 / 2251799813685248 := by rw [Nat.div_div_eq_div_mul, Nat.div_div_eq_div_mul, Nat.div_div_eq_div_mul]
 unfold num5
 rw [d2, d3, d4]
 clear d2 d3 d4
 omega
theorem znY (x : F) : wB (wN (z39 x.val) 5) 4 = nb x := by
 have hx : x.val < 57896044618658097711785492504343953926634992332820282019728792003956564819968 := by
  have h : x.val < 57896044618658097711785492504343953926634992332820282019728792003956564819949 := x.isLt
  omega
 obtain ⟨a, b, c, d, e, h, ha, hb, hc, hd, he, hN⟩ := zl7 hx
 rw [h, wN_5 ha hb hc hd he, hN, wB_4]
 rfl
theorem znZ (N : Nat) : ∀ i, (z39 N).getD i 0 < 2251799813685248 := by
 intro i
 match i with
 | 0 => exact Nat.mod_lt _ (by decide)
 | 1 => exact Nat.mod_lt _ (by decide)
 | 2 => exact Nat.mod_lt _ (by decide)
 | 3 => exact Nat.mod_lt _ (by decide)
 | 4 => exact Nat.mod_lt _ (by decide)
 | i + 5 => show 0 < _; decide
theorem at_w {i : Nat} (hi : i < 5) : IntKind.i64.wrap (51 * (i : Int)) = ((51 * i : Nat) : Int) ∧ IntKind.i64.wrap (((51 * i : Nat) : Int).tdiv 64) = ((51 * i / 64 : Nat) : Int) ∧ ((51 * i : Nat) : Int).tmod 64 = ((51 * i % 64 : Nat) : Int) ∧ IntKind.i64.wrap (64 - ((51 * i % 64 : Nat) : Int)) = ((64 - 51 * i % 64 : Nat) : Int) ∧ IntKind.i64.wrap (((51 * i / 64 : Nat) : Int) + 1) = ((51 * i / 64 + 1 : Nat) : Int) := by
 match i with
 | 0 => decide
 | 1 => decide
 | 2 => decide
 | 3 => decide
 | 4 => decide
theorem zsD : zr P z3p = some (.agg (nv .u64 [0, 0, 0, 0]).toArray) := by kernel_rfl
theorem idx4 {h : Hp} {K : Value → Prop} {W : List Nat} (lW : W.length = 4) {i : Nat} (hi : i < 4) : q P h (Instr.index z3p (.agg (nv .u64 W).toArray) (.int .i64 (i : Int))) K = K (.int .u64 ((W.getD i 0 : Nat) : Int)) := by
 obtain ⟨a, b, c, d, rfl⟩ : ∃ a b c d, W = [a, b, c, d] := by
  match W, lW with
  | [a, b, c, d], _ => exact ⟨a, b, c, d, rfl⟩
 match i with
 | 0 => exact q_of (by kernel_rfl) K
 | 1 => exact q_of (by kernel_rfl) K
 | 2 => exact q_of (by kernel_rfl) K
 | 3 => exact q_of (by kernel_rfl) K
section
variable {h : Hp} {K : Value → Hp → Prop}
theorem zpM {v : Value} {x : F} (a : VE v x) (k : ∀ r h', Nn h zc .u8 r h' (nb x) → K r h') : Cn P zb2 #[v] h K := by
 refine Cn_wk (zbk ?_)
 unfold z6w
 refine z6c a (.refl h) fun r1 H1 n1 m1 x1 y1 e1 f1 => ?_
 obtain ⟨w, hw, lw⟩ := e1.ld
 rw [(lw H1 rfl).2]
 refine zml hw ?_
 obtain ⟨l, e1, l1, v1⟩ := e1
 have lL := (zbT x.val).1
 have lt := znZ x.val
 have we := znY x
 refine zD (by rw [ze, lL]; exact z2L) e1 (by rw [ze, ze, l1.1, lL]) (zq _ _) (fun i _ => by simp) ?_
 generalize z39 x.val = L at *
 have x2 := z1r (o := .row zb (nv .u64 L) 5 (some (0, 0))) x1 n1
 have e1b : (H1.set r1 (.row zb (nv .u64 L) 5 (some (0, 0)))) r1 = some (.row zb (nv .u64 L) 5 (some (0, 0))) := Hp.set_same ..
 generalize H1.set r1 (.row zb (nv .u64 L) 5 (some (0, 0))) = H2 at *
 refine zS (nv .u64 [0, 0, 0, 0]) zsD rfl fun r2 m2 => ?_
 have l4 : (nv .u64 [0, 0, 0, 0]).length = 4 := rfl
 rw [l4]
 have n2 := x2.none m2
 have ne : r1 ≠ r2 := by rintro rfl; rw [e1b] at m2; cases m2
 have e1c : (H2.set r2 (.row z3p (nv .u64 [0, 0, 0, 0]) 4 (some (0, 0)))) r1 = some (.row zb (nv .u64 L) 5 (some (0, 0))) := by rw [Hp.set_ne _ _ ne]; exact e1b
 rw [fe0, z1w z9v rfl (by rw [ze, lL]; exact z9w) e1c]
 refine Lp_mk (fun m vs H => ∃ i : Nat, i + m = 5 ∧ Hp.ext h H ∧ H r2 = some (.row z3p (nv .u64 (wN L i)) 4 (some (0, 0))) ∧ vs = [.int .i64 (i : Int)]) 5
  ⟨0, rfl, x2.trans (z1x _ m2), Hp.set_same .., rfl⟩ ?_
 clear e1c e1b x2 m2 e1 f1 y1 x1 m1 lw hw l1 v1 a
 rintro m vs H ⟨i, hi, x2, e2, rfl⟩
 have lW := zim L i
 have tW := zoJ lt i
 simp -zeta (disch := omega) only [GL, RL, z2D]
 by_cases hlt : i < 5
 ·obtain ⟨a1, a2, a3, a4, a5⟩ := at_w hlt
  simp -zeta (disch := omega) only [hlt, decide_true, if_true]
  rw [idx5 lL hlt]
  have hq : 51 * i / 64 < 4 := by omega
  have li := lt i
  have c1 := zJ (i := 51 * i / 64) e2 (by omega)
  have hsl : L.getD i 0 * 2 ^ (51 * i % 64) % 18446744073709551616 < 18446744073709551616 := Nat.mod_lt _ (by decide)
  have ei : IntKind.i64.wrap ((i : Int) + 1) = ((i + 1 : Nat) : Int) := by rw [wi64 (by omega) (by omega)]; omega
  have n64 : ((64 : Int) ≠ 0) := by decide
  simp -zeta (disch := first | omega | decide) only [GL, RL, a1, a2, a3, c1, shlM, zl6 (tW (51 * i / 64)) hsl, Nat.zero_add]
  refine z1a z14 e2 (by omega) (by simp) ?_
  intro J
  generalize hW1 : (wN L i).set (51 * i / 64) ((wN L i).getD (51 * i / 64) 0 ||| L.getD i 0 * 2 ^ (51 * i % 64) % 18446744073709551616) = W1
  have lW1 : W1.length = 4 := by rw [← hW1, List.length_set, lW]
  have e3 : (H.set r2 (.row z3p (nv .u64 W1) 4 (some (0, 0)))) r2 = some (.row z3p (nv .u64 W1) 4 (some (0, 0))) := Hp.set_same ..
  have x3 := z1r (o := .row z3p (nv .u64 W1) 4 (some (0, 0))) x2 n2
  have step : wN L (i + 1) = if 13 < 51 * i % 64 ∧ 51 * i / 64 + 1 < 4 then W1.set (51 * i / 64 + 1) (W1.getD (51 * i / 64 + 1) 0 ||| L.getD i 0 / 2 ^ (64 - 51 * i % 64)) else W1 := by rw [wN, hW1]
  have tW1 : ∀ j, W1.getD j 0 < 18446744073709551616 := fun j => by
   rw [← hW1, List.getD_eq_getElem?_getD, List.getElem?_set]
   split
   ·split
    ·exact zcy (tW _) hsl
    ·show 0 < _; decide
   ·have := tW j; rwa [List.getD_eq_getElem?_getD] at this
  generalize H.set r2 (.row z3p (nv .u64 W1) 4 (some (0, 0))) = H3 at *
  have qJ : ∀ b : Bool, b = decide (13 < 51 * i % 64 ∧ 51 * i / 64 + 1 < 4) → J (.bool b) H3 := by
   rintro b rfl
   simp -zeta only [J]
   clear J
   by_cases hc : 13 < 51 * i % 64 ∧ 51 * i / 64 + 1 < 4
   ·rw [if_pos hc] at step
    have c2 := zJ (i := 51 * i / 64 + 1) e3 (by omega)
    have hsr : L.getD i 0 / 2 ^ (64 - 51 * i % 64) < 18446744073709551616 := Nat.lt_of_le_of_lt (Nat.div_le_self _ _) (by omega)
    simp -zeta (disch := first | omega | decide) only [hc, and_self, decide_true, if_true, GL, RL, a2, a3, a4, a5, c2, shrM, zl6 (tW1 (51 * i / 64 + 1)) hsr, Nat.zero_add]
    refine z1a z14 e3 (by omega) (by simp) ?_
    rw [← step]
    exact ⟨_, .refl _, m - 1, by omega, i + 1, by omega, z1r x3 n2, Hp.set_same .., by rw [ei]⟩
   ·rw [if_neg hc] at step
    rw [← step] at e3
    simp -zeta (disch := first | omega | decide) only [hc, decide_false, Bool.false_eq_true, if_false, GL, RL]
    exact ⟨_, .refl _, m - 1, by omega, i + 1, by omega, x3, e3, by rw [ei]⟩
  clear_value J
  have g13 : decide ((13 : Int) < ((51 * i % 64 : Nat) : Int)) = decide (13 < 51 * i % 64) := by rw [decide_eq_decide]; omega
  have g4 : decide (((51 * i / 64 + 1 : Nat) : Int) < 4) = decide (51 * i / 64 + 1 < 4) := by rw [decide_eq_decide]; omega
  simp -zeta (disch := first | omega | decide) only [GL, RL, a2, a3, a5, g13, g4]
  by_cases h13 : 13 < 51 * i % 64
  ·rw [if_pos (by simp [h13])]
   exact qJ _ (by simp [h13])
  ·rw [if_neg (by simp [h13])]
   exact qJ _ (by simp [h13])
 ·obtain rfl : i = 5 := by omega
  simp -zeta (disch := omega) only [hlt, decide_false, Bool.false_eq_true, if_false]
  rw [z1w zky rfl (by rw [ze, lW]; exact zkz) e2]
  generalize wN L 5 = W at *
  refine Lp_mk (fun m vs H' => ∃ (i : Nat) (v : Value), i + m = 4 ∧ Nn H zc .u8 v H' (wB W i) ∧ vs = [v, .int .i64 (i : Int)]) 4
   ⟨0, _, rfl, Nn.nil _ _ _, rfl⟩ ?_
  rintro m vs H' ⟨i, v, hi, nw, rfl⟩
  simp -zeta (disch := omega) only [GL, RL, z7j]
  by_cases hlt : i < 4
  ·simp -zeta (disch := omega) only [hlt, decide_true, if_true]
   rw [idx4 lW hlt]
   refine z4f _ (tW i) fun r h2 n2' => ?_
   have lw8 := zmm W i
   refine zQ za za zw rfl (by omega) nw n2' (zq _ _) (by rw [lw8, zE]; omega) fun v' h3 n3 => ?_
   have ei : IntKind.i64.wrap ((i : Int) + 1) = ((i + 1 : Nat) : Int) := by rw [wi64 (by omega) (by omega)]; omega
   simp -zeta (disch := omega) only [GL, RL, ei]
   refine ⟨_, .refl _, m - 1, by omega, i + 1, v', by omega, ?_, rfl⟩
   show New H zc 1 v' h3 (nv .u8 (wB W (i + 1))) (wB W (i + 1)).length
   rw [wB, z13, List.length_append]
   exact n3
  ·obtain rfl : i = 4 := by omega
   simp -zeta (disch := omega) only [hlt, decide_false, Bool.false_eq_true, if_false]
   rw [we] at nw
   obtain ⟨h0, l0, nw0⟩ := nw.down x2.le
   exact ⟨h0, l0, k _ _ nw0⟩
end
theorem zin {α : Type} : ∀ {ls : List (List α)} (_ : ∀ l ∈ ls, l.length = 5) {j : Nat} {l : List α} (_ : ls[j]? = some l) {i : Nat} {x : α} (_ : l[i]? = some x), ls.flatten[5 * j + i]? = some x
 | [], _, j, l, e, _, _, _ => by simp at e
 | m :: ls, h, 0, l, e, i, x, hx => by
  obtain rfl : m = l := Option.some.inj e
  have hi := (List.getElem?_eq_some_iff.1 hx).1
  rw [List.flatten_cons, Nat.mul_zero, Nat.zero_add, List.getElem?_append_left hi]
  exact hx
 | m :: ls, h, j + 1, l, e, i, x, hx => by
  have hm := h m (by simp)
  have ih := zin (ls := ls) (fun l hl => h l (List.mem_cons_of_mem _ hl)) (j := j) (l := l) e hx
  rw [List.flatten_cons, List.getElem?_append_right (by rw [hm]; omega), hm, show 5 * (j + 1) + i - 5 = 5 * j + i by omega]
  exact ih
theorem zio {α : Type} : ∀ {ls : List (List α)} (_ : ∀ l ∈ ls, l.length = 5) {j : Nat} (_ : j < ls.length) (l : List α), (ls.set j l).flatten = ls.flatten.take (5 * j) ++ l ++ ls.flatten.drop (5 * j + 5)
 | [], _, j, hj, l => by simp at hj
 | m :: ls, h, 0, hj, l => by
  have hm := h m (by simp)
  rw [List.set_cons_zero, List.flatten_cons, List.flatten_cons, Nat.mul_zero, List.take_zero, List.nil_append, Nat.zero_add, List.drop_append, List.drop_of_length_le (by omega), hm, List.nil_append]
  rfl
 | m :: ls, h, j + 1, hj, l => by
  have hm := h m (by simp)
  have ih := zio (ls := ls) (fun l hl => h l (List.mem_cons_of_mem _ hl)) (j := j) (by simpa using hj) l
  have t1 : (m ++ ls.flatten).take (5 * (j + 1)) = m ++ ls.flatten.take (5 * j) := by
   rw [List.take_append, List.take_of_length_le (by omega), hm, show 5 * (j + 1) - 5 = 5 * j by omega]
  have t2 : (m ++ ls.flatten).drop (5 * (j + 1) + 5) = ls.flatten.drop (5 * j + 5) := by
   rw [List.drop_append, List.drop_of_length_le (by omega), hm, List.nil_append, show 5 * (j + 1) + 5 - 5 = 5 * j + 5 by omega]
  rw [List.set_cons_succ, List.flatten_cons, List.flatten_cons, ih, t1, t2]
  simp only [List.append_assoc]
theorem ze2 {α : Type} : ∀ {ls : List (List α)} (_ : ∀ l ∈ ls, l.length = 5), ls.flatten.length = 5 * ls.length
 | [], _ => rfl
 | m :: ls, h => by
  rw [List.flatten_cons, List.length_append, h m (by simp), ze2 (ls := ls) fun l hl => h l (List.mem_cons_of_mem _ hl), List.length_cons]
  omega
def LA (h : Hp) (r : Nat) (xs : List F) : Prop := ∃ ls : List (List Nat), ls.length = 5 ∧ (∀ l ∈ ls, Lim l) ∧ ls.map evL = xs ∧ h r = some (.row z1k (nv .u64 ls.flatten) 25 (some (0, 0)))
theorem LA.ext {h h' : Hp} {r : Nat} {xs : List F} (a : LA h r xs) (e : Hp.ext h h') : LA h' r xs := by
 obtain ⟨ls, h1, h2, h3, h4⟩ := a
 exact ⟨ls, h1, h2, h3, e _ _ h4⟩
theorem LA.same {h h' : Hp} {r : Nat} {xs : List F} (a : LA h r xs) (e : h' r = h r) : LA h' r xs := by
 obtain ⟨ls, h1, h2, h3, h4⟩ := a
 exact ⟨ls, h1, h2, h3, by rw [e]; exact h4⟩
theorem fl0 {h : Hp} {K : Value → Prop} (b : Nat) : q P h (Instr.fieldAt z1k (.pointer (some ⟨b, 0, none⟩)) 0) K = K (.pointer (some ⟨b, 0, none⟩)) := q_of (by kernel_rfl) K
theorem fl1 {h : Hp} {K : Value → Prop} (b : Nat) : q P h (Instr.fieldAt z1k (.pointer (some ⟨b, 0, none⟩)) 1) K = K (.pointer (some ⟨b, 5, none⟩)) := q_of (by kernel_rfl) K
theorem fl2' {h : Hp} {K : Value → Prop} (b : Nat) : q P h (Instr.fieldAt z1k (.pointer (some ⟨b, 0, none⟩)) 2) K = K (.pointer (some ⟨b, 10, none⟩)) := q_of (by kernel_rfl) K
theorem fl3 {h : Hp} {K : Value → Prop} (b : Nat) : q P h (Instr.fieldAt z1k (.pointer (some ⟨b, 0, none⟩)) 3) K = K (.pointer (some ⟨b, 15, none⟩)) := q_of (by kernel_rfl) K
theorem fl4 {h : Hp} {K : Value → Prop} (b : Nat) : q P h (Instr.fieldAt z1k (.pointer (some ⟨b, 0, none⟩)) 4) K = K (.pointer (some ⟨b, 20, none⟩)) := q_of (by kernel_rfl) K
theorem pfl0 {h : Hp} (b : Nat) : peek P h (Instr.fieldAt z1k (.pointer (some ⟨b, 0, none⟩)) 0) = some (.pointer (some ⟨b, 0, none⟩)) := by kernel_rfl
theorem pfl1 {h : Hp} (b : Nat) : peek P h (Instr.fieldAt z1k (.pointer (some ⟨b, 0, none⟩)) 1) = some (.pointer (some ⟨b, 5, none⟩)) := by kernel_rfl
theorem pfl2 {h : Hp} (b : Nat) : peek P h (Instr.fieldAt z1k (.pointer (some ⟨b, 0, none⟩)) 2) = some (.pointer (some ⟨b, 10, none⟩)) := by kernel_rfl
theorem pfl3 {h : Hp} (b : Nat) : peek P h (Instr.fieldAt z1k (.pointer (some ⟨b, 0, none⟩)) 3) = some (.pointer (some ⟨b, 15, none⟩)) := by kernel_rfl
theorem pfl4 {h : Hp} (b : Nat) : peek P h (Instr.fieldAt z1k (.pointer (some ⟨b, 0, none⟩)) 4) = some (.pointer (some ⟨b, 20, none⟩)) := by kernel_rfl
theorem LA.ld {h : Hp} {r : Nat} {xs : List F} (a : LA h r xs) (j : Nat) {x : F} (hx : xs[j]? = some x) {o : Nat} (ho : o = 5 * j) : ∃ v, VE v x ∧ ∀ h' : Hp, h' r = h r → (peek P h' (Instr.loadAt zb (.pointer (some ⟨r, o, none⟩))) = some v ∧ ∀ K : Value → Prop, q P h' (Instr.loadAt zb (.pointer (some ⟨r, o, none⟩))) K = K v) := by
 obtain ⟨ls, h1, h2, rfl, h4⟩ := a
 rw [List.getElem?_map] at hx
 obtain ⟨l, hl, rfl⟩ := Option.map_eq_some_iff.1 hx
 have lm := h2 l (List.mem_of_getElem? hl)
 refine ⟨_, ⟨l, rfl, lm, rfl⟩, fun h' e => ?_⟩
 have k : ∀ K : Value → Prop, q P h' (Instr.loadAt zb (.pointer (some ⟨r, o, none⟩))) K = K (.agg (nv .u64 l).toArray) := fun K => zii z2l rfl (by rw [ze, lm.1]; exact z2L) (by rw [e]; exact h4) fun i y ey => by
  rw [nv, List.getElem?_map] at ey ⊢
  obtain ⟨z, hz, rfl⟩ := Option.map_eq_some_iff.1 ey
  rw [ho, zin (fun l hl => (h2 l hl).1) hl hz]
  rfl
 exact ⟨pk_q k, k⟩
theorem LA.put {h : Hp} {r : Nat} {xs : List F} (a : LA h r xs) (j : Nat) (hj : j < 5) {v : Value} {x : F} (hv : VE v x) {o : Nat} (ho : o = 5 * j) {F' : Unit → Hp → Prop} (k : ∀ H', LA H' r (xs.set j x) → (∀ b, b ≠ r → H' b = h b) → F' () H') :
  aw P (Instr.storeAt zb (.pointer (some ⟨r, o, none⟩)) v) F' h := by
 obtain ⟨ls, h1, h2, rfl, h4⟩ := a
 obtain ⟨l, rfl, lm, rfl⟩ := hv
 have fl := ze2 (fun l hl => (h2 l hl).1)
 have l5 := lm.1
 refine zbP (by rw [ze, lm.1]; exact z2L) h4 (by rw [ze, ze, fl]; omega) (zq _ _) (fun i _ => by simp) ?_
 have e : putL (nv .u64 ls.flatten) o (nv .u64 l) = nv .u64 (ls.set j l).flatten := by
  rw [zco _ _ _ (by rw [ze, ze, fl]; omega), zio (fun l hl => (h2 l hl).1) (by omega), z13, z13, ze, l5, ho]
  simp only [nv, List.map_take, List.map_drop]
 rw [e]
 refine k _ ⟨ls.set j l, by rw [List.length_set, h1], fun m hm => ?_, by rw [List.map_set], Hp.set_same ..⟩ fun b hb => Hp.set_ne _ _ hb
 rcases List.mem_or_eq_of_mem_set hm with q | q
 ·exact h2 m q
 ·rw [q]; exact lm
section
variable {h : Hp} {K : Value → Hp → Prop}
theorem zmn {r : Nat} {u x2 z2 x3 z3 : F} (bit : Bool) (a : LA h r [u, x2, z2, x3, z3]) (k : ∀ h', LA h' r (if bit then [u, x3, z3, x2, z2] else [u, x2, z2, x3, z3]) → (∀ b, b ≠ r → h' b = h b) → K (.tuple #[]) h') :
  Cn P zan #[.pointer (some ⟨r, 0, none⟩), .int .u64 (if bit then 1 else 0)] h K := by
 refine zaA ?_
 unfold z5G
 obtain ⟨v1, e1, l1⟩ := a.ld 1 rfl (o := 5) rfl
 obtain ⟨v3, e3, l3⟩ := a.ld 3 rfl (o := 15) rfl
 simp -zeta only [GL, fl1, fl3, fl2', fl4]
 rw [(l1 h rfl).2, (l3 h rfl).2]
 refine zmh bit e1 e3 fun s1 s3 f1 f3 => ?_
 rw [ext0, ext1]
 refine a.put 1 (by omega) f1 rfl fun h1 a1 g1 => ?_
 refine a1.put 3 (by omega) f3 rfl fun h2 a2 g2 => ?_
 obtain ⟨v2, e2, l2⟩ := a2.ld 2 (x := z2) (by cases bit <;> rfl) (o := 10) rfl
 obtain ⟨v4, e4, l4⟩ := a2.ld 4 (x := z3) (by cases bit <;> rfl) (o := 20) rfl
 rw [(l2 h2 rfl).2, (l4 h2 rfl).2]
 refine zmh bit e2 e4 fun s2 s4 f2 f4 => ?_
 rw [ext0, ext1]
 refine a2.put 2 (by omega) f2 rfl fun h3 a3 g3 => ?_
 refine a3.put 4 (by omega) f4 rfl fun h4 a4 g4 => ?_
 refine k h4 ?_ fun b hb => by rw [g4 b hb, g3 b hb, g2 b hb, g1 b hb]
 cases bit <;> exact a4
def ZA (h : Hp) (r : Nat) : Prop := h r = some (.row zb (nv .u64 [0, 0, 0, 0, 0]) 5 (some (0, 0)))
theorem st2 {base H : Hp} {r s : Nat} {v w : Value} {a b : F} (x : Hp.ext base H) (nr : base r = none) (ns : base s = none) (ne : r ≠ s) (zr : ZA H r) (zs : ZA H s) (hv : VE v a) (hw : VE w b) {F' : Value → Value → Hp → Prop}
  (k : ∀ r s H', Hp.ext base H' → EA H' r a → EA H' s b → F' (.pointer (some ⟨r, 0, none⟩)) (.pointer (some ⟨s, 0, none⟩)) H') :
  aw P (Instr.storeAt zb (.pointer (some ⟨r, 0, none⟩)) v) (fun _ h => aw P (Instr.storeAt zb (.pointer (some ⟨s, 0, none⟩)) w) (fun _ h => F' (.pointer (some ⟨r, 0, none⟩)) (.pointer (some ⟨s, 0, none⟩)) h) h) H := by
 refine z2F hv zr rfl fun H1 e1 f1 => ?_
 refine z2F hw (by rw [f1 _ (Ne.symm ne)]; exact zs) rfl fun H2 e2 f2 => ?_
 obtain ⟨l, q1, q2⟩ := e1
 exact k r s H2 (z2y (z2y x nr f1) ns f2) ⟨l, by rw [f2 _ ne]; exact q1, q2⟩ e2
theorem st2R {base H : Hp} {r : Nat} {v w : Value} {a b : F} (x : Hp.ext base H) (nr : base r = none) (zr : ZA H r) (hv : VE v a) (hw : VE w b) {F' : Value → Value → Hp → Prop}
  (k : ∀ r s H', Hp.ext base H' → EA H' r a → EA H' s b → F' (.pointer (some ⟨r, 0, none⟩)) (.pointer (some ⟨s, 0, none⟩)) H') :
  aw P (Instr.alloc zb true (.tuple #[])) (fun t h => aw P (Instr.storeAt zb (.pointer (some ⟨r, 0, none⟩)) v) (fun _ h => aw P (Instr.storeAt zb t w) (fun _ h => F' (.pointer (some ⟨r, 0, none⟩)) t h) h) h) H := by
 refine z15 x fun s H1 n m x1 y e f => ?_
 exact st2 x1 nr n (by rintro rfl; unfold ZA at zr; rw [m] at zr; cases zr) (y _ _ zr) e hv hw k
theorem st2L {base H : Hp} {s : Nat} {v w : Value} {a b : F} (x : Hp.ext base H) (ns : base s = none) (zs : ZA H s) (hv : VE v a) (hw : VE w b) {F' : Value → Value → Hp → Prop}
  (k : ∀ r s H', Hp.ext base H' → EA H' r a → EA H' s b → F' (.pointer (some ⟨r, 0, none⟩)) (.pointer (some ⟨s, 0, none⟩)) H') :
  aw P (Instr.alloc zb true (.tuple #[])) (fun t h => aw P (Instr.storeAt zb t v) (fun _ h => aw P (Instr.storeAt zb (.pointer (some ⟨s, 0, none⟩)) w) (fun _ h => F' t (.pointer (some ⟨s, 0, none⟩)) h) h) h) H := by
 refine z15 x fun r H1 n m x1 y e f => ?_
 exact st2 x1 n ns (by rintro rfl; unfold ZA at zs; rw [m] at zs; cases zs) e (y _ _ zs) hv hw k
theorem st2A {base H : Hp} {v w : Value} {a b : F} (x : Hp.ext base H) (hv : VE v a) (hw : VE w b) {F' : Value → Value → Hp → Prop}
  (k : ∀ r s H', Hp.ext base H' → EA H' r a → EA H' s b → F' (.pointer (some ⟨r, 0, none⟩)) (.pointer (some ⟨s, 0, none⟩)) H') :
  aw P (Instr.alloc zb true (.tuple #[])) (fun t2 h => aw P (Instr.alloc zb true (.tuple #[])) (fun t3 h => aw P (Instr.storeAt zb t2 v) (fun _ h => aw P (Instr.storeAt zb t3 w) (fun _ h => F' t2 t3 h) h) h) h) H := by
 refine z15 x fun r H1 n m x1 y e f => ?_
 exact st2R x1 n e hv hw k
theorem st2B {base H : Hp} {v w : Value} {a b : F} (x : Hp.ext base H) (hv : VE v a) (hw : VE w b) {F' : Value → Value → Hp → Prop}
  (k : ∀ r s H', Hp.ext base H' → EA H' r a → EA H' s b → F' (.pointer (some ⟨r, 0, none⟩)) (.pointer (some ⟨s, 0, none⟩)) H') :
  aw P (Instr.alloc zb true (.tuple #[])) (fun t3 h => aw P (Instr.alloc zb true (.tuple #[])) (fun t2 h => aw P (Instr.storeAt zb t2 v) (fun _ h => aw P (Instr.storeAt zb t3 w) (fun _ h => F' t2 t3 h) h) h) h) H := by
 refine z15 x fun s H1 n m x1 y e f => ?_
 exact st2L x1 n e hv hw k
theorem zbU {base H : Hp} {F' : Value → Hp → Prop} (x : Hp.ext base H) (k : ∀ r H', base r = none → Hp.ext base H' → Hp.ext H H' → ZA H' r → (∀ s, ZA H s → s ≠ r ∧ r ≠ s) → F' (.pointer (some ⟨r, 0, none⟩)) H') : aw P (Instr.alloc zb true (.tuple #[])) F' H :=
 z15 x fun r H' n m x1 y e _ => k r H' n x1 y e fun s z => by
  have : s ≠ r := by rintro rfl; unfold ZA at z; rw [m] at z; cases z
  exact ⟨this, Ne.symm this⟩
theorem ZA.ext {h h' : Hp} {r : Nat} (z : ZA h r) (x : Hp.ext h h') : ZA h' r := x _ _ z
theorem EA.ldx {h : Hp} {r : Nat} {x : F} (a : EA h r x) : ∃ v, VE v x ∧ ∀ h' : Hp, Hp.ext h h' → (peek P h' (Instr.loadAt zb (.pointer (some ⟨r, 0, none⟩))) = some v ∧ ∀ K : Value → Prop, q P h' (Instr.loadAt zb (.pointer (some ⟨r, 0, none⟩))) K = K v) := by
 obtain ⟨v, hv, l⟩ := a.ld
 obtain ⟨m, e, _⟩ := a
 exact ⟨v, hv, fun h' x => l h' (by rw [x _ _ e, e])⟩
theorem LA.ldx {h : Hp} {r : Nat} {xs : List F} (a : LA h r xs) (j : Nat) {x : F} (hx : xs[j]? = some x) {o : Nat} (ho : o = 5 * j) : ∃ v, VE v x ∧ ∀ h' : Hp, Hp.ext h h' → (peek P h' (Instr.loadAt zb (.pointer (some ⟨r, o, none⟩))) = some v ∧ ∀ K : Value → Prop, q P h' (Instr.loadAt zb (.pointer (some ⟨r, o, none⟩))) K = K v) := by
 obtain ⟨v, hv, l⟩ := a.ld j hx ho
 obtain ⟨m, _, _, _, e⟩ := a
 exact ⟨v, hv, fun h' x => l h' (by rw [x _ _ e, e])⟩
end
theorem EA.same {h h' : Hp} {r : Nat} {x : F} (a : EA h r x) (e : h' r = h r) : EA h' r x := by
 obtain ⟨l, h1, h2, h3⟩ := a
 exact ⟨l, by rw [e]; exact h1, h2, h3⟩
theorem EA.ne {h : Hp} {r s : Nat} {x : F} {xs : List F} (a : EA h r x) (b : LA h s xs) : r ≠ s := by
 rintro rfl
 obtain ⟨l, h1, _⟩ := a
 obtain ⟨m, _, _, _, h2⟩ := b
 rw [h1] at h2
 have := congrArg (fun o => match o with | some (AObj.row t _ _ _) => t | _ => 0) h2
 exact absurd this (show ¬ (zb = z1k) from by decide)
section
variable {h : Hp} {K : Value → Hp → Prop}
theorem zre {r : Nat} {u x2 z2 x3 z3 : F} (a : LA h r [u, x2, z2, x3, z3])
  (k : ∀ h', LA h' r [u, (z4I 121665 u (x2, z2, x3, z3)).1, (z4I 121665 u (x2, z2, x3, z3)).2.1, (z4I 121665 u (x2, z2, x3, z3)).2.2.1, (z4I 121665 u (x2, z2, x3, z3)).2.2.2] → (∀ b o, b ≠ r → h b = some o → h' b = some o) → K (.tuple #[]) h') :
  Cn P zao #[.pointer (some ⟨r, 0, none⟩)] h K := by
 refine zaB ?_
 unfold z40
 have x0 : Hp.ext h h := .refl h
 have k1 : ∀ r2 r3 H, Hp.ext h H → EA H r2 (x2 + z2) → EA H r3 (x2 - z2) → zy K H (.pointer (some ⟨r, 0, none⟩)) (.pointer (some ⟨r2, 0, none⟩)) (.pointer (some ⟨r3, 0, none⟩)) := by
  intro r2 r3 H xH ea eb
  clear x0
  have x0 : Hp.ext H H := .refl H
  unfold zy
  have k2 : ∀ r4 r5 H', Hp.ext H H' → EA H' r4 ((x2 + z2) * (x2 + z2)) → EA H' r5 ((x2 - z2) * (x2 - z2)) → zx K H' (.pointer (some ⟨r, 0, none⟩)) (.pointer (some ⟨r2, 0, none⟩)) (.pointer (some ⟨r3, 0, none⟩)) (.pointer (some ⟨r4, 0, none⟩)) (.pointer (some ⟨r5, 0, none⟩)) := by
   intro r4 r5 H2 x2H e4 e5
   replace ea := ea.ext x2H
   replace eb := eb.ext x2H
   replace xH := xH.trans x2H
   clear x0 x2H
   unfold zx
   obtain ⟨v4, p4, l4⟩ := e4.ldx
   obtain ⟨v5, p5, l5⟩ := e5.ldx
   rw [(l4 H2 (.refl _)).2, (l5 H2 (.refl _)).2]
   refine zh0 p4 p5 fun v6 p6 => ?_
   refine z15 (.refl H2) fun r6 H3 n6 m6 x6 y6 e6 f6 => z2F p6 e6 rfl fun H4 e6' f6' => ?_
   have x4 := z2y x6 n6 f6'
   clear l4 l5 p4 p5 p6 e6 f6 f6' y6
   replace ea := ea.ext x4
   replace eb := eb.ext x4
   replace e4 := e4.ext x4
   replace e5 := e5.ext x4
   replace xH := xH.trans x4
   clear x4 x6 n6 m6
   unfold z2X
   have aH := a.ext xH
   have x0 : Hp.ext H4 H4 := .refl H4
   have k3 : ∀ r7 r8 H', Hp.ext H4 H' → EA H' r7 ((x3 - z3) * (x2 + z2)) → EA H' r8 ((x3 + z3) * (x2 - z2)) → zf K H' (.pointer (some ⟨r, 0, none⟩)) (.pointer (some ⟨r4, 0, none⟩)) (.pointer (some ⟨r5, 0, none⟩)) (.pointer (some ⟨r6, 0, none⟩)) (.pointer (some ⟨r7, 0, none⟩)) (.pointer (some ⟨r8, 0, none⟩)) := by
    intro r7 r8 H5 x5 e7 e8
    replace e4 := e4.ext x5
    replace e5 := e5.ext x5
    replace e6' := e6'.ext x5
    replace xH := xH.trans x5
    replace aH := aH.ext x5
    clear x0 x5 ea eb
    have d4 := e4.ne aH
    have d5 := e5.ne aH
    have d6 := e6'.ne aH
    have d7 := e7.ne aH
    have d8 := e8.ne aH
    unfold zf
    obtain ⟨v7, p7, l7⟩ := e7.ld
    obtain ⟨v8, p8, l8⟩ := e8.ld
    rw [(l7 H5 rfl).2, (l8 H5 rfl).2]
    refine zgZ p7 p8 fun w1 q1 => z4T q1 fun w2 q2 => ?_
    simp -zeta only [GL, fl3]
    refine aH.put 3 (by omega) q2 rfl fun H6 a6 g6 => ?_
    unfold z2W
    simp -zeta only [GL, fl0, fl4]
    obtain ⟨vu, pu, lu⟩ := a6.ld 0 (x := u) rfl (o := 0) rfl
    rw [(lu H6 rfl).2, (l7 H6 (g6 _ d7)).2, (l8 H6 (g6 _ d8)).2]
    refine zh0 p7 p8 fun w3 q3 => ⟨(lu H6 rfl).1, pfl0 r, z4T q3 fun w4 q4 => ⟨(lu H6 rfl).1, pfl0 r, z3O pu q4 fun w5 q5 => ?_⟩⟩
    refine a6.put 4 (by omega) q5 rfl fun H7 a7 g7 => ?_
    unfold z2V
    obtain ⟨v4, p4, l4⟩ := e4.ld
    obtain ⟨v5, p5, l5⟩ := e5.ld
    have h4 : H7 r4 = H5 r4 := by rw [g7 _ d4, g6 _ d4]
    have h5 : H7 r5 = H5 r5 := by rw [g7 _ d5, g6 _ d5]
    rw [(l4 H7 h4).2, (l5 H7 h5).2]
    refine z3O p4 p5 fun w6 q6 => ?_
    simp -zeta only [GL, fl1]
    refine a7.put 1 (by omega) q6 rfl fun H8 a8 g8 => ?_
    unfold z2U
    obtain ⟨v6, p6, l6⟩ := e6'.ld
    have h6 : H8 r6 = H5 r6 := by rw [g8 _ d6, g7 _ d6, g6 _ d6]
    have h4' : H8 r4 = H5 r4 := by rw [g8 _ d4, h4]
    rw [(l6 H8 h6).2, (l4 H8 h4').2, (l6 H8 h6).2]
    refine zpI 121665 (by omega) p6 fun w7 q7 => ⟨(l4 H8 h4').1, (l6 H8 h6).1, zgZ p4 q7 fun w8 q8 => ⟨(l6 H8 h6).1, z3O p6 q8 fun w9 q9 => ?_⟩⟩
    simp -zeta only [GL, fl2']
    refine a8.put 2 (by omega) q9 rfl fun H9 a9 g9 => ?_
    refine k H9 ?_ fun b o hb e => by rw [g9 b hb, g8 b hb, g7 b hb, g6 b hb]; exact xH _ _ e
    have e1 : ∀ y : F, y * ph 121665 = 121665 * y := fun y => by rw [show ph 121665 = (121665 : F) from by decide +kernel]; grobner
    have := a9
    rw [e1] at this
    exact this
   clear k
   simp -zeta only [GL, fl3, fl4]
   obtain ⟨y3, p3, l3⟩ := aH.ldx 3 (x := x3) rfl (o := 15) rfl
   obtain ⟨y4, p4, l4⟩ := aH.ldx 4 (x := z3) rfl (o := 20) rfl
   obtain ⟨ya, pa, la⟩ := ea.ldx
   obtain ⟨yb, pb, lb⟩ := eb.ldx
   rw [(l3 H4 x0).2, (l4 H4 x0).2, (la H4 x0).2, (l3 H4 x0).2, (l4 H4 x0).2, (lb H4 x0).2]
   clear xH ea eb e4 e5 e6' aH a
   repeat' (first
    | with_reducible exact pfl3 _ | with_reducible exact pfl4 _
    | with_reducible exact (l3 _ (by assumption)).1 | with_reducible exact (l4 _ (by assumption)).1 | with_reducible exact (la _ (by assumption)).1 | with_reducible exact (lb _ (by assumption)).1
    | with_reducible refine ⟨?_, ?_⟩
    | with_reducible refine z3O (by assumption) (by assumption) fun _ _ => ?_
    | with_reducible refine zgZ (by assumption) (by assumption) fun _ _ => ?_
    | with_reducible refine zh0 (by assumption) (by assumption) fun _ _ => ?_
    | with_reducible exact st2A (F' := fun s t h => zf K h (.pointer (some ⟨r, 0, none⟩)) (.pointer (some ⟨r4, 0, none⟩)) (.pointer (some ⟨r5, 0, none⟩)) (.pointer (some ⟨r6, 0, none⟩)) s t) (base := H4) (by assumption) (by assumption) (by assumption) k3
    | with_reducible exact st2B (F' := fun s t h => zf K h (.pointer (some ⟨r, 0, none⟩)) (.pointer (some ⟨r4, 0, none⟩)) (.pointer (some ⟨r5, 0, none⟩)) (.pointer (some ⟨r6, 0, none⟩)) s t) (base := H4) (by assumption) (by assumption) (by assumption) k3
    | with_reducible exact st2R (F' := fun s t h => zf K h (.pointer (some ⟨r, 0, none⟩)) (.pointer (some ⟨r4, 0, none⟩)) (.pointer (some ⟨r5, 0, none⟩)) (.pointer (some ⟨r6, 0, none⟩)) s t) (base := H4) (by assumption) (by assumption) (by assumption) (by assumption) (by assumption) k3
    | with_reducible exact st2L (F' := fun s t h => zf K h (.pointer (some ⟨r, 0, none⟩)) (.pointer (some ⟨r4, 0, none⟩)) (.pointer (some ⟨r5, 0, none⟩)) (.pointer (some ⟨r6, 0, none⟩)) s t) (base := H4) (by assumption) (by assumption) (by assumption) (by assumption) (by assumption) k3
    | with_reducible exact st2 (F' := fun s t h => zf K h (.pointer (some ⟨r, 0, none⟩)) (.pointer (some ⟨r4, 0, none⟩)) (.pointer (some ⟨r5, 0, none⟩)) (.pointer (some ⟨r6, 0, none⟩)) s t) (base := H4) (by assumption) (by assumption) (by assumption) (by first | exact (‹∀ s, ZA _ s → s ≠ _ ∧ _ ≠ s› _ (by assumption)).1 | exact (‹∀ s, ZA _ s → s ≠ _ ∧ _ ≠ s› _ (by assumption)).2) (by first | assumption | exact ZA.ext (by assumption) (by assumption)) (by first | assumption | exact ZA.ext (by assumption) (by assumption)) (by assumption) (by assumption) k3
    | with_reducible refine zbU (base := H4) (by assumption) fun _ _ _ _ _ _ _ => ?_)
  clear k
  obtain ⟨ya, pa, la⟩ := ea.ldx
  obtain ⟨yb, pb, lb⟩ := eb.ldx
  rw [(la H x0).2, (lb H x0).2]
  clear xH ea eb a
  repeat' (first
   | with_reducible exact (la _ (by assumption)).1 | with_reducible exact (lb _ (by assumption)).1
   | with_reducible refine ⟨?_, ?_⟩
   | with_reducible refine z4T (by assumption) fun _ _ => ?_
   | with_reducible exact st2A (F' := fun s t h => zx K h (.pointer (some ⟨r, 0, none⟩)) (.pointer (some ⟨r2, 0, none⟩)) (.pointer (some ⟨r3, 0, none⟩)) s t) (base := H) (by assumption) (by assumption) (by assumption) k2
   | with_reducible exact st2B (F' := fun s t h => zx K h (.pointer (some ⟨r, 0, none⟩)) (.pointer (some ⟨r2, 0, none⟩)) (.pointer (some ⟨r3, 0, none⟩)) s t) (base := H) (by assumption) (by assumption) (by assumption) k2
   | with_reducible exact st2R (F' := fun s t h => zx K h (.pointer (some ⟨r, 0, none⟩)) (.pointer (some ⟨r2, 0, none⟩)) (.pointer (some ⟨r3, 0, none⟩)) s t) (base := H) (by assumption) (by assumption) (by assumption) (by assumption) (by assumption) k2
   | with_reducible exact st2L (F' := fun s t h => zx K h (.pointer (some ⟨r, 0, none⟩)) (.pointer (some ⟨r2, 0, none⟩)) (.pointer (some ⟨r3, 0, none⟩)) s t) (base := H) (by assumption) (by assumption) (by assumption) (by assumption) (by assumption) k2
   | with_reducible exact st2 (F' := fun s t h => zx K h (.pointer (some ⟨r, 0, none⟩)) (.pointer (some ⟨r2, 0, none⟩)) (.pointer (some ⟨r3, 0, none⟩)) s t) (base := H) (by assumption) (by assumption) (by assumption) (by first | exact (‹∀ s, ZA _ s → s ≠ _ ∧ _ ≠ s› _ (by assumption)).1 | exact (‹∀ s, ZA _ s → s ≠ _ ∧ _ ≠ s› _ (by assumption)).2) (by first | assumption | exact ZA.ext (by assumption) (by assumption)) (by first | assumption | exact ZA.ext (by assumption) (by assumption)) (by assumption) (by assumption) k2
   | with_reducible refine zbU (base := H) (by assumption) fun _ _ _ _ _ _ _ => ?_)
 clear k
 simp -zeta only [GL, fl1, fl2']
 obtain ⟨y2, p2, l2⟩ := a.ldx 1 (x := x2) rfl (o := 5) rfl
 obtain ⟨y3, p3, l3⟩ := a.ldx 2 (x := z2) rfl (o := 10) rfl
 rw [(l2 h x0).2, (l3 h x0).2, (l2 h x0).2, (l3 h x0).2]
 clear a
 repeat' (first
  | with_reducible exact pfl1 _ | with_reducible exact pfl2 _ | with_reducible exact (l2 _ (by assumption)).1 | with_reducible exact (l3 _ (by assumption)).1
  | with_reducible refine ⟨?_, ?_⟩
  | with_reducible refine zgZ (by assumption) (by assumption) fun _ _ => ?_
  | with_reducible refine zh0 (by assumption) (by assumption) fun _ _ => ?_
  | with_reducible exact st2A (F' := fun s t h => zy K h (.pointer (some ⟨r, 0, none⟩)) s t) (base := h) (by assumption) (by assumption) (by assumption) k1
  | with_reducible exact st2B (F' := fun s t h => zy K h (.pointer (some ⟨r, 0, none⟩)) s t) (base := h) (by assumption) (by assumption) (by assumption) k1
  | with_reducible exact st2R (F' := fun s t h => zy K h (.pointer (some ⟨r, 0, none⟩)) s t) (base := h) (by assumption) (by assumption) (by assumption) (by assumption) (by assumption) k1
  | with_reducible exact st2L (F' := fun s t h => zy K h (.pointer (some ⟨r, 0, none⟩)) s t) (base := h) (by assumption) (by assumption) (by assumption) (by assumption) (by assumption) k1
  | with_reducible exact st2 (F' := fun s t h => zy K h (.pointer (some ⟨r, 0, none⟩)) s t) (base := h) (by assumption) (by assumption) (by assumption) (by first | exact (‹∀ s, ZA _ s → s ≠ _ ∧ _ ≠ s› _ (by assumption)).1 | exact (‹∀ s, ZA _ s → s ≠ _ ∧ _ ≠ s› _ (by assumption)).2) (by first | assumption | exact ZA.ext (by assumption) (by assumption)) (by first | assumption | exact ZA.ext (by assumption) (by assumption)) (by assumption) (by assumption) k1
  | with_reducible refine zbU (base := h) (by assumption) fun _ _ _ _ _ _ _ => ?_)
end
theorem ze3 (c u : F) : ∀ (l : List Bool) (b : Bool) (s : F × F × F × F), ladF c u (l ++ [b]) s = bitF c u b (ladF c u l s)
 | [], b, s => rfl
 | a :: l, b, s => ze3 c u l b _
theorem zbV (x : Nat) : ∀ n, (z5n x n).length = n
 | 0 => rfl
 | n + 1 => by rw [z5n, List.length_cons, zbV x n]
theorem zbW (x : Nat) : ∀ n i, i < n → (z5n x n)[i]? = some (x.testBit (n - 1 - i))
 | n + 1, 0, h => rfl
 | n + 1, i + 1, h => by
  show (z5n x n)[i]? = _
  rw [zbW x n i (by omega)]
  congr 2
  omega
theorem zbX {l : List Nat} (h : Bytes l) {q r : Nat} (hq : q < l.length) (hr : r < 8) : (z9 l).testBit (8 * q + r) = decide (l.getD q 0 / 2 ^ r % 2 = 1) := by
 have e1 : z9 (l.drop q) = z9 l / 256 ^ q := z9a h (by omega)
 have e2 : l.drop q = l.getD q 0 :: l.drop (q + 1) := by
  rw [List.getD_eq_getElem?_getD, List.getElem?_eq_getElem hq]
  exact (List.drop_eq_getElem_cons hq)
 rw [e2, z9] at e1
 rw [Nat.testBit_eq_decide_div_mod_eq, Nat.pow_add, ← zbE, ← Nat.div_div_eq_div_mul, ← e1]
 congr 1
 have hb := h.getD q
 generalize l.getD q 0 = x at *
 generalize z9 (l.drop (q + 1)) = y
 match r with
 | 0 => show ((x + 256 * y) / 1 % 2 = 1) = (x / 1 % 2 = 1); rw [show (x + 256 * y) / 1 % 2 = x / 1 % 2 by omega]
 | 1 => show ((x + 256 * y) / 2 % 2 = 1) = (x / 2 % 2 = 1); rw [show (x + 256 * y) / 2 % 2 = x / 2 % 2 by omega]
 | 2 => show ((x + 256 * y) / 4 % 2 = 1) = (x / 4 % 2 = 1); rw [show (x + 256 * y) / 4 % 2 = x / 4 % 2 by omega]
 | 3 => show ((x + 256 * y) / 8 % 2 = 1) = (x / 8 % 2 = 1); rw [show (x + 256 * y) / 8 % 2 = x / 8 % 2 by omega]
 | 4 => show ((x + 256 * y) / 16 % 2 = 1) = (x / 16 % 2 = 1); rw [show (x + 256 * y) / 16 % 2 = x / 16 % 2 by omega]
 | 5 => show ((x + 256 * y) / 32 % 2 = 1) = (x / 32 % 2 = 1); rw [show (x + 256 * y) / 32 % 2 = x / 32 % 2 by omega]
 | 6 => show ((x + 256 * y) / 64 % 2 = 1) = (x / 64 % 2 = 1); rw [show (x + 256 * y) / 64 % 2 = x / 64 % 2 by omega]
 | 7 => show ((x + 256 * y) / 128 % 2 = 1) = (x / 128 % 2 = 1); rw [show (x + 256 * y) / 128 % 2 = x / 128 % 2 by omega]
def z1u (k : List Nat) : List Bool := z5n (z9 k) 255
def lst (u : F) (s : F × F × F × F) : List F := [u, s.1, s.2.1, s.2.2.1, s.2.2.2]
theorem ziq (u : F) (b : Bool) (s : F × F × F × F) : (if b then [u, s.2.2.1, s.2.2.2, s.1, s.2.1] else [u, s.1, s.2.1, s.2.2.1, s.2.2.2]) = lst u (z1D b s) := by
 cases b <;> rfl
theorem zmo (a b : Bool) (s : F × F × F × F) : z1D (a ^^ b) (z1D a s) = z1D b s := by cases a <;> cases b <;> rfl
theorem zgh (a : Bool) (s : F × F × F × F) : z1D a (z1D a s) = s := by cases a <;> rfl
theorem zo0 (c u : F) (b : Bool) (s : F × F × F × F) : z4I c u (z1D b s) = z1D b (bitF c u b s) := by rw [bitF, zgh]
theorem zmp (a b : Bool) : ixor .u64 (if a then 1 else 0) (if b then 1 else 0) = (if (a ^^ b) then 1 else 0) := by cases a <;> cases b <;> decide
theorem zpN {x : Nat} (hx : x < 18446744073709551616) : iand .u64 (x : Int) 1 = (if decide (x % 2 = 1) then 1 else 0) := by
 rw [z83 (by omega) (by omega) (by omega) (by omega), Int.toNat_natCast]
 show ((x &&& 1 : Nat) : Int) = _
 rw [Nat.and_one_is_mod]
 rcases Nat.mod_two_eq_zero_or_one x with h | h <;> rw [h] <;> rfl
theorem at_k {i : Nat} (hi : i < 255) : IntKind.i64.wrap (254 - (i : Int)) = ((254 - i : Nat) : Int) ∧ IntKind.i64.wrap (((254 - i : Nat) : Int).tdiv 8) = (((254 - i) / 8 : Nat) : Int) ∧ ((254 - i : Nat) : Int).tmod 8 = (((254 - i) % 8 : Nat) : Int) := by
 refine ⟨by rw [wi64 (by omega) (by omega)]; omega, ?_, ?_⟩
 ·rw [Int.tdiv_eq_ediv_of_nonneg (by omega), wi64 (by omega) (by omega)]; omega
 ·rw [Int.tmod_eq_emod_of_nonneg (by omega)]; omega
theorem zoK (a n : Nat) (hn : n ≤ 8) : ((a : Int).fdiv (2 ^ min n IntKind.u8.bits)) = ((a / 2 ^ n : Nat) : Int) := by
 have : min n IntKind.u8.bits = n := by simp only [IntKind.bits]; omega
 rw [this, z4l]
theorem zl8 {h : Hp} {K : Value → Prop} {a b c d : Value} {x y z w : F} (ha : VE a x) (hb : VE b y) (hc : VE c z) (hd : VE d w) :
  ∃ ls : List (List Nat), ls.length = 5 ∧ (∀ l ∈ ls, Lim l) ∧ ls.map evL = [x, y, 0, z, w] ∧ q P h (Instr.build z1k #[(0, a), (1, b), (3, c), (4, d)]) K = K (.agg (nv .u64 ls.flatten).toArray) := by
 obtain ⟨l0, rfl, m0, rfl⟩ := ha
 obtain ⟨l1, rfl, m1, rfl⟩ := hb
 obtain ⟨l3, rfl, m3, rfl⟩ := hc
 obtain ⟨l4, rfl, m4, rfl⟩ := hd
 have z0 : evL [0, 0, 0, 0, 0] = 0 := by decide +kernel
 refine ⟨[l0, l1, [0, 0, 0, 0, 0], l3, l4], rfl, ?_, by simp only [List.map_cons, List.map_nil, z0], ?_⟩
 ·intro l hl
  simp only [List.mem_cons, List.not_mem_nil, or_false] at hl
  rcases hl with rfl | rfl | rfl | rfl | rfl
  ·exact m0
  ·exact m1
  ·exact lim5 (by omega) (by omega) (by omega) (by omega) (by omega)
  ·exact m3
  ·exact m4
 ·obtain ⟨a0, a1, a2, a3, a4, rfl⟩ := len5 m0.1
  obtain ⟨b0, b1, b2, b3, b4, rfl⟩ := len5 m1.1
  obtain ⟨c0, c1, c2, c3, c4, rfl⟩ := len5 m3.1
  obtain ⟨d0, d1, d2, d3, d4, rfl⟩ := len5 m4.1
  exact q_of (by kernel_rfl) K
section
variable {h : Hp} {K : Value → Hp → Prop}
theorem zir {base H : Hp} (n : Nat) (x : Hp.ext base H) {F' : Value → Hp → Prop} (k : ∀ v H', Rn H' .u8 v [n] → Hp.ext base H' → F' v H') : aw P (Instr.buildSlice zd 1 #[(0, .int .u8 (n : Int))]) F' H := by
 refine zT (ps := [(0, _)]) za zp z1p rfl (by omega) (by intro p hp; rw [List.mem_singleton.1 hp]; exact ⟨rfl, by show _ < 1; omega⟩) fun v h2 n2 _ => ?_
 have n2' : New H zc 1 v h2 (nv .u8 [n]) 1 := n2
 exact k v h2 n2'.rds (x.trans n2'.ext)
theorem zjU {kv v : Value} {kl : List Nat} {u : F} (rk : Rn h .u8 kv kl) (bk : Bytes kl) (lk : kl.length = 32) (a : VE v u) (k : ∀ r h', Nn h zc .u8 r h' (nb (xlad (z1u kl) u)) → K r h') : Cn P zgz #[kv, v] h K := by
 refine Cn_wk (zgI ?_)
 unfold za8
 refine z6c a (.refl h) fun r1 H1 n1 m1 x1 y1 e1 f1 => ?_
 refine zir 1 (.refl H1) fun w H2 rw2 x2 => ?_
 refine zil rw2 (fun x hx => by rw [List.mem_singleton.1 hx]; decide) (by decide) fun s ps => ?_
 have s1 : ph (z9 [1] % 57896044618658097711785492504343953926634992332820282019728792003956564819968) = 1 := by decide +kernel
 rw [s1] at ps
 replace e1 := e1.ext x2
 replace x1 := x1.trans x2
 clear x2 rw2 y1 f1 m1 s1
 refine z15 (.refl H2) fun r5 H3' n5 m5 x5 y5 e5' f5 => z2F ps e5' rfl fun H3 e5 f5' => ?_
 have y3 : Hp.ext H2 H3 := z2y x5 m5 f5'
 replace e1 := e1.ext y3
 replace x1 := x1.trans y3
 clear y3 x5 y5 e5' f5 f5' m5 n5
 obtain ⟨vu, pu, lu⟩ := e1.ld
 obtain ⟨vo, po, lo⟩ := e5.ld
 rw [(lu H3 rfl).2, (lo H3 rfl).2, (lu H3 rfl).2, (lo H3 rfl).2]
 obtain ⟨ls, g1, g2, g3, gb⟩ := zl8 (h := H3) (K := fun t17 => _) pu po pu po
 refine Eq.mpr gb ?_
 clear gb
 have lf := ze2 (fun l hl => (g2 l hl).1)
 rw [g1] at lf
 refine z2S fun r mr => ?_
 have nr := x1.none mr
 have hC : (Value.agg (nv .u64 ls.flatten).toArray).cells.toList = nv .u64 ls.flatten := rfl
 have hC2 : (Value.agg (nv .u64 ls.flatten).toArray).cells.size = 25 := by show (nv .u64 ls.flatten).toArray.size = 25; simp [ze, lf]
 rw [hC, hC2]
 have LA0 : LA (H3.set r (.row z1k (nv .u64 ls.flatten) 25 (some (0, 0)))) r (lst u (1, 0, u, 1)) := ⟨ls, g1, g2, g3, Hp.set_same ..⟩
 have x4 := x1.trans (z1x (.row z1k (nv .u64 ls.flatten) 25 (some (0, 0))) mr)
 have lb := zbV (z9 kl) 255
 refine Lp_mk (fun m vs H => ∃ (i : Nat) (last : Bool), i + m = 255 ∧ Hp.ext h H ∧ LA H r (lst u (z1D last (ladF 121665 u ((z1u kl).take i) (1, 0, u, 1)))) ∧ vs = [.int .u64 (if last then 1 else 0), .int .i64 (i : Int)]) 255
  ⟨0, false, rfl, x4, LA0, rfl⟩ ?_
 clear LA0 x4 mr hC hC2 lf g1 g2 g3 pu po lu lo e1 e5 x1 ps
 rintro m vs H ⟨i, last, hi, x, a, rfl⟩
 have lt255 : decide ((i : Int) < 255) = decide (i < 255) := zL i 255
 simp -zeta (disch := omega) only [GL, RL, lt255]
 by_cases hlt : i < 255
 ·obtain ⟨a1, a2, a3⟩ := at_k hlt
  have n8 : ((8 : Int) ≠ 0) := by decide
  have hq : (254 - i) / 8 < 32 := by omega
  have gx := bk.getD ((254 - i) / 8)
  obtain ⟨p, hp1, hp2⟩ := z6i (P := P) (i := (254 - i) / 8) (y := .int .u8 ((kl.getD ((254 - i) / 8) 0 : Nat) : Int)) za zp (rk.mono x.cle) (z1g _ _ _ (by omega))
  have hb : decide (kl.getD ((254 - i) / 8) 0 / 2 ^ ((254 - i) % 8) % 2 = 1) = (z9 kl).testBit (254 - i) := by
   have := zbX bk (q := (254 - i) / 8) (r := (254 - i) % 8) (by omega) (by omega)
   rw [← this]
   congr 1
   omega
  have cvb : IntKind.u64.wrap ((kl.getD ((254 - i) / 8) 0 / 2 ^ ((254 - i) % 8) : Nat) : Int) = ((kl.getD ((254 - i) / 8) 0 / 2 ^ ((254 - i) % 8) : Nat) : Int) := by
   have hXb : kl.getD ((254 - i) / 8) 0 / 2 ^ ((254 - i) % 8) < 256 := Nat.lt_of_le_of_lt (Nat.div_le_self _ _) gx
   generalize kl.getD ((254 - i) / 8) 0 / 2 ^ ((254 - i) % 8) = X at *
   exact z2j (by omega) (by omega)
  have hlt64 : kl.getD ((254 - i) / 8) 0 / 2 ^ ((254 - i) % 8) < 18446744073709551616 := by
   exact Nat.lt_of_le_of_lt (Nat.div_le_self _ _) (Nat.lt_trans gx (by decide))
  have ei : IntKind.i64.wrap ((i : Int) + 1) = ((i + 1 : Nat) : Int) := by rw [wi64 (by omega) (by omega)]; omega
  simp -zeta (disch := first | omega | decide) only [hlt, decide_true, if_true, GL, RL, a1, a2, a3, hp1, hp2, zoK, cvb, zpN hlt64, hb, zmp]
  generalize hbit : (z9 kl).testBit (254 - i) = bit
  refine zmn (last ^^ bit) a fun H1 b1 k1 => ?_
  have st : (if (last ^^ bit) then [u, (z1D last (ladF 121665 u ((z1u kl).take i) (1, 0, u, 1))).2.2.1, (z1D last (ladF 121665 u ((z1u kl).take i) (1, 0, u, 1))).2.2.2, (z1D last (ladF 121665 u ((z1u kl).take i) (1, 0, u, 1))).1, (z1D last (ladF 121665 u ((z1u kl).take i) (1, 0, u, 1))).2.1] else [u, (z1D last (ladF 121665 u ((z1u kl).take i) (1, 0, u, 1))).1, (z1D last (ladF 121665 u ((z1u kl).take i) (1, 0, u, 1))).2.1, (z1D last (ladF 121665 u ((z1u kl).take i) (1, 0, u, 1))).2.2.1, (z1D last (ladF 121665 u ((z1u kl).take i) (1, 0, u, 1))).2.2.2]) = lst u (z1D bit (ladF 121665 u ((z1u kl).take i) (1, 0, u, 1))) := by
   rw [ziq, zmo]
  rw [st] at b1
  refine zre b1 fun H2 b2 k2 => ?_
  have st2 : lst u (z4I 121665 u (z1D bit (ladF 121665 u ((z1u kl).take i) (1, 0, u, 1)))) = lst u (z1D bit (ladF 121665 u ((z1u kl).take (i + 1)) (1, 0, u, 1))) := by
   have tk : (z1u kl).take (i + 1) = (z1u kl).take i ++ [bit] := by
    rw [List.take_succ_eq_append_getElem (by rw [z1u, lb]; exact hlt)]
    congr 2
    have := zbW (z9 kl) 255 i hlt
    rw [List.getElem?_eq_getElem (by rw [lb]; exact hlt), show 255 - 1 - i = 254 - i by omega, hbit] at this
    exact Option.some.inj this
   rw [zo0, tk, ze3]
  have b3 : LA H2 r (lst u (z4I 121665 u (z1D bit (ladF 121665 u ((z1u kl).take i) (1, 0, u, 1))))) := b2
  rw [st2] at b3
  simp -zeta (disch := omega) only [GL, RL, ei]
  refine ⟨H2, .refl _, m - 1, by omega, i + 1, bit, by omega, fun b o e => ?_, b3, rfl⟩
  have hbr : b ≠ r := by rintro rfl; rw [nr] at e; cases e
  exact k2 b o hbr (by rw [k1 b hbr]; exact x _ _ e)
 ·obtain rfl : i = 255 := by omega
  simp -zeta (disch := omega) only [hlt, decide_false, Bool.false_eq_true, if_false]
  rw [List.take_of_length_le (by rw [z1u, lb]; omega)] at a
  unfold xlad at k
  generalize ladF 121665 u (z1u kl) (1, 0, u, 1) = s at *
  refine zmn last a fun H1 b1 k1 => ?_
  have st : (if last then [u, (z1D last s).2.2.1, (z1D last s).2.2.2, (z1D last s).1, (z1D last s).2.1] else [u, (z1D last s).1, (z1D last s).2.1, (z1D last s).2.2.1, (z1D last s).2.2.2]) = lst u s := by
   rw [ziq, zgh]
  rw [st] at b1
  have xH1 : Hp.ext h H1 := fun b o e => by
   have hbr : b ≠ r := by rintro rfl; rw [nr] at e; cases e
   rw [k1 b hbr]; exact x _ _ e
  simp -zeta only [GL, fl1, fl2']
  obtain ⟨v1, p1, l1⟩ := b1.ld 1 (x := s.1) rfl (o := 5) rfl
  obtain ⟨v2, p2, l2⟩ := b1.ld 2 (x := s.2.1) rfl (o := 10) rfl
  rw [(l1 H1 rfl).2, (l2 H1 rfl).2]
  refine znU p2 fun w1 q1 => ⟨(l1 H1 rfl).1, pfl1 r, z3O p1 q1 fun w2 q2 => zpM q2 fun w3 H2 nw => ?_⟩
  obtain ⟨h0, l0, nw0⟩ := nw.down xH1.le
  exact ⟨h0, l0, k _ _ nw0⟩
end
theorem LN.ne {h : Hp} {r s : Nat} {l : List Nat} (a : LN h r l) (n : h s = none) : r ≠ s := by
 rintro rfl
 rw [LN, n] at a
 cases a
theorem LN.off {h H : Hp} {r s : Nat} {l : List Nat} (a : LN h r l) (f : ∀ b, b ≠ s → H b = h b) (ne : r ≠ s) : LN H r l := by
 unfold LN
 rw [f r ne]
 exact a
theorem z3C {H : Hp} {l : List Nat} (hl : l.length = 32) {F' : Value → Hp → Prop} (k : ∀ r H', H r = none → Hp.ext H H' → LN H' r l → F' (.pointer (some ⟨r, 0, none⟩)) H') :
  aw P (Instr.alloc zo true (.tuple #[])) (fun t h => aw P (Instr.storeAt zo t (NV l)) (fun _ h => F' t h) h) H :=
 z2q fun r H1 n x a f => z1b a (by simp) hl fun H2 a2 f2 => k r H2 n (z1m x n f2) a2
theorem zmq (e m : Nat) : e / 2 ^ m = 2 * (e / 2 ^ (m + 1)) + e / 2 ^ m % 2 := by
 rw [Nat.pow_succ, ← Nat.div_div_eq_div_mul]
 omega
theorem zpO {l : List Nat} (h : Bytes l) {m : Nat} (hm : m < 8 * l.length) : l.getD (m / 8) 0 / 2 ^ (m % 8) % 2 = z9 l / 2 ^ m % 2 := by
 have a := zbX h (q := m / 8) (r := m % 8) (by omega) (by omega)
 rw [Nat.div_add_mod, Nat.testBit_eq_decide_div_mod_eq, decide_eq_decide] at a
 have b : z9 l / 2 ^ m % 2 < 2 := Nat.mod_lt _ (by decide)
 have c : l.getD (m / 8) 0 / 2 ^ (m % 8) % 2 < 2 := Nat.mod_lt _ (by decide)
 omega
theorem zmr {i : Nat} (hi : i < 255) : IntKind.i64.wrap ((i : Int).tdiv 8) = ((i / 8 : Nat) : Int) ∧ (i : Int).tmod 8 = ((i % 8 : Nat) : Int) ∧ IntKind.u64.wrap ((i % 8 : Nat) : Int) = ((i % 8 : Nat) : Int) := by
 have e8 : ((8 : Int)) = ((8 : Nat) : Int) := rfl
 refine ⟨?_, ?_, ?_⟩
 ·rw [e8, ← Int.ofNat_tdiv, wi64 (by omega) (by omega)]
 ·rw [e8, ← Int.ofNat_tmod]
 ·exact z2j (by omega) (by omega)
theorem zrf (a n : Nat) (hn : n ≤ 64) : ((a : Int).fdiv (2 ^ min n IntKind.i64.bits)) = ((a / 2 ^ n : Nat) : Int) := by
 have : min n IntKind.i64.bits = n := by show min n 64 = n; omega
 rw [this, Int.fdiv_eq_ediv_of_nonneg _ (Int.le_of_lt (Int.pow_pos (by decide)))]
 simp
theorem zms (x : F) (a b : Nat) : ph (x.val ^ a) * ph (x.val ^ b) = ph (x.val ^ (a + b)) := by rw [← z5p, ← Nat.pow_add]
section
variable {h : Hp} {K : Value → Hp → Prop}
theorem zrg (x : F) (k : K (NV (nb (invP x))) h) : Cn P zap #[NV (nb x)] h K := by
 refine Cn_wk (zaD ?_)
 unfold z5H
 refine z32 (zm x) fun r1 H1 n1 x1 a1 _ => ?_
 refine z2q fun r2 H2 n2 x2 a2 _ => ?_
 refine zbK ?_
 refine z3E (n := 2) (by decide) ?_
 have e2 : z9 (nb (ph 2)) = 2 := by rw [z3L, z5o]; decide +kernel
 have ep : z9 (le 32 pp) = pp := zeR
 refine zbL (z1s 32 pp) (z1J _) (zE 32 pp) (zm _) (by rw [e2, ep]; decide +kernel) ?_
 rw [e2, ep]
 refine z3C (zE 32 _) fun r3 H3 n3 x3 a3 => ?_
 refine z3E (n := 1) (by decide) ?_
 refine z3C (zm _) fun r4 H4 n4 x4 a4 => ?_
 have ev : z9 (le 32 (pp - 2)) = pp - 2 := by rw [z2C]; exact Nat.mod_eq_of_lt (by decide +kernel)
 have eb := z1s 32 (pp - 2)
 have el : (le 32 (pp - 2)).length = 32 := zE 32 _
 have b255 : (pp - 2) / 2 ^ 255 = 0 := by decide +kernel
 have inv : invP x = ph (x.val ^ (pp - 2)) := Fin.ext (zfQ x)
 rw [inv] at k
 generalize le 32 (pp - 2) = EL at *
 generalize pp - 2 = e at *
 have b1 := ((a1.ext x2).ext x3).ext x4
 have b2 := (a2.ext x3).ext x4
 have b3 := a3.ext x4
 have hx := ((x1.trans x2).trans x3).trans x4
 have m1 := ((a1.ext x2).ext x3).ne n4
 have m2 := (a2.ext x3).ne n4
 have m3 := a3.ne n4
 have n2h : h r2 = none := x1.none n2
 have m0 : h r4 = none := ((x1.trans x2).trans x3).none n4
 have p0 : ph 1 = ph (x.val ^ (e / 2 ^ 255)) := by rw [b255, Nat.pow_zero]
 rw [p0] at a4
 clear x1 x2 x3 x4 n1 n2 n3 n4 a1 a2 a3 p0 b255
 refine Lp_mk (fun m vs H => m ≤ 255 ∧ Hp.ext h H ∧ LN H r1 (nb x) ∧ LN H r2 (List.replicate 32 0) ∧ LN H r3 EL ∧ LN H r4 (nb (ph (x.val ^ (e / 2 ^ m)))) ∧ vs = [.int .i64 ((m : Int) - 1)]) 255
  ⟨by omega, hx, b1, b2, b3, a4, rfl⟩ ?_
 clear hx b1 b2 b3 a4
 rintro m vs H ⟨hm, hx, b1, b2, b3, b4, rfl⟩
 simp -zeta (disch := omega) only [GL, RL, ge0]
 match m, hm, b4 with
 | 0, _, b4 =>
  simp -zeta (disch := omega) only [GL, Nat.lt_irrefl, decide_false, Bool.false_eq_true, if_false]
  rw [Nat.pow_zero, Nat.div_one] at b4
  rw [b4.ld (zm _)]
  refine z1b b2 (by simp) (zm _) fun H5 b5 f5 => ?_
  rw [b5.res (zm _)]
  exact ⟨h, (z1m hx n2h f5).le, k⟩
 | m + 1, hm, b4 =>
  rw [decide_eq_true (by omega)]
  have i1 : ((m + 1 : Nat) : Int) - 1 = (m : Int) := by omega
  obtain ⟨d1, d2, d3⟩ := zmr (i := m) (by omega)
  have ca := b3.at (i := m / 8) (by omega)
  have bl := eb.getD (m / 8)
  simp -zeta (disch := omega) only [GL, RL, if_true, i1]
  rw [b4.ld (zm _), b4.ld (zm _)]
  refine z3s _ _ ?_
  refine z1b b4 (zm _) (zm _) fun H5 b5 f5 => ?_
  have hx5 := z1m hx m0 f5
  replace b1 := b1.off f5 m1
  replace b2 := b2.off f5 m2
  replace b3 := b3.off f5 m3
  have ca := b3.at (i := m / 8) (by omega)
  have hbit := zpO eb (m := m) (by omega)
  rw [ev] at hbit
  have hs := zmq e m
  have md : ∀ x : Nat, ((x : Int)).tmod 2 = ((x % 2 : Nat) : Int) := fun x => (Int.ofNat_tmod x 2).symm
  have e1 : ∀ x : Nat, (((x : Nat) : Int) == 1) = decide (x = 1) := fun x => by rw [Bool.eq_iff_iff, beq_iff_eq, decide_eq_true_eq]; omega
  have w1 : IntKind.i64.wrap ((m : Int) - 1) = (m : Int) - 1 := by rw [wi64 (by omega) (by omega)]
  rw [zms] at b5
  have bt : e / 2 ^ m % 2 < 2 := Nat.mod_lt _ (by decide)
  clear bl ep e2 ev eb k inv
  simp -zeta (disch := first | omega | decide) only [GL, RL, d1, d2, d3, Int.toNat_natCast, ca, zrf, md, e1, hbit, w1]
  generalize e / 2 ^ m % 2 = bt' at *
  by_cases hb : bt' = 1
  ·subst hb
   simp -zeta only [decide_true, if_true]
   rw [b5.ld (zm _), b1.ld (zm _)]
   refine z3s _ _ ?_
   refine z1b b5 (zm _) (zm _) fun H6 b6 f6 => ?_
   have ex : ph (x.val ^ (e / 2 ^ (m + 1) + e / 2 ^ (m + 1))) * x = ph (x.val ^ (e / 2 ^ m)) := by
    have : x = ph (x.val ^ 1) := by rw [Nat.pow_one, z4Z]
    conv => lhs; rhs; rw [this]
    rw [zms, hs]
    congr 2
    omega
   rw [ex] at b6
   exact ⟨H6, .refl _, m, by omega, by omega, z1m hx5 m0 f6, b1.off f6 m1, b2.off f6 m2, b3.off f6 m3, b6, rfl⟩
  ·rw [decide_eq_false hb]
   simp -zeta only [Bool.false_eq_true, if_false]
   have ex : e / 2 ^ (m + 1) + e / 2 ^ (m + 1) = e / 2 ^ m := by omega
   rw [ex] at b5
   exact ⟨H5, .refl _, m, by omega, by omega, hx5, b1, b2, b3, b5, rfl⟩
end
end Go.Proofs.YtoikhbagchfeoaaGreat
namespace Go.Proofs.YtoikhbagchfeoaaGreat
open Go Go.SL Go.Pure
theorem zoL {h : Hp} {K : Value → Prop} {t T : TypeId} {k : IntKind} (a b : Int) : q P h (Builtin.min_ #[t, t] T #[.int k a, .int k b]) K = K (.int k (if b < a then b else a)) := q_of (by simp [Builtin.min_, Builtin.min2, z2a]) K
theorem orN {a b : Nat} (ha : a < 18446744073709551616) (hb : b < 18446744073709551616) : ior .u64 (a : Int) (b : Int) = ((a ||| b : Nat) : Int) := by
 rw [or64 (by omega) (by omega) (by omega) (by omega), Int.toNat_natCast, Int.toNat_natCast]
theorem zeV {a b : Nat} (ha : a < 18446744073709551616) (hb : b < 18446744073709551616) : a ||| b < 18446744073709551616 := Nat.or_lt_two_pow (n := 64) ha hb
theorem zsE (a n : Nat) (hn : n ≤ 64) : IntKind.u64.wrap ((a : Int) * 2 ^ min n IntKind.u64.bits) = ((a * 2 ^ n % 18446744073709551616 : Nat) : Int) := by
 have : min n IntKind.u64.bits = n := by simp only [IntKind.bits]; omega
 rw [this, mulp, wu64]
theorem zmt (a n : Nat) (hn : n ≤ 64) : ((a : Int).fdiv (2 ^ min n IntKind.u64.bits)) = ((a / 2 ^ n : Nat) : Int) := by
 have : min n IntKind.u64.bits = n := by simp only [IntKind.bits]; omega
 rw [this, z4l]
section
variable {h : Hp} {K : Value → Hp → Prop}
theorem zmu {v : Value} {b : List Nat} (hb : Rn h .u8 v b) (bb : Bytes b) (hl : b.length ≤ 9223372036854775807) (k : ∀ h', Hp.le h h' → K (.agg (nv .u64 (z28 b)).toArray) h) : Cn P zj9 #[v] h K := by
 refine Cn_wk (zje ?_)
 unfold zdf
 have hzz : ∀ U : List Nat, U.length = 5 → sz P zn = some (nv .u64 U).length := fun U hU => by rw [ze, hU]; exact z4H
 refine zS (nv .u64 zero5) z4Y (by rfl) fun r hr => ?_
 refine zS (nv .u64 zero5) z4Y (by rfl) fun o ho => ?_
 have hro : r ≠ o := by rintro rfl; rw [Hp.set_same] at ho; cases ho
 rw [show (nv IntKind.u64 zero5).length = 5 from rfl]
 obtain ⟨M, hM⟩ : ∃ M : List Nat → Hp, ∀ U, (h.set r (.row zn (nv .u64 zero5) 5 (some (0, 0)))).set o (.row zn (nv .u64 U) 5 (some (0, 0))) = M U := ⟨_, fun T => rfl⟩
 have Mo : ∀ U, M U o = some (.row zn (nv .u64 U) 5 (some (0, 0))) := fun T => by rw [← hM, Hp.set_same]
 have Mr : ∀ U, M U r = some (.row zn (nv .u64 zero5) 5 (some (0, 0))) := fun U => by rw [← hM, Hp.set_ne _ _ hro, Hp.set_same]
 have Ms : ∀ U U', (M U).set o (.row zn (nv .u64 U') 5 (some (0, 0))) = M U' := fun T T' => by rw [← hM, ← hM, Hp.set_set]
 have leM : ∀ U, Hp.le h (M U) := fun U => by rw [← hM]; exact (zP hr).trans (zP ho)
 have cM : ∀ U, Hp.cle h (M U) := fun U => by rw [← hM]; exact (z2c r _ hr).trans (z2c o _ ho)
 rw [hM]
 refine Lp_mk (fun m vs h' => ∃ i : Nat, i + m = 5 ∧ h' = M (z9K b i) ∧ vs = [.int .i64 (i : Int)]) 5 ⟨0, rfl, rfl, rfl⟩ ?_
 rintro m vs h' ⟨i, hi, rfl, rfl⟩
 have lU := zgc b i
 simp (disch := omega) only [GL, RL, wi64, z2D]
 by_cases hlt : i < 5
 ·obtain ⟨a, c, hv, hc⟩ := hb.shape
  have e1 : (26 : Int) * (i : Int) = ((26 * i : Nat) : Int) := by omega
  have e2 : ((26 * i : Nat) : Int).tdiv 8 = ((26 * i / 8 : Nat) : Int) := (Int.ofNat_tdiv (26 * i) 8).symm
  have e3 : ((26 * i : Nat) : Int).tmod 8 = ((26 * i % 8 : Nat) : Int) := (Int.ofNat_tmod (26 * i) 8).symm
  have e4 : (if ((b.length : Nat) : Int) < ((26 * i / 8 : Nat) : Int) then ((b.length : Nat) : Int) else ((26 * i / 8 : Nat) : Int)) = ((min (26 * i / 8) b.length : Nat) : Int) := by split <;> omega
  subst hv
  simp (disch := omega) only [GL, RL, wi64, hlt, decide_true, if_true, e1, e2, e3, zoL, e4]
  refine z6p za zp (hb.mono (cM _)) .i64 _ (by omega) fun w hw => ?_
  refine z5k hw (bb.drop _) ?_
  simp (disch := omega) only [GL, RL, wi64, e1, e2, e3]
  rw [zmt _ _ (by omega)]
  have lx : z9 ((b.drop (min (26 * i / 8) b.length)).take 8) / 2 ^ (26 * i % 8) < 18446744073709551616 :=
   Nat.lt_of_le_of_lt (Nat.div_le_self _ _) (Nat.lt_of_lt_of_le (z18 _ (bb.drop _) 8) (by decide))
  rw [zeN lx]
  refine z1a z14 (Mo _) (by omega) (by simp) ?_
  rw [Ms]
  exact ⟨_, .refl _, m - 1, by omega, i + 1, by omega, rfl, rfl⟩
 ·obtain rfl : i = 5 := by omega
  simp (disch := omega) only [GL, RL, wi64, hlt, decide_false, Bool.false_eq_true, if_false]
  have hL : z9K b 5 = z28 b := rfl
  rw [hL] at lU ⊢
  rw [z1w z3m rfl (hzz _ lU) (Mo _)]
  refine zD (hzz _ lU) (Mr _) (by rw [ze, ze, lU]; rfl) (zq _ _) (fun i hi => by simp) ?_
  rw [z33 (ys := nv .u64 (z28 b)) z3m rfl (hzz _ lU) (Hp.set_same ..)]
  refine ⟨h, ?_, k h (.refl _)⟩
  have : (M (z28 b)).set r (.row zn (nv .u64 (z28 b)) 5 (some (0, 0))) = (h.set r (.row zn (nv .u64 (z28 b)) 5 (some (0, 0)))).set o (.row zn (nv .u64 (z28 b)) 5 (some (0, 0))) := by
   rw [← hM, Hp.set_comm _ _ _ (Ne.symm hro), Hp.set_set]
  rw [this]
  refine (zP hr).trans (zP ?_)
  rw [Hp.set_ne _ _ (Ne.symm hro)]
  rwa [Hp.set_ne _ _ (Ne.symm hro)] at ho
theorem zpP {g e cap : Nat} {fz : Option (Nat × Nat)} {v : Value} (S s : List Nat) (hS : S.length = 5) (wS : W64 S) (hg : h g = some (.row e (nv .u64 S) cap fz)) (hv : Rn h .u8 v s) (bs : Bytes s) (hl : 8 ≤ s.length)
  (k : ∀ r h', Nn h zc .u8 r h' (z4E S s) → K r h') : Cn P zas #[.pointer (some ⟨g, 0, none⟩), v] h K := by
 refine zaL ?_
 unfold z5Q
 have c0 := zJ (i := 0) hg (by omega)
 have c1 := zJ (i := 1) hg (by omega)
 have c2 := zJ (i := 2) hg (by omega)
 have c3 := zJ (i := 3) hg (by omega)
 have c4 := zJ (i := 4) hg (by omega)
 have w0 := wS.getD 0
 have w1 := wS.getD 1
 have w2 := wS.getD 2
 have w3 := wS.getD 3
 have w4 := wS.getD 4
 obtain ⟨LO, hLO⟩ : ∃ x, lowL S = x := ⟨_, rfl⟩
 obtain ⟨HI, hHI⟩ : ∃ x, zeM S = x := ⟨_, rfl⟩
 obtain ⟨B, hB⟩ : ∃ B, z4E S s = B := ⟨_, rfl⟩
 rw [hB] at k
 unfold z4E at hB
 dsimp only at hB
 rw [hLO, hHI] at hB
 unfold lowL at hLO
 unfold zeM at hHI
 generalize S.getD 0 0 = s0 at *
 generalize S.getD 1 0 = s1 at *
 generalize S.getD 2 0 = s2 at *
 generalize S.getD 3 0 = s3 at *
 generalize S.getD 4 0 = s4 at *
 simp (disch := omega) only [GL, RL, Int.reduceToNat, c0, c1, c2, c3, c4, zsE, zmt]
 have m1 := Nat.mod_lt (s1 * 2 ^ 26) (show 18446744073709551616 > 0 by decide)
 have m2 := Nat.mod_lt (s2 * 2 ^ 52) (show 18446744073709551616 > 0 by decide)
 have m3 := Nat.mod_lt (s3 * 2 ^ 14) (show 18446744073709551616 > 0 by decide)
 have m4 := Nat.mod_lt (s4 * 2 ^ 40) (show 18446744073709551616 > 0 by decide)
 have d2 : s2 / 2 ^ 12 < 18446744073709551616 := Nat.lt_of_le_of_lt (Nat.div_le_self _ _) w2
 have o1 := zeV w0 m1
 have o2 := zeV d2 m3
 have o3 := zeV o1 m2
 have o4 := zeV o2 m4
 rw [orN w0 m1, orN o1 m2, orN d2 m3, orN o2 m4, hLO, hHI]
 rw [hLO] at o3
 rw [hHI] at o4
 obtain ⟨a, c, rfl, hc⟩ := hv.shape
 have hsl : peek P h (Instr.sliceAt zd (.slice a s.length c) (some (Value.int .i64 8)) none none) = some (.slice (SL.cut a c 8 1) (s.length - 8) (c - 8)) := by
  have := zaW (P := P) (h := h) (K := fun x => x = .slice (SL.cut a c 8 1) (s.length - 8) (c - 8)) za zp a s.length c .i64 8 hl hc
  obtain ⟨x, hx, e⟩ := z1v (K := fun x => x = .slice (SL.cut a c 8 1) (s.length - 8) (c - 8)) (this.mpr rfl)
  rw [e] at hx
  exact hx
 have hr8 : Rn h .u8 (.slice (SL.cut a c 8 1) (s.length - 8) (c - 8)) (s.drop 8) := by
  have := hv.cut 8 s.length hl (Nat.le_refl _)
  rwa [List.take_length] at this
 rw [q_of hsl]
 refine z5k hv bs ?_
 refine ⟨hsl, ?_⟩
 refine z5k hr8 (bs.drop _) ?_
 obtain ⟨A, hA⟩ : ∃ A, z9 (s.take 8) = A := ⟨_, rfl⟩
 obtain ⟨D, hD⟩ : ∃ D, z9 ((s.drop 8).take 8) = D := ⟨_, rfl⟩
 rw [hA, hD] at hB ⊢
 simp (disch := omega) only [GL, RL, z2H]
 have eD : decide ((((LO + A) % 18446744073709551616 : Nat) : Int) < (A : Int)) = decide ((LO + A) % 18446744073709551616 < A) := zL _ _
 rw [eD]
 have l1 := Nat.mod_lt (LO + A) (show 18446744073709551616 > 0 by decide)
 have l2 := Nat.mod_lt (HI + D) (show 18446744073709551616 > 0 by decide)
 generalize (LO + A) % 18446744073709551616 = X at *
 generalize (HI + D) % 18446744073709551616 = Y at *
 have fin : ∀ Z : Nat, Z < 18446744073709551616 → B = le 8 X ++ le 8 Z → Cn P z7r #[Value.int .u64 (X : Int)] h fun t59 h => Cn P z7r #[Value.int .u64 (Z : Int)] h fun t61 h => aw P (Builtin.append_ #[zd, zd] zd #[t59, t61]) (fun t62 h => K t62 h) h := by
  intro Z hZ hBB
  refine z4f X l1 fun r1 h1 n1 => z4f Z hZ fun r2 h2 n2 => ?_
  have n1' : New h zc 1 r1 h1 (nv .u8 (le 8 X)) 8 := by unfold Nn at n1; rwa [zE] at n1
  have n2' : New h1 zc 1 r2 h2 (nv .u8 (le 8 Z)) 8 := by unfold Nn at n2; rwa [zE] at n2
  refine zQ za za zw rfl (by omega) n1' n2' (zq _ _) (by omega) fun v' h5 hw5 => ?_
  refine k _ _ ?_
  unfold Nn
  rw [hBB, z13, List.length_append, zE, zE]
  exact hw5
 by_cases hlt : X < A
 ·rw [if_pos hlt] at hB
  have eY : IntKind.u64.wrap ((Y : Int) + 1) = (((Y + 1) % 18446744073709551616 : Nat) : Int) := z2H Y 1
  simp (disch := omega) only [hlt, decide_true, if_true, eY]
  exact fin _ (Nat.mod_lt _ (by decide)) hB.symm
 ·rw [if_neg hlt] at hB
  simp (disch := omega) only [hlt, decide_false, Bool.false_eq_true, if_false]
  exact fin _ l2 hB.symm
end
section
variable {h : Hp} {K : Value → Hp → Prop}
theorem zcz {v : Value} {l : List Nat} (hv : Rn h .u8 v l) (hl : l.length ≤ 70368744177664) (k : ∀ r h', Nn h zc .u8 r h' l → K r h') : Cn P z7n #[v] h K := by
 refine z7z ?_
 obtain ⟨a, c, rfl, hc⟩ := hv.shape
 unfold z4c
 simp (disch := omega) only [GL, RL]
 cases a with
 | none =>
  have h0 : l = [] := by
   obtain ⟨_, a', c', e, _, h0 | ⟨b, o, e2, _⟩⟩ := hv
   ·exact List.eq_nil_of_length_eq_zero h0
   ·rw [e2] at e; cases e
  subst h0
  exact k _ _ (Nn.nil ..)
 | some a =>
  refine zT (ps := []) (n := 0) za zp z1p rfl (by omega) (by intro p hp; cases hp) fun r h1 hw _ => ?_
  refine z1t za za zw rfl (by omega) hw (hv.mono hw.cle) (zq _ _) (by omega) (.refl _) fun v' h2 hw2 => ?_
  refine k _ _ ?_
  unfold Nn
  simpa [z1f] using hw2
theorem zpQ {v : Value} {n : Nat} (hn : 0 < n) (hf : flat v = true)
  (k : ∀ r2 r3, h r2 = none → h r3 = none → r2 ≠ r3 → K (.func (.func z3Q) #[] #[.pointer (some ⟨r2, 0, none⟩), .pointer (some ⟨r3, 0, none⟩)]) ((h.set r2 (.row zd [v] 1 (some (0, 0)))).set r3 (.row zi [.int .i64 n] 1 (some (0, 0))))) :
  Cn P z7t #[v, .int .i64 n] h K := by
 refine z7Q ?_
 unfold z4d
 refine z2S fun r2 hr2 => ?_
 refine z2S fun r3 hr3 => ?_
 have hne : r2 ≠ r3 := by rintro rfl; rw [Hp.set_same] at hr3; cases hr3
 rw [z5b hf]
 have c : ((h.set r2 (.row zd [v] 1 (some (0, 0)))).set r3 (.row zi [.int .i64 n] 1 (some (0, 0)))).cell ⟨r3, 0, none⟩ = some (.int .i64 n) := by rw [zj (Hp.set_same ..)]; rfl
 simp (disch := omega) only [GL, RL]
 show zW (((h.set r2 (.row zd [v] 1 (some (0, 0)))).set r3 (.row zi [.int .i64 n] 1 (some (0, 0)))).cell ⟨r3, 0, none⟩) _
 rw [c]
 simp only [zaT]
 have e : decide ((n : Int) < 1) = false := by simp; omega
 simp (disch := omega) only [GL, RL, e, Bool.false_eq_true, if_false]
 rw [Hp.set_ne _ _ (Ne.symm hne)] at hr3
 exact k r2 r3 hr2 hr3 hne
theorem zmv {y v : Value} {p2 p3 : Addr} {m : List Nat} {n : Nat} (hn : 0 < n) (hl : m.length ≤ 4611686018427387904) (hn2 : n ≤ 4611686018427387904) (I : Nat → Hp → Prop) (X : Hp → Prop)
  (hI : ∀ i h', I i h' → h'.cell p2 = some v ∧ h'.cell p3 = some (.int .i64 n) ∧ Rn h' .u8 v m) (h0 : I 0 h)
  (step : ∀ i h' w, n * i < m.length → I i h' → (∀ H, Rn H .u8 v m → Rn H .u8 w (z7T n m i)) → z44 P y [w] h' fun r h'' => (r = .bool true ∧ I (i + 1) h'') ∨ (r = .bool false ∧ X h''))
  (k : ∀ h', I ((m.length + n - 1) / n) h' ∨ X h' → K (.tuple #[]) h') : Cn P z3Q #[y, .pointer (some p2), .pointer (some p3)] h K := by
 refine z6G ?_
 unfold z3S
 have lti : ∀ i : Nat, i < (m.length + n - 1) / n ↔ n * i < m.length := fun i => by
  rw [Nat.lt_iff_add_one_le, Nat.le_div_iff_mul_le hn, Nat.add_mul, Nat.one_mul, Nat.mul_comm i n]
  omega
 refine Lp_mk (fun u vs h' => ∃ i : Nat, i + u = (m.length + n - 1) / n ∧ I i h' ∧ vs = [.int .i64 ((n * i : Nat) : Int)]) ((m.length + n - 1) / n) ⟨0, by omega, h0, rfl⟩ ?_
 rintro u vs h' ⟨i, hi, hII, rfl⟩
 obtain ⟨c2, c3, hr⟩ := hI i h' hII
 obtain ⟨a, c, rfl, hc⟩ := hr.shape
 simp (disch := omega) only [GL, RL, wi64, c2, zL]
 by_cases hlt : n * i < m.length
 ·simp (disch := omega) only [GL, RL, hlt, decide_true, if_true, c3]
  refine z6p za zp hr .i64 _ (by omega) fun w1 hw1 => ?_
  obtain ⟨a1, c1, rfl, hc1⟩ := hw1.shape
  have e4 : (if (((m.drop (n * i)).length : Nat) : Int) < (n : Int) then (((m.drop (n * i)).length : Nat) : Int) else (n : Int)) = ((min n (m.length - n * i) : Nat) : Int) := by
   rw [List.length_drop]; split <;> omega
  have e5 : ((n * i : Nat) : Int) + ((min n (m.length - n * i) : Nat) : Int) = ((min (n * i + n) m.length : Nat) : Int) := by omega
  simp (disch := omega) only [GL, RL, wi64, c2, c3, zoL, e4, e5]
  refine z84 za zp hr .i64 .i64 .i64 _ _ (by omega) (by omega) fun w hw => ?_
  refine zed ?_ (step i h' w hlt hII hw)
  rintro r h'' (⟨rfl, h2⟩ | ⟨rfl, h2⟩)
  ·obtain ⟨d2, d3, _⟩ := hI _ _ h2
   have e6 : ((n * i : Nat) : Int) + (n : Int) = ((n * (i + 1) : Nat) : Int) := by rw [Nat.mul_add, Nat.mul_one]; omega
   simp (disch := omega) only [GL, RL, wi64, Bool.not_true, Bool.false_eq_true, if_false, d3, e6]
   have := (lti i).2 hlt
   refine ⟨_, .refl _, u - 1, by omega, i + 1, by omega, h2, ?_⟩
   rw [← e6]
  ·simp (disch := omega) only [GL, RL, Bool.not_false, if_true]
   exact k _ (.inr h2)
 ·simp (disch := omega) only [GL, RL, hlt, decide_false, Bool.false_eq_true, if_false]
  have hn' := mt (lti i).1 hlt
  obtain rfl : i = (m.length + n - 1) / n := by omega
  exact k _ (.inl hII)
end
end Go.Proofs.YtoikhbagchfeoaaGreat
