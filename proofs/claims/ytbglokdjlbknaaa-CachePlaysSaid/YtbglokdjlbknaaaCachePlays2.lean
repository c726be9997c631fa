/- cachePlays_holds cachePlays proved lifted over: part 2 of its proof; each part's own remarks stand with its declarations. Conditions: each lemma names its own. -/
import Derived.Test.YtbglokdjlbknaaaCachePlays1
import Derived.Sort.AssemblyPlain
import Derived.Test.YtbglokdjlbknaaaRows
import Derived.WalkKit
import Derived.ProofKit
import Derived.OpenShut
import Derived.ShutString
import Derived.ChangeOld
import Derived.Below
import Derived.Carry
import Derived.SizedLaws
import Derived.Lib.SmallJoins
set_option linter.unusedSimpArgs false
set_option linter.unusedVariables false
set_option linter.unusedSimpArgs false
set_option linter.unusedVariables false
set_option maxRecDepth 100000
set_option maxHeartbeats 4000000
namespace Go.Proofs.Ytbglokdjlbknaaa
open Go Go.SL
section
variable {h : Hp} {K : Value → Hp → Prop} {p qt : Nat} {R : Hp} {L : List Nm} {S : List Nat}
/-- A new list is put in. -/
theorem RC.putW {h3 : Hp} {L' : List Nm} {T U : List Nat} {v v' : Value} (s : Stp R h R h3 S (U ++ T)) (oS : Own R h3 U) (oT : Own R h3 T) (hpS : p ∈ U) (dj : ∀ b, b ∈ U → b ∉ T) (hp : h3 p = some (.row t_orlopref22_Cache [.int .i64 (qt : Int), v] 2 (some (0, 0)))) (o : OutAt t_api_Item 2 h3 v' (rowL L') L'.length T) {F : Unit → Hp → Prop}
    (k : ∀ h4, (∀ W, (∀ x, x ∈ W → x ∈ U) → Stp R h R h4 S ((p :: T) ++ W)) → (∀ x, x ≠ p → h4 x = h3 x) → RC h4 p qt L' (p :: T) → F () h4) : aw P (Instr.storeAt t_Sl_api_Item (.pointer (some ⟨p, 1, none⟩)) v') F h3 := by
  refine aw_store z_Sl_api_Item o.flat (put_row (b := p) (off := 1) hp (by simp) (by simp) _) ?_
  have e2 : ([Value.int .i64 (qt : Int), v] : List Value).set 1 v' = [.int .i64 (qt : Int), v'] := rfl
  rw [e2]
  have f4 : ∀ x, x ≠ p → (h3.set p (.row t_orlopref22_Cache [.int .i64 (qt : Int), v'] 2 (some (0, 0)))) x = h3 x := fun x hx => Hp.set_ne _ _ hx
  have g4 : (h3.set p (.row t_orlopref22_Cache [.int .i64 (qt : Int), v'] 2 (some (0, 0)))) p = some (.row t_orlopref22_Cache [.int .i64 (qt : Int), v'] 2 (some (0, 0))) := Hp.set_same ..
  generalize h3.set p (.row t_orlopref22_Cache [.int .i64 (qt : Int), v'] 2 (some (0, 0))) = h4 at f4 g4 ⊢
  have oST : Own R h3 (U ++ T) := oS.app oT
  have st : Stp R h3 R h4 (U ++ T) (U ++ T) := Stp.within oST (fun b hb => f4 b (by rintro rfl; exact hb (List.mem_append_left _ hpS))) fun b hb => by
    by_cases q1 : b = p
    · rw [q1]; exact ⟨_, g4⟩
    · rw [f4 b q1]; exact oST.kn b hb
  have pT : p ∉ T := dj p hpS
  refine k h4 (fun W hW => (s.trans st).drop fun x hx => ?_) f4 ⟨v', T, g4, o.keep fun x hx => f4 x (by rintro rfl; exact pT hx), pT, rfl⟩
  rcases List.mem_append.1 hx with hx | hx
  · rcases List.mem_cons.1 hx with rfl | hx
    · exact List.mem_append_left _ hpS
    · exact List.mem_append_right _ hx
  · exact List.mem_append_left _ (hW x hx)
theorem RC.put {h3 : Hp} {L' : List Nm} {T U : List Nat} {v v' : Value} (s : Stp R h R h3 S (U ++ T)) (oS : Own R h3 U) (oT : Own R h3 T) (hpS : p ∈ U) (dj : ∀ b, b ∈ U → b ∉ T) (hp : h3 p = some (.row t_orlopref22_Cache [.int .i64 (qt : Int), v] 2 (some (0, 0)))) (o : OutAt t_api_Item 2 h3 v' (rowL L') L'.length T) {F : Unit → Hp → Prop}
    (k : ∀ h4, Stp R h R h4 S (p :: T) → RC h4 p qt L' (p :: T) → F () h4) : aw P (Instr.storeAt t_Sl_api_Item (.pointer (some ⟨p, 1, none⟩)) v') F h3 :=
  RC.putW s oS oT hpS dj hp o fun h4 s4 _ a4 => k h4 (by have := s4 [] (by simp); rwa [List.append_nil] at this) a4
theorem T_ref22_Drop (n : ByteArray) (w : Own R h S) (a : RC h p qt L S) (hl : L.length ≤ 1000000) (k0 : (∀ x ∈ L, x.1 ≠ n) → K (.bool false) h)
    (k1 : ∀ A x B h' S', L = A ++ x :: B → x.1 = n → (∀ y ∈ A, y.1 ≠ n) → Stp R h R h' S S' → RC h' p qt (A ++ B) S' → K (.bool true) h') : Cn P n_orlopref22_Cache_Drop #[.pointer (some ⟨p, 0, none⟩), .string n] h K := by
  refine F_orlopref22_Cache_Drop ?_
  unfold s_orlopref22_Cache_Drop
  refine T_ref22_at n a hl (fun hn => ?_) fun A x B hL hn hA => ?_
  · simp only [GL, RL]
    exact k0 hn
  have hlen : L.length = A.length + 1 + B.length := by rw [hL]; simp; omega
  obtain ⟨vL, So, hp, ho, hpn, rfl⟩ := a
  have r := ho.rds
  have c1 : h.cell ⟨p, 1, none⟩ = some vL := by rw [cell_row hp]; rfl
  obtain ⟨hl0, av, cv, rfl, hcv, _⟩ := id r
  have e1 : IntKind.i64.wrap ((A.length : Int) + 1) = ((A.length + 1 : Nat) : Int) := wi64 (by omega) (by omega)
  have nlt : ¬ ((A.length : Int) < 0) := by omega
  simp (disch := omega) only [GL, RL, nlt, decide_false, Bool.false_eq_true, if_false, rc1, c1, e1]
  have sHi : ∀ {h : Hp} {K : Value → Prop}, q P h (Instr.sliceAt t_Sl_api_Item (.slice av L.length cv) none (some (.int .i64 (A.length : Int))) none) K = K (.slice (SL.cut av cv 0 2) A.length cv) := fun {h K} => q_slHi u_Sl_api_Item z_api_Item _ _ _ _ _ (by omega)
  have sLo : ∀ {h : Hp} {K : Value → Prop}, q P h (Instr.sliceAt t_Sl_api_Item (.slice av L.length cv) (some (.int .i64 ((A.length + 1 : Nat) : Int))) none none) K = K (.slice (SL.cut av cv (A.length + 1) 2) (L.length - (A.length + 1)) (cv - (A.length + 1))) := fun {h K} => q_slLo u_Sl_api_Item z_api_Item _ _ _ _ _ (by omega) hcv
  simp only [sHi, sLo]
  have rA : Rds h 2 (.slice (SL.cut av cv 0 2) A.length cv) (rowL A) A.length := by
    have := r.cut 0 A.length (by omega) (by omega)
    rw [rowL_take, Nat.zero_mul, List.drop_zero, hL, List.take_left' rfl] at this
    exact this
  have rB : Rds h 2 (.slice (SL.cut av cv (A.length + 1) 2) (L.length - (A.length + 1)) (cv - (A.length + 1))) (rowL B) (L.length - (A.length + 1)) := by
    have := r.cut (A.length + 1) L.length (by omega) (by omega)
    rw [rowL_take, List.take_length, rowL_drop] at this
    have e : L.drop (A.length + 1) = B := by rw [hL, show A ++ x :: B = (A ++ [x]) ++ B by simp]; exact List.drop_left' (by simp)
    rw [e] at this
    exact this
  refine aw_nilN u_Sl_api_Item z_api_Item fun v1 h1 n1 => ?_
  obtain ⟨T1, o1, ow1, s1, f1⟩ := Stp.fresh w n1
  have x1 : Hp.ext h h1 := n1.ext
  have hp1 := x1 _ _ hp
  have d1 : ∀ b, b ∈ p :: So → b ∉ T1 := fun b hb hT => by
    obtain ⟨o, e⟩ := w.kn b hb
    rw [f1 b hT] at e; cases e
  have ld : ∀ {H : Hp}, H p = some (.row t_orlopref22_Cache [.int .i64 (qt : Int), .slice av L.length cv] 2 (some (0, 0))) → peek P H (Instr.loadAt t_Sl_api_Item (.pointer (some ⟨p, 1, none⟩))) = some (.slice av L.length cv) := fun {H} e => pk_q fun K => q_load u_Sl_api_Item rfl _ (by rw [cell_row e]; rfl)
  refine ⟨pk_q fun K => sLo, ld hp1, pk_q fun K => rc1 p, pk_q fun K => sHi, ld hp1, pk_q fun K => rc1 p, ?_⟩
  have oS1 : Own R h1 (p :: So) := s1.own.sub' fun x hx => List.mem_append_left _ hx
  refine aw_appendO u_Sl_api_Item u_Sl_api_Item nfo_item rfl (by omega) o1 (rA.mono x1.cle) (rowL_flat A) (by omega) fun v2 h2 T2 o2 kp2 fr2 => ?_
  obtain ⟨oS2, oT2, d2, sm2, st2⟩ := OutAt.beside oS1 ow1 d1 o2 kp2 fr2
  have hp2 : h2 p = some (.row t_orlopref22_Cache [.int .i64 (qt : Int), .slice av L.length cv] 2 (some (0, 0))) := by rw [sm2 p (by simp)]; exact hp1
  refine ⟨pk_q fun K => sLo, ld hp2, pk_q fun K => rc1 p, ?_⟩
  have ho2 : OutAt t_api_Item 2 h2 (.slice av L.length cv) (rowL L) L.length So := ho.keep fun x hx => by
    rw [sm2 x (List.mem_cons_of_mem _ hx)]
    obtain ⟨o, e⟩ := w.kn x (List.mem_cons_of_mem _ hx)
    rw [e, x1 _ _ e]
  have rB2 : Rds h2 2 (.slice (SL.cut av cv (A.length + 1) 2) (L.length - (A.length + 1)) (cv - (A.length + 1))) (rowL B) (L.length - (A.length + 1)) := by
    have := ho2.rds.cut (A.length + 1) L.length (by omega) (by omega)
    rw [rowL_take, List.take_length, rowL_drop] at this
    have e : L.drop (A.length + 1) = B := by rw [hL, show A ++ x :: B = (A ++ [x]) ++ B by simp]; exact List.drop_left' (by simp)
    rw [e] at this
    exact this
  refine aw_appendO u_Sl_api_Item u_Sl_api_Item nfo_item rfl (by omega) o2 rB2 (rowL_flat B) (by omega) fun v3 h3 T3 o3 kp3 fr3 => ?_
  obtain ⟨oS3, oT3, d3, sm3, st3⟩ := OutAt.beside oS2 oT2 d2 o3 kp3 fr3
  have hp3 : h3 p = some (.row t_orlopref22_Cache [.int .i64 (qt : Int), .slice av L.length cv] 2 (some (0, 0))) := by rw [sm3 p (by simp)]; exact hp2
  have o3' : OutAt t_api_Item 2 h3 v3 (rowL (A ++ B)) (A ++ B).length T3 := by
    rw [rowL_app, List.length_append]
    have e : 0 + A.length + (L.length - (A.length + 1)) = A.length + B.length := by omega
    rw [e, List.nil_append] at o3
    exact o3
  exact RC.put ((s1.trans st2).trans st3) oS3 oT3 (by simp) d3 hp3 o3' fun h4 s4 a4 => k1 A x B h4 _ hL hn hA s4 a4
/-- The first one of a name goes. -/
def dropP (n : ByteArray) : List Nm → List Nm
  | [] => []
  | x :: L => if x.1 = n then L else x :: dropP n L
theorem dropP_no {n : ByteArray} : ∀ {L : List Nm}, (∀ x ∈ L, x.1 ≠ n) → dropP n L = L
  | [], _ => rfl
  | x :: L, h => by rw [dropP, if_neg (h x (by simp)), dropP_no fun y hy => h y (List.mem_cons_of_mem _ hy)]
theorem dropP_at {n : ByteArray} {x : Nm} {B : List Nm} (hx : x.1 = n) : ∀ {A : List Nm}, (∀ y ∈ A, y.1 ≠ n) → dropP n (A ++ x :: B) = A ++ B
  | [], _ => by rw [List.nil_append, dropP, if_pos hx]; rfl
  | y :: A, h => by rw [List.cons_append, dropP, if_neg (h y (by simp)), dropP_at hx fun z hz => h z (List.mem_cons_of_mem _ hz)]; rfl
theorem dropP_len (n : ByteArray) : ∀ L : List Nm, (dropP n L).length ≤ L.length
  | [] => Nat.le_refl _
  | x :: L => by
    rw [dropP]
    split
    · simp
    · simpa using dropP_len n L
theorem dropP_sum (n : ByteArray) : ∀ L : List Nm, sumP (dropP n L) ≤ sumP L
  | [] => Nat.le_refl _
  | x :: L => by
    rw [dropP]
    split
    · rw [sumP_cons]; omega
    · rw [sumP_cons, sumP_cons]; have := dropP_sum n L; omega
theorem T_ref22_DropF (n : ByteArray) (w : Own R h S) (a : RC h p qt L S) (hl : L.length ≤ 1000000)
    (k : ∀ b h' S', Stp R h R h' S S' → RC h' p qt (dropP n L) S' → K (.bool b) h') : Cn P n_orlopref22_Cache_Drop #[.pointer (some ⟨p, 0, none⟩), .string n] h K :=
  T_ref22_Drop n w a hl (fun hn => k false h S (.refl w) (by rw [dropP_no hn]; exact a)) fun A x B h' S' hL hx hA s a' => k true h' S' s (by rw [hL, dropP_at hx hA]; exact a')
theorem slatN {h : Hp} {v : Value} {So : List Nat} (o : OutAt t_api_Item 2 h v (rowL L) L.length So) : SlAt h 2 v (L.map itC) := by
  obtain ⟨_, a, c, e, hc, h0⟩ := o.rds
  refine ⟨a, c, by rw [List.length_map]; exact e, by rw [List.length_map]; exact hc, ?_⟩
  rcases h0 with h0 | ⟨b, f, ha, hx⟩
  · left; rw [List.eq_nil_of_length_eq_zero h0]; rfl
  · right
    refine ⟨b, f, ha, fun i x ei j y ey => ?_⟩
    rw [List.getElem?_map] at ei
    cases el : L[i]? with
    | none => rw [el] at ei; cases ei
    | some z =>
      rw [el] at ei
      obtain rfl : itC z = x := Option.some.inj ei
      obtain ⟨g0, g1⟩ := rowL_get el
      match j with
      | 0 => rw [← Option.some.inj (show some (Value.string z.1) = some y from ey)]; exact hx _ _ g0
      | 1 => rw [← Option.some.inj (show some (Value.int .i64 (z.2 : Int)) = some y from ey)]; have := hx _ _ g1; rw [← Nat.add_assoc] at this; exact this
      | j + 2 => simp [itC] at ey
theorem T_ref22_Touch (n : ByteArray) (w : Own R h S) (a : RC h p qt L S) (hl : L.length ≤ 900000) (k0 : (∀ x ∈ L, x.1 ≠ n) → K (.bool false) h)
    (k1 : ∀ A x B h' S', L = A ++ x :: B → x.1 = n → (∀ y ∈ A, y.1 ≠ n) → Stp R h R h' S S' → RC h' p qt (A ++ B ++ [x]) S' → K (.bool true) h') : Cn P n_orlopref22_Cache_Touch #[.pointer (some ⟨p, 0, none⟩), .string n] h K := by
  refine F_orlopref22_Cache_Touch ?_
  unfold s_orlopref22_Cache_Touch
  refine T_ref22_at n a (by omega) (fun hn => ?_) fun A x B hL hn hA => ?_
  · simp only [GL, RL]
    exact k0 hn
  have hlen : L.length = A.length + 1 + B.length := by rw [hL]; simp; omega
  obtain ⟨vL, So, hp, ho, hpn, hS⟩ := id a
  have c1 : h.cell ⟨p, 1, none⟩ = some vL := by rw [cell_row hp]; rfl
  have nlt : ¬ ((A.length : Int) < 0) := by omega
  simp (disch := omega) only [GL, RL, nlt, decide_false, Bool.false_eq_true, if_false, rc1, c1]
  have ex : (L.map itC)[A.length]? = some (itC x) := by rw [hL]; simp
  refine aw_itemAt (zs := [.string ByteArray.empty, .int .i64 0]) u_Sl_api_Item z_api_Item u_api_Item rfl zr_item rfl (slatN ho) (.refl _) ex rfl (by intro y hy; simp [itC] at hy; rcases hy with rfl | rfl <;> rfl) fun r hr => ?_
  have x1 := ext_set (.row t_api_Item (itC x) 2 (some (0, 0))) hr
  have g1 : (h.set r (.row t_api_Item (itC x) 2 (some (0, 0)))) r = some (.row t_api_Item (itC x) 2 (some (0, 0))) := Hp.set_same ..
  have s1 := Stp.ext0 w x1
  have a1 := a.ext w x1
  have kr : ∀ b, b ∈ S → b ≠ r := fun b hb => by rintro rfl; obtain ⟨o, e⟩ := w.kn b hb; rw [hr] at e; cases e
  have R1 : R r = none := w.sub.none hr
  generalize h.set r (.row t_api_Item (itC x) 2 (some (0, 0))) = h1 at x1 g1 s1 a1 ⊢
  refine T_ref22_Drop n s1.own a1 (by omega) (fun hno => absurd hn (hno x (by rw [hL]; simp))) fun A' x' B' h2 S2 hL' hn' hA' s2 a2 => ?_
  have same : A' ++ B' = A ++ B := by
    have e1 := dropP_at (B := B) hn hA
    have e2 := dropP_at (B := B') hn' hA'
    rw [← hL] at e1; rw [← hL'] at e2
    rw [← e1, ← e2]
  rw [same] at a2
  have g2 : h2 r = some (.row t_api_Item (itC x) 2 (some (0, 0))) := s2.keep r _ (fun q => kr r q rfl) g1
  have hrS2 : r ∉ S2 := s2.frS r _ (fun q => kr r q rfl) g1
  obtain ⟨vL2, So2, hp2, ho2, hpn2, rfl⟩ := id a2
  have c2 : h2.cell ⟨p, 1, none⟩ = some vL2 := by rw [cell_row hp2]; rfl
  have lr : ∀ {K : Value → Prop}, q P h2 (Instr.loadAt t_api_Item (.pointer (some ⟨r, 0, none⟩))) K = K (.agg (itC x).toArray) := fun {K} => q_ldRow u_api_Item rfl z_api_Item g2
  simp only [GL, RL, rc1, c2]
  rw [lr]
  refine aw_litA u_Sl_api_Item z_api_Item zr_item rfl rfl (by omega) (by omega) fun v3 h3 n3 => ?_
  have x3 : Hp.ext h2 h3 := n3.ext
  have hp3 := x3 _ _ hp2
  have s3 := Stp.ext0 s2.own x3
  refine ⟨pk_q fun K => q_load u_Sl_api_Item rfl _ (by rw [cell_row hp3]; rfl), pk_q fun K => rc1 p, ?_⟩
  have oP : Own R h3 [p] := s3.own.sub' fun x hx => by rw [List.mem_singleton.1 hx]; simp
  have oT : Own R h3 So2 := s3.own.sub' fun x hx => List.mem_cons_of_mem _ hx
  have ho3 : OutAt t_api_Item 2 h3 vL2 (rowL (A ++ B)) (A ++ B).length So2 := ho2.keep fun x hx => by
    obtain ⟨o, e⟩ := s2.own.kn x (List.mem_cons_of_mem _ hx)
    rw [e, x3 _ _ e]
  have lAB : (A ++ B).length = A.length + B.length := List.length_append
  refine aw_appendO u_Sl_api_Item u_Sl_api_Item nfo_item rfl (by omega) ho3 n3.rds (by intro y hy; simp [itC] at hy; rcases hy with rfl | rfl <;> rfl) (by omega) fun v4 h4 T4 o4 kp4 fr4 => ?_
  obtain ⟨oS4, oT4, d4, sm4, st4⟩ := OutAt.beside oP oT (by intro b hb; rw [List.mem_singleton.1 hb]; exact hpn2) o4 kp4 fr4
  have hp4 : h4 p = some (.row t_orlopref22_Cache [.int .i64 (qt : Int), vL2] 2 (some (0, 0))) := by rw [sm4 p (by simp)]; exact hp3
  have o4' : OutAt t_api_Item 2 h4 v4 (rowL (A ++ B ++ [x])) (A ++ B ++ [x]).length T4 := by
    rw [rowL_app, List.length_append]
    exact o4
  exact RC.put (((s1.trans s2).trans s3).trans st4) oS4 oT4 (by simp) d4 hp4 o4' fun h5 s5 a5 => k1 A x B h5 _ hL hn hA s5 a5
end
end Go.Proofs.Ytbglokdjlbknaaa
set_option linter.unusedSimpArgs false
set_option linter.unusedVariables false
set_option maxRecDepth 100000
set_option maxHeartbeats 4000000
namespace Go.Proofs.Ytbglokdjlbknaaa
open Go Go.SL
/-- So many go that what is left has room. -/
def popP (lim : Nat) : List Nm → List Nm × List Nm
  | [] => ([], [])
  | x :: L => if sumP (x :: L) ≤ lim then ([], x :: L) else (x :: (popP lim L).1, (popP lim L).2)
theorem popP_stop {lim : Nat} {L : List Nm} (h : sumP L ≤ lim) : popP lim L = ([], L) := by
  cases L with
  | nil => rfl
  | cons x L => rw [popP, if_pos h]
section
variable {h : Hp} {K : Value → Hp → Prop} {p qt : Nat} {R : Hp} {L : List Nm} {S : List Nat}
theorem bldIt {h : Hp} {K : Value → Prop} (n : ByteArray) (s : Int) : q P h (Instr.build t_api_Item #[(0, .string n), (1, .int .i64 s)]) K = K (.agg #[.string n, .int .i64 s]) := q_of (by kernel_rfl) K
theorem T_ref22_Put (n : ByteArray) (size : Int) (hs : size ≤ 9223372036854775807) (qb : qt ≤ 9223372036854775807) (hsum : sumP L ≤ qt) (lL : L.length ≤ 800000) (w : Own R h S) (a : RC h p qt L S)
    (k1 : size < 0 → K (.tuple #[.slice none 0 0, .int .i64 1]) h)
    (k3 : (qt : Int) < size → K (.tuple #[.slice none 0 0, .int .i64 3]) h)
    (k0 : 0 ≤ size → size ≤ qt → ∀ v R' h' S', Stp R h R' h' S S' →
      RC h' p qt ((popP (qt - size.toNat) (dropP n L)).2 ++ [(n, size.toNat)]) S' →
      Rds R' 1 v ((popP (qt - size.toNat) (dropP n L)).1.map fun x => .string x.1) (popP (qt - size.toNat) (dropP n L)).1.length → K (.tuple #[v, .int .i64 0]) h') :
    Cn P n_orlopref22_Cache_Put #[.pointer (some ⟨p, 0, none⟩), .string n, .int .i64 size] h K := by
  refine F_orlopref22_Cache_Put ?_
  unfold s_orlopref22_Cache_Put
  obtain ⟨vL, c0, c1, _, _⟩ := a.cells
  simp (disch := omega) only [GL, RL]
  by_cases h1 : size < 0
  · rw [if_pos (by simpa using h1)]
    exact k1 h1
  rw [if_neg (by simpa using h1)]
  simp (disch := omega) only [GL, RL, rc0, c0]
  by_cases h3 : (qt : Int) < size
  · rw [if_pos (by simpa using h3)]
    exact k3 h3
  rw [if_neg (by simpa using h3)]
  have k0 := k0 (by omega) (by omega)
  obtain ⟨s, rfl⟩ : ∃ s : Nat, size = (s : Int) := ⟨size.toNat, by omega⟩
  rw [Int.toNat_natCast] at k0
  have hsq : s ≤ qt := by omega
  clear c0 c1 k1 k3
  refine T_ref22_DropF n w a (by omega) fun b h1 S1 s1 a1 => ?_
  have lL1 : (dropP n L).length ≤ 800000 := Nat.le_trans (dropP_len n L) lL
  have hs1 : sumP (dropP n L) ≤ qt := Nat.le_trans (dropP_sum n L) hsum
  generalize dropP n L = L1 at a1 k0 lL1 hs1
  refine Lp_mk (fun m vs h' => ∃ (g L2 : List Nm) (S2 So : List Nat) (vo : Value), m = L2.length ∧ g ++ L2 = L1 ∧ (popP (qt - s) L1).1 = g ++ (popP (qt - s) L2).1 ∧ (popP (qt - s) L1).2 = (popP (qt - s) L2).2 ∧ sumP L2 ≤ qt ∧ Stp R h1 R h' S1 (S2 ++ So) ∧ RC h' p qt L2 S2 ∧ OutAt t_string 1 h' vo (g.map fun x => .string x.1) g.length So ∧ (∀ x, x ∈ S2 → x ∉ So) ∧ vs = [vo]) L1.length
    ⟨[], L1, S1, [], .slice none 0 0, rfl, rfl, rfl, rfl, hs1, by simpa using Stp.refl s1.own, a1, .inl ⟨rfl, rfl, rfl, rfl⟩, by simp, rfl⟩ ?_
  rintro m vs h2 ⟨g, L2, S2, So, vo, rfl, hg, hp1, hp2, hs2, s2, a2, hO, hdj, rfl⟩
  obtain ⟨vL, So2, hp, ho, hpn, rfl⟩ := id a2
  have c0 : h2.cell ⟨p, 0, none⟩ = some (.int .i64 (qt : Int)) := by rw [cell_row hp]; rfl
  have c1 : h2.cell ⟨p, 1, none⟩ = some vL := by rw [cell_row hp]; rfl
  have lg : g.length + L2.length = L1.length := by rw [← hg, List.length_append]
  have eqs : IntKind.i64.wrap ((qt : Int) - (s : Int)) = ((qt - s : Nat) : Int) := by rw [wi64 (by omega) (by omega)]; omega
  have oS2 : Own R h2 (p :: So2) := s2.own.sub' fun x hx => List.mem_append_left _ hx
  have oSo : Own R h2 So := s2.own.sub' fun x hx => List.mem_append_right _ hx
  have elt : decide (((qt - s : Nat) : Int) < ((sumP L2 : Nat) : Int)) = decide (qt - s < sumP L2) := lt_dec _ _
  simp (disch := omega) only [GL, RL, rc0, c0, eqs]
  refine T_ref22_Used a2 (by omega) (by omega) ?_
  refine ⟨pk_q fun K => q_load u_int rfl _ c0, pk_q fun K => rc0 p, ?_⟩
  simp (disch := omega) only [GL, RL, elt]
  by_cases hgt : qt - s < sumP L2
  · simp only [hgt, decide_true, if_true]
    obtain ⟨x, B, rfl⟩ : ∃ x B, L2 = x :: B := by
      cases L2 with
      | nil => simp [sumP] at hgt
      | cons x B => exact ⟨x, B, rfl⟩
    obtain ⟨b, o, hix, d0, d1⟩ := it_at (i := 0) (x := x) ho.rds rfl
    have hix' : ∀ {h' : Hp} {K : Value → Prop}, q P h' (Instr.indexAt t_Sl_api_Item vL (.int .i64 0)) K = K (.pointer (some ⟨b, o, none⟩)) := fun {h' K} => hix
    simp (disch := omega) only [GL, RL, rc1, c1, hix', aj0, d0]
    refine aw_lit (ps := [(0, .string x.1)]) (n := 1) u_Sl_string z_string zr_string rfl (by omega) (by intro p hp; rw [List.mem_singleton.1 hp]; exact ⟨rfl, by show _ < 1; omega⟩) fun v47 h3 n3 _ => ?_
    have n3' : New h2 t_string 1 v47 h3 [.string x.1] 1 := n3
    have x3 := n3'.ext
    have s3 := Stp.ext0 s2.own x3
    have hO3 : OutAt t_string 1 h3 vo (g.map fun x => .string x.1) g.length So := hO.keep fun x hx => by
      obtain ⟨o, eo⟩ := oSo.kn x hx
      rw [eo, x3 _ _ eo]
    have oSo3 : Own R h3 So := s3.own.sub' fun x hx => List.mem_append_right _ hx
    have oS3 : Own R h3 (p :: So2) := s3.own.sub' fun x hx => List.mem_append_left _ hx
    refine aw_appendO u_Sl_string u_Sl_string nfo_string rfl (by omega) hO3 n3'.rds (by intro y hy; rw [List.mem_singleton.1 hy]; rfl) (by simp at lg; omega) fun v48 h4 So' o4 kp4 fr4 => ?_
    obtain ⟨oS4, oT4, d4, sm4, st4⟩ := OutAt.beside oS3 oSo3 hdj o4 kp4 fr4
    have a4 : RC h4 p qt (x :: B) (p :: So2) := (a2.ext oS2 x3).keep sm4
    obtain ⟨vL4, So4, hp4, ho4, hpn4, e4⟩ := id a4
    simp only [List.cons.injEq, true_and] at e4
    subst e4
    have s04 := (s2.trans s3).trans st4
    refine aw_nilN u_Sl_api_Item z_api_Item fun v5 h5 n5 => ?_
    obtain ⟨T5, o5, ow5, s5, f5⟩ := Stp.fresh s04.own n5
    have x5 : Hp.ext h4 h5 := n5.ext
    have a5 : RC h5 p qt (x :: B) (p :: So2) := a4.ext oS4 x5
    obtain ⟨vL5, So5, hp5, ho5, hpn5, e5⟩ := id a5
    simp only [List.cons.injEq, true_and] at e5
    subst e5
    have d5 : ∀ b, b ∈ p :: So2 → b ∉ T5 := fun b hb hT => by
      obtain ⟨o, e⟩ := oS4.kn b hb
      rw [f5 b hT] at e; cases e
    have oS5 : Own R h5 (p :: So2) := s5.own.sub' fun x hx => List.mem_append_left _ (List.mem_append_left _ hx)
    have oO5 : Own R h5 So' := s5.own.sub' fun x hx => List.mem_append_left _ (List.mem_append_right _ hx)
    have dO5 : ∀ b, b ∈ So' → b ∉ T5 := fun b hb hT => by
      obtain ⟨o, e⟩ := oT4.kn b hb
      rw [f5 b hT] at e; cases e
    have c5 : h5.cell ⟨p, 1, none⟩ = some vL5 := by rw [cell_row hp5]; rfl
    obtain ⟨_, av, cv, rfl, hcv, _⟩ := id ho5.rds
    have sLo : ∀ {h : Hp} {K : Value → Prop}, q P h (Instr.sliceAt t_Sl_api_Item (.slice av (x :: B).length cv) (some (.int .i64 1)) none none) K = K (.slice (SL.cut av cv 1 2) ((x :: B).length - 1) (cv - 1)) := fun {h K} => q_slLo u_Sl_api_Item z_api_Item _ _ _ _ 1 (by simp) hcv
    simp only [GL, RL, rc1, c5, sLo]
    have rB : Rds h5 2 (.slice (SL.cut av cv 1 2) ((x :: B).length - 1) (cv - 1)) (rowL B) ((x :: B).length - 1) := by
      have := ho5.rds.cut 1 (x :: B).length (by simp) (Nat.le_refl _)
      rw [rowL_take, List.take_length, rowL_drop] at this
      exact this
    refine aw_appendO u_Sl_api_Item u_Sl_api_Item nfo_item rfl (by omega) o5 rB (rowL_flat B) (by simp at lg ⊢; omega) fun v6 h6 T6 o6 kp6 fr6 => ?_
    have oA5 : Own R h5 (p :: So2 ++ So') := oS5.app oO5
    have dA5 : ∀ b, b ∈ p :: So2 ++ So' → b ∉ T5 := fun b hb => by
      rcases List.mem_append.1 hb with hb | hb
      · exact d5 b hb
      · exact dO5 b hb
    obtain ⟨oA6, oT6, d6, sm6, st6⟩ := OutAt.beside oA5 ow5 dA5 o6 kp6 fr6
    have hp6 : h6 p = some (.row t_orlopref22_Cache [.int .i64 (qt : Int), .slice av (x :: B).length cv] 2 (some (0, 0))) := by rw [sm6 p (by simp)]; exact hp5
    have o6' : OutAt t_api_Item 2 h6 v6 (rowL B) B.length T6 := by
      have e : 0 + ((x :: B).length - 1) = B.length := by simp
      rw [e, List.nil_append] at o6
      exact o6
    have s06 := (s04.trans s5).trans st6
    have O6 : OutAt t_string 1 h6 v48 ((g ++ [x]).map fun x => .string x.1) (g ++ [x]).length So' := by
      rw [List.map_append, List.length_append]
      refine o4.keep fun y hy => ?_
      rw [sm6 y (List.mem_append_right _ hy)]
      obtain ⟨o, e⟩ := oT4.kn y hy
      rw [e, x5 _ _ e]
    have pS' : p ∉ So' := d4 p (by simp)
    refine RC.putW (U := p :: So2 ++ So') s06 oA6 oT6 (by simp) d6 hp6 o6' fun h7 s7 f7 a7 => ?_
    have epop : popP (qt - s) (x :: B) = (x :: (popP (qt - s) B).1, (popP (qt - s) B).2) := by
      simp only [popP]; rw [if_neg (by omega)]
    rw [epop] at hp1 hp2
    have hsB : sumP B ≤ qt := by rw [sumP_cons] at hs2; omega
    refine ⟨h7, .refl _, B.length, by simp, g ++ [x], B, p :: T6, So', v48, rfl, by rw [← hg]; simp, by rw [hp1]; simp, hp2, hsB, s7 So' (fun y hy => List.mem_append_right _ hy), a7, O6.keep fun y hy => f7 y (by rintro rfl; exact pS' hy), fun y hy hy' => ?_, rfl⟩
    rcases List.mem_cons.1 hy with rfl | hy
    · exact pS' hy'
    · exact d6 y (List.mem_append_right _ hy') hy
  · simp only [hgt, decide_false, Bool.false_eq_true, if_false]
    have estop := popP_stop (show sumP L2 ≤ qt - s by omega)
    rw [estop] at hp1 hp2
    simp only [List.append_nil] at hp1
    rw [hp1, hp2] at k0
    simp only [GL, RL, rc1, c1, bldIt]
    have bl : (Value.agg #[.string n, .int .i64 (s : Int)]) = .agg (itC (n, s)).toArray := rfl
    rw [bl]
    refine aw_litA u_Sl_api_Item z_api_Item zr_item rfl rfl (by omega) (by omega) fun v3 h3 n3 => ?_
    have x3 : Hp.ext h2 h3 := n3.ext
    have hp3 := x3 _ _ hp
    have s3 := Stp.ext0 s2.own x3
    have oP : Own R h3 ([p] ++ So) := s3.own.sub' fun x hx => by
      rcases List.mem_append.1 hx with hx | hx
      · rw [List.mem_singleton.1 hx]; simp
      · exact List.mem_append_right _ hx
    have oT : Own R h3 So2 := s3.own.sub' fun x hx => List.mem_append_left _ (List.mem_cons_of_mem _ hx)
    have ho3 : OutAt t_api_Item 2 h3 vL (rowL L2) L2.length So2 := ho.keep fun x hx => by
      obtain ⟨o, e⟩ := oS2.kn x (List.mem_cons_of_mem _ hx)
      rw [e, x3 _ _ e]
    have dP : ∀ b, b ∈ [p] ++ So → b ∉ So2 := fun b hb hb' => by
      rcases List.mem_append.1 hb with hb | hb
      · rw [List.mem_singleton.1 hb] at hb'; exact hpn hb'
      · exact hdj b (List.mem_cons_of_mem _ hb') hb
    refine aw_appendO u_Sl_api_Item u_Sl_api_Item nfo_item rfl (by omega) ho3 n3.rds (by intro y hy; simp [itC] at hy; rcases hy with rfl | rfl <;> rfl) (by omega) fun v4 h4 T4 o4 kp4 fr4 => ?_
    obtain ⟨oS4, oT4, d4, sm4, st4⟩ := OutAt.beside oP oT dP o4 kp4 fr4
    have hp4 : h4 p = some (.row t_orlopref22_Cache [.int .i64 (qt : Int), vL] 2 (some (0, 0))) := by rw [sm4 p (by simp)]; exact hp3
    have o4' : OutAt t_api_Item 2 h4 v4 (rowL (L2 ++ [(n, s)])) (L2 ++ [(n, s)]).length T4 := by
      rw [rowL_app, List.length_append]
      exact o4
    have st23 : Stp R h R h4 S (([p] ++ So) ++ T4) := (((s1.trans s2).trans s3).drop (T' := ([p] ++ So) ++ So2) (fun x hx => by
      simp only [List.mem_append, List.mem_cons, List.not_mem_nil, or_false] at hx ⊢
      rcases hx with (hx | hx) | hx
      · exact .inl (.inl hx)
      · exact .inr hx
      · exact .inl (.inr hx))).trans st4
    refine RC.putW (U := [p] ++ So) st23 oS4 oT4 (by simp) d4 hp4 o4' fun h5 s5 f5 a5 => ?_
    have pS : p ∉ So := hdj p (by simp)
    have hO5 : OutAt t_string 1 h5 vo (g.map fun x => .string x.1) g.length So := hO.keep fun y hy => by
      rw [f5 y (by rintro rfl; exact pS hy), sm4 y (List.mem_append_right _ hy)]
      obtain ⟨o, e⟩ := oSo.kn y hy
      rw [e, x3 _ _ e]
    have st5 := s5 So fun y hy => List.mem_append_right _ hy
    rcases hO5 with ⟨rfl, hn0, hg0, _⟩ | ⟨bo, co, fz, hbo, rfl, hco, hfo, rfl, hlo⟩
    · refine k0 _ R h5 _ (st5.drop fun x hx => List.mem_append_left _ hx) a5 ?_
      rw [hn0, hg0]
      exact ⟨rfl, none, 0, rfl, Nat.le_refl _, .inl rfl⟩
    · have hbS : ∀ x, x ∈ p :: T4 → x ≠ bo := fun x hx => by
        rintro rfl
        rcases List.mem_cons.1 hx with rfl | hx
        · exact pS (by simp)
        · exact d4 x (by simp) hx
      refine k0 _ (R.set bo (.row t_string (g.map fun x => .string x.1) (co * 1) (some fz))) h5 _ (st5.fix (by simp) hbo fun x hx => ⟨List.mem_append_left _ hx, hbS x hx⟩) a5 ?_
      exact ⟨hlo, _, co, rfl, hco, .inr ⟨bo, 0, rfl, fun j x e => by rw [cell_row (Hp.set_same ..), Nat.zero_add]; exact e⟩⟩
end
end Go.Proofs.Ytbglokdjlbknaaa
set_option linter.unusedSimpArgs false
set_option linter.unusedVariables false
set_option maxRecDepth 100000
set_option maxHeartbeats 4000000
namespace Go.Proofs.Ytbglokdjlbknaaa
open Go Go.SL Go.Pure
def ns (e : Ent) : Nm := (e.name, e.size)
theorem sumP_map (L : List Ent) : sumP (L.map ns) = sumS L := by simp [sumP, sumS, ns, Function.comp_def]
theorem dropP_map (n : ByteArray) {L A B : List Ent} {e : Ent} (hL : L = A ++ e :: B) (hn : e.name = n) (hx : ∀ x ∈ A ++ B, x.name ≠ n) : dropP n (L.map ns) = (A ++ B).map ns := by
  rw [hL, List.map_append, List.map_cons, dropP_at (x := ns e) hn (by
    intro y hy
    obtain ⟨x, hxA, rfl⟩ := List.mem_map.1 hy
    exact hx x (List.mem_append_left _ hxA)), List.map_append]
/-- Touched: the same in both lists. -/
theorem touch_eq {n : ByteArray} {L A B : List Ent} {e : Ent} {A' B' : List Nm} {x' : Nm} (hL : L = A ++ e :: B) (hn : e.name = n) (hx : ∀ x ∈ A ++ B, x.name ≠ n) (hL' : L.map ns = A' ++ x' :: B') (hn' : x'.1 = n) (hA' : ∀ y ∈ A', y.1 ≠ n) (m : Nat) :
    A' ++ B' ++ [x'] = (A ++ B ++ [useE e m]).map ns := by
  have e1 := dropP_map n hL hn hx
  have e2 := dropP_at (B := B') hn' hA'
  rw [← hL', e1] at e2
  have hx' : x' ∈ L.map ns := by rw [hL']; simp
  obtain ⟨y, hy, rfl⟩ := List.mem_map.1 hx'
  have : y = e := by
    rw [hL] at hy
    simp only [List.mem_append, List.mem_cons] at hy
    rcases hy with hy | rfl | hy
    · exact absurd hn' (hx y (List.mem_append_left _ hy))
    · rfl
    · exact absurd hn' (hx y (List.mem_append_right _ hy))
  rw [← e2, this]
  simp [ns, useE]
/-- The program's cache and the document's, beside one another. -/
structure Two (R h : Hp) (c p qt now : Nat) (L : List Ent) (S1 : List Nat) (Lr : List Nm) (S2 : List Nat) : Prop where
  o1 : Own R h S1
  o2 : Own R h S2
  dj : ∀ b, b ∈ S1 → b ∉ S2
  ca : CAt h c qt now L S1
  rc : RC h p qt Lr S2
theorem Two.step1 {R h R' h' : Hp} {c p qt now now' : Nat} {L L' : List Ent} {S1 S1' : List Nat} {Lr : List Nm} {S2 : List Nat} (t : Two R h c p qt now L S1 Lr S2) (s : Stp R h R' h' S1 S1') (a : CAt h' c qt now' L' S1') : Two R' h' c p qt now' L' S1' Lr S2 := by
  obtain ⟨a1, a2, a3⟩ := s.frame t.o2 (fun b hb h1 => t.dj b h1 hb)
  exact ⟨s.own, a1, fun b h1 hb => a2 b hb h1, a, t.rc.keep a3⟩
theorem Two.step2 {R h R' h' : Hp} {c p qt now : Nat} {L : List Ent} {S1 : List Nat} {Lr Lr' : List Nm} {S2 S2' : List Nat} (t : Two R h c p qt now L S1 Lr S2) (s : Stp R h R' h' S2 S2') (a : RC h' p qt Lr' S2') : Two R' h' c p qt now L S1 Lr' S2' := by
  obtain ⟨a1, a2, a3⟩ := s.frame t.o1 t.dj
  exact ⟨a1, s.own, a2, t.ca.keep a3, a⟩
theorem Two.ext {R h h' : Hp} {c p qt now : Nat} {L : List Ent} {S1 : List Nat} {Lr : List Nm} {S2 : List Nat} (t : Two R h c p qt now L S1 Lr S2) (x : Hp.ext h h') : Two R h' c p qt now L S1 Lr S2 :=
  ⟨(Stp.ext0 t.o1 x).own, (Stp.ext0 t.o2 x).own, t.dj, t.ca.ext t.o1 x, t.rc.ext t.o2 x⟩
section
variable {h : Hp} {K : Value → Hp → Prop}
end
end Go.Proofs.Ytbglokdjlbknaaa
set_option linter.unusedSimpArgs false
set_option linter.unusedVariables false
set_option maxRecDepth 100000
set_option maxHeartbeats 4000000
namespace Go.Proofs.Ytbglokdjlbknaaa
open Go Go.SL
/-- The memory with that array in its place. -/
def hpD {α : Type} (enc : α → Value) (h : Hp) (b cap : Nat) (f : Nat × Nat) (d : Array α) : Hp := h.set b (.row t_Pt_cache_item (d.toList.map enc) cap (some f))
/-- What a sort needs: an order that a function tells, and a row that may be written. -/
structure SE {α : Type} (enc : α → Value) (lt : α → α → Bool) (h : Hp) (b cap n : Nat) (f : Nat × Nat) (fn : Value) : Prop where
  fl : ∀ x, flat (enc x) = true
  hf : ∀ i, i < n → ¬ (f.1 ≤ i ∧ i < f.2)
  nb : n ≤ 1152921504606846975
  hb : h b ≠ none
  cmp : ∃ H : Hp, Hp.ext H h ∧ H b = none ∧ ∀ (x y : α) (h' : Hp) (K : Value → Hp → Prop), Hp.ext H h' → (∀ r : Int, decide (r < 0) = lt x y → K (.int .i64 r) h') → callP P fn [enc x, enc y] h' K
section
variable {α : Type} {enc : α → Value} {lt : α → α → Bool} {h : Hp} {b cap n cv : Nat} {f : Nat × Nat} {fn : Value} {K : Value → Hp → Prop} {d : Array α}
theorem SE.cmpD (E : SE enc lt h b cap n f fn) {x y : α} (k : ∀ r : Int, decide (r < 0) = lt x y → K (.int .i64 r) (hpD enc h b cap f d)) : callP P fn [enc x, enc y] (hpD enc h b cap f d) K := by
  obtain ⟨H, hx, hb, hc⟩ := E.cmp
  refine hc x y _ K (fun z o e => ?_) k
  have : z ≠ b := by rintro rfl; rw [hb] at e; cases e
  show (h.set b _) z = _
  rw [Hp.set_ne _ _ this]; exact hx z o e
theorem SE.alloc (E : SE enc lt h b cap n f fn) {r : Nat} (o : AObj) (hr : h r = none) : SE enc lt (h.set r o) b cap n f fn := by
  obtain ⟨H, hx, hb, hc⟩ := E.cmp
  have hrb : b ≠ r := by rintro rfl; exact E.hb hr
  exact ⟨E.fl, E.hf, E.nb, by rw [Hp.set_ne _ _ hrb]; exact E.hb, H, hx.trans (ext_set _ hr), hb, hc⟩
theorem hpD_set (r : Nat) (o : AObj) (hrb : r ≠ b) : (hpD enc h b cap f d).set r o = hpD enc (h.set r o) b cap f d := by
  funext z
  unfold hpD
  by_cases h1 : z = r
  · subst h1; rw [Hp.set_same, Hp.set_ne _ _ hrb, Hp.set_same]
  · rw [Hp.set_ne _ _ h1]
    by_cases h2 : z = b
    · subst h2; rw [Hp.set_same, Hp.set_same]
    · rw [Hp.set_ne _ _ h2, Hp.set_ne _ _ h2, Hp.set_ne _ _ h1]
theorem hpD_get (z : Nat) (h1 : z ≠ b) : hpD enc h b cap f d z = h z := Hp.set_ne _ _ h1
theorem hpD_at : hpD enc h b cap f d b = some (.row t_Pt_cache_item (d.toList.map enc) cap (some f)) := Hp.set_same ..
end
section
variable {α : Type} [Inhabited α] {enc : α → Value} {lt : α → α → Bool} {h : Hp} {b cap n cv : Nat} {f : Nat × Nat} {fn : Value} {K : Value → Hp → Prop} {d : Array α}
/-- A place of the row. -/
theorem ixD {K : Value → Prop} {h' : Hp} {i : Nat} (hi : i < n) : q P h' (Instr.indexAt t_Sl_Pt_cache_item (.slice (some ⟨b, 0, none⟩) n cv) (.int .i64 (i : Int))) K = K (.pointer (some ⟨b, i, none⟩)) := by
  rw [q_idxS u_Sl_Pt_cache_item z_Pt_cache_item _ _ _ _ _ (by omega) (by omega), Int.toNat_natCast, add_off, Nat.mul_one, Nat.zero_add]
theorem getD_enc {i : Nat} (hi : i < d.size) : (d.toList.map enc)[i]? = some (enc d[i]!) := by
  rw [List.getElem?_map, Array.getElem?_toList, Array.getElem?_eq_getElem hi, getElem!_pos d i hi]; rfl
theorem ldD {K : Value → Prop} {i : Nat} (hi : i < d.size) : q P (hpD enc h b cap f d) (Instr.loadAt t_Pt_cache_item (.pointer (some ⟨b, i, none⟩))) K = K (enc d[i]!) :=
  q_load u_Pt_cache_item rfl _ (by rw [cell_row hpD_at]; exact getD_enc hi)
/-- Two places change about. -/
theorem aw_swp (E : SE enc lt h b cap n f fn) (hd : d.size = n) {i j : Nat} (hi : i < n) (hj : j < n) {F : Unit → Hp → Prop} (k : F () (hpD enc h b cap f (Go.Sort.swp d i j))) :
    aw P (Instr.storeAt t_Pt_cache_item (.pointer (some ⟨b, i, none⟩)) (enc d[j]!)) (fun _ h => aw P (Instr.storeAt t_Pt_cache_item (.pointer (some ⟨b, j, none⟩)) (enc d[i]!)) F h) (hpD enc h b cap f d) := by
  have l0 : (d.toList.map enc).length = n := by rw [List.length_map, Array.length_toList, hd]
  refine aw_store z_Pt_cache_item (E.fl _) (put_row (b := b) (off := i) hpD_at (by omega) (E.hf i hi) _) ?_
  refine aw_store z_Pt_cache_item (E.fl _) (put_row (b := b) (off := j) (Hp.set_same ..) (by rw [List.length_set]; omega) (E.hf j hj) _) ?_
  have e : (((hpD enc h b cap f d).set b (.row t_Pt_cache_item ((d.toList.map enc).set i (enc d[j]!)) cap (some f))).set b (.row t_Pt_cache_item (((d.toList.map enc).set i (enc d[j]!)).set j (enc d[i]!)) cap (some f))) = hpD enc h b cap f (Go.Sort.swp d i j) := by
    unfold hpD Go.Sort.swp
    rw [Hp.set_set, Hp.set_set]
    congr 2
    simp only [Array.toList_setIfInBounds, List.map_set]
  rw [e]; exact k
theorem T_insertionSort (E : SE enc lt h b cap n f fn) (hd : d.size = n) {a c : Nat} (hac : a ≤ c) (hc : c ≤ n) (k : K (.tuple #[]) (hpD enc h b cap f (Go.Sort.insertionSort lt d a c))) :
    Cn P n_slices_insertionSortCmpFunc_cache_item #[.slice (some ⟨b, 0, none⟩) n cv, .int .i64 (a : Int), .int .i64 (c : Int), fn] (hpD enc h b cap f d) K := by
  refine F_slices_insertionSortCmpFunc_cache_item ?_
  unfold s_slices_insertionSortCmpFunc_cache_item
  have nb := E.nb
  have inc : ∀ {i : Nat}, i ≤ n → IntKind.i64.wrap ((i : Int) + 1) = ((i + 1 : Nat) : Int) := fun {i} hi => by rw [wi64 (by omega) (by omega)]; omega
  have dcr : ∀ {j : Nat}, j ≤ n → IntKind.i64.wrap (((j + 1 : Nat) : Int) - 1) = (j : Int) := fun {j} hi => by rw [wi64 (by omega) (by omega)]; omega
  simp (disch := omega) only [GL, inc]
  refine Lp_mk (fun m vs h' => ∃ (i : Nat) (d' : Array α), m = c + 1 - i ∧ a + 1 ≤ i ∧ i ≤ n + 1 ∧ d'.size = n ∧ Go.Sort.insOuter lt a c i d' = Go.Sort.insertionSort lt d a c ∧ vs = [.int .i64 (i : Int)] ∧ h' = hpD enc h b cap f d') (c + 1 - (a + 1))
    ⟨a + 1, d, rfl, Nat.le_refl _, by omega, hd, rfl, rfl, rfl⟩ ?_
  rintro m vs h' ⟨i, d', rfl, hi, hin, hd', ht, rfl, rfl⟩
  simp (disch := omega) only [GL, lt_dec]
  by_cases hic : i < c
  · simp only [hic, decide_true, if_true]
    rw [Go.Sort.insOuter, if_pos hic] at ht
    refine Lp_mk (fun m vs h' => ∃ (j : Nat) (d' : Array α), m = j ∧ a ≤ j ∧ j ≤ i ∧ d'.size = n ∧ Go.Sort.insOuter lt a c (i + 1) (Go.Sort.insInner lt a j d') = Go.Sort.insertionSort lt d a c ∧ vs = [.int .i64 (j : Int)] ∧ h' = hpD enc h b cap f d') i
      ⟨i, d', rfl, by omega, Nat.le_refl _, hd', ht, rfl, rfl⟩ ?_
    clear ht hd'
    rintro m vs h' ⟨j, d', hm, haj, hji, hd', ht, rfl, rfl⟩
    have out : ∀ d', d'.size = n → Go.Sort.insOuter lt a c (i + 1) d' = Go.Sort.insertionSort lt d a c → ∃ h0, Hp.le h0 (hpD enc h b cap f d') ∧ ∃ m, m < c + 1 - i ∧ ∃ (i_1 : Nat) (d'_1 : Array α), m = c + 1 - i_1 ∧ a + 1 ≤ i_1 ∧ i_1 ≤ n + 1 ∧ d'_1.size = n ∧ Go.Sort.insOuter lt a c i_1 d'_1 = Go.Sort.insertionSort lt d a c ∧ [Value.int .i64 (IntKind.i64.wrap ((i : Int) + 1))] = [.int .i64 (i_1 : Int)] ∧ h0 = hpD enc h b cap f d'_1 :=
      fun d' h1 h2 => ⟨_, .refl _, c + 1 - (i + 1), by omega, i + 1, d', rfl, by omega, by omega, h1, h2, by rw [inc (by omega)], rfl⟩
    by_cases hja : a < j
    · obtain ⟨j, rfl⟩ : ∃ j', j = j' + 1 := ⟨j - 1, by omega⟩
      have g1 : decide (((a : Nat) : Int) < ((j + 1 : Nat) : Int)) = true := by simp; omega
      simp (disch := omega) only [GL, g1, if_true, dcr, ixD, ldD]
      refine E.cmpD fun r hr => ?_
      simp only [GL, hr]
      by_cases hl : lt d'[j + 1]! d'[j]! = true
      · rw [Go.Sort.insInner, if_pos (by simp [hl]; omega)] at ht
        simp (disch := omega) only [hl, if_true, ldD]
        exact aw_swp E hd' (by omega) (by omega) ⟨_, .refl _, j, by omega, j, _, rfl, by omega, by omega, by simp [Go.Sort.swp, hd'], ht, rfl, rfl⟩
      · rw [Go.Sort.insInner, if_neg (by simp [hl])] at ht
        simp only [hl, if_false]
        exact out d' hd' ht
    · have g1 : decide (((a : Nat) : Int) < (j : Int)) = false := by simp; omega
      simp (disch := omega) only [GL, g1, Bool.false_eq_true, if_false]
      refine out d' hd' ?_
      cases j with
      | zero => exact ht
      | succ j => rwa [Go.Sort.insInner, if_neg (by simp; omega)] at ht
  · simp only [hic, decide_false, Bool.false_eq_true, if_false]
    rw [Go.Sort.insOuter, if_neg hic] at ht
    rw [ht]; exact k
end
end Go.Proofs.Ytbglokdjlbknaaa
set_option linter.unusedSimpArgs false
set_option linter.unusedVariables false
set_option maxRecDepth 100000
set_option maxHeartbeats 4000000
namespace Go.Proofs.Ytbglokdjlbknaaa
open Go Go.SL
section
variable {α : Type} [Inhabited α] {enc : α → Value} {lt : α → α → Bool} {h : Hp} {b cap n cv : Nat} {f : Nat × Nat} {fn : Value} {K : Value → Hp → Prop} {d : Array α}
theorem swp_sz {d : Array α} {i j : Nat} (hd : d.size = n) : (Go.Sort.swp d i j).size = n := by simp [Go.Sort.swp, hd]
theorem sift_end {hi first root : Nat} {d : Array α} (h : 2 * root + 1 ≥ hi) : Go.Sort.siftDown lt hi first root d = d := by
  rw [Go.Sort.siftDown, dif_pos h]
/-- A round of the sift: c is the greater child. -/
theorem sift_round {hi first root c : Nat} {d : Array α} (h : 2 * root + 1 < hi) (hc : c = (if 2 * root + 1 + 1 < hi ∧ lt d[first + (2 * root + 1)]! d[first + (2 * root + 1) + 1]! = true then 2 * root + 1 + 1 else 2 * root + 1)) :
    Go.Sort.siftDown lt hi first root d = if lt d[first + root]! d[first + c]! = true then Go.Sort.siftDown lt hi first c (Go.Sort.swp d (first + root) (first + c)) else d := by
  rw [Go.Sort.siftDown, dif_neg (by omega)]
  by_cases g : 2 * root + 1 + 1 < hi ∧ lt d[first + (2 * root + 1)]! d[first + (2 * root + 1) + 1]! = true
  · rw [if_pos g] at hc
    subst hc
    rw [if_pos (by simp [g.1, g.2])]
    by_cases g2 : lt d[first + root]! d[first + (2 * root + 1 + 1)]! = true
    · rw [if_pos g2, if_neg (by simp [g2]), dif_pos (by omega)]
    · rw [if_neg g2, if_pos (by simpa using g2)]
  · rw [if_neg g] at hc
    subst hc
    rw [if_neg (by simpa using g)]
    by_cases g2 : lt d[first + root]! d[first + (2 * root + 1)]! = true
    · rw [if_pos g2, if_neg (by simp [g2])]
    · rw [if_neg g2, if_pos (by simpa using g2)]
theorem T_siftDown (E : SE enc lt h b cap n f fn) (hd : d.size = n) {root0 hi first : Nat} (hr : root0 ≤ n) (hfh : first + hi ≤ n) (k : K (.tuple #[]) (hpD enc h b cap f (Go.Sort.siftDown lt hi first root0 d))) :
    Cn P n_slices_siftDownCmpFunc_cache_item #[.slice (some ⟨b, 0, none⟩) n cv, .int .i64 (root0 : Int), .int .i64 (hi : Int), .int .i64 (first : Int), fn] (hpD enc h b cap f d) K := by
  refine F_slices_siftDownCmpFunc_cache_item ?_
  unfold s_slices_siftDownCmpFunc_cache_item
  have nb := E.nb
  have ad : ∀ {i j : Nat}, i ≤ 2 * n + 2 → j ≤ n → i + j ≤ 2 * n + 2 → IntKind.i64.wrap ((i : Int) + (j : Int)) = ((i + j : Nat) : Int) := fun {i j} _ _ hi => by rw [wi64 (by omega) (by omega)]; omega
  have inc : ∀ {i : Nat}, i ≤ 2 * n + 1 → IntKind.i64.wrap ((i : Int) + 1) = ((i + 1 : Nat) : Int) := fun {i} hi => by rw [wi64 (by omega) (by omega)]; omega
  have dbl : ∀ {i : Nat}, i ≤ n → IntKind.i64.wrap (2 * (i : Int)) = ((2 * i : Nat) : Int) := fun {i} hi => by rw [wi64 (by omega) (by omega)]; omega
  refine Lp_mk (fun m vs h' => ∃ (root : Nat) (d' : Array α), m = hi - root ∧ root ≤ n ∧ d'.size = n ∧ Go.Sort.siftDown lt hi first root d' = Go.Sort.siftDown lt hi first root0 d ∧ vs = [.int .i64 (root : Int)] ∧ h' = hpD enc h b cap f d') (hi - root0)
    ⟨root0, d, rfl, hr, hd, rfl, rfl, rfl⟩ ?_
  rintro m vs h' ⟨root, d', hm, hrn, hd', ht, rfl, rfl⟩
  simp -zeta (maxSteps := 3000000) (disch := omega) only [GL, dbl, inc]
  by_cases hch : 2 * root + 1 < hi
  · rw [if_neg (by simp; omega)]
    intro J6
    have p6 : ∀ c : Nat, c = (if 2 * root + 1 + 1 < hi ∧ lt d'[first + (2 * root + 1)]! d'[first + (2 * root + 1) + 1]! = true then 2 * root + 1 + 1 else 2 * root + 1) → J6 (.int .i64 (c : Int)) (hpD enc h b cap f d') := by
      intro c hc
      have hcb : c < hi ∧ root < c := by split at hc <;> omega
      rw [sift_round hch hc] at ht
      simp (disch := omega) only [J6, GL, ad, ixD, ldD]
      clear J6
      refine E.cmpD fun r hr => ?_
      simp only [GL, hr]
      by_cases hl : lt d'[first + root]! d'[first + c]! = true
      · rw [if_pos hl] at ht
        simp (disch := omega) only [hl, Bool.not_true, Bool.false_eq_true, if_false, ldD]
        exact aw_swp E hd' (by omega) (by omega) ⟨_, .refl _, hi - c, by omega, c, _, rfl, by omega, swp_sz hd', ht, rfl, rfl⟩
      · rw [if_neg hl] at ht
        simp only [hl, Bool.not_false, if_true]
        rw [ht]; exact k
    clear_value J6
    by_cases h2 : 2 * root + 1 + 1 < hi
    · rw [if_pos (by simp; omega)]
      simp -zeta (disch := omega) only [GL, ad, inc, ixD, ldD]
      refine E.cmpD fun r hr => ?_
      simp -zeta only [GL, hr]
      by_cases hl : lt d'[first + (2 * root + 1)]! d'[first + (2 * root + 1) + 1]! = true
      · simp -zeta only [hl, if_true]
        exact p6 _ (by rw [if_pos ⟨h2, hl⟩])
      · simp -zeta only [hl, if_false]
        exact p6 _ (by rw [if_neg fun g => hl g.2])
    · rw [if_neg (by simp; omega)]
      simp -zeta only [Bool.false_eq_true, if_false]
      exact p6 _ (by rw [if_neg fun g => h2 g.1])
  · rw [if_pos (by simp; omega)]
    rw [sift_end (by omega)] at ht
    rw [ht]; exact k
theorem siftDown_sz (hi first : Nat) : ∀ (m root : Nat) (d : Array α), hi - root ≤ m → d.size = n → (Go.Sort.siftDown lt hi first root d).size = n := by
  intro m
  induction m with
  | zero => intro root d hm hd; rw [sift_end (by omega)]; exact hd
  | succ m ih =>
    intro root d hm hd
    by_cases hch : 2 * root + 1 < hi
    · obtain ⟨c, hc⟩ : ∃ c, c = (if 2 * root + 1 + 1 < hi ∧ lt d[first + (2 * root + 1)]! d[first + (2 * root + 1) + 1]! = true then 2 * root + 1 + 1 else 2 * root + 1) := ⟨_, rfl⟩
      have hcb : c < hi ∧ root < c := by split at hc <;> omega
      rw [sift_round hch hc]
      split
      · exact ih _ _ (by omega) (swp_sz hd)
      · exact hd
    · rw [sift_end (by omega)]; exact hd
theorem T_heapSort (E : SE enc lt h b cap n f fn) (hd : d.size = n) {a c : Nat} (hac : a ≤ c) (hc : c ≤ n) (k : K (.tuple #[]) (hpD enc h b cap f (Go.Sort.heapSort lt d a c))) :
    Cn P n_slices_heapSortCmpFunc_cache_item #[.slice (some ⟨b, 0, none⟩) n cv, .int .i64 (a : Int), .int .i64 (c : Int), fn] (hpD enc h b cap f d) K := by
  refine F_slices_heapSortCmpFunc_cache_item ?_
  unfold s_slices_heapSortCmpFunc_cache_item
  have nb := E.nb
  have e1 : IntKind.i64.wrap ((c : Int) - (a : Int)) = ((c - a : Nat) : Int) := by rw [wi64 (by omega) (by omega)]; omega
  have e2 : IntKind.i64.wrap (((c - a : Nat) : Int) - 1) = ((c - a : Nat) : Int) - 1 := wi64 (by omega) (by omega)
  have e3 : IntKind.i64.wrap ((((c - a : Nat) : Int) - 1).tdiv 2) = (((c - a - 1) / 2 + 1 : Nat) : Int) - 1 := by
    by_cases h0 : c - a = 0
    · rw [h0]; rfl
    · rw [show (((c - a : Nat) : Int) - 1) = ((c - a - 1 : Nat) : Int) by omega, Int.tdiv_eq_ediv_of_nonneg (by omega), wi64 (by omega) (by omega)]; omega
  have e4 : ∀ k : Nat, k ≤ n → IntKind.i64.wrap ((((k + 1 : Nat) : Int) - 1) - 1) = ((k : Nat) : Int) - 1 := fun k hk => by rw [wi64 (by omega) (by omega)]; omega
  simp -zeta (disch := omega) only [GL, e1, e2, e3]
  refine Lp_mk (fun m vs h' => ∃ (k : Nat) (d' : Array α), m = k ∧ k ≤ (c - a - 1) / 2 + 1 ∧ d'.size = n ∧ Go.Sort.heapBuild lt (c - a) a k d' = Go.Sort.heapBuild lt (c - a) a ((c - a - 1) / 2 + 1) d ∧ vs = [.int .i64 ((k : Int) - 1)] ∧ h' = hpD enc h b cap f d') ((c - a - 1) / 2 + 1)
    ⟨_, d, rfl, Nat.le_refl _, hd, rfl, rfl, rfl⟩ ?_
  rintro m vs h' ⟨k1, d', hm, hk1, hd', ht, rfl, rfl⟩
  simp -zeta (disch := omega) only [GL]
  cases k1 with
  | succ k1 =>
    rw [if_pos (by simp)]
    have ek : (((k1 + 1 : Nat) : Int) - 1) = (k1 : Int) := by omega
    rw [ek]
    try simp -zeta only [GL]
    refine T_siftDown E hd' (by omega) (by omega) ?_
    rw [← ek, e4 k1 (by omega)]
    exact ⟨_, .refl _, k1, by omega, k1, _, rfl, by omega, siftDown_sz _ _ _ _ _ (Nat.le_refl _) hd', ht, rfl, rfl⟩
  | zero =>
    rw [if_neg (by simp)]
    rw [Go.Sort.heapBuild] at ht
    have kk : ∀ d2, Go.Sort.heapPop lt a (c - a) d' = d2 → K (.tuple #[]) (hpD enc h b cap f d2) := fun d2 e => by rw [← e, ht]; exact k
    clear ht k hm
    try simp -zeta (disch := omega) only [GL, e2]
    refine Lp_mk (fun m vs h' => ∃ (k : Nat) (d2 : Array α), m = k ∧ k ≤ c - a ∧ d2.size = n ∧ Go.Sort.heapPop lt a k d2 = Go.Sort.heapPop lt a (c - a) d' ∧ vs = [.int .i64 ((k : Int) - 1)] ∧ h' = hpD enc h b cap f d2) (c - a)
      ⟨_, d', rfl, Nat.le_refl _, hd', rfl, rfl, rfl⟩ ?_
    rintro m vs h' ⟨k2, d2, hm, hk2, hd2, ht2, rfl, rfl⟩
    simp -zeta (disch := omega) only [GL]
    cases k2 with
    | succ k2 =>
      rw [if_pos (by simp)]
      have ek : (((k2 + 1 : Nat) : Int) - 1) = (k2 : Int) := by omega
      have ea : IntKind.i64.wrap ((a : Int) + (((k2 + 1 : Nat) : Int) - 1)) = ((a + k2 : Nat) : Int) := by rw [wi64 (by omega) (by omega)]; omega
      simp -zeta (disch := omega) only [GL, e4 k2 (by omega), ea, ixD, ldD]
      rw [ek]
      refine aw_swp E hd2 (by omega) (by omega) ?_
      refine T_siftDown (root0 := 0) E (swp_sz hd2) (by omega) (by omega) ?_
      exact ⟨_, .refl _, k2, by omega, k2, _, rfl, by omega, siftDown_sz _ _ _ _ _ (Nat.le_refl _) (swp_sz hd2), ht2, rfl, rfl⟩
    | zero =>
      rw [if_neg (by simp)]
      exact kk _ ht2.symm
end
end Go.Proofs.Ytbglokdjlbknaaa
set_option linter.unusedSimpArgs false
set_option linter.unusedVariables false
set_option maxRecDepth 100000
set_option maxHeartbeats 4000000
namespace Go.Proofs.Ytbglokdjlbknaaa
open Go Go.SL
/-- A number in a place of its own. -/
def swO (s : Int) : AObj := .row t_int [.int .i64 s] 1 (some (0, 0))
section
variable {α : Type} [Inhabited α] {enc : α → Value} {lt : α → α → Bool} {h : Hp} {b cap n cv r : Nat} {f : Nat × Nat} {fn : Value} {K : Value → Hp → Prop} {d : Array α}
theorem T_order2 (E : SE enc lt h b cap n f fn) (hr : h r = none) (hd : d.size = n) {i j : Nat} {s : Int} (hi : i < n) (hj : j < n)
    (k : ∀ (x y : Nat) (s' : Int), (x = i ∧ y = j) ∨ (x = j ∧ y = i) → K (.tuple #[.int .i64 (x : Int), .int .i64 (y : Int)]) (hpD enc (h.set r (swO s')) b cap f d)) :
    Cn P n_slices_order2CmpFunc_cache_item #[.slice (some ⟨b, 0, none⟩) n cv, .int .i64 (i : Int), .int .i64 (j : Int), .pointer (some ⟨r, 0, none⟩), fn] (hpD enc (h.set r (swO s)) b cap f d) K := by
  refine F_slices_order2CmpFunc_cache_item ?_
  unfold s_slices_order2CmpFunc_cache_item
  have hrb : r ≠ b := by rintro rfl; exact E.hb hr
  have Er := E.alloc (swO s) hr
  have rr : (hpD enc (h.set r (swO s)) b cap f d) r = some (swO s) := by rw [hpD_get r hrb, Hp.set_same]
  simp (disch := omega) only [GL, ixD, ldD]
  refine Er.cmpD fun v hv => ?_
  simp only [GL, hv]
  by_cases hl : lt d[j]! d[i]! = true
  · have c0 : (hpD enc (h.set r (swO s)) b cap f d).cell ⟨r, 0, none⟩ = some (.int .i64 s) := by rw [cell_row rr]; rfl
    simp only [hl, if_true, GL, RL, c0]
    refine aw_store z_int rfl (put_row (b := r) (off := 0) rr (by simp) (by simp) _) ?_
    rw [hpD_set r _ hrb, Hp.set_set]
    exact k j i _ (.inr ⟨rfl, rfl⟩)
  · simp only [hl, if_false]
    exact k i j s (.inl ⟨rfl, rfl⟩)
theorem T_median (E : SE enc lt h b cap n f fn) (hr : h r = none) (hd : d.size = n) {i j l : Nat} {s : Int} (hi : i < n) (hj : j < n) (hl : l < n)
    (k : ∀ (x : Nat) (s' : Int), x = i ∨ x = j ∨ x = l → K (.int .i64 (x : Int)) (hpD enc (h.set r (swO s')) b cap f d)) :
    Cn P n_slices_medianCmpFunc_cache_item #[.slice (some ⟨b, 0, none⟩) n cv, .int .i64 (i : Int), .int .i64 (j : Int), .int .i64 (l : Int), .pointer (some ⟨r, 0, none⟩), fn] (hpD enc (h.set r (swO s)) b cap f d) K := by
  refine F_slices_medianCmpFunc_cache_item ?_
  unfold s_slices_medianCmpFunc_cache_item
  refine T_order2 E hr hd hi hj fun x1 y1 s1 h1 => ?_
  rw [ext0, ext1]
  refine T_order2 E hr hd (by omega) hl fun x2 y2 s2 h2 => ?_
  rw [ext0, ext1]
  refine T_order2 E hr hd (by omega) (by omega) fun x3 y3 s3 h3 => ?_
  rw [ext0, ext1]
  exact k y3 s3 (by omega)
theorem T_medianAdjacent (E : SE enc lt h b cap n f fn) (hr : h r = none) (hd : d.size = n) {i : Nat} {s : Int} (h1 : 1 ≤ i) (hi : i + 1 < n)
    (k : ∀ (x : Nat) (s' : Int), x = i - 1 ∨ x = i ∨ x = i + 1 → K (.int .i64 (x : Int)) (hpD enc (h.set r (swO s')) b cap f d)) :
    Cn P n_slices_medianAdjacentCmpFunc_cache_item #[.slice (some ⟨b, 0, none⟩) n cv, .int .i64 (i : Int), .pointer (some ⟨r, 0, none⟩), fn] (hpD enc (h.set r (swO s)) b cap f d) K := by
  refine F_slices_medianAdjacentCmpFunc_cache_item ?_
  unfold s_slices_medianAdjacentCmpFunc_cache_item
  have nb := E.nb
  have e1 : IntKind.i64.wrap ((i : Int) - 1) = ((i - 1 : Nat) : Int) := by rw [wi64 (by omega) (by omega)]; omega
  have e2 : IntKind.i64.wrap ((i : Int) + 1) = ((i + 1 : Nat) : Int) := by rw [wi64 (by omega) (by omega)]; omega
  simp (disch := omega) only [GL, e1, e2]
  exact T_median E hr hd (by omega) (by omega) (by omega) k
theorem T_choosePivot (E : SE enc lt h b cap n f fn) (hd : d.size = n) {a c : Nat} (hac : a < c) (hc : c ≤ n)
    (k : ∀ (x : Nat) (hint : Int), a ≤ x → x < c → K (.tuple #[.int .i64 (x : Int), .int .i64 hint]) (hpD enc h b cap f d)) :
    Cn P n_slices_choosePivotCmpFunc_cache_item #[.slice (some ⟨b, 0, none⟩) n cv, .int .i64 (a : Int), .int .i64 (c : Int), fn] (hpD enc h b cap f d) K := by
  refine Cn_wk ?_
  refine F_slices_choosePivotCmpFunc_cache_item ?_
  unfold s_slices_choosePivotCmpFunc_cache_item
  have nb := E.nb
  have e1 : IntKind.i64.wrap ((c : Int) - (a : Int)) = ((c - a : Nat) : Int) := by rw [wi64 (by omega) (by omega)]; omega
  obtain ⟨l, hl⟩ : ∃ l, l = c - a := ⟨_, rfl⟩
  rw [← hl] at e1
  have e2 : IntKind.i64.wrap (((l : Nat) : Int).tdiv 4) = ((l / 4 : Nat) : Int) := by rw [Int.tdiv_eq_ediv_of_nonneg (by omega), wi64 (by omega) (by omega)]; omega
  have e3 : ∀ k : Nat, k ≤ 3 → IntKind.i64.wrap (((l / 4 : Nat) : Int) * (k : Int)) = ((l / 4 * k : Nat) : Int) := fun k hk => by
    have : l / 4 * k ≤ l / 4 * 3 := Nat.mul_le_mul_left _ hk
    rw [show ((l / 4 : Nat) : Int) * (k : Int) = ((l / 4 * k : Nat) : Int) from (Int.natCast_mul _ _).symm, wi64 (by omega) (by omega)]
  have e31 : IntKind.i64.wrap (((l / 4 : Nat) : Int) * 1) = ((l / 4 * 1 : Nat) : Int) := e3 1 (by omega)
  have e32 : IntKind.i64.wrap (((l / 4 : Nat) : Int) * 2) = ((l / 4 * 2 : Nat) : Int) := e3 2 (by omega)
  have e33 : IntKind.i64.wrap (((l / 4 : Nat) : Int) * 3) = ((l / 4 * 3 : Nat) : Int) := e3 3 (by omega)
  have e4 : ∀ x : Nat, x ≤ l / 4 * 3 → IntKind.i64.wrap ((a : Int) + (x : Int)) = ((a + x : Nat) : Int) := fun x hx => by rw [wi64 (by omega) (by omega)]; omega
  have e41 := e4 (l / 4 * 1) (by omega)
  have e42 := e4 (l / 4 * 2) (by omega)
  have e43 := e4 (l / 4 * 3) (by omega)
  simp -zeta (maxSteps := 3000000) (disch := omega) only [GL, e1]
  refine aw_alloc zr_int fun r hr0 => ?_
  have hrb : r ≠ b := by rintro rfl; rw [hpD_at] at hr0; cases hr0
  have hr : h r = none := by rwa [hpD_get r hrb] at hr0
  have eo : (AObj.row t_int (Value.int .i64 0).cells.toList (Value.int .i64 0).cells.size (some (0, 0))) = swO 0 := rfl
  rw [eo, hpD_set r _ hrb]
  simp -zeta (maxSteps := 3000000) (disch := omega) only [GL, e2]
  intro J7
  have p7 : ∀ (x : Nat) (s : Int), a ≤ x → x < c → J7 (.int .i64 (x : Int)) (hpD enc (h.set r (swO s)) b cap f d) := by
    intro x s h1 h2
    have rr : (hpD enc (h.set r (swO s)) b cap f d) r = some (swO s) := by rw [hpD_get r hrb, Hp.set_same]
    have c0 : (hpD enc (h.set r (swO s)) b cap f d).cell ⟨r, 0, none⟩ = some (.int .i64 s) := by rw [cell_row rr]; rfl
    have l0 : Hp.le (hpD enc h b cap f d) (hpD enc (h.set r (swO s)) b cap f d) := by
      rw [← hpD_set r _ hrb]; exact le_fresh (by rw [hpD_get r hrb]; exact hr)
    simp only [J7, GL, RL, c0]
    split
    · exact ⟨_, l0, k x 1 h1 h2⟩
    · split
      · exact ⟨_, l0, k x 2 h1 h2⟩
      · exact ⟨_, l0, k x 0 h1 h2⟩
  clear_value J7
  have g1 : IntKind.i64.wrap ((a : Int) + IntKind.i64.wrap (((l / 4 : Nat) : Int) * 1)) = ((a + l / 4 * 1 : Nat) : Int) := by rw [e31, e41]
  have g2 : IntKind.i64.wrap ((a : Int) + IntKind.i64.wrap (((l / 4 : Nat) : Int) * 2)) = ((a + l / 4 * 2 : Nat) : Int) := by rw [e32, e42]
  have g3 : IntKind.i64.wrap ((a : Int) + IntKind.i64.wrap (((l / 4 : Nat) : Int) * 3)) = ((a + l / 4 * 3 : Nat) : Int) := by rw [e33, e43]
  rw [g1, g2, g3]
  by_cases h8 : 8 ≤ l
  · rw [if_pos (by simp; omega)]
    by_cases h50 : 50 ≤ l
    · rw [if_pos (by simp; omega)]
      have i1 : a + 1 ≤ a + l / 4 * 1 ∧ a + l / 4 * 1 + 1 < c := by omega
      have i2 : a + 1 ≤ a + l / 4 * 2 ∧ a + l / 4 * 2 + 1 < c := by omega
      have i3 : a + 1 ≤ a + l / 4 * 3 ∧ a + l / 4 * 3 + 1 < c := by omega
      clear e1 e2 e3 e31 e32 e33 e4 e41 e42 e43 g1 g2 g3 hl h8 h50
      generalize a + l / 4 * 1 = y1 at i1 ⊢
      generalize a + l / 4 * 2 = y2 at i2 ⊢
      generalize a + l / 4 * 3 = y3 at i3 ⊢
      refine T_medianAdjacent E hr hd (by omega) (by omega) fun x1 s1 h1 => ?_
      have b1 : a ≤ x1 ∧ x1 < c := by rcases h1 with rfl | rfl | rfl <;> omega
      clear h1 i1
      refine T_medianAdjacent E hr hd (by omega) (by omega) fun x2 s2 h2 => ?_
      have b2 : a ≤ x2 ∧ x2 < c := by rcases h2 with rfl | rfl | rfl <;> omega
      clear h2 i2
      refine T_medianAdjacent E hr hd (by omega) (by omega) fun x3 s3 h3 => ?_
      have b3 : a ≤ x3 ∧ x3 < c := by rcases h3 with rfl | rfl | rfl <;> omega
      clear h3 i3
      refine T_median E hr hd (by omega) (by omega) (by omega) fun x4 s4 h4 => ?_
      have b4 : a ≤ x4 ∧ x4 < c := by rcases h4 with rfl | rfl | rfl <;> assumption
      exact p7 x4 s4 b4.1 b4.2
    · rw [if_neg (by simp; omega)]
      have i1 : a ≤ a + l / 4 * 1 ∧ a + l / 4 * 1 < c := by omega
      have i2 : a ≤ a + l / 4 * 2 ∧ a + l / 4 * 2 < c := by omega
      have i3 : a ≤ a + l / 4 * 3 ∧ a + l / 4 * 3 < c := by omega
      clear e1 e2 e3 e31 e32 e33 e4 e41 e42 e43 g1 g2 g3 hl h8 h50
      generalize a + l / 4 * 1 = y1 at i1 ⊢
      generalize a + l / 4 * 2 = y2 at i2 ⊢
      generalize a + l / 4 * 3 = y3 at i3 ⊢
      refine T_median E hr hd (by omega) (by omega) (by omega) fun x4 s4 h4 => ?_
      have b4 : a ≤ x4 ∧ x4 < c := by rcases h4 with rfl | rfl | rfl <;> assumption
      exact p7 x4 s4 b4.1 b4.2
  · rw [if_neg (by simp; omega)]
    exact p7 _ 0 (by omega) (by omega)
theorem T_reverseRange (E : SE enc lt h b cap n f fn) (hd : d.size = n) {a c : Nat} (hac : a < c) (hc : c ≤ n) (k : K (.tuple #[]) (hpD enc h b cap f (Go.Sort.reverseRange d a c))) :
    Cn P n_slices_reverseRangeCmpFunc_cache_item #[.slice (some ⟨b, 0, none⟩) n cv, .int .i64 (a : Int), .int .i64 (c : Int), fn] (hpD enc h b cap f d) K := by
  refine F_slices_reverseRangeCmpFunc_cache_item ?_
  unfold s_slices_reverseRangeCmpFunc_cache_item
  have nb := E.nb
  have e1 : IntKind.i64.wrap ((c : Int) - 1) = ((c - 1 : Nat) : Int) := by rw [wi64 (by omega) (by omega)]; omega
  simp (disch := omega) only [GL, e1]
  refine Lp_mk (fun m vs h' => ∃ (i j : Nat) (d' : Array α), m = j - i ∧ j < n ∧ i ≤ n ∧ d'.size = n ∧ Go.Sort.reverseLoop i j d' = Go.Sort.reverseRange d a c ∧ vs = [.int .i64 (i : Int), .int .i64 (j : Int)] ∧ h' = hpD enc h b cap f d') (c - 1 - a)
    ⟨a, c - 1, d, rfl, by omega, by omega, hd, rfl, rfl, rfl⟩ ?_
  rintro m vs h' ⟨i, j, d', hm, hj, hi, hd', ht, rfl, rfl⟩
  simp (disch := omega) only [GL, lt_dec]
  by_cases hij : i < j
  · have e2 : IntKind.i64.wrap ((i : Int) + 1) = ((i + 1 : Nat) : Int) := by rw [wi64 (by omega) (by omega)]; omega
    have e3 : IntKind.i64.wrap ((j : Int) - 1) = ((j - 1 : Nat) : Int) := by rw [wi64 (by omega) (by omega)]; omega
    rw [Go.Sort.reverseLoop, if_pos hij] at ht
    simp (disch := omega) only [hij, decide_true, if_true, GL, ixD, ldD, e2, e3]
    exact aw_swp E hd' (by omega) (by omega) ⟨_, .refl _, j - 1 - (i + 1), by omega, i + 1, j - 1, _, rfl, by omega, by omega, swp_sz hd', ht, rfl, rfl⟩
  · rw [Go.Sort.reverseLoop, if_neg hij] at ht
    simp only [hij, decide_false, Bool.false_eq_true, if_false]
    rw [ht]; exact k
end
end Go.Proofs.Ytbglokdjlbknaaa
set_option linter.unusedSimpArgs false
set_option linter.unusedVariables false
set_option maxRecDepth 100000
set_option maxHeartbeats 4000000
namespace Go.Proofs.Ytbglokdjlbknaaa
open Go Go.SL
theorem wrap64 (x : Int) : ∃ m : Nat, m < 18446744073709551616 ∧ IntKind.u64.wrap x = (m : Int) := by
  refine ⟨(x % 18446744073709551616).toNat, by omega, ?_⟩
  unfold IntKind.wrap
  simp [IntKind.bits, IntKind.signed]
  omega
theorem bl_shift {x k : Nat} (h : 2 ^ k ≤ x) : Go.Sort.bitsLen x = k + Go.Sort.bitsLen (x / 2 ^ k) := by
  have hp : 0 < 2 ^ k := Nat.two_pow_pos k
  apply Nat.le_antisymm
  · rw [Go.Sort.bitsLen_le_iff, Nat.pow_add]
    have := Go.Sort.lt_two_pow_bitsLen (x / 2 ^ k)
    rw [Nat.div_lt_iff_lt_mul hp] at this
    rwa [Nat.mul_comm]
  · have h1 : 0 < x / 2 ^ k := Nat.div_pos h hp
    have h3 : ¬ Go.Sort.bitsLen x ≤ k + Go.Sort.bitsLen (x / 2 ^ k) - 1 := by
      rw [Go.Sort.bitsLen_le_iff]
      have b1 : 1 ≤ Go.Sort.bitsLen (x / 2 ^ k) := by
        apply Nat.pos_of_ne_zero
        intro e
        have := (Go.Sort.bitsLen_le_iff (x / 2 ^ k) 0).1 (by omega)
        simp at this; omega
      have h4 : ¬ Go.Sort.bitsLen (x / 2 ^ k) ≤ Go.Sort.bitsLen (x / 2 ^ k) - 1 := by omega
      rw [Go.Sort.bitsLen_le_iff] at h4
      rw [show k + Go.Sort.bitsLen (x / 2 ^ k) - 1 = (Go.Sort.bitsLen (x / 2 ^ k) - 1) + k by omega, Nat.pow_add]
      intro h5
      exact h4 ((Nat.div_lt_iff_lt_mul hp).2 h5)
    omega
def lenTab : ByteArray := ⟨([0, 1, 2, 2, 3, 3, 3, 3, 4, 4, 4, 4, 4, 4, 4, 4, 5, 5, 5, 5, 5, 5, 5, 5, 5, 5, 5, 5, 5, 5, 5, 5, 6, 6, 6, 6, 6, 6, 6, 6, 6, 6, 6, 6, 6, 6, 6, 6, 6, 6, 6, 6, 6, 6, 6, 6, 6, 6, 6, 6, 6, 6, 6, 6, 7, 7, 7, 7, 7, 7, 7, 7, 7, 7, 7, 7, 7, 7, 7, 7, 7, 7, 7, 7, 7, 7, 7, 7, 7, 7, 7, 7, 7, 7, 7, 7, 7, 7, 7, 7, 7, 7, 7, 7, 7, 7, 7, 7, 7, 7, 7, 7, 7, 7, 7, 7, 7, 7, 7, 7, 7, 7, 7, 7, 7, 7, 7, 7, 8, 8, 8, 8, 8, 8, 8, 8, 8, 8, 8, 8, 8, 8, 8, 8, 8, 8, 8, 8, 8, 8, 8, 8, 8, 8, 8, 8, 8, 8, 8, 8, 8, 8, 8, 8, 8, 8, 8, 8, 8, 8, 8, 8, 8, 8, 8, 8, 8, 8, 8, 8, 8, 8, 8, 8, 8, 8, 8, 8, 8, 8, 8, 8, 8, 8, 8, 8, 8, 8, 8, 8, 8, 8, 8, 8, 8, 8, 8, 8, 8, 8, 8, 8, 8, 8, 8, 8, 8, 8, 8, 8, 8, 8, 8, 8, 8, 8, 8, 8, 8, 8, 8, 8, 8, 8, 8, 8, 8, 8, 8, 8, 8, 8, 8, 8, 8, 8, 8, 8, 8, 8, 8, 8, 8, 8, 8, 8] : List UInt8).toArray⟩
noncomputable def lenCk (h : Hp) (x : Nat) : Bool := match peek P h (Instr.index t_string (.string lenTab) (.int .u8 (x : Int))) with
  | some (.int .u8 v) => v == ((Go.Sort.bitsLen x : Nat) : Int)
  | _ => false
theorem lenCk_all (h : Hp) : (List.range 256).all (lenCk h) = true := by kernel_rfl
theorem q_lenTab {h : Hp} {K : Value → Prop} {x : Nat} (hx : x < 256) : q P h (Instr.index t_string (.string lenTab) (.int .u8 (x : Int))) K = K (.int .u8 ((Go.Sort.bitsLen x : Nat) : Int)) := q_of (by
  have e := List.all_eq_true.1 (lenCk_all h) x (List.mem_range.2 hx)
  unfold lenCk at e
  split at e
  · rename_i v hv
    rw [hv, eq_of_beq e]
  · cases e) K
section
variable {h : Hp} {K : Value → Hp → Prop}
theorem T_bitsLen (x : Nat) (hx : x < 18446744073709551616) (k : K (.int .i64 ((Go.Sort.bitsLen x : Nat) : Int)) h) : Cn P n_bits_Len #[.int .u64 (x : Int)] h K := by
  refine F_bits_Len ?_
  unfold s_bits_Len
  simp only [GL, Bool.false_eq_true, if_false]
  refine F_bits_Len64 ?_
  unfold s_bits_Len64
  intro J2
  have hs : ∀ (y j : Nat), ((y : Nat) : Int).fdiv ((2 ^ j : Nat) : Int) = ((y / 2 ^ j : Nat) : Int) := fun y j => by rw [Int.fdiv_eq_ediv_of_nonneg _ (Int.natCast_nonneg _)]; exact (Int.natCast_ediv _ _).symm
  have p2 : ∀ (y m : Nat), y < 4294967296 → m ≤ 32 → K (.int .i64 ((m + Go.Sort.bitsLen y : Nat) : Int)) h → J2 (.int .u64 (y : Int)) (.int .i64 (m : Int)) h := by
    intro y m hy hm k
    simp -zeta only [J2]
    clear J2
    intro J5
    have p5 : ∀ (y m : Nat), y < 65536 → m ≤ 48 → K (.int .i64 ((m + Go.Sort.bitsLen y : Nat) : Int)) h → J5 (.int .u64 (y : Int)) (.int .i64 (m : Int)) h := by
      intro y m hy hm k
      simp -zeta only [J5]
      clear J5
      intro J8
      have p8 : ∀ (y m : Nat), y < 256 → m ≤ 56 → K (.int .i64 ((m + Go.Sort.bitsLen y : Nat) : Int)) h → J8 (.int .u64 (y : Int)) (.int .i64 (m : Int)) h := by
        intro y m hy hm k
        simp -zeta only [J8]
        clear J8
        have bl : Go.Sort.bitsLen y ≤ 8 := (Go.Sort.bitsLen_le_iff y 8).2 (by omega)
        have e1 : IntKind.u8.wrap (y : Int) = (y : Int) := wu8i (by omega) (by omega)
        have e2 : IntKind.i64.wrap ((m : Int) + ((Go.Sort.bitsLen y : Nat) : Int)) = ((m + Go.Sort.bitsLen y : Nat) : Int) := by rw [wi64 (by omega) (by omega)]; omega
        have e3 : IntKind.i64.wrap ((Go.Sort.bitsLen y : Nat) : Int) = ((Go.Sort.bitsLen y : Nat) : Int) := wi64 (by omega) (by omega)
        have tb := fun (K : Value → Prop) => q_lenTab (h := h) (K := K) hy
        unfold lenTab at tb
        simp only [GL, RL, e1, tb, e2, e3]
        exact k
      clear_value J8
      simp only [GL]
      by_cases h8 : 256 ≤ y
      · rw [if_pos (by simp; omega)]
        have es : ((y : Nat) : Int).fdiv (2 ^ min (Int.toNat 8) IntKind.u64.bits) = ((y / 2 ^ 8 : Nat) : Int) := hs y 8
        have em : IntKind.i64.wrap ((m : Int) + 8) = ((m + 8 : Nat) : Int) := by rw [wi64 (by omega) (by omega)]; omega
        simp (disch := omega) only [GL, es, em]
        exact p8 (y / 2 ^ 8) (m + 8) (by omega) (by omega) (by rw [bl_shift (k := 8) (by omega)] at k; rwa [Nat.add_assoc])
      · rw [if_neg (by simp; omega)]
        exact p8 y m (by omega) (by omega) k
    clear_value J5
    simp only [GL]
    by_cases h8 : 65536 ≤ y
    · rw [if_pos (by simp; omega)]
      have es : ((y : Nat) : Int).fdiv (2 ^ min (Int.toNat 16) IntKind.u64.bits) = ((y / 2 ^ 16 : Nat) : Int) := hs y 16
      have em : IntKind.i64.wrap ((m : Int) + 16) = ((m + 16 : Nat) : Int) := by rw [wi64 (by omega) (by omega)]; omega
      simp (disch := omega) only [GL, es, em]
      exact p5 (y / 2 ^ 16) (m + 16) (by omega) (by omega) (by rw [bl_shift (k := 16) (by omega)] at k; rwa [Nat.add_assoc])
    · rw [if_neg (by simp; omega)]
      exact p5 y m (by omega) (by omega) k
  clear_value J2
  simp only [GL]
  by_cases h8 : 4294967296 ≤ x
  · rw [if_pos (by simp; omega)]
    have es : ((x : Nat) : Int).fdiv (2 ^ min (Int.toNat 32) IntKind.u64.bits) = ((x / 2 ^ 32 : Nat) : Int) := hs x 32
    simp (disch := omega) only [GL, es]
    exact p2 (x / 2 ^ 32) 32 (by omega) (by omega) (by rw [bl_shift (k := 32) (by omega)] at k; exact k)
  · rw [if_neg (by simp; omega)]
    exact p2 x 0 (by omega) (by omega) (by rwa [Nat.zero_add])
theorem T_nextPow (l : Nat) (h0 : 0 < l) (hl : l ≤ 1152921504606846975) (k : K (.int .u64 ((2 ^ Go.Sort.bitsLen l : Nat) : Int)) h) : Cn P n_slices_nextPowerOfTwo #[.int .i64 (l : Int)] h K := by
  refine F_slices_nextPowerOfTwo ?_
  unfold s_slices_nextPowerOfTwo
  have e1 : IntKind.u64.wrap (l : Int) = (l : Int) := by rw [wu64]; omega
  simp only [GL, RL, e1]
  refine T_bitsLen l (by omega) ?_
  have bl : Go.Sort.bitsLen l ≤ 60 := (Go.Sort.bitsLen_le_iff l 60).2 (by omega)
  have hp := Go.Sort.two_pow_bitsLen_le h0
  generalize Go.Sort.bitsLen l = m at bl k hp ⊢
  have e2 : IntKind.u64.wrap (1 * (2 : Int) ^ min m IntKind.u64.bits) = ((2 ^ m : Nat) : Int) := by
    rw [show min m IntKind.u64.bits = m from Nat.min_eq_left (by show m ≤ 64; omega), Int.one_mul, show ((2 : Int) ^ m) = ((2 ^ m : Nat) : Int) by norm_cast, wu64]
    congr 1
    exact Nat.mod_eq_of_lt (by omega)
  simp (disch := omega) only [GL, e2]
  exact k
/-- A number of 64 bits in a place of its own. -/
def xoO (v : Nat) : AObj := .row t_slices_xorshift [.int .u64 (v : Int)] 1 (some (0, 0))
theorem T_xorNext {H : Hp} {r : Nat} {v : Nat} (hr : H r = some (xoO v)) (k : ∀ v' : Nat, v' < 18446744073709551616 → K (.int .u64 (v' : Int)) (H.set r (xoO v'))) : Cn P n_slices_xorshift_Next #[.pointer (some ⟨r, 0, none⟩)] H K := by
  refine F_slices_xorshift_Next ?_
  unfold s_slices_xorshift_Next
  have rd : ∀ {H : Hp} {v : Nat}, H r = some (xoO v) → H.cell ⟨r, 0, none⟩ = some (.int .u64 (v : Int)) := fun e => by rw [cell_row e]; rfl
  have st : ∀ {H : Hp} {v : Nat} {x : Int} {F : Unit → Hp → Prop}, H r = some (xoO v) → (∀ v' : Nat, v' < 18446744073709551616 → F () (H.set r (xoO v'))) → (∃ y, x = IntKind.u64.wrap y) → aw P (Instr.storeAt t_slices_xorshift (.pointer (some ⟨r, 0, none⟩)) (.int .u64 x)) F H := fun {H v x F} e kk hx => by
    obtain ⟨y, rfl⟩ := hx
    obtain ⟨m, hm, em⟩ := wrap64 y
    rw [em]
    exact aw_store z_slices_xorshift rfl (put_row (b := r) (off := 0) e (by simp) (by simp) _) (kk m hm)
  simp (disch := omega) only [GL, RL, rd hr]
  refine st hr (fun v1 h1 => ?_) ⟨_, rfl⟩
  have r1 : (H.set r (xoO v1)) r = some (xoO v1) := Hp.set_same ..
  simp (disch := omega) only [GL, RL, rd r1]
  refine st r1 (fun v2 h2 => ?_) ⟨_, rfl⟩
  rw [Hp.set_set]
  have r2 : (H.set r (xoO v2)) r = some (xoO v2) := Hp.set_same ..
  simp (disch := omega) only [GL, RL, rd r2]
  refine st r2 (fun v3 h3 => ?_) ⟨_, rfl⟩
  rw [Hp.set_set]
  have r3 : (H.set r (xoO v3)) r = some (xoO v3) := Hp.set_same ..
  simp (disch := omega) only [GL, RL, rd r3]
  exact k v3 h3
end
section
variable {α : Type} [Inhabited α] {enc : α → Value} {lt : α → α → Bool} {h : Hp} {b cap n cv : Nat} {f : Nat × Nat} {fn : Value} {K : Value → Hp → Prop} {d : Array α}
theorem T_breakPatterns (E : SE enc lt h b cap n f fn) (hd : d.size = n) {a c : Nat} (hac : a < c) (hc : c ≤ n) (k : ∀ d', Go.Sort.PermIn a c d d' → d'.size = n → K (.tuple #[]) (hpD enc h b cap f d')) :
    Cn P n_slices_breakPatternsCmpFunc_cache_item #[.slice (some ⟨b, 0, none⟩) n cv, .int .i64 (a : Int), .int .i64 (c : Int), fn] (hpD enc h b cap f d) K := by
  refine Cn_wk ?_
  refine F_slices_breakPatternsCmpFunc_cache_item ?_
  unfold s_slices_breakPatternsCmpFunc_cache_item
  have nb := E.nb
  have e1 : IntKind.i64.wrap ((c : Int) - (a : Int)) = ((c - a : Nat) : Int) := by rw [wi64 (by omega) (by omega)]; omega
  obtain ⟨l, hl⟩ : ∃ l, l = c - a := ⟨_, rfl⟩
  rw [← hl] at e1
  have e2 : IntKind.i64.wrap (((l : Nat) : Int).tdiv 4) = ((l / 4 : Nat) : Int) := by rw [Int.tdiv_eq_ediv_of_nonneg (by omega), wi64 (by omega) (by omega)]; omega
  have e3 : IntKind.i64.wrap (((l / 4 : Nat) : Int) * 2) = ((l / 4 * 2 : Nat) : Int) := by rw [wi64 (by omega) (by omega)]; omega
  have e4 : IntKind.i64.wrap ((a : Int) + ((l / 4 * 2 : Nat) : Int)) = ((a + l / 4 * 2 : Nat) : Int) := by rw [wi64 (by omega) (by omega)]; omega
  simp -zeta (disch := omega) only [GL, e1]
  by_cases h8 : 8 ≤ l
  · rw [if_pos (by simp; omega)]
    have e5 : IntKind.i64.wrap (((a + l / 4 * 2 : Nat) : Int) - 1) = ((a + l / 4 * 2 - 1 : Nat) : Int) := by rw [wi64 (by omega) (by omega)]; omega
    have e6 : IntKind.i64.wrap (((a + l / 4 * 2 : Nat) : Int) + 1) = ((a + l / 4 * 2 + 1 : Nat) : Int) := by rw [wi64 (by omega) (by omega)]; omega
    have e7 : IntKind.u64.wrap (l : Int) = (l : Int) := by rw [wu64]; omega
    simp -zeta (disch := omega) only [GL, RL, e7]
    refine aw_alloc zr_slices_xorshift fun r hr0 => ?_
    have hrb : r ≠ b := by rintro rfl; rw [hpD_at] at hr0; cases hr0
    have hr : h r = none := by rwa [hpD_get r hrb] at hr0
    have eo : (AObj.row t_slices_xorshift (Value.int .u64 0).cells.toList (Value.int .u64 0).cells.size (some (0, 0))) = xoO 0 := rfl
    rw [eo]
    refine aw_store z_slices_xorshift rfl (put_row (b := r) (off := 0) (Hp.set_same ..) (by simp) (by simp) _) ?_
    rw [Hp.set_set]
    have eo2 : (AObj.row t_slices_xorshift (([Value.int .u64 ((0 : Nat) : Int)] : List Value).set 0 (.int .u64 (l : Int))) 1 (some (0, 0))) = xoO l := rfl
    rw [eo2, hpD_set r _ hrb]
    refine T_nextPow l (by omega) (by omega) ?_
    simp -zeta (disch := omega) only [GL, e2, e3, e4, e5]
    have lmod : 2 ^ Go.Sort.bitsLen l ≤ 2 * l := Go.Sort.two_pow_bitsLen_le (by omega)
    have lpos : 0 < 2 ^ Go.Sort.bitsLen l := Nat.two_pow_pos _
    have e8 : IntKind.u64.wrap (((2 ^ Go.Sort.bitsLen l : Nat) : Int) - 1) = ((2 ^ Go.Sort.bitsLen l - 1 : Nat) : Int) := by
      rw [show (((2 ^ Go.Sort.bitsLen l : Nat) : Int) - 1) = ((2 ^ Go.Sort.bitsLen l - 1 : Nat) : Int) by omega, wu64, Nat.mod_eq_of_lt (by omega)]
    have an : ∀ v : Nat, v < 18446744073709551616 → iand .u64 (v : Int) ((2 ^ Go.Sort.bitsLen l - 1 : Nat) : Int) = ((v % 2 ^ Go.Sort.bitsLen l : Nat) : Int) := fun v hv => by
      rw [iand_u rfl (by omega) (by show (v : Int) < ((2 ^ 64 : Nat) : Int); omega) (by omega) (by show ((2 ^ Go.Sort.bitsLen l - 1 : Nat) : Int) < ((2 ^ 64 : Nat) : Int); omega), Int.toNat_natCast, Int.toNat_natCast, Nat.and_two_pow_sub_one_eq_mod]
    have mlt : ∀ v : Nat, v % 2 ^ Go.Sort.bitsLen l < 2 * l := fun v => Nat.lt_of_lt_of_le (Nat.mod_lt _ lpos) lmod
    rw [e8, e6]
    generalize 2 ^ Go.Sort.bitsLen l = md at an mlt ⊢
    clear e2 e3 e4 e5 e6 e7 e8 lmod lpos eo eo2
    have ib : a ≤ a + l / 4 * 2 - 1 ∧ a + l / 4 * 2 - 1 + 2 = a + l / 4 * 2 + 1 ∧ a + l / 4 * 2 + 1 < c := by omega
    generalize a + l / 4 * 2 - 1 = i0 at ib ⊢
    generalize a + l / 4 * 2 + 1 = i1 at ib ⊢
    refine Lp_mk (fun m vs h' => ∃ (i v : Nat) (d' : Array α), i + m = i1 + 1 ∧ a ≤ i ∧ v < 18446744073709551616 ∧ Go.Sort.PermIn a c d d' ∧ d'.size = n ∧ vs = [.int .i64 (i : Int)] ∧ h' = hpD enc (h.set r (xoO v)) b cap f d') 3
      ⟨i0, l, d, by omega, ib.1, by omega, Go.Sort.permIn_refl d a c, hd, rfl, rfl⟩ ?_
    rintro m vs h' ⟨i, v, d', hm, hai, hv, hp, hd', rfl, rfl⟩
    simp -zeta (disch := omega) only [GL]
    by_cases hle : i ≤ i1
    · rw [if_pos (by simp; omega)]
      refine T_xorNext (v := v) (by rw [hpD_get r hrb, Hp.set_same]) fun v' hv' => ?_
      rw [hpD_set r _ hrb, Hp.set_set]
      have m1 := mlt v'
      simp -zeta (disch := omega) only [GL, RL, an v' hv']
      generalize v' % md = x at m1 ⊢
      intro J11
      have p11 : ∀ y : Nat, y < l → J11 (.int .i64 (y : Int)) (hpD enc (h.set r (xoO v')) b cap f d') := by
        intro y hy
        simp only [J11]
        clear J11
        have q1 : IntKind.i64.wrap ((a : Int) + (y : Int)) = ((a + y : Nat) : Int) := by rw [wi64 (by omega) (by omega)]; omega
        have q2 : IntKind.i64.wrap ((i : Int) + 1) = ((i + 1 : Nat) : Int) := by rw [wi64 (by omega) (by omega)]; omega
        have cD : (hpD enc (h.set r (xoO v')) b cap f d').cell ⟨b, i, none⟩ = some (enc d'[i]!) := by rw [cell_row hpD_at]; exact getD_enc (by omega)
        simp (disch := omega) only [GL, q1, q2, ixD, ldD, cD]
        refine aw_swp (i := i) (j := a + y) (E.alloc (xoO v') hr) hd' (by omega) (by omega) ?_
        exact ⟨_, .refl _, m - 1, by omega, i + 1, v', _, by omega, by omega, hv', Go.Sort.permIn_trans _ _ _ _ _ hp (Go.Sort.swp_permIn d' a c i (a + y) (by omega) (by omega) (by omega) (by omega) (by omega)), swp_sz hd', rfl, rfl⟩
      clear_value J11
      have q3 : IntKind.i64.wrap (x : Int) = (x : Int) := wi64 (by omega) (by omega)
      simp only [q3, GL]
      by_cases hxl : l ≤ x
      · rw [if_pos (by simp; omega)]
        have q4 : IntKind.i64.wrap ((x : Int) - (l : Int)) = ((x - l : Nat) : Int) := by rw [wi64 (by omega) (by omega)]; omega
        simp only [q4, GL]
        exact p11 (x - l) (by omega)
      · rw [if_neg (by simp; omega)]
        exact p11 x (by omega)
    · rw [if_neg (by simp; omega)]
      refine ⟨hpD enc h b cap f d', ?_, k d' hp hd'⟩
      rw [← hpD_set r _ hrb]; exact le_fresh (by rw [hpD_get r hrb]; exact hr)
  · rw [if_neg (by simp; omega)]
    exact ⟨_, .refl _, k d (Go.Sort.permIn_refl d a c) hd⟩
end
end Go.Proofs.Ytbglokdjlbknaaa
set_option linter.unusedSimpArgs false
set_option linter.unusedVariables false
set_option maxRecDepth 100000
set_option maxHeartbeats 4000000
namespace Go.Proofs.Ytbglokdjlbknaaa
open Go Go.SL
section
variable {α : Type} [Inhabited α] {enc : α → Value} {lt : α → α → Bool} {h : Hp} {b cap n cv : Nat} {f : Nat × Nat} {fn : Value} {K : Value → Hp → Prop} {d : Array α}
theorem T_partitionEqual (E : SE enc lt h b cap n f fn) (hd : d.size = n) {a c p : Nat} (hap : a ≤ p) (hpc : p < c) (hc : c ≤ n)
    (k : K (.int .i64 (((Go.Sort.partitionEqual lt d a c p).1 : Nat) : Int)) (hpD enc h b cap f (Go.Sort.partitionEqual lt d a c p).2)) :
    Cn P n_slices_partitionEqualCmpFunc_cache_item #[.slice (some ⟨b, 0, none⟩) n cv, .int .i64 (a : Int), .int .i64 (c : Int), .int .i64 (p : Int), fn] (hpD enc h b cap f d) K := by
  refine F_slices_partitionEqualCmpFunc_cache_item ?_
  unfold s_slices_partitionEqualCmpFunc_cache_item
  have nb := E.nb
  have inc : ∀ {i : Nat}, i ≤ n → IntKind.i64.wrap ((i : Int) + 1) = ((i + 1 : Nat) : Int) := fun {i} hi => by rw [wi64 (by omega) (by omega)]; omega
  have dcr : ∀ {j : Nat}, 1 ≤ j → j ≤ n → IntKind.i64.wrap ((j : Int) - 1) = ((j - 1 : Nat) : Int) := fun {j} h1 hi => by rw [wi64 (by omega) (by omega)]; omega
  simp -zeta (disch := omega) only [GL, ixD, ldD, inc, dcr]
  refine aw_swp (i := a) (j := p) E hd (by omega) (by omega) ?_
  unfold Go.Sort.partitionEqual at k
  refine Lp_mk (fun m vs h' => ∃ (i j : Nat) (d' : Array α), m = j + 1 - i ∧ a < i ∧ i ≤ j + 1 ∧ j < c ∧ d'.size = n ∧ Go.Sort.partEqLoop lt a i j d' = Go.Sort.partEqLoop lt a (a + 1) (c - 1) (Go.Sort.swp d a p) ∧ vs = [.int .i64 (i : Int), .int .i64 (j : Int)] ∧ h' = hpD enc h b cap f d') (c - 1 + 1 - (a + 1))
    ⟨a + 1, c - 1, _, rfl, by omega, by omega, by omega, swp_sz hd, rfl, rfl, rfl⟩ ?_
  rintro m vs h' ⟨i, j, d', hm, hai, hij, hjc, hd', ht, rfl, rfl⟩
  rw [Go.Sort.partEqLoop_eq] at ht
  have up := Go.Sort.scanUp_spec (fun x => !lt d'[a]! x) d' j _ i rfl
  obtain ⟨i2, hi2⟩ : ∃ i2, Go.Sort.scanUp (fun x => !lt d'[a]! x) d' j i = i2 := ⟨_, rfl⟩
  rw [hi2] at ht up
  have dn := Go.Sort.scanDown_spec (fun x => lt d'[a]! x) d' i2 j
  obtain ⟨j2, hj2⟩ : ∃ j2, Go.Sort.scanDown (fun x => lt d'[a]! x) d' i2 j = j2 := ⟨_, rfl⟩
  rw [hj2] at ht dn
  have u1 := up.1
  have u2 := up.2.1 hij
  have w1 := dn.1
  have w2 := dn.2.1 u2
  have ne : i2 ≠ j2 := fun e => by
    have x1 := up.2.2.2 (by omega)
    have x2 := dn.2.2.2 (by omega) (by omega)
    rw [← e] at x2
    simp [x2] at x1
  clear up dn
  intro J6
  have p6 : J6 (.int .i64 (i2 : Int)) (hpD enc h b cap f d') := by
    simp -zeta only [J6]
    clear J6
    intro J10
    have p10 : J10 (.int .i64 (j2 : Int)) (hpD enc h b cap f d') := by
      simp -zeta only [J10]
      clear J10
      simp -zeta (disch := omega) only [GL]
      by_cases hgt : j2 < i2
      · rw [if_pos (by simp; omega)]
        rw [if_pos (by omega)] at ht
        rw [← ht] at k
        exact k
      · rw [if_neg (by simp; omega)]
        rw [if_neg (by omega)] at ht
        simp -zeta (disch := omega) only [GL, ixD, ldD, inc, dcr]
        exact aw_swp (i := i2) (j := j2) E hd' (by omega) (by omega) ⟨_, .refl _, j2 - 1 + 1 - (i2 + 1), by omega, i2 + 1, j2 - 1, _, rfl, by omega, by omega, by omega, swp_sz hd', ht, rfl, rfl⟩
    clear_value J10
    refine Lp_mk (fun m vs h' => ∃ (y : Nat), m = y ∧ y ≤ j ∧ Go.Sort.scanDown (fun x => lt d'[a]! x) d' i2 y = j2 ∧ vs = [.int .i64 (y : Int)] ∧ h' = hpD enc h b cap f d') j
      ⟨j, rfl, Nat.le_refl _, hj2, rfl, rfl⟩ ?_
    rintro m vs h' ⟨y, hm, hyj, hy, rfl, rfl⟩
    simp -zeta (disch := omega) only [GL]
    by_cases hle : i2 ≤ y
    · obtain ⟨y, rfl⟩ : ∃ y', y = y' + 1 := ⟨y - 1, by omega⟩
      rw [if_pos (by simp; omega)]
      simp -zeta (disch := omega) only [GL, ixD, ldD]
      refine E.cmpD fun r hr => ?_
      simp -zeta only [GL, hr]
      rw [Go.Sort.scanDown] at hy
      by_cases hl : lt d'[a]! d'[y + 1]! = true
      · rw [if_pos (by simp [hl]; omega)] at hy
        simp -zeta (disch := omega) only [hl, if_true, dcr]
        exact ⟨_, .refl _, y, by omega, y, rfl, by omega, hy, rfl, rfl⟩
      · rw [if_neg (by simp [hl])] at hy
        simp -zeta only [hl, if_false]
        rw [hy]; exact p10
    · rw [if_neg (by simp; omega)]
      have hy2 : y = j2 := by
        rw [← hy]
        cases y with
        | zero => rfl
        | succ y => rw [Go.Sort.scanDown, if_neg (by simp; omega)]
      simp -zeta only [Bool.false_eq_true, if_false]
      rw [hy2]; exact p10
  clear_value J6
  refine Lp_mk (fun m vs h' => ∃ (y : Nat), m = j + 1 - y ∧ i ≤ y ∧ y ≤ j + 1 ∧ Go.Sort.scanUp (fun x => !lt d'[a]! x) d' j y = i2 ∧ vs = [.int .i64 (y : Int)] ∧ h' = hpD enc h b cap f d') (j + 1 - i)
    ⟨i, rfl, Nat.le_refl _, hij, hi2, rfl, rfl⟩ ?_
  rintro m vs h' ⟨y, hm, hiy, hyj, hy, rfl, rfl⟩
  simp -zeta (disch := omega) only [GL]
  rw [Go.Sort.scanUp] at hy
  by_cases hle : y ≤ j
  · rw [if_pos (by simp; omega)]
    simp -zeta (disch := omega) only [GL, ixD, ldD]
    refine E.cmpD fun r hr => ?_
    simp -zeta only [GL, hr]
    by_cases hl : lt d'[a]! d'[y]! = true
    · rw [if_neg (by simp [hl])] at hy
      simp -zeta only [hl, Bool.not_true, Bool.false_eq_true, if_false]
      rw [hy]; exact p6
    · rw [if_pos (by simp [hl]; omega)] at hy
      simp -zeta (disch := omega) only [hl, Bool.not_false, if_true, inc]
      exact ⟨_, .refl _, j + 1 - (y + 1), by omega, y + 1, rfl, by omega, by omega, hy, rfl, rfl⟩
  · rw [if_neg (by simp; omega)]
    rw [if_neg (by simp; omega)] at hy
    simp -zeta only [Bool.false_eq_true, if_false]
    rw [hy]; exact p6
end
end Go.Proofs.Ytbglokdjlbknaaa
set_option linter.unusedSimpArgs false
set_option linter.unusedVariables false
set_option maxRecDepth 100000
set_option maxHeartbeats 4000000
namespace Go.Proofs.Ytbglokdjlbknaaa
open Go Go.SL
section
variable {α : Type} [Inhabited α] {enc : α → Value} {lt : α → α → Bool} {h : Hp} {b cap n cv : Nat} {f : Nat × Nat} {fn : Value} {K : Value → Hp → Prop} {d : Array α}
theorem up_walk (E : SE enc lt h b cap n f fn) (hd : d.size = n) {a i j i2 : Nat} (ha : a < n) (hj : j < n) (hij : i ≤ j + 1) (hi2 : Go.Sort.scanUp (fun x => lt x d[a]!) d j i = i2) {X : Value → Hp → Prop} (k : X (.int .i64 (i2 : Int)) (hpD enc h b cap f d)) :
    Lp [.int .i64 (i : Int)] (hpD enc h b cap f d) fun nx5 vs5 h =>
      q P emp (binOp .leq 3 (vs5.getD 0 undef) (.int .i64 (j : Int))) fun t34 => gd t34 true (q P emp (Instr.indexAt t_Sl_Pt_cache_item (.slice (some ⟨b, 0, none⟩) n cv) (vs5.getD 0 undef)) fun t39 => q P h (Instr.loadAt t_Pt_cache_item t39) fun t40 => q P h (Instr.loadAt t_Pt_cache_item (.pointer (some ⟨b, a, none⟩))) fun t44 => callP P fn [t40, t44] h fun t45 h => q P emp (binOp .lss 3 t45 (Value.int .i64 0)) fun t46 => cnd t46 (q P h (binOp .add 3 (vs5.getD 0 undef) (Value.int .i64 1)) fun t49 => nx5 [t49] h) (X (vs5.getD 0 undef) h)) (if false = true then (q P h (binOp .add 3 (vs5.getD 0 undef) (Value.int .i64 1)) fun t49 => nx5 [t49] h) else (X (vs5.getD 0 undef) h)) := by
  have nb := E.nb
  have inc : ∀ {i : Nat}, i ≤ n → IntKind.i64.wrap ((i : Int) + 1) = ((i + 1 : Nat) : Int) := fun {i} hi => by rw [wi64 (by omega) (by omega)]; omega
  refine Lp_mk (fun m vs h' => ∃ (y : Nat), m = j + 1 - y ∧ y ≤ j + 1 ∧ Go.Sort.scanUp (fun x => lt x d[a]!) d j y = i2 ∧ vs = [.int .i64 (y : Int)] ∧ h' = hpD enc h b cap f d) (j + 1 - i)
    ⟨i, rfl, hij, hi2, rfl, rfl⟩ ?_
  rintro m vs h' ⟨y, hm, hyj, hy, rfl, rfl⟩
  simp -zeta (disch := omega) only [GL]
  rw [Go.Sort.scanUp] at hy
  by_cases hle : y ≤ j
  · rw [if_pos (by simp; omega)]
    simp -zeta (disch := omega) only [GL, ixD, ldD]
    refine E.cmpD fun r hr => ?_
    simp -zeta only [GL, hr]
    by_cases hl : lt d[y]! d[a]! = true
    · rw [if_pos (by simp [hl]; omega)] at hy
      simp -zeta (disch := omega) only [hl, if_true, inc]
      exact ⟨_, .refl _, j + 1 - (y + 1), by omega, y + 1, rfl, by omega, hy, rfl, rfl⟩
    · rw [if_neg (by simp [hl])] at hy
      simp -zeta only [hl, if_false]
      rw [hy]; exact k
  · rw [if_neg (by simp; omega)]
    rw [if_neg (by simp; omega)] at hy
    simp -zeta only [Bool.false_eq_true, if_false]
    rw [hy]; exact k
theorem down_walk (E : SE enc lt h b cap n f fn) (hd : d.size = n) {a i j j2 : Nat} (ha : a < n) (hj : j < n) (hi1 : 1 ≤ i) (hj2 : Go.Sort.scanDown (fun x => !lt x d[a]!) d i j = j2) {X : Value → Hp → Prop} (k : X (.int .i64 (j2 : Int)) (hpD enc h b cap f d)) :
    Lp [.int .i64 (j : Int)] (hpD enc h b cap f d) fun nx9 vs9 h =>
      q P emp (binOp .leq 3 (.int .i64 (i : Int)) (vs9.getD 0 undef)) fun t52 => gd t52 true (q P emp (Instr.indexAt t_Sl_Pt_cache_item (.slice (some ⟨b, 0, none⟩) n cv) (vs9.getD 0 undef)) fun t57 => q P h (Instr.loadAt t_Pt_cache_item t57) fun t58 => q P h (Instr.loadAt t_Pt_cache_item (.pointer (some ⟨b, a, none⟩))) fun t62 => callP P fn [t58, t62] h fun t63 h => q P emp (binOp .lss 3 t63 (Value.int .i64 0)) fun t64 => q P emp (Op.unary .not t64) fun t65 => cnd t65 (q P h (binOp .sub 3 (vs9.getD 0 undef) (Value.int .i64 1)) fun t68 => nx9 [t68] h) (X (vs9.getD 0 undef) h)) (if false = true then (q P h (binOp .sub 3 (vs9.getD 0 undef) (Value.int .i64 1)) fun t68 => nx9 [t68] h) else (X (vs9.getD 0 undef) h)) := by
  have nb := E.nb
  have dcr : ∀ {j : Nat}, 1 ≤ j → j ≤ n → IntKind.i64.wrap ((j : Int) - 1) = ((j - 1 : Nat) : Int) := fun {j} h1 hi => by rw [wi64 (by omega) (by omega)]; omega
  refine Lp_mk (fun m vs h' => ∃ (y : Nat), m = y ∧ y ≤ j ∧ Go.Sort.scanDown (fun x => !lt x d[a]!) d i y = j2 ∧ vs = [.int .i64 (y : Int)] ∧ h' = hpD enc h b cap f d) j
    ⟨j, rfl, Nat.le_refl _, hj2, rfl, rfl⟩ ?_
  rintro m vs h' ⟨y, hm, hyj, hy, rfl, rfl⟩
  simp -zeta (disch := omega) only [GL]
  by_cases hle : i ≤ y
  · obtain ⟨y, rfl⟩ : ∃ y', y = y' + 1 := ⟨y - 1, by omega⟩
    rw [if_pos (by simp; omega)]
    simp -zeta (disch := omega) only [GL, ixD, ldD]
    refine E.cmpD fun r hr => ?_
    simp -zeta only [GL, hr]
    rw [Go.Sort.scanDown] at hy
    by_cases hl : lt d[y + 1]! d[a]! = true
    · rw [if_neg (by simp [hl])] at hy
      simp -zeta only [hl, Bool.not_true, Bool.false_eq_true, if_false]
      rw [hy]; exact k
    · rw [if_pos (by simp [hl]; omega)] at hy
      simp -zeta (disch := omega) only [hl, Bool.not_false, if_true, dcr]
      exact ⟨_, .refl _, y, by omega, y, rfl, by omega, hy, rfl, rfl⟩
  · rw [if_neg (by simp; omega)]
    have hy2 : y = j2 := by
      rw [← hy]
      cases y with
      | zero => rfl
      | succ y => rw [Go.Sort.scanDown, if_neg (by simp; omega)]
    simp -zeta only [Bool.false_eq_true, if_false]
    rw [hy2]; exact k
/-- What a round's scans come to. -/
theorem scan_facts {a c i j i2 j2 : Nat} (hai : a < i) (hij : i ≤ j + 1) (hi2 : Go.Sort.scanUp (fun x => lt x d[a]!) d j i = i2) (hj2 : Go.Sort.scanDown (fun x => !lt x d[a]!) d i2 j = j2) :
    i ≤ i2 ∧ i2 ≤ j + 1 ∧ j2 ≤ j ∧ i2 ≤ j2 + 1 ∧ i2 ≠ j2 := by
  have up := Go.Sort.scanUp_spec (fun x => lt x d[a]!) d j _ i rfl
  rw [hi2] at up
  have dn := Go.Sort.scanDown_spec (fun x => !lt x d[a]!) d i2 j
  rw [hj2] at dn
  refine ⟨up.1, up.2.1 hij, dn.1, dn.2.1 (up.2.1 hij), fun e => ?_⟩
  have u1 := up.1
  have x0 := dn.1
  have x1 := up.2.2.2 (by omega)
  have x2 := dn.2.2.2 (by omega) (by omega)
  rw [← e] at x2
  simp [x1] at x2
theorem T_partition (E : SE enc lt h b cap n f fn) (hd : d.size = n) {a c p : Nat} (hap : a ≤ p) (hpc : p < c) (hc : c ≤ n)
    (k : ∀ ap : Bool, K (.tuple #[.int .i64 (((Go.Sort.partition lt d a c p).1 : Nat) : Int), .bool ap]) (hpD enc h b cap f (Go.Sort.partition lt d a c p).2.2)) :
    Cn P n_slices_partitionCmpFunc_cache_item #[.slice (some ⟨b, 0, none⟩) n cv, .int .i64 (a : Int), .int .i64 (c : Int), .int .i64 (p : Int), fn] (hpD enc h b cap f d) K := by
  refine F_slices_partitionCmpFunc_cache_item ?_
  unfold s_slices_partitionCmpFunc_cache_item
  have nb := E.nb
  have inc : ∀ {i : Nat}, i ≤ n → IntKind.i64.wrap ((i : Int) + 1) = ((i + 1 : Nat) : Int) := fun {i} hi => by rw [wi64 (by omega) (by omega)]; omega
  have dcr : ∀ {j : Nat}, 1 ≤ j → j ≤ n → IntKind.i64.wrap ((j : Int) - 1) = ((j - 1 : Nat) : Int) := fun {j} h1 hi => by rw [wi64 (by omega) (by omega)]; omega
  simp -zeta (maxSteps := 3000000) (disch := omega) only [GL, ixD, ldD, inc, dcr]
  refine aw_swp (i := a) (j := p) E hd (by omega) (by omega) ?_
  rw [Go.Sort.partition_fst, Go.Sort.partition_arr] at k
  obtain ⟨d0, hd0⟩ : ∃ d0, Go.Sort.swp d a p = d0 := ⟨_, rfl⟩
  have sz0 : d0.size = n := by rw [← hd0]; exact swp_sz hd
  rw [hd0] at k ⊢
  clear hd0
  obtain ⟨i2, hi2⟩ : ∃ i2, Go.Sort.scanUp (fun x => lt x d0[a]!) d0 (c - 1) (a + 1) = i2 := ⟨_, rfl⟩
  obtain ⟨j2, hj2⟩ : ∃ j2, Go.Sort.scanDown (fun x => !lt x d0[a]!) d0 i2 (c - 1) = j2 := ⟨_, rfl⟩
  obtain ⟨f1, f2, f3, f4, f5⟩ := scan_facts (c := c) (by omega) (by omega) hi2 hj2
  intro J4
  have p4 : J4 (.int .i64 (i2 : Int)) (hpD enc h b cap f d0) := by
    simp -zeta only [J4]
    clear J4
    intro J8
    have p8 : J8 (.int .i64 (j2 : Int)) (hpD enc h b cap f d0) := by
      simp -zeta only [J8]
      clear J8
      rw [Go.Sort.partLoop_eq, hi2, hj2] at k
      simp -zeta (maxSteps := 3000000) (disch := omega) only [GL]
      by_cases hgt : j2 < i2
      · rw [if_pos (by simp; omega)]
        rw [if_pos (by omega)] at k
        simp -zeta (disch := omega) only [GL, ixD, ldD]
        exact aw_swp (i := j2) (j := a) E sz0 (by omega) (by omega) (k true)
      · rw [if_neg (by simp; omega)]
        rw [if_neg (by omega)] at k
        simp -zeta (maxSteps := 3000000) (disch := omega) only [GL, ixD, ldD, inc, dcr]
        refine aw_swp (i := i2) (j := j2) E sz0 (by omega) (by omega) ?_
        refine Lp_mk (fun m vs h' => ∃ (i j : Nat) (d' : Array α), m = j + 1 - i ∧ a < i ∧ i ≤ j + 1 ∧ j < c ∧ d'.size = n ∧ Go.Sort.partLoop lt a i j d' = Go.Sort.partLoop lt a (i2 + 1) (j2 - 1) (Go.Sort.swp d0 i2 j2) ∧ vs = [.int .i64 (i : Int), .int .i64 (j : Int)] ∧ h' = hpD enc h b cap f d') (j2 - 1 + 1 - (i2 + 1))
          ⟨i2 + 1, j2 - 1, _, rfl, by omega, by omega, by omega, swp_sz sz0, rfl, rfl, rfl⟩ ?_
        rintro m vs h' ⟨i, j, d', hm, hai, hij, hjc, hd', ht, rfl, rfl⟩
        clear hi2 hj2 f1 f2 f3 f4 f5 hgt
        rw [Go.Sort.partLoop_eq] at ht
        obtain ⟨i3, hi3⟩ : ∃ i3, Go.Sort.scanUp (fun x => lt x d'[a]!) d' j i = i3 := ⟨_, rfl⟩
        obtain ⟨j3, hj3⟩ : ∃ j3, Go.Sort.scanDown (fun x => !lt x d'[a]!) d' i3 j = j3 := ⟨_, rfl⟩
        obtain ⟨f1, f2, f3, f4, f5⟩ := scan_facts (c := c) hai hij hi3 hj3
        rw [hi3, hj3] at ht
        intro J21
        have p21 : J21 (.int .i64 (i3 : Int)) (hpD enc h b cap f d') := by
          simp -zeta only [J21]
          clear J21
          intro J25
          have p25 : J25 (.int .i64 (j3 : Int)) (hpD enc h b cap f d') := by
            simp -zeta only [J25]
            clear J25
            simp -zeta (maxSteps := 3000000) (disch := omega) only [GL]
            by_cases hgt : j3 < i3
            · rw [if_pos (by simp; omega)]
              rw [if_pos (by omega)] at ht
              rw [← ht] at k
              simp -zeta (disch := omega) only [GL, ixD, ldD]
              exact aw_swp (i := j3) (j := a) E hd' (by omega) (by omega) (k false)
            · rw [if_neg (by simp; omega)]
              rw [if_neg (by omega)] at ht
              simp -zeta (maxSteps := 3000000) (disch := omega) only [GL, ixD, ldD, inc, dcr]
              exact aw_swp (i := i3) (j := j3) E hd' (by omega) (by omega) ⟨_, .refl _, j3 - 1 + 1 - (i3 + 1), by omega, i3 + 1, j3 - 1, _, rfl, by omega, by omega, by omega, swp_sz hd', ht, rfl, rfl⟩
          clear_value J25
          exact down_walk E hd' (by omega) (by omega) (by omega) hj3 p25
        clear_value J21
        exact up_walk E hd' (by omega) (by omega) (by omega) hi3 p21
    clear_value J8
    exact down_walk E sz0 (by omega) (by omega) (by omega) hj2 p8
  clear_value J4
  exact up_walk E sz0 (by omega) (by omega) (by omega) hi2 p4
end
end Go.Proofs.Ytbglokdjlbknaaa
set_option linter.unusedSimpArgs false
set_option linter.unusedVariables false
set_option maxRecDepth 100000
set_option maxHeartbeats 4000000
namespace Go.Proofs.Ytbglokdjlbknaaa
open Go Go.SL
section
variable {α : Type} [Inhabited α] {enc : α → Value} {lt : α → α → Bool} {h : Hp} {b cap n cv : Nat} {f : Nat × Nat} {fn : Value} {K : Value → Hp → Prop} {d : Array α}
theorem T_partialInsertionSort (E : SE enc lt h b cap n f fn) (hd : d.size = n) {a c : Nat} (hac : a < c) (hc : c ≤ n)
    (k : K (.bool (Go.Sort.partialInsertionSort lt d a c).2) (hpD enc h b cap f (Go.Sort.partialInsertionSort lt d a c).1)) :
    Cn P n_slices_partialInsertionSortCmpFunc_cache_item #[.slice (some ⟨b, 0, none⟩) n cv, .int .i64 (a : Int), .int .i64 (c : Int), fn] (hpD enc h b cap f d) K := by
  refine F_slices_partialInsertionSortCmpFunc_cache_item ?_
  unfold s_slices_partialInsertionSortCmpFunc_cache_item
  have nb := E.nb
  have inc : ∀ {i : Nat}, i ≤ n → IntKind.i64.wrap ((i : Int) + 1) = ((i + 1 : Nat) : Int) := fun {i} hi => by rw [wi64 (by omega) (by omega)]; omega
  have dcr : ∀ {j : Nat}, 1 ≤ j → j ≤ n → IntKind.i64.wrap ((j : Int) - 1) = ((j - 1 : Nat) : Int) := fun {j} h1 hi => by rw [wi64 (by omega) (by omega)]; omega
  have sbt : ∀ {x y : Nat}, y ≤ x → x ≤ n → IntKind.i64.wrap ((x : Int) - (y : Int)) = ((x - y : Nat) : Int) := fun {x y} h1 hi => by rw [wi64 (by omega) (by omega)]; omega
  simp -zeta (maxSteps := 3000000) (disch := omega) only [GL, inc]
  unfold Go.Sort.partialInsertionSort at k
  refine Lp_mk (fun m vs h' => ∃ (s i : Nat) (d' : Array α), m = s ∧ s ≤ 5 ∧ a < i ∧ i ≤ c ∧ d'.size = n ∧ Go.Sort.partialIns lt a c s i d' = Go.Sort.partialIns lt a c 5 (a + 1) d ∧ vs = [.int .i64 (i : Int), .bool false, .int .i64 ((5 - s : Nat) : Int)] ∧ h' = hpD enc h b cap f d') 5
    ⟨5, a + 1, d, rfl, Nat.le_refl _, by omega, by omega, hd, rfl, rfl, rfl⟩ ?_
  rintro m vs h' ⟨s, i, d', hm, hs, hai, hic, hd', ht, rfl, rfl⟩
  simp -zeta (maxSteps := 3000000) (disch := omega) only [GL]
  cases s with
  | zero =>
    rw [if_neg (by simp)]
    rw [Go.Sort.partialIns] at ht
    rw [← ht] at k
    exact k
  | succ s =>
    rw [if_pos (by simp; omega)]
    rw [Go.Sort.partialIns] at ht
    obtain ⟨i2, hi2⟩ : ∃ i2, Go.Sort.scanSorted lt d' c i = i2 := ⟨_, rfl⟩
    simp only [hi2] at ht
    intro J9
    have p9 : a < i2 → i2 ≤ c → J9 (.int .i64 (i2 : Int)) (hpD enc h b cap f d') := by
      intro l1 l2
      simp -zeta only [J9]
      clear J9
      simp -zeta (maxSteps := 3000000) (disch := omega) only [GL]
      by_cases h1 : i2 = c
      · rw [if_pos (by simp [h1])]
        rw [if_pos h1] at ht
        rw [← ht] at k
        exact k
      · rw [if_neg (by simp; omega)]
        rw [if_neg h1] at ht
        simp -zeta (maxSteps := 3000000) (disch := omega) only [GL, sbt]
        by_cases h2 : c - a < 50
        · rw [if_pos (by simp; omega)]
          rw [if_pos h2] at ht
          rw [← ht] at k
          exact k
        · rw [if_neg (by simp; omega)]
          rw [if_neg h2] at ht
          simp -zeta (maxSteps := 3000000) (disch := omega) only [GL, ixD, ldD, inc, dcr, sbt]
          refine aw_swp (i := i2) (j := i2 - 1) E hd' (by omega) (by omega) ?_
          have sz1 : (Go.Sort.swp d' i2 (i2 - 1)).size = n := swp_sz hd'
          generalize Go.Sort.swp d' i2 (i2 - 1) = d1 at ht sz1 ⊢
          have nxt : ∀ d3 : Array α, d3.size = n → Go.Sort.partialIns lt a c s i2 d3 = Go.Sort.partialIns lt a c 5 (a + 1) d → ∃ h0, Hp.le h0 (hpD enc h b cap f d3) ∧ ∃ m_1, m_1 < m ∧ ∃ (s_1 i : Nat) (d' : Array α), m_1 = s_1 ∧ s_1 ≤ 5 ∧ a < i ∧ i ≤ c ∧ d'.size = n ∧ Go.Sort.partialIns lt a c s_1 i d' = Go.Sort.partialIns lt a c 5 (a + 1) d ∧ [Value.int .i64 (i2 : Int), .bool false, .int .i64 ((5 - (s + 1) + 1 : Nat) : Int)] = [.int .i64 (i : Int), .bool false, .int .i64 ((5 - s_1 : Nat) : Int)] ∧ h0 = hpD enc h b cap f d' :=
            fun d3 hz he => ⟨_, .refl _, s, by omega, s, i2, d3, rfl, by omega, l1, l2, hz, he, by rw [show 5 - (s + 1) + 1 = 5 - s by omega], rfl⟩
          intro J20
          have p20 : ∀ d2 : Array α, d2.size = n → Go.Sort.partialIns lt a c s i2 (if c - i2 ≥ 2 then Go.Sort.shiftUp lt c (i2 + 1) d2 else d2) = Go.Sort.partialIns lt a c 5 (a + 1) d → J20 (hpD enc h b cap f d2) := by
            intro d2 hz he
            simp -zeta only [J20]
            clear J20
            by_cases g : c - i2 ≥ 2
            · rw [if_pos (by simp; omega)]
              rw [if_pos g] at he
              refine Lp_mk (fun m vs h' => ∃ (y : Nat) (d2 : Array α), m = c - y ∧ i2 < y ∧ y ≤ c ∧ d2.size = n ∧ Go.Sort.partialIns lt a c s i2 (Go.Sort.shiftUp lt c y d2) = Go.Sort.partialIns lt a c 5 (a + 1) d ∧ vs = [.int .i64 (y : Int)] ∧ h' = hpD enc h b cap f d2) (c - (i2 + 1))
                ⟨i2 + 1, d2, rfl, by omega, by omega, hz, he, rfl, rfl⟩ ?_
              clear he hz d2
              rintro m2 vs h' ⟨y, d2, hm2, hiy, hyc, hz, he, rfl, rfl⟩
              rw [Go.Sort.shiftUp] at he
              simp -zeta (disch := omega) only [GL, lt_dec]
              by_cases hyl : y < c
              · rw [if_pos hyl] at he
                simp -zeta (disch := omega) only [hyl, decide_true, if_true, GL, ixD, ldD, dcr]
                refine E.cmpD fun r hr => ?_
                simp -zeta only [GL, hr]
                by_cases hl : lt d2[y]! d2[y - 1]! = true
                · rw [if_neg (by simp [hl])] at he
                  simp -zeta (disch := omega) only [hl, Bool.not_true, Bool.false_eq_true, if_false, ldD, inc]
                  exact aw_swp (i := y) (j := y - 1) E hz (by omega) (by omega) ⟨_, .refl _, c - (y + 1), by omega, y + 1, _, rfl, by omega, by omega, swp_sz hz, he, rfl, rfl⟩
                · rw [if_pos (by simp [hl])] at he
                  simp -zeta only [hl, Bool.not_false, if_true]
                  exact nxt d2 hz he
              · rw [if_neg hyl] at he
                simp -zeta only [hyl, decide_false, Bool.false_eq_true, if_false]
                exact nxt d2 hz he
            · rw [if_neg (by simp; omega)]
              rw [if_neg g] at he
              exact nxt d2 hz he
          clear_value J20
          by_cases g : i2 - a ≥ 2
          · rw [if_pos (by simp; omega)]
            rw [if_pos g] at ht
            refine Lp_mk (fun m vs h' => ∃ (y : Nat) (d2 : Array α), m = y ∧ y < n ∧ d2.size = n ∧ Go.Sort.partialIns lt a c s i2 (if c - i2 ≥ 2 then Go.Sort.shiftUp lt c (i2 + 1) (Go.Sort.shiftDown lt y d2) else Go.Sort.shiftDown lt y d2) = Go.Sort.partialIns lt a c 5 (a + 1) d ∧ vs = [.int .i64 (y : Int)] ∧ h' = hpD enc h b cap f d2) (i2 - 1)
              ⟨i2 - 1, d1, rfl, by omega, sz1, ht, rfl, rfl⟩ ?_
            clear ht sz1 d1
            rintro m2 vs h' ⟨y, d2, hm2, hyn, hz, he, rfl, rfl⟩
            simp -zeta (disch := omega) only [GL]
            cases y with
            | zero =>
              rw [if_neg (by simp)]
              exact p20 d2 hz he
            | succ y =>
              rw [if_pos (by simp; omega)]
              have e1 : IntKind.i64.wrap (((y + 1 : Nat) : Int) - 1) = (y : Int) := by rw [wi64 (by omega) (by omega)]; omega
              simp -zeta (disch := omega) only [GL, ixD, ldD, e1]
              refine E.cmpD fun r hr => ?_
              simp -zeta only [GL, hr]
              by_cases hl : lt d2[y + 1]! d2[y]! = true
              · rw [show Go.Sort.shiftDown lt (y + 1) d2 = Go.Sort.shiftDown lt y (Go.Sort.swp d2 (y + 1) y) by rw [Go.Sort.shiftDown, if_neg (by simp [hl])]] at he
                simp -zeta (disch := omega) only [hl, Bool.not_true, Bool.false_eq_true, if_false, ldD]
                exact aw_swp (i := y + 1) (j := y) E hz (by omega) (by omega) ⟨_, .refl _, y, by omega, y, _, rfl, by omega, swp_sz hz, he, rfl, rfl⟩
              · rw [show Go.Sort.shiftDown lt (y + 1) d2 = d2 by rw [Go.Sort.shiftDown, if_pos (by simp [hl])]] at he
                simp -zeta only [hl, Bool.not_false, if_true]
                exact p20 d2 hz he
          · rw [if_neg (by simp; omega)]
            rw [if_neg g] at ht
            exact p20 d1 sz1 ht
    clear_value J9
    refine Lp_mk (fun m vs h' => ∃ (y : Nat), m = c - y ∧ a < y ∧ y ≤ c ∧ Go.Sort.scanSorted lt d' c y = i2 ∧ vs = [.int .i64 (y : Int)] ∧ h' = hpD enc h b cap f d') (c - i)
      ⟨i, rfl, hai, hic, hi2, rfl, rfl⟩ ?_
    rintro m2 vs h' ⟨y, hm2, hay, hyc, hy, rfl, rfl⟩
    rw [Go.Sort.scanSorted] at hy
    simp -zeta (disch := omega) only [GL, lt_dec]
    by_cases hyl : y < c
    · simp -zeta (disch := omega) only [hyl, decide_true, if_true, GL, ixD, ldD, dcr]
      refine E.cmpD fun r hr => ?_
      simp -zeta only [GL, hr]
      by_cases hl : lt d'[y]! d'[y - 1]! = true
      · rw [if_neg (by simp [hl])] at hy
        simp -zeta only [hl, Bool.not_true, Bool.false_eq_true, if_false]
        subst hy
        exact p9 hay hyc
      · rw [if_pos (by simp [hl]; omega)] at hy
        simp -zeta (disch := omega) only [hl, Bool.not_false, if_true, inc]
        exact ⟨_, .refl _, c - (y + 1), by omega, y + 1, rfl, by omega, by omega, hy, rfl, rfl⟩
    · rw [if_neg (by simp; omega)] at hy
      simp -zeta only [hyl, decide_false, Bool.false_eq_true, if_false]
      subst hy
      exact p9 hay hyc
end
end Go.Proofs.Ytbglokdjlbknaaa
set_option linter.unusedSimpArgs false
set_option linter.unusedVariables false
set_option maxRecDepth 100000
set_option maxHeartbeats 4000000
namespace Go.Proofs.Ytbglokdjlbknaaa
open Go Go.SL
section
variable {α : Type} [Inhabited α] {enc : α → Value} {lt : α → α → Bool} {h : Hp} {b cap n cv : Nat} {f : Nat × Nat} {fn : Value}
/-- What is to come behind a part's sort. -/
def Srt (enc : α → Value) (lt : α → α → Bool) (h : Hp) (b cap n : Nat) (f : Nat × Nat) (a c : Nat) (d : Array α) (K : Value → Hp → Prop) : Prop :=
  ∀ d', Go.Sort.PermIn a c d d' → Go.Sort.SortedIn lt a c d' → d'.size = n → K (.tuple #[]) (hpD enc h b cap f d')
theorem Srt.pre {a c : Nat} {d d' : Array α} {K : Value → Hp → Prop} (k : Srt enc lt h b cap n f a c d K) (p : Go.Sort.PermIn a c d d') : Srt enc lt h b cap n f a c d' K :=
  fun d2 p2 s2 z2 => k d2 (Go.Sort.permIn_trans _ _ _ _ _ p p2) s2 z2
theorem T_pdqsort (hS : Go.Sort.SWO lt) (E : SE enc lt h b cap n f fn) : ∀ (N : Nat) {a c limit : Nat} {d : Array α} {K : Value → Hp → Prop}, c - a ≤ N → a ≤ c → c ≤ n → limit ≤ 1000 → d.size = n → Go.Sort.Below lt a c d → Srt enc lt h b cap n f a c d K →
    Cn P n_slices_pdqsortCmpFunc_cache_item #[.slice (some ⟨b, 0, none⟩) n cv, .int .i64 (a : Int), .int .i64 (c : Int), .int .i64 (limit : Int), fn] (hpD enc h b cap f d) K := by
  intro N
  induction N using Nat.strongRecOn with
  | _ N ih =>
  intro a c limit d K hN hac hc hlim hd hB k
  refine F_slices_pdqsortCmpFunc_cache_item ?_
  unfold s_slices_pdqsortCmpFunc_cache_item
  have nb := E.nb
  have sbt : ∀ {x y : Nat}, y ≤ x → x ≤ n → IntKind.i64.wrap ((x : Int) - (y : Int)) = ((x - y : Nat) : Int) := fun {x y} h1 hi => by rw [wi64 (by omega) (by omega)]; omega
  refine Lp_mk (fun m vs h' => ∃ (limit a' c' : Nat) (wb wp : Bool) (d' : Array α), m = c' - a' ∧ a' ≤ c' ∧ c' ≤ n ∧ c' - a' ≤ N ∧ limit ≤ 1000 ∧ d'.size = n ∧ Go.Sort.Below lt a' c' d' ∧ Srt enc lt h b cap n f a' c' d' K ∧ vs = [.int .i64 (limit : Int), .int .i64 (a' : Int), .bool wb, .bool wp, .int .i64 (c' : Int)] ∧ h' = hpD enc h b cap f d') (c - a)
    ⟨limit, a, c, true, true, d, rfl, hac, hc, hN, hlim, hd, hB, k, rfl, rfl⟩ ?_
  clear k hB hd hlim hN hac hc limit a c d
  rintro m vs h' ⟨limit, a, c, wb, wp, d, hm, hac, hc, hN, hlim, hd, hB, k, rfl, rfl⟩
  simp -zeta (maxSteps := 3000000) (disch := omega) only [GL, sbt]
  by_cases h12 : c - a ≤ 12
  · rw [if_pos (by simp; omega)]
    have := Go.Sort.insertionSort_holds (lt := lt) hS d a c hac (by omega)
    exact T_insertionSort E hd hac hc (k _ this.1 this.2 (by rw [this.1.1]; exact hd))
  rw [if_neg (by simp; omega)]
  by_cases hl0 : limit = 0
  · rw [if_pos (by simp [hl0])]
    have := Go.Sort.heapSort_holds (lt := lt) hS d a c hac (by omega)
    exact T_heapSort E hd hac hc (k _ this.1 this.2 (by rw [this.1.1]; exact hd))
  rw [if_neg (by simp; omega)]
  intro J11
  have p11 : ∀ (limit : Nat) (d1 : Array α), limit ≤ 1000 → d1.size = n → Go.Sort.Below lt a c d1 → Srt enc lt h b cap n f a c d1 K → J11 (.int .i64 (limit : Int)) (hpD enc h b cap f d1) := by
    intro limit d1 hlim hd hB k
    simp -zeta only [J11]
    clear J11
    refine T_choosePivot E hd (by omega) hc fun x hint hx1 hx2 => ?_
    rw [ext0, ext1]
    intro J15
    have p15 : ∀ (x : Nat) (hint : Int) (d2 : Array α), a ≤ x → x < c → d2.size = n → Go.Sort.Below lt a c d2 → Srt enc lt h b cap n f a c d2 K → J15 (.int .i64 (x : Int)) (.int .i64 hint) (hpD enc h b cap f d2) := by
      intro x hint d2 hx1 hx2 hd hB k
      simp -zeta only [J15]
      clear J15
      intro J19
      have p19 : ∀ d3 : Array α, d3.size = n → Go.Sort.Below lt a c d3 → Srt enc lt h b cap n f a c d3 K → J19 (hpD enc h b cap f d3) := by
        intro d3 hd hB k
        simp -zeta only [J19]
        clear J19
        intro J26
        have p26e : a > 0 → lt d3[a - 1]! d3[x]! = false → J26 (.bool true) (hpD enc h b cap f d3) := by
          intro ha0 hnl
          simp -zeta only [J26, GL, if_true]
          clear J26
          refine T_partitionEqual E hd hx1 hx2 hc ?_
          obtain ⟨mid, d4, hx⟩ : ∃ mid d4, Go.Sort.partitionEqual lt d3 a c x = (mid, d4) := ⟨_, _, rfl⟩
          obtain ⟨r1, r2, r3, r4, r5⟩ := Go.Sort.round_eq hS (Go.Sort.partitionEqual_holds lt) ha0 hx1 hx2 (by omega) hB hnl hx
          rw [hx]
          exact ⟨_, .refl _, c - mid, by omega, limit, mid, c, wb, wp, d4, rfl, r2, hc, by omega, hlim, by rw [r3]; exact hd, r4, fun R p s z => k R (r5 R p s).1 (r5 R p s).2 z, rfl, rfl⟩
        have p26p : J26 (.bool false) (hpD enc h b cap f d3) := by
          simp -zeta only [J26, GL, Bool.false_eq_true, if_false]
          clear J26 p26e
          refine T_partition E hd hx1 hx2 hc fun ap => ?_
          obtain ⟨mid, ap2, d4, hx⟩ : ∃ mid ap2 d4, Go.Sort.partition lt d3 a c x = (mid, ap2, d4) := ⟨_, _, _, rfl⟩
          obtain ⟨r1, r2, r3, r4, r5, r6, r7⟩ := Go.Sort.round_part hS (Go.Sort.partition_holds lt) hx1 hx2 (by omega) hB hx
          rw [hx]
          rw [ext0, ext1]
          have z4 : d4.size = n := by rw [r3]; exact hd
          have e1 : IntKind.i64.wrap ((mid : Int) + 1) = ((mid + 1 : Nat) : Int) := by rw [wi64 (by omega) (by omega)]; omega
          simp -zeta (maxSteps := 3000000) (disch := omega) only [GL, sbt, lt_dec, e1]
          split
          · refine ih (mid - a) (by omega) (Nat.le_refl _) r1 (by omega) hlim z4 r4 fun L pL sL zL => ?_
            exact ⟨_, .refl _, c - (mid + 1), by omega, limit, mid + 1, c, _, _, L, rfl, by omega, hc, by omega, hlim, zL, (r6 L pL sL).1, fun R p s z => k R ((r6 L pL sL).2 R p s).1 ((r6 L pL sL).2 R p s).2 z, rfl, rfl⟩
          · refine ih (c - (mid + 1)) (by omega) (Nat.le_refl _) (by omega) hc hlim z4 r5 fun L pL sL zL => ?_
            exact ⟨_, .refl _, mid - a, by omega, limit, a, mid, _, _, L, rfl, by omega, by omega, by omega, hlim, zL, (r7 L pL sL).1, fun R p s z => k R ((r7 L pL sL).2 R p s).1 ((r7 L pL sL).2 R p s).2 z, rfl, rfl⟩
        clear_value J26
        by_cases ha0 : 0 < a
        · rw [if_pos (by simp; omega)]
          have e1 : IntKind.i64.wrap ((a : Int) - 1) = ((a - 1 : Nat) : Int) := by rw [wi64 (by omega) (by omega)]; omega
          simp -zeta (disch := omega) only [GL, e1, ixD, ldD]
          refine E.cmpD fun r hr => ?_
          simp -zeta only [GL, hr]
          by_cases hl : lt d3[a - 1]! d3[x]! = true
          · simp only [hl, Bool.not_true]
            exact p26p
          · have hl' : lt d3[a - 1]! d3[x]! = false := by simpa using hl
            simp only [hl', Bool.not_false]
            exact p26e ha0 hl'
        · rw [if_neg (by simp; omega)]
          exact p26p
      clear_value J19
      have par : Cn P n_slices_partialInsertionSortCmpFunc_cache_item #[.slice (some ⟨b, 0, none⟩) n cv, .int .i64 (a : Int), .int .i64 (c : Int), fn] (hpD enc h b cap f d2) fun t80 h => cnd t80 (K (Value.tuple #[]) h) (J19 h) := by
        have sp := Go.Sort.partialInsertionSort_holds (lt := lt) hS d2 a c (by omega) (by omega) hB
        refine T_partialInsertionSort E hd (by omega) hc ?_
        have z := sp.1.1
        cases hr : (Go.Sort.partialInsertionSort lt d2 a c).2 with
        | true =>
          simp only [GL, if_true]
          exact k _ sp.1 (sp.2 hr) (by rw [z]; exact hd)
        | false =>
          simp only [GL, Bool.false_eq_true, if_false]
          exact p19 _ (by rw [z]; exact hd) (hB.perm (by omega) sp.1) (k.pre sp.1)
      cases wp <;> cases wb <;> simp -zeta only [GL, if_true, Bool.false_eq_true, if_false]
      · exact p19 d2 hd hB k
      · exact p19 d2 hd hB k
      · exact p19 d2 hd hB k
      · split
        · exact par
        · exact p19 d2 hd hB k
    clear_value J15
    simp -zeta only [GL]
    split
    · have rp := Go.Sort.reverseRange_holds d1 a c hac (by omega)
      refine T_reverseRange E hd (by omega) hc ?_
      have e1 : IntKind.i64.wrap ((c : Int) - 1) = ((c - 1 : Nat) : Int) := by rw [wi64 (by omega) (by omega)]; omega
      have e2 : IntKind.i64.wrap (((c - 1 : Nat) : Int) - ((x - a : Nat) : Int)) = ((c - 1 - (x - a) : Nat) : Int) := by rw [wi64 (by omega) (by omega)]; omega
      simp -zeta (disch := omega) only [GL, sbt, e1, e2]
      exact p15 _ 1 _ (by omega) (by omega) (by rw [rp.1]; exact hd) (hB.perm (by omega) rp) (k.pre rp)
    · exact p15 x hint d1 hx1 hx2 hd hB k
  clear_value J11
  cases wp <;> simp -zeta only [Bool.not_false, Bool.not_true, if_true, Bool.false_eq_true, if_false]
  · refine T_breakPatterns E hd (by omega) hc fun d' pp z => ?_
    have e1 : IntKind.i64.wrap ((limit : Int) - 1) = ((limit - 1 : Nat) : Int) := by rw [wi64 (by omega) (by omega)]; omega
    rw [e1]
    exact p11 (limit - 1) d' (by omega) z (hB.perm (by omega) pp) (k.pre pp)
  · exact p11 limit d hlim hd hB k
end
end Go.Proofs.Ytbglokdjlbknaaa
set_option linter.unusedSimpArgs false
set_option linter.unusedVariables false
set_option maxRecDepth 100000
set_option maxHeartbeats 4000000
namespace Go.Proofs.Ytbglokdjlbknaaa
open Go Go.SL
section
variable {α : Type} [Inhabited α] {enc : α → Value} {lt : α → α → Bool} {h : Hp} {b cap n cv : Nat} {f : Nat × Nat} {fn : Value} {K : Value → Hp → Prop} {d : Array α}
theorem T_SortFunc (hS : Go.Sort.SWO lt) (E : SE enc lt h b cap n f fn) (hd : d.size = n) (k : Srt enc lt h b cap n f 0 n d K) :
    Cn P n_slices_SortFunc_cache_items_cache_item #[.slice (some ⟨b, 0, none⟩) n cv, fn] (hpD enc h b cap f d) K := by
  refine F_slices_SortFunc_cache_items_cache_item ?_
  unfold s_slices_SortFunc_cache_items_cache_item
  have nb := E.nb
  have e1 : IntKind.u64.wrap (n : Int) = (n : Int) := by rw [wu64]; omega
  simp only [GL, RL, e1]
  refine T_bitsLen n (by omega) ?_
  have bl : Go.Sort.bitsLen n ≤ 60 := (Go.Sort.bitsLen_le_iff n 60).2 (by omega)
  refine T_pdqsort (a := 0) (K := fun _ h => K (.tuple #[]) h) hS E n (by omega) (by omega) (Nat.le_refl _) (by omega) hd (.inl rfl) fun d' p s z => ?_
  exact k d' p s z
end
end Go.Proofs.Ytbglokdjlbknaaa
namespace Go.Pure
theorem perm_strict {α : Type} {key : α → Nat} : ∀ {l m : List α}, l.Perm m → l.Pairwise (fun a b => key a < key b) → m.Pairwise (fun a b => key a < key b) → l = m
  | [], m, p, _, _ => by rw [List.nil_perm.1 p]
  | a :: l, [], p, _, _ => by cases List.perm_nil.1 p
  | a :: l, b :: m, p, hl, hm => by
    have hl' := List.pairwise_cons.1 hl
    have hm' := List.pairwise_cons.1 hm
    have e : a = b := by
      have ha : a ∈ b :: m := p.mem_iff.1 (by simp)
      have hb : b ∈ a :: l := p.mem_iff.2 (by simp)
      rcases List.mem_cons.1 ha with h | h
      · exact h
      · rcases List.mem_cons.1 hb with g | g
        · exact g.symm
        · have x := hm'.1 a h
          have y := hl'.1 b g
          omega
    subst e
    rw [perm_strict (List.Perm.cons_inv p) hl'.2 hm'.2]
/-- In order, and unlike keys: in strict order. -/
theorem strict_of_le {α : Type} {key : α → Nat} {l : List α} (h : ∀ (i j : Nat) (a b : α), i < j → l[i]? = some a → l[j]? = some b → key a ≤ key b) (u : ∀ (i j : Nat) (a b : α), i < j → l[i]? = some a → l[j]? = some b → key a ≠ key b) : l.Pairwise (fun a b => key a < key b) := by
  rw [List.pairwise_iff_getElem]
  intro i j hi hj hij
  have x := h i j _ _ hij (List.getElem?_eq_getElem hi) (List.getElem?_eq_getElem hj)
  have y := u i j _ _ hij (List.getElem?_eq_getElem hi) (List.getElem?_eq_getElem hj)
  omega
end Go.Pure
set_option linter.unusedSimpArgs false
set_option linter.unusedVariables false
set_option maxRecDepth 100000
set_option maxHeartbeats 4000000
namespace Go.Proofs.Ytbglokdjlbknaaa
open Go Go.SL Go.Pure
section
variable {h : Hp} {K : Value → Hp → Prop}
theorem T_isNaN (x : Int) (k : K (.bool false) h) : Cn P n_cmp_isNaN_int #[.int .i64 x] h K := by
  refine F_cmp_isNaN_int ?_
  unfold s_cmp_isNaN_int
  have e : (x != x) = false := by simp
  simp only [GL, e]
  exact k
theorem T_Compare (x y : Int) (k : ∀ r : Int, decide (r < 0) = decide (x < y) → K (.int .i64 r) h) : Cn P n_cmp_Compare_int #[.int .i64 x, .int .i64 y] h K := by
  refine F_cmp_Compare_int ?_
  unfold s_cmp_Compare_int
  refine T_isNaN x ?_
  refine T_isNaN y ?_
  simp only [GL, Bool.false_eq_true, if_false]
  by_cases h1 : x < y
  · rw [if_pos (by simpa using h1)]
    exact k (-1) (by simp [h1])
  · rw [if_neg (by simpa using h1)]
    split
    · exact k 1 (by simp [h1])
    · exact k 0 (by simp [h1])
theorem T_Items_1 {a b : Ent} {i j : Nat} (ha : h a.blk = some (.row t_cache_item (entC a i) 4 (some (0, 0)))) (hb : h b.blk = some (.row t_cache_item (entC b j) 4 (some (0, 0))))
    (k : ∀ r : Int, decide (r < 0) = decide (a.used < b.used) → K (.int .i64 r) h) : Cn P n_cache_Cache_Items_1 #[ptrE a, ptrE b] h K := by
  refine F_cache_Cache_Items_1 ?_
  unfold s_cache_Cache_Items_1
  have ca : h.cell ⟨a.blk, 2, none⟩ = some (.int .i64 (a.used : Int)) := by rw [cell_row ha]; rfl
  have cb : h.cell ⟨b.blk, 2, none⟩ = some (.int .i64 (b.used : Int)) := by rw [cell_row hb]; rfl
  simp only [GL, RL, ptrE, ci1, ca, cb]
  refine T_Compare _ _ fun r hr => k r ?_
  rw [hr, lt_dec]
theorem T_SortFunc0 {b : Option Addr} {cv : Nat} {fn : Value} (k : K (.tuple #[]) h) : Cn P n_slices_SortFunc_cache_items_cache_item #[.slice b 0 cv, fn] h K := by
  refine F_slices_SortFunc_cache_items_cache_item ?_
  unfold s_slices_SortFunc_cache_items_cache_item
  have e1 : IntKind.u64.wrap ((0 : Nat) : Int) = ((0 : Nat) : Int) := rfl
  simp only [GL, RL, e1]
  refine T_bitsLen 0 (by omega) ?_
  refine F_slices_pdqsortCmpFunc_cache_item ?_
  unfold s_slices_pdqsortCmpFunc_cache_item
  refine Lp_mk (fun m vs h' => vs = [.int .i64 ((Go.Sort.bitsLen 0 : Nat) : Int), .int .i64 0, .bool true, .bool true, .int .i64 ((0 : Nat) : Int)] ∧ h' = h) 0 ⟨rfl, rfl⟩ ?_
  rintro m vs h' ⟨rfl, rfl⟩
  have e2 : IntKind.i64.wrap (((0 : Nat) : Int) - 0) = 0 := rfl
  simp -zeta (maxSteps := 3000000) only [GL, e2]
  rw [if_pos (by decide)]
  refine F_slices_insertionSortCmpFunc_cache_item ?_
  unfold s_slices_insertionSortCmpFunc_cache_item
  have e3 : IntKind.i64.wrap ((0 : Int) + 1) = 1 := rfl
  simp -zeta only [GL, e3]
  refine Lp_mk (fun m vs h2 => vs = [.int .i64 1] ∧ h2 = h') 0 ⟨rfl, rfl⟩ ?_
  rintro m vs h2 ⟨rfl, rfl⟩
  simp -zeta only [GL]
  rw [if_neg (by decide)]
  exact k
end
end Go.Proofs.Ytbglokdjlbknaaa
set_option linter.unusedSimpArgs false
set_option linter.unusedVariables false
set_option maxRecDepth 100000
set_option maxHeartbeats 4000000
namespace Go.Proofs.Ytbglokdjlbknaaa
open Go Go.SL Go.Pure
section
variable {h : Hp} {K : Value → Hp → Prop}
theorem T_CloneI {R : Hp} {S So : List Nat} {v : Value} {ys : List Value} {n : Nat} (w : Own R h S) (o : OutAt t_Pt_cache_item 1 h v ys n So) (hn : n ≤ 1000000) (hfl : ∀ y ∈ ys, flat y = true)
    (k : ∀ v' h' T, Stp R h R h' S (S ++ T) → Own R h' S → Own R h' T → (∀ x, x ∈ S → x ∉ T) → (∀ x, x ∈ S → h' x = h x) → OutAt t_Pt_cache_item 1 h' v' ys n T → K v' h') : Cn P n_slices_Clone_cache_items_cache_item #[v] h K := by
  refine F_slices_Clone_cache_items_cache_item ?_
  unfold s_slices_Clone_cache_items_cache_item
  have gen : ∀ (b c : Nat), v = .slice (some ⟨b, 0, none⟩) n c → aw P (Instr.buildSlice t_cache_items 0 #[]) (fun t5 h => aw P (Builtin.append_ #[t_cache_items, t_cache_items] t_cache_items #[t5, v]) (fun t7 h => K t7 h) h) h := fun b c hv => by
    refine aw_nilN u_cache_items z_Pt_cache_item fun v1 h1 n1 => ?_
    obtain ⟨T1, o1, ow1, s1, f1⟩ := Stp.fresh w n1
    have x1 : Hp.ext h h1 := n1.ext
    have d1 : ∀ b, b ∈ S → b ∉ T1 := fun b hb hT => by
      obtain ⟨o, e⟩ := w.kn b hb
      rw [f1 b hT] at e; cases e
    have oS1 : Own R h1 S := s1.own.sub' fun x hx => List.mem_append_left _ hx
    refine aw_appendO u_cache_items u_cache_items nfo_Pt_cache_item rfl (by omega) o1 (o.rds.mono x1.cle) hfl (by omega) fun v2 h2 T2 o2 kp2 fr2 => ?_
    obtain ⟨oS2, oT2, d2, sm2, st2⟩ := OutAt.beside oS1 ow1 d1 o2 kp2 fr2
    rw [Nat.zero_add, List.nil_append] at o2
    exact k v2 h2 T2 (s1.trans st2) oS2 oT2 d2 (fun x hx => by
      rw [sm2 x hx]
      obtain ⟨o, e⟩ := w.kn x hx
      rw [e, x1 _ _ e]) o2
  rcases id o with ⟨hv, hn0, hys, _⟩ | ⟨b, c, fz, _, hv, _⟩
  · have e : ∀ {K : Value → Prop}, q P h (eqop .eql t_cache_items (.tmp 3) (.const (Value.slice none 0 0)) v (Value.slice none 0 0)) K = K (.bool true) := fun {K} => by
      rw [hv]; simp only [RL]; rfl
    rw [e]
    simp only [GL, if_true]
    refine k _ h [] (by rw [List.append_nil]; exact .refl w) w w.nil (by simp) (fun _ _ => rfl) (.inl ⟨rfl, hn0, hys, rfl⟩)
  · have e : ∀ {K : Value → Prop}, q P h (eqop .eql t_cache_items (.tmp 3) (.const (Value.slice none 0 0)) v (Value.slice none 0 0)) K = K (.bool false) := fun {K} => by
      rw [hv]; simp only [RL]; rfl
    rw [e]
    simp only [GL, Bool.false_eq_true, if_false]
    exact gen b c hv
end
end Go.Proofs.Ytbglokdjlbknaaa
set_option linter.unusedSimpArgs false
set_option linter.unusedVariables false
set_option maxRecDepth 100000
set_option maxHeartbeats 4000000
namespace Go.Proofs.Ytbglokdjlbknaaa
open Go Go.SL Go.Pure
section
variable {h : Hp} {K : Value → Hp → Prop}
theorem swo_used {xs : List Ent} : Go.Sort.SWO (fun x y : {e // e ∈ xs} => decide (x.1.used < y.1.used)) where
  irrefl := fun x => by simp
  trans := fun x y z h1 h2 => by simp at h1 h2 ⊢; omega
  ntrans := fun x y z h1 h2 => by simp at h1 h2 ⊢; omega
open Classical in
theorem T_SortItems {v : Value} {xs L : List Ent} {T : List Nat} (o : OutAt t_Pt_cache_item 1 h v (xs.map ptrE) xs.length T) (hn : xs.length ≤ 1000000)
    (he : ∀ (i : Nat) (e : Ent), xs[i]? = some e → h e.blk = some (.row t_cache_item (entC e i) 4 (some (0, 0))))
    (hT : ∀ e ∈ xs, e.blk ∉ T) (p : xs.Perm L) (so : L.Pairwise fun a b => a.used < b.used)
    (k : ∀ h', (∀ x, x ∉ T → h' x = h x) → OutAt t_Pt_cache_item 1 h' v (L.map ptrE) L.length T → K (.tuple #[]) h') :
    Cn P n_slices_SortFunc_cache_items_cache_item #[v, .func (.func n_cache_Cache_Items_1) #[] #[]] h K := by
  by_cases hx : xs = []
  · subst hx
    obtain rfl : L = [] := List.nil_perm.1 p
    have k0 := k h (fun _ _ => rfl) o
    rcases o with ⟨rfl, _⟩ | ⟨b, c, fz, hb, rfl, _⟩
    · exact T_SortFunc0 k0
    · exact T_SortFunc0 k0
  have hpos : 0 < xs.length := List.length_pos_iff.2 hx
  rcases o with ⟨_, h0, _⟩ | ⟨b, c, fz, hb, rfl, hc, hf, rfl, hl⟩
  · omega
  haveI : Inhabited {e // e ∈ xs} := ⟨⟨xs[0], List.getElem_mem hpos⟩⟩
  have hde : (xs.attach.toArray).toList.map (fun e : {e // e ∈ xs} => ptrE e.1) = xs.map ptrE := by simp [List.attach_map_val]
  have hh : hpD (fun e : {e // e ∈ xs} => ptrE e.1) h b (c * 1) fz xs.attach.toArray = h := by unfold hpD; rw [hde]; exact Hp.set_id hb
  have E : SE (fun e : {e // e ∈ xs} => ptrE e.1) (fun x y => decide (x.1.used < y.1.used)) h b (c * 1) xs.length fz (.func (.func n_cache_Cache_Items_1) #[] #[]) := by
    refine ⟨fun _ => rfl, fun i hi => hf i (by omega), by omega, by rw [hb]; simp, fun z => if ∃ e ∈ xs, e.blk = z then h z else none, fun z o e => ?_, ?_, fun x y h' K hx' kk => ?_⟩
    · by_cases g : ∃ e ∈ xs, e.blk = z
      · simpa [g] using e
      · simp [g] at e
    · show (if _ then _ else _) = _
      rw [if_neg]
      rintro ⟨e, he1, he2⟩
      exact hT e he1 (by rw [he2]; simp)
    · obtain ⟨i, hi⟩ := List.mem_iff_getElem?.1 x.2
      obtain ⟨j, hj⟩ := List.mem_iff_getElem?.1 y.2
      refine T_Items_1 (a := x.1) (b := y.1) (i := i) (j := j) (hx' _ _ ?_) (hx' _ _ ?_) kk
      · show (if _ then _ else _) = _
        rw [if_pos ⟨x.1, x.2, rfl⟩]; exact he i _ hi
      · show (if _ then _ else _) = _
        rw [if_pos ⟨y.1, y.2, rfl⟩]; exact he j _ hj
  have main := T_SortFunc (cv := c) (K := K) (d := xs.attach.toArray) swo_used E (by simp) fun d' p' s' z' => by
    have e1 : d'.toList.map (fun e : {e // e ∈ xs} => e.1) = L := by
      have dsz : xs.attach.toArray.size = xs.length := by simp
      have pp : (d'.toList.map (fun e : {e // e ∈ xs} => e.1)).Perm L := by
        have p2 := p'.2.2
        rw [← z'] at p2
        have ed : d'.extract 0 d'.size = d' := by simp
        have al : ∀ d : Array {e // e ∈ xs}, d.extract 0 d.size = d := fun d => by simp
        have ex : xs.attach.toArray.extract 0 d'.size = xs.attach.toArray := by rw [z', ← dsz]; exact al _
        rw [ed, ex] at p2
        have p3 := p2.map (fun e : {e // e ∈ xs} => e.1)
        rw [show (xs.attach.toArray.toList.map fun e : {e // e ∈ xs} => e.1) = xs by simp] at p3
        exact p3.trans p
      have nd : ((d'.toList.map (fun e : {e // e ∈ xs} => e.1)).map Ent.used).Nodup := by
        refine (pp.map Ent.used).nodup_iff.2 ?_
        rw [List.Nodup, List.pairwise_map]
        exact so.imp fun h => by omega
      refine perm_strict (key := Ent.used) pp (strict_of_le (key := Ent.used) (fun i j a b hij ha hb => ?_) (fun i j a b hij ha hb => ?_)) so
      · rw [List.getElem?_map, Option.map_eq_some_iff] at ha hb
        obtain ⟨x, hx1, rfl⟩ := ha
        obtain ⟨y, hy1, rfl⟩ := hb
        obtain ⟨hj, ey⟩ := List.getElem?_eq_some_iff.1 hy1
        obtain ⟨hi, ex⟩ := List.getElem?_eq_some_iff.1 hx1
        have hj' : j < d'.size := by simpa using hj
        have s2 := s' i j (Nat.zero_le _) hij (by rw [← z']; exact hj')
        rw [getElem!_pos d' j hj', getElem!_pos d' i (by omega)] at s2
        have ey' : d'[j] = y := by rw [← ey]; simp
        have ex' : d'[i] = x := by rw [← ex]; simp
        rw [ey', ex'] at s2
        simp at s2
        exact s2
      · intro e
        rw [List.nodup_iff_pairwise_ne] at nd
        have := List.pairwise_iff_getElem.1 nd i j (by simpa using (List.getElem?_eq_some_iff.1 ha).1) (by simpa using (List.getElem?_eq_some_iff.1 hb).1) hij
        apply this
        obtain ⟨hi, ex⟩ := List.getElem?_eq_some_iff.1 ha
        obtain ⟨hj, ey⟩ := List.getElem?_eq_some_iff.1 hb
        rw [← ex, ← ey] at e
        simpa using e
    refine k _ (fun x hx => hpD_get x (by simpa using hx)) (.inr ⟨b, c, fz, ?_, by rw [p.length_eq], by rw [← p.length_eq]; exact hc, hf, rfl, by simp⟩)
    rw [hpD_at, ← e1, List.map_map]
    rfl
  rw [hh] at main
  exact main
end
end Go.Proofs.Ytbglokdjlbknaaa
set_option linter.unusedSimpArgs false
set_option linter.unusedVariables false
set_option maxRecDepth 100000
set_option maxHeartbeats 4000000
namespace Go.Proofs.Ytbglokdjlbknaaa
open Go Go.SL Go.Pure
section
variable {h : Hp} {K : Value → Hp → Prop} {R : Hp} {c qt now : Nat} {L : List Ent} {S : List Nat}
theorem T_Items (w : Own R h S) (a : CAt h c qt now L S) (k : ∀ v R' h', Stp R h R' h' S S → CAt h' c qt now L S → Rds R' 2 v (rowL (L.map ns)) L.length → K v h') : Cn P n_cache_Cache_Items #[.pointer (some ⟨c, 0, none⟩)] h K := by
  refine F_cache_Cache_Items ?_
  unfold s_cache_Cache_Items
  obtain ⟨xs, vh, Sh, r, es, clk, cl, rfl⟩ := id a
  have c3 := cl.hq.cell
  have lx : xs.length = L.length := cl.pm.length_eq
  have lb := cl.lb
  simp (disch := omega) only [GL, RL, cc3, c3]
  refine T_CloneI w cl.hq.out (by omega) (by intro y hy; obtain ⟨e, _, rfl⟩ := List.mem_map.1 hy; rfl) fun v1 h1 T s1 oS1 oT1 d1 sm1 o1 => ?_
  have sS : ∀ {x}, x ∈ HB c Sh xs → x ∈ r :: HB c Sh xs := fun hx => List.mem_cons_of_mem _ hx
  have ent1 : ∀ (i : Nat) (e : Ent), xs[i]? = some e → h1 e.blk = some (.row t_cache_item (entC e i) 4 (some (0, 0))) := fun i e he => by
    rw [sm1 _ (sS (mem_HB.2 (.inr (.inr ⟨e, List.mem_of_getElem? he, rfl⟩))))]
    exact cl.hq.ent i e he
  refine T_SortItems o1 (by omega) ent1 (fun e he => d1 _ (sS (mem_HB.2 (.inr (.inr ⟨e, he, rfl⟩))))) cl.pm cl.so fun h2 f2 o2 => ?_
  have sm2 : ∀ x, x ∈ r :: HB c Sh xs → h2 x = h1 x := fun x hx => f2 x (d1 x hx)
  have st12 : Stp R h1 R h2 ((r :: HB c Sh xs) ++ T) ((r :: HB c Sh xs) ++ T) := Stp.within (oS1.app oT1) (fun b hb => f2 b fun q => hb (List.mem_append_right _ q)) fun b hb => by
    by_cases q : b ∈ T
    · rcases o2 with ⟨_, _, _, rfl⟩ | ⟨b', c', f', e, _, _, _, rfl, _⟩
      · cases q
      · rw [List.mem_singleton.1 q]; exact ⟨_, e⟩
    · rw [f2 b q]; exact (oS1.app oT1).kn b hb
  have s2 : Stp R h R h2 (r :: HB c Sh xs) (r :: HB c Sh xs) := (s1.trans st12).drop fun x hx => List.mem_append_left _ hx
  have a2 : CAt h2 c qt now L (r :: HB c Sh xs) := a.keep fun x hx => by rw [sm2 x hx, sm1 x hx]
  have r2 := o2.rds
  have ent2 : ∀ e ∈ L, ∃ i, h2 e.blk = some (.row t_cache_item (entC e i) 4 (some (0, 0))) := fun e he => by
    obtain ⟨i, hi⟩ := List.mem_iff_getElem?.1 (cl.pm.mem_iff.2 he)
    exact ⟨i, by rw [sm2 _ (sS (mem_HB.2 (.inr (.inr ⟨e, List.mem_of_getElem? hi, rfl⟩))))]; exact ent1 i e hi⟩
  obtain ⟨R3, s3, r3⟩ : ∃ R3, Stp R h R3 h2 (r :: HB c Sh xs) (r :: HB c Sh xs) ∧ Rds R3 1 v1 (L.map ptrE) L.length := by
    rcases o2 with ⟨rfl, hn0, hg0, _⟩ | ⟨bo, co, fz, hbo, rfl, hco, hfo, rfl, hlo⟩
    · exact ⟨R, s2, by rw [hg0, hn0]; exact ⟨rfl, none, 0, rfl, Nat.le_refl _, .inl rfl⟩⟩
    · have hbS : ∀ x, x ∈ r :: HB c Sh xs → x ≠ bo := fun x hx => by rintro rfl; exact d1 x hx (by simp)
      exact ⟨R.set bo (.row t_Pt_cache_item (L.map ptrE) (co * 1) (some fz)), (s1.trans st12).fix (by simp) hbo fun x hx => ⟨List.mem_append_left _ hx, hbS x hx⟩, hlo, _, co, rfl, hco, .inr ⟨bo, 0, rfl, fun j x e => by rw [cell_row (Hp.set_same ..), Nat.zero_add]; exact e⟩⟩
  obtain ⟨_, av, cvv, rfl, hcv, _⟩ := id r3
  have lnv : ∀ {h : Hp} {K : Value → Prop}, q P h (Builtin.len_ #[t_cache_items] t_int #[.slice av L.length cvv]) K = K (.int .i64 (L.length : Nat)) := fun {h K} => q_lenS u_cache_items _ _ _
  rw [lnv]
  have w3 := s3.own
  have lL : L.length ≤ 900000 := lb
  refine Lp_mk (fun m vs h' => ∃ (i : Nat) (So : List Nat) (vo : Value), i + m = L.length ∧ Stp R3 h2 R3 h' (r :: HB c Sh xs) ((r :: HB c Sh xs) ++ So) ∧ (∀ x, x ∈ r :: HB c Sh xs → h' x = h2 x) ∧ (∀ x, x ∈ r :: HB c Sh xs → x ∉ So) ∧ OutAt t_api_Item 2 h' vo (rowL ((L.take i).map ns)) i So ∧ vs = [vo, .int .i64 (i : Int)]) L.length
    ⟨0, [], _, by omega, by rw [List.append_nil]; exact Stp.refl w3, fun _ _ => rfl, by simp, .inl ⟨rfl, rfl, rfl, rfl⟩, rfl⟩ ?_
  rintro m vs h4 ⟨i, So, vo, hi, s4, f4, d4, o4, rfl⟩
  simp -zeta (disch := omega) only [GL, lt_dec]
  by_cases hlt : i < L.length
  · simp -zeta only [hlt, decide_true, if_true]
    have r4 := r3.mono s4.own.sub.cle
    obtain ⟨pa, hp1, hp2⟩ := rd_at (P := P) (i := i) (y := ptrE L[i]) u_cache_items z_Pt_cache_item r4 (by rw [List.getElem?_map, List.getElem?_eq_getElem hlt]; rfl)
    obtain ⟨j, hj⟩ := ent2 L[i] (List.getElem_mem hlt)
    have inS : L[i].blk ∈ r :: HB c Sh xs := sS (mem_HB.2 (.inr (.inr ⟨L[i], cl.pm.mem_iff.2 (List.getElem_mem hlt), rfl⟩)))
    have hj4 : h4 L[i].blk = some (.row t_cache_item (entC L[i] j) 4 (some (0, 0))) := by rw [f4 _ inS]; exact hj
    have ldI : ∀ {K : Value → Prop}, q P h4 (Instr.loadAt t_api_Item (.pointer (some ⟨L[i].blk, 0, none⟩))) K = K (.agg (itC (ns L[i])).toArray) := fun {K} => q_ldAgg u_api_Item rfl z_api_Item fun j' x e => by
      rw [cell_row hj4, Nat.zero_add]
      match j' with
      | 0 => exact e
      | 1 => exact e
      | j' + 2 => simp [itC] at e
    simp -zeta (disch := omega) only [GL, RL, hp1, hp2, ptrE, ci0, ldI]
    refine aw_litA u_Sl_api_Item z_api_Item zr_item rfl rfl (by omega) (by omega) fun v5 h5 n5 => ?_
    have x5 : Hp.ext h4 h5 := n5.ext
    have s5 := Stp.ext0 s4.own x5
    have oS5 : Own R3 h5 (r :: HB c Sh xs) := s5.own.sub' fun x hx => List.mem_append_left _ hx
    have oO5 : Own R3 h5 So := s5.own.sub' fun x hx => List.mem_append_right _ hx
    have kp : ∀ x, x ∈ (r :: HB c Sh xs) ++ So → h5 x = h4 x := fun x hx => by
      obtain ⟨o, e⟩ := s4.own.kn x hx
      rw [e, x5 _ _ e]
    have o5 := o4.keep fun x hx => kp x (List.mem_append_right _ hx)
    refine aw_appendO u_Sl_api_Item u_Sl_api_Item nfo_item rfl (by omega) o5 n5.rds (by intro y hy; simp [itC] at hy; rcases hy with rfl | rfl <;> rfl) (by omega) fun v6 h6 T6 o6 kp6 fr6 => ?_
    obtain ⟨oS6, oT6, d6, sm6, st6⟩ := OutAt.beside oS5 oO5 d4 o6 kp6 fr6
    have e1 : IntKind.i64.wrap ((i : Int) + 1) = ((i + 1 : Nat) : Int) := by rw [wi64 (by omega) (by omega)]; omega
    rw [e1]
    refine ⟨h6, .refl _, m - 1, by omega, i + 1, T6, v6, by omega, (s4.trans s5).trans st6, fun x hx => by rw [sm6 x hx, kp x (List.mem_append_left _ hx), f4 x hx], d6, ?_, rfl⟩
    rw [List.take_succ_eq_append_getElem hlt, List.map_append, rowL_app]
    exact o6
  · simp -zeta only [hlt, decide_false, Bool.false_eq_true, if_false]
    obtain rfl : i = L.length := by omega
    rw [List.take_length] at o4
    have a4 : CAt h4 c qt now L (r :: HB c Sh xs) := a2.keep f4
    rcases o4 with ⟨rfl, hn0, hg0, _⟩ | ⟨bo, co, fz, hbo, rfl, hco, hfo, rfl, hlo⟩
    · exact k _ R3 h4 (s3.trans (s4.drop fun x hx => List.mem_append_left _ hx)) a4 (by rw [hg0, hn0]; exact ⟨rfl, none, 0, rfl, Nat.le_refl _, .inl rfl⟩)
    · have hbS : ∀ x, x ∈ r :: HB c Sh xs → x ≠ bo := fun x hx => by rintro rfl; exact d4 x hx (by simp)
      exact k _ (R3.set bo (.row t_api_Item (rowL (L.map ns)) (co * 2) (some fz))) h4 (s3.trans (s4.fix (by simp) hbo fun x hx => ⟨List.mem_append_left _ hx, hbS x hx⟩)) a4 ⟨hlo, _, co, rfl, hco, .inr ⟨bo, 0, rfl, fun j x e => by rw [cell_row (Hp.set_same ..), Nat.zero_add]; exact e⟩⟩
end
end Go.Proofs.Ytbglokdjlbknaaa
set_option linter.unusedSimpArgs false
set_option linter.unusedVariables false
set_option maxRecDepth 100000
set_option maxHeartbeats 4000000
namespace Go.Proofs.Ytbglokdjlbknaaa
open Go Go.SL
section
variable {h : Hp} {K : Value → Hp → Prop}
theorem T_ref22_Texts {v w : Value} {A : List ByteArray} (hl : A.length ≤ 1000000) (r1 : Rds h 1 v (A.map .string) A.length) (r2 : Rds h 1 w (A.map .string) A.length) (k : K (.bool true) h) : Cn P n_orlopref22_Texts #[v, w] h K := by
  refine F_orlopref22_Texts ?_
  unfold s_orlopref22_Texts
  obtain ⟨_, a1, c1, rfl, _, _⟩ := id r1
  obtain ⟨_, a2, c2, rfl, _, _⟩ := id r2
  have ln : ∀ {h : Hp} {K : Value → Prop} (a : Option Addr) (c : Nat), q P h (Builtin.len_ #[t_Sl_string] t_int #[.slice a A.length c]) K = K (.int .i64 (A.length : Nat)) := fun {h K} a c => q_lenS u_Sl_string _ _ _
  have ne : (((A.length : Nat) : Int) != ((A.length : Nat) : Int)) = false := by simp
  simp -zeta only [GL, ln, ne, Bool.false_eq_true, if_false]
  refine Lp_mk (fun m vs h' => ∃ i : Nat, i + m = A.length ∧ vs = [.bool false, .int .i64 (i : Int)] ∧ h' = h) A.length ⟨0, by omega, rfl, rfl⟩ ?_
  rintro m vs h' ⟨i, hi, rfl, rfl⟩
  simp -zeta (disch := omega) only [GL, ln, lt_dec]
  by_cases hlt : i < A.length
  · obtain ⟨p1, x1, x2⟩ := rd_at (P := P) (i := i) (y := .string A[i]) u_Sl_string z_string r1 (by rw [List.getElem?_map, List.getElem?_eq_getElem hlt]; rfl)
    obtain ⟨p2, y1, y2⟩ := rd_at (P := P) (i := i) (y := .string A[i]) u_Sl_string z_string r2 (by rw [List.getElem?_map, List.getElem?_eq_getElem hlt]; rfl)
    have e1 : IntKind.i64.wrap ((i : Int) + 1) = ((i + 1 : Nat) : Int) := by rw [wi64 (by omega) (by omega)]; omega
    simp -zeta (disch := omega) only [hlt, decide_true, if_true, GL, RL, x1, x2, y1, y2, q_neT, e1]
    simp only [ne_eq, not_true_eq_false, decide_false, Bool.false_eq_true, if_false]
    exact ⟨h', .refl _, m - 1, by omega, i + 1, by omega, rfl, rfl⟩
  · simp -zeta only [hlt, decide_false, Bool.false_eq_true, if_false]
    exact k
end
end Go.Proofs.Ytbglokdjlbknaaa
set_option linter.unusedSimpArgs false
set_option linter.unusedVariables false
set_option maxRecDepth 100000
namespace Go.SL
open Go
section
variable {P : Program} {h : Hp}
theorem pk_eqFields {d : Nat} {xs ys : Array Value} (e : Field → Bool) : ∀ (l : List Field), (∀ f ∈ l, (f.name == "_") = false ∧ ∃ x y, peek P h (part f.type xs f.offset) = some x ∧ peek P h (part f.type ys f.offset) = some y ∧ peek P h (Op.equalIn d f.type x y) = some (e f)) →
    peek P h (forIn l ((none : Option Bool), ()) fun (f : Field) (_ : Option Bool × Unit) =>
      if f.name ≠ "_" then
        (part f.type xs f.offset).bind fun u => (part f.type ys f.offset).bind fun w => (Op.equalIn d f.type u w).bind fun z =>
          if (!z) = true then pure (ForInStep.done (some false, ())) else pure (ForInStep.yield (none, ()))
      else pure (ForInStep.yield (none, ()))) = some (if l.all e then none else some false, ())
  | [], _ => by simp only [List.forIn_nil, List.all_nil, if_true]; rfl
  | f :: l, H => by
    have ih := pk_eqFields e l fun g hg => H g (List.mem_cons_of_mem _ hg)
    obtain ⟨hn, x, y, h1, h2, h3⟩ := H f (by simp)
    replace hn : f.name ≠ "_" := by simpa using hn
    simp only [List.forIn_cons, hn, if_true, ne_eq, not_false_eq_true, bind, peek_bind, h1, h2, h3, Option.bind_some]
    cases q : e f with
    | true =>
      simp only [Bool.not_true, Bool.false_eq_true, if_false, pk_pure, Option.bind_some]
      rw [List.all_cons, q, Bool.true_and]
      exact ih
    | false =>
      simp only [Bool.not_false, if_true, pk_pure, Option.bind_some, List.all_cons, q, Bool.false_and, Bool.false_eq_true, if_false]
/-- Two structs. -/
theorem pk_eqStruct {t : TypeId} {fs : Array Field} {xs ys : Array Value} (e : Field → Bool) (ht : P.underlying t = some (.struct fs)) (hs : P.stoodInHeld t = false)
    (H : ∀ f ∈ fs.toList, (f.name == "_") = false ∧ ∃ x y, peek P h (part f.type xs f.offset) = some x ∧ peek P h (part f.type ys f.offset) = some y ∧ peek P h (Op.equalIn 9999 f.type x y) = some (e f)) :
    peek P h (Op.equal t (.agg xs) (.agg ys)) = some (fs.toList.all e) := by
  unfold Op.equal Op.maxDepth Op.equalIn
  have hu : peek P h (underlying t) = some _ := pk_und ht
  have hp : peek P h program = some P := rfl
  simp only [bind, peek_bind, hu, Option.bind_some, hp, hs, Bool.false_eq_true, if_false]
  have := pk_eqFields (P := P) (h := h) e fs.toList H
  rw [← Array.forIn_toList]
  rw [this, Option.bind_some]
  cases fs.toList.all e <;> rfl
/-- Structs, alike or not. -/
theorem q_neqStruct {t : TypeId} {fs : Array Field} {xs ys : Array Value} {K : Value → Prop} (x y : Operand) (e : Field → Bool) (ht : P.underlying t = some (.struct fs)) (hs : P.stoodInHeld t = false) (hg : P.eqGuardType P.depth t = false)
    (H : ∀ f ∈ fs.toList, (f.name == "_") = false ∧ ∃ x y, peek P h (part f.type xs f.offset) = some x ∧ peek P h (part f.type ys f.offset) = some y ∧ peek P h (Op.equalIn 9999 f.type x y) = some (e f)) :
    q P h (eqop .neq t x y (.agg xs) (.agg ys)) K = K (.bool !(fs.toList.all e)) := q_of (by
  have hp : peek P h program = some P := rfl
  unfold eqop
  rw [peek_bind]
  have g : peek P h (eqGuard .neq t x y (.agg xs) (.agg ys)) = some () := by
    have n1 : ((!true) = true) = False := by simp
    simp only [eqGuard, bind]
    rw [if_neg (by simp)]
    simp only [peek_bind, hp, Option.bind_some, hg, Bool.not_false, if_true]
    rfl
  rw [g, Option.bind_some]
  show peek P h ((Op.equal t (.agg xs) (.agg ys)).bind fun r => pure (Value.bool (!r))) = _
  rw [peek_bind, pk_eqStruct e ht hs H]
  rfl) K
end
end Go.SL
set_option linter.unusedSimpArgs false
set_option linter.unusedVariables false
set_option maxRecDepth 100000
set_option maxHeartbeats 4000000
namespace Go.Proofs.Ytbglokdjlbknaaa
open Go Go.SL Go.Pure
theorem ba_beq_self (a : ByteArray) : (a == a) = true := by rw [ba_beq]; simp
theorem q_neItem {h : Hp} {K : Value → Prop} (x y : Operand) (a : ByteArray) (s : Int) : q P h (eqop .neq t_api_Item x y (.agg #[.string a, .int .i64 s]) (.agg #[.string a, .int .i64 s])) K = K (.bool false) := by
  have p1 : peek P h (Op.equalIn 9999 t_string (.string a) (.string a)) = some (a == a) := by kernel_rfl
  have p2 : peek P h (Op.equalIn 9999 t_int (.int .i64 s) (.int .i64 s)) = some (s == s) := by kernel_rfl
  rw [ba_beq_self] at p1
  rw [beq_self_eq_true] at p2
  refine (q_neqStruct x y (fun _ => true) u_api_Item (by kernel_rfl) (by kernel_rfl) fun f hf => ?_).trans (congrArg K (by kernel_rfl))
  obtain ⟨i, hi⟩ := List.mem_iff_getElem?.1 hf
  obtain ⟨hlt, e⟩ := List.getElem?_eq_some_iff.1 hi
  subst e
  match i with
  | 0 => exact ⟨by kernel_rfl, .string a, .string a, by kernel_rfl, by kernel_rfl, p1⟩
  | 1 => exact ⟨by kernel_rfl, .int .i64 s, .int .i64 s, by kernel_rfl, by kernel_rfl, p2⟩
  | i + 2 => exact absurd hlt (by
      have : ∀ n, n = 2 → ¬ i + 2 < n := by omega
      exact this _ (by kernel_rfl))
theorem popP_map {lim : Nat} : ∀ L : List Ent, popP lim (L.map ns) = ((popE lim L).1.map ns, (popE lim L).2.map ns)
  | [] => rfl
  | e :: L => by
    have ih := popP_map (lim := lim) L
    rw [List.map_cons, popP, popE, ih]
    have : sumP (ns e :: L.map ns) = sumS (e :: L) := sumP_map (e :: L)
    rw [this]
    split <;> rfl
theorem CAt.drop_flt {h : Hp} {c qt now : Nat} {L : List Ent} {S : List Nat} (a : CAt h c qt now L S) (n : ByteArray) : dropP n (L.map ns) = (L.filter fun e => e.name ≠ n).map ns := by
  obtain ⟨xs, vh, Sh, r, es, clk, cl, rfl⟩ := a
  rcases cl.look n with ⟨_, hn⟩ | ⟨A, e, B, _, hL, hn, hx⟩
  · rw [flt_all hn, dropP_no]
    intro x hx
    obtain ⟨y, hy, rfl⟩ := List.mem_map.1 hx
    exact hn y hy
  · rw [dropP_map n hL hn hx, hL, flt_mid hn hx]
theorem CAt.le {h : Hp} {c qt now : Nat} {L : List Ent} {S : List Nat} (a : CAt h c qt now L S) : sumS L ≤ qt := by
  obtain ⟨xs, vh, Sh, r, es, clk, cl, rfl⟩ := a
  exact cl.le
theorem CAt.qb {h : Hp} {c qt now : Nat} {L : List Ent} {S : List Nat} (a : CAt h c qt now L S) : qt ≤ 9223372036854775807 := by
  obtain ⟨xs, vh, Sh, r, es, clk, cl, rfl⟩ := a
  exact cl.qb
theorem popE_len (lim : Nat) : ∀ L : List Ent, (popE lim L).2.length ≤ L.length
  | [] => Nat.le_refl _
  | e :: L => by
    rw [popE]
    split
    · exact Nat.le_refl _
    · exact Nat.le_trans (popE_len lim L) (Nat.le_succ _)
theorem popE_len1 (lim : Nat) : ∀ L : List Ent, (popE lim L).1.length ≤ L.length
  | [] => Nat.le_refl _
  | e :: L => by
    rw [popE]
    split
    · exact Nat.zero_le _
    · exact Nat.succ_le_succ (popE_len1 lim L)
/-- The shape of a step. -/
def Do22Ty : Ty := .rcd (.cons (.int .i64) (.cons .str (.cons (.int .i64) .nil)))
theorem do22_open {R : Hp} {x : List Value} (h : Do22Ty.Rd R x) : ∃ (k : Int) (n : ByteArray) (s : Int), x = [.int .i64 k, .string n, .int .i64 s] ∧ s ≤ 9223372036854775807 := by
  have h0 : (Ty.cons (.int .i64) (.cons .str (.cons (.int .i64) .nil))).Rd R x := h
  obtain ⟨v0, r0, rfl, ⟨k, e0, _⟩, h1⟩ := Ty.Rd.one rfl h0
  obtain ⟨v1, r1, rfl, ⟨n, e1, _⟩, h2⟩ := Ty.Rd.one rfl h1
  obtain ⟨v2, r2, rfl, ⟨s, e2, w2⟩, h3⟩ := Ty.Rd.one rfl h2
  obtain rfl : r2 = [] := h3
  simp only [List.cons.injEq, and_true] at e0 e1 e2
  subst e0 e1 e2
  have hw : s ≤ 9223372036854775807 := by
    simp [Lit.wf, IntKind.min, IntKind.max, IntKind.signed, IntKind.bits] at w2
    omega
  exact ⟨k, n, s, rfl, hw⟩
theorem dd0 {h : Hp} {K : Value → Prop} (b : Nat) : q P h (Instr.fieldAt t_orloplaw22_Do (.pointer (some ⟨b, 0, none⟩)) 0) K = K (.pointer (some ⟨b, 0, none⟩)) := q_of (by kernel_rfl) K
theorem dd1 {h : Hp} {K : Value → Prop} (b : Nat) : q P h (Instr.fieldAt t_orloplaw22_Do (.pointer (some ⟨b, 0, none⟩)) 1) K = K (.pointer (some ⟨b, 1, none⟩)) := q_of (by kernel_rfl) K
theorem dd2 {h : Hp} {K : Value → Prop} (b : Nat) : q P h (Instr.fieldAt t_orloplaw22_Do (.pointer (some ⟨b, 0, none⟩)) 2) K = K (.pointer (some ⟨b, 2, none⟩)) := q_of (by kernel_rfl) K
theorem pdd1 {h : Hp} (b : Nat) : peek P h (Instr.fieldAt t_orloplaw22_Do (.pointer (some ⟨b, 0, none⟩)) 1) = some (.pointer (some ⟨b, 1, none⟩)) := by kernel_rfl
theorem prc1 {h : Hp} (b : Nat) : peek P h (Instr.fieldAt t_orlopref22_Cache (.pointer (some ⟨b, 0, none⟩)) 1) = some (.pointer (some ⟨b, 1, none⟩)) := by kernel_rfl
theorem prc0 {h : Hp} (b : Nat) : peek P h (Instr.fieldAt t_orlopref22_Cache (.pointer (some ⟨b, 0, none⟩)) 0) = some (.pointer (some ⟨b, 0, none⟩)) := by kernel_rfl
theorem sz_do22 : sz P t_orloplaw22_Do = some 3 := by kernel_rfl
theorem zr_do22 : zr P t_orloplaw22_Do = some (.agg [.int .i64 0, .string ByteArray.empty, .int .i64 0].toArray) := by kernel_rfl
theorem Two.stp {R h R' h' : Hp} {c p qt now : Nat} {L : List Ent} {S1 : List Nat} {Lr : List Nm} {S2 : List Nat} (t : Two R h c p qt now L S1 Lr S2) (s : Stp R h R' h' [] []) : Two R' h' c p qt now L S1 Lr S2 := by
  obtain ⟨a1, _, a3⟩ := s.frame t.o1 (fun b _ h1 => by cases h1)
  obtain ⟨b1, _, b3⟩ := s.frame t.o2 (fun b _ h1 => by cases h1)
  exact ⟨a1, b1, t.dj, t.ca.keep a3, t.rc.keep b3⟩
section
variable {h : Hp} {K : Value → Hp → Prop}
theorem T_ref22_Same {v w : Value} {A : List Nm} (hl : A.length ≤ 1000000) (r1 : Rds h 2 v (rowL A) A.length) (r2 : Rds h 2 w (rowL A) A.length) (k : K (.bool true) h) : Cn P n_orlopref22_Same #[v, w] h K := by
  refine F_orlopref22_Same ?_
  unfold s_orlopref22_Same
  obtain ⟨_, a1, c1, rfl, _, _⟩ := id r1
  obtain ⟨_, a2, c2, rfl, _, _⟩ := id r2
  have ln : ∀ {h : Hp} {K : Value → Prop} (a : Option Addr) (c : Nat), q P h (Builtin.len_ #[t_Sl_api_Item] t_int #[.slice a A.length c]) K = K (.int .i64 (A.length : Nat)) := fun {h K} a c => q_lenS u_Sl_api_Item _ _ _
  have ne : (((A.length : Nat) : Int) != ((A.length : Nat) : Int)) = false := by simp
  simp -zeta only [GL, ln, ne, Bool.false_eq_true, if_false]
  refine Lp_mk (fun m vs h' => ∃ i : Nat, i + m = A.length ∧ vs = [.bool false, .int .i64 (i : Int)] ∧ h' = h) A.length ⟨0, by omega, rfl, rfl⟩ ?_
  rintro m vs h' ⟨i, hi, rfl, rfl⟩
  simp -zeta (disch := omega) only [GL, ln, lt_dec]
  by_cases hlt : i < A.length
  · obtain ⟨b1, o1, x1, x2, x3⟩ := it_at (x := A[i]) r1 (List.getElem?_eq_getElem hlt)
    obtain ⟨b2, o2, y1, y2, y3⟩ := it_at (x := A[i]) r2 (List.getElem?_eq_getElem hlt)
    have l1 : ∀ {K : Value → Prop}, q P h' (Instr.loadAt t_api_Item (.pointer (some ⟨b1, o1, none⟩))) K = K (.agg (itC A[i]).toArray) := fun {K} => q_ldAgg u_api_Item rfl z_api_Item fun j x e => by
      match j with
      | 0 => rw [x2]; exact e
      | 1 => rw [x3]; exact e
      | j + 2 => simp [itC] at e
    have l2 : ∀ {K : Value → Prop}, q P h' (Instr.loadAt t_api_Item (.pointer (some ⟨b2, o2, none⟩))) K = K (.agg (itC A[i]).toArray) := fun {K} => q_ldAgg u_api_Item rfl z_api_Item fun j x e => by
      match j with
      | 0 => rw [y2]; exact e
      | 1 => rw [y3]; exact e
      | j + 2 => simp [itC] at e
    have e1 : IntKind.i64.wrap ((i : Int) + 1) = ((i + 1 : Nat) : Int) := by rw [wi64 (by omega) (by omega)]; omega
    simp -zeta (disch := omega) only [hlt, decide_true, if_true, GL, RL, x1, y1, l1, l2]
    have ne2 : ∀ {K : Value → Prop} (x y : Operand), q P h' (eqop .neq t_api_Item x y (.agg (itC A[i]).toArray) (.agg (itC A[i]).toArray)) K = K (.bool false) := fun {K} x y => q_neItem x y _ _
    rw [ne2]
    simp -zeta only [GL, RL, Bool.false_eq_true, if_false, e1]
    exact ⟨h', .refl _, m - 1, by omega, i + 1, by omega, rfl, rfl⟩
  · simp -zeta only [hlt, decide_false, Bool.false_eq_true, if_false]
    exact k
theorem T_CachePlays {v : Value} {items : List (List Value)} (quota : Int) (hq : quota ≤ 9223372036854775807) (A : SlAt h 3 v items) (D : ∀ x ∈ items, Do22Ty.Rd h x) (ll : items.length ≤ 9223372036854775807) (k : ∀ h', K (.bool true) h') :
    Cn P n_orloplaw22_CachePlays #[.int .i64 quota, v] h K := by
  refine F_orloplaw22_CachePlays ?_
  unfold s_orloplaw22_CachePlays
  refine T_awake22 fun h1 x1 => ?_
  replace A := A.mono x1.cle
  replace D : ∀ x ∈ items, Do22Ty.Rd h1 x := fun x hx => (D x hx).mono x1.cle
  clear x1
  have w0 : Own h1 h1 [] := ⟨.refl _, fun b hb => (by cases hb), fun b hb => (by cases hb)⟩
  simp -zeta only [GL, RL, Bool.not_true, Bool.false_eq_true, if_false]
  refine T_newCache quota hq w0 fun c h2 S2 s2 o2 f2 a2 => ?_
  refine T_ref22_New quota o2 fun p h4 s4 x4 o4 pS a4 => ?_
  have W4 : Two h1 h4 c p quota.toNat 0 [] S2 [] [p] := ⟨s4.own, o4, fun b hb hp => by rw [List.mem_singleton.1 hp] at hb; exact pS hb, a2.ext o2 x4, a4⟩
  clear a2 o2 f2 s2 w0 s4 x4 o4 pS a4
  generalize quota.toNat = qt at W4
  have qb := W4.ca.qb
  obtain ⟨av, cv, rfl, hcv⟩ := A.shape
  have lnv : ∀ {h : Hp} {K : Value → Prop}, q P h (Builtin.len_ #[t_Sl_orloplaw22_Do] t_int #[.slice av items.length cv]) K = K (.int .i64 (items.length : Nat)) := fun {h K} => q_lenS u_Sl_orloplaw22_Do _ _ _
  refine Lp_mk (fun m vs h' => ∃ (i now : Nat) (L : List Ent) (R : Hp) (S1 S2 : List Nat), i + m = 100 ∧ i ≤ items.length ∧ now ≤ i ∧ L.length ≤ i ∧ Hp.ext h1 R ∧ Two R h' c p qt now L S1 (L.map ns) S2 ∧ vs = [.bool false, .int .i64 (i : Int)]) 100
    ⟨0, 0, [], h1, S2, [p], by omega, by omega, by omega, Nat.le_refl _, .refl _, W4, rfl⟩ ?_
  clear W4
  rintro m vs h5 ⟨i, now, L, R, S1, S2, hi, hil, hnow, hL, xR, W, rfl⟩
  intro J10
  have p10 : i < items.length → i < 100 → J10 h5 := by
    intro g1 g2
    simp -zeta only [J10]
    clear J10
    have ex : items[i]? = some items[i] := List.getElem?_eq_getElem g1
    have DR := (D items[i] (List.getElem_mem g1)).mono xR.cle
    have fx := DR.flat
    obtain ⟨kk, n, s, e, hs⟩ := do22_open DR
    have AR := A.mono (xR.trans W.o1.sub).cle
    refine aw_itemAt (R := h5) (zs := [.int .i64 0, .string ByteArray.empty, .int .i64 0]) u_Sl_orloplaw22_Do sz_do22 u_orloplaw22_Do rfl zr_do22 rfl AR (.refl _) ex DR.len fx fun r hr => ?_
    rw [e]
    have sB := Stp.block (.row t_orloplaw22_Do [.int .i64 kk, .string n, .int .i64 s] 3 (some (0, 0))) W.o1.nil hr
    have W8 := W.stp sB
    have rw8 : (R.set r (.row t_orloplaw22_Do [.int .i64 kk, .string n, .int .i64 s] 3 (some (0, 0)))) r = some (.row t_orloplaw22_Do [.int .i64 kk, .string n, .int .i64 s] 3 (some (0, 0))) := Hp.set_same ..
    have x8 := xR.trans sB.ext
    clear sB W AR fx DR hr e ex
    generalize h5.set r (.row t_orloplaw22_Do [.int .i64 kk, .string n, .int .i64 s] 3 (some (0, 0))) = h8 at W8 ⊢
    generalize R.set r (.row t_orloplaw22_Do [.int .i64 kk, .string n, .int .i64 s] 3 (some (0, 0))) = R8 at W8 rw8 x8
    have cells : ∀ {H R' : Hp}, Hp.ext R8 R' → Hp.ext R' H → H.cell ⟨r, 0, none⟩ = some (.int .i64 kk) ∧ H.cell ⟨r, 1, none⟩ = some (.string n) ∧ H.cell ⟨r, 2, none⟩ = some (.int .i64 s) := fun {H R'} e1 e2 => by
      have := e2 _ _ (e1 _ _ rw8)
      exact ⟨by rw [cell_row this]; rfl, by rw [cell_row this]; rfl, by rw [cell_row this]; rfl⟩
    intro J14
    have q14 : ∀ (t4 : Value) (h' : Hp) (L' : List Ent) (now' : Nat) (R' : Hp) (S1' S2' : List Nat), t4 = .bool false → Hp.ext R8 R' → now' ≤ i + 1 → L'.length ≤ i + 1 → Two R' h' c p qt now' L' S1' (L'.map ns) S2' → J14 t4 h' := by
      rintro t4 h' L' now' R' S1' S2' rfl e8 hn' hl' W'
      simp -zeta only [J14]
      clear J14
      obtain ⟨vL, So, hp, ho, hpn, eS⟩ := id W'.rc
      have c0 : h'.cell ⟨p, 0, none⟩ = some (.int .i64 (qt : Int)) := by rw [cell_row hp]; rfl
      have c1 : h'.cell ⟨p, 1, none⟩ = some vL := by rw [cell_row hp]; rfl
      simp -zeta only [GL, RL, rc1, c1]
      refine T_Items W'.o1 W'.ca fun v1 R1 h1' s1' a1' r1' => ?_
      obtain ⟨_, _, kp⟩ := s1'.frame W'.o2 (fun b h2 h1 => W'.dj b h1 h2)
      have W1 := W'.step1 s1' a1'
      have hp1 : h1' p = some (.row t_orlopref22_Cache [.int .i64 (qt : Int), vL] 2 (some (0, 0))) := by rw [kp p (by rw [eS]; simp)]; exact hp
      have d0 : h1'.cell ⟨p, 0, none⟩ = some (.int .i64 (qt : Int)) := by rw [cell_row hp1]; rfl
      have d1 : h1'.cell ⟨p, 1, none⟩ = some vL := by rw [cell_row hp1]; rfl
      refine ⟨pk_q fun K => by simp only [RL, d1, GL], prc1 p, ?_⟩
      have ho1 := ho.keep fun x hx => kp x (by rw [eS]; exact List.mem_cons_of_mem _ hx)
      refine T_ref22_Same (A := L'.map ns) (by rw [List.length_map]; omega) (by rw [List.length_map]; exact r1'.mono W1.o1.sub.cle) ho1.rds ?_
      simp -zeta only [GL, RL, Bool.not_true, if_true]
      have hle := W1.ca.le
      refine T_Used W1.ca ?_
      refine T_ref22_Used W1.rc (by rw [List.length_map]; omega) (by rw [sumP_map]; omega) ?_
      have ne : (((sumS L' : Nat) : Int) != ((sumS L' : Nat) : Int)) = false := by simp
      simp -zeta only [sumP_map, GL, RL, ne, if_true, rc0, d0]
      refine T_Used W1.ca ?_
      refine ⟨pk_q fun K => by simp only [RL, d0, GL], prc0 p, ?_⟩
      have ng : decide ((qt : Int) < ((sumS L' : Nat) : Int)) = false := by simp; omega
      simp -zeta only [GL, RL, ng, if_true]
      refine T_Used W1.ca ?_
      have ng2 : decide (((sumS L' : Nat) : Int) < 0) = false := by simp
      have e1 : IntKind.i64.wrap ((i : Int) + 1) = ((i + 1 : Nat) : Int) := by rw [wi64 (by omega) (by omega)]; omega
      simp -zeta only [GL, RL, ng2, Bool.false_eq_true, if_false, e1]
      exact ⟨h1', .refl _, m - 1, by omega, i + 1, now', L', R1, S1', S2', by omega, by omega, hn', hl', (x8.trans e8).trans s1'.ext, W1, rfl⟩
    clear_value J14
    have hle := W8.ca.le
    obtain ⟨c0, c1, c2⟩ := cells (.refl _) W8.o1.sub
    simp -zeta (disch := omega) only [GL, RL, dd0, dd1, dd2, c0, c1, c2]
    by_cases k0 : kk = 0
    · subst k0
      have z0 : ((0 : Int) == 0) = true := rfl
      simp -zeta (disch := omega) only [z0, if_true]
      refine T_Put n s (by omega) (by omega) (by omega) W8.o1 W8.ca (fun hneg => ?_) (fun hbig => ?_) fun hs0 hsq v1 e1 R1 h1' S1' n1 z1 u1 s1' a1' r1' => ?_
      · rw [ext0, ext1]
        simp -zeta (disch := omega) only [GL, RL, dd0, dd1, dd2, c0, c1, c2]
        refine T_ref22_Put n s (by omega) (by omega) (by rw [sumP_map]; omega) (by rw [List.length_map]; omega) W8.o2 W8.rc (fun _ => ?_) (fun _ => by omega) fun _ _ => by omega
        rw [ext0, ext1]
        have ne : ((1 : Int) != 1) = false := rfl
        simp -zeta (disch := omega) only [GL, RL, ne, if_true]
        refine T_ref22_Texts (A := []) (by simp) ⟨rfl, none, 0, rfl, Nat.le_refl _, .inl rfl⟩ ⟨rfl, none, 0, rfl, Nat.le_refl _, .inl rfl⟩ ?_
        simp -zeta (disch := omega) only [GL, RL, Bool.not_true, Bool.false_eq_true, if_false]
        exact q14 _ _ _ _ _ _ _ rfl (.refl _) (by omega) (by omega) W8
      · rw [ext0, ext1]
        simp -zeta (disch := omega) only [GL, RL, dd0, dd1, dd2, c0, c1, c2]
        refine T_ref22_Put n s (by omega) (by omega) (by rw [sumP_map]; omega) (by rw [List.length_map]; omega) W8.o2 W8.rc (fun _ => by omega) (fun _ => ?_) fun _ _ => by omega
        rw [ext0, ext1]
        have ne : ((3 : Int) != 3) = false := rfl
        simp -zeta (disch := omega) only [GL, RL, ne, if_true]
        refine T_ref22_Texts (A := []) (by simp) ⟨rfl, none, 0, rfl, Nat.le_refl _, .inl rfl⟩ ⟨rfl, none, 0, rfl, Nat.le_refl _, .inl rfl⟩ ?_
        simp -zeta (disch := omega) only [GL, RL, Bool.not_true, Bool.false_eq_true, if_false]
        exact q14 _ _ _ _ _ _ _ rfl (.refl _) (by omega) (by omega) W8
      · have W1 := W8.step1 s1' a1'
        obtain ⟨d0, d1, d2⟩ := cells s1'.ext W1.o1.sub
        rw [ext0, ext1]
        simp -zeta (disch := omega) only [GL, RL, dd0, dd1, dd2, d0, d1, d2]
        have df := W8.ca.drop_flt n
        refine T_ref22_Put n s (by omega) (by omega) (by rw [sumP_map]; omega) (by rw [List.length_map]; omega) W1.o2 W1.rc (fun _ => by omega) (fun _ => by omega) fun _ _ v2 R2 h2' S2' s2' a2' r2' => ?_
        rw [df, popP_map] at a2' r2'
        generalize hF : (L.filter fun e => decide (e.name ≠ n)) = F at a1' r1' W1 a2' r2'
        have lF : F.length ≤ i := by rw [← hF]; exact Nat.le_trans (List.length_filter_le _ _) hL
        have lp := popE_len (qt - s.toNat) F
        have lp1 := popE_len1 (qt - s.toNat) F
        have mp : (popE (qt - s.toNat) F).2.map ns ++ [(n, s.toNat)] = ((popE (qt - s.toNat) F).2 ++ [e1]).map ns := by rw [List.map_append, List.map_cons, List.map_nil, ns, n1, z1]
        simp only [mp] at a2'
        have W2 := W1.step2 s2' a2'
        rw [ext0, ext1]
        have ne : ((0 : Int) != 0) = false := rfl
        simp -zeta (disch := omega) only [GL, RL, ne, if_true]
        refine T_ref22_Texts (A := (popE (qt - s.toNat) F).1.map Ent.name) (by rw [List.length_map]; omega) ?_ ?_ ?_
        · rw [List.length_map, List.map_map]
          exact (r1'.mono s2'.ext.cle).mono W2.o1.sub.cle
        · rw [List.length_map, List.map_map]
          have := r2'.mono W2.o1.sub.cle
          simp only [List.map_map, List.length_map] at this
          exact this
        · simp -zeta (disch := omega) only [GL, RL, Bool.not_true, Bool.false_eq_true, if_false]
          exact q14 _ _ _ _ _ _ _ rfl (s1'.ext.trans s2'.ext) (by omega) (by rw [List.length_append]; simp; omega) W2
    have z0 : (kk == 0) = false := by rw [beq_eq_false_iff_ne]; exact k0
    simp -zeta (disch := omega) only [z0, Bool.false_eq_true, if_false]
    by_cases k1 : kk = 1
    · subst k1
      have z1 : ((1 : Int) == 1) = true := rfl
      simp -zeta (disch := omega) only [z1, if_true]
      refine T_Touch n (by omega) W8.o1 W8.ca (fun hno => ?_) fun A1 e B1 h1' S1' hL1 hn1 hx1 s1' a1' => ?_
      · refine ⟨pk_q fun K => by simp only [RL, c1, GL], pdd1 r, ?_⟩
        refine T_ref22_Touch n W8.o2 W8.rc (by rw [List.length_map]; omega) (fun _ => ?_) fun A' x' B' _ _ hL' hn' _ _ _ => ?_
        · simp -zeta (disch := omega) only [GL, RL, BEq.rfl, Bool.not_true, Bool.false_eq_true, if_false]
          exact q14 _ _ _ _ _ _ _ rfl (.refl _) (by omega) (by omega) W8
        · exfalso
          have : x' ∈ L.map ns := by rw [hL']; simp
          obtain ⟨y, hy, rfl⟩ := List.mem_map.1 this
          exact hno y hy hn'
      · have W1 := W8.step1 s1' a1'
        obtain ⟨d0, d1, d2⟩ := cells s1'.ext W1.o1.sub
        refine ⟨pk_q fun K => by simp only [RL, d1, GL], pdd1 r, ?_⟩
        refine T_ref22_Touch n W1.o2 W1.rc (by rw [List.length_map]; omega) (fun hno => ?_) fun A' x' B' h2' S2' hL' hn' hA' s2' a2' => ?_
        · exact absurd hn1 (hno (ns e) (List.mem_map_of_mem (by rw [hL1]; simp)))
        · rw [touch_eq hL1 hn1 hx1 hL' hn' hA' (now + 1)] at a2'
          have W2 := W1.step2 s2' a2'
          have lL : L.length = A1.length + 1 + B1.length := by rw [hL1]; simp; omega
          simp -zeta (disch := omega) only [GL, RL, BEq.rfl, Bool.not_true, Bool.false_eq_true, if_false]
          exact q14 _ _ _ _ _ _ _ rfl (s1'.ext.trans s2'.ext) (by omega) (by simp; omega) W2
    have z1 : (kk == 1) = false := by rw [beq_eq_false_iff_ne]; exact k1
    simp -zeta (disch := omega) only [z1, Bool.false_eq_true, if_false]
    refine T_Drop n W8.o1 W8.ca (fun hno => ?_) fun A1 e B1 h1' S1' hL1 hn1 hx1 s1' a1' => ?_
    · refine ⟨pk_q fun K => by simp only [RL, c1, GL], pdd1 r, ?_⟩
      refine T_ref22_Drop n W8.o2 W8.rc (by rw [List.length_map]; omega) (fun _ => ?_) fun A' x' B' _ _ hL' hn' _ _ _ => ?_
      · simp -zeta (disch := omega) only [GL, RL, BEq.rfl, Bool.not_true, Bool.false_eq_true, if_false]
        exact q14 _ _ _ _ _ _ _ rfl (.refl _) (by omega) (by omega) W8
      · exfalso
        have : x' ∈ L.map ns := by rw [hL']; simp
        obtain ⟨y, hy, rfl⟩ := List.mem_map.1 this
        exact hno y hy hn'
    · have W1 := W8.step1 s1' a1'
      obtain ⟨d0, d1, d2⟩ := cells s1'.ext W1.o1.sub
      refine ⟨pk_q fun K => by simp only [RL, d1, GL], pdd1 r, ?_⟩
      refine T_ref22_Drop n W1.o2 W1.rc (by rw [List.length_map]; omega) (fun hno => ?_) fun A' x' B' h2' S2' hL' hn' hA' s2' a2' => ?_
      · exact absurd hn1 (hno (ns e) (List.mem_map_of_mem (by rw [hL1]; simp)))
      · have eq2 : A' ++ B' = (A1 ++ B1).map ns := by rw [← dropP_map n hL1 hn1 hx1, hL', dropP_at hn' hA']
        rw [eq2] at a2'
        have W2 := W1.step2 s2' a2'
        have lL : L.length = A1.length + 1 + B1.length := by rw [hL1]; simp; omega
        simp -zeta (disch := omega) only [GL, RL, BEq.rfl, Bool.not_true, Bool.false_eq_true, if_false]
        exact q14 _ _ _ _ _ _ _ rfl (s1'.ext.trans s2'.ext) (by omega) (by simp; omega) W2
  clear_value J10
  simp -zeta only [GL, RL, lnv, lt_dec]
  have e100 : decide ((i : Int) < 100) = decide (i < 100) := lt_dec i 100
  by_cases g1 : i < items.length
  · simp -zeta only [g1, decide_true, if_true, GL, RL, e100]
    by_cases g2 : i < 100
    · rw [if_pos (by simp; omega)]
      exact p10 g1 g2
    · rw [if_neg (by simp; omega)]
      exact k _
  · simp -zeta only [g1, decide_false, Bool.false_eq_true, if_false, GL, RL]
    exact k _
end
end Go.Proofs.Ytbglokdjlbknaaa
set_option linter.unusedSimpArgs false
set_option linter.unusedVariables false
set_option maxRecDepth 100000
namespace Go.Proofs.Ytbglokdjlbknaaa
open Go Go.SL Go.Pure
open Go.ChangeShapes Go.WideShapes Go.ChangeAt Go.RowKit
/-- All cells that lie in memory, to read. -/
def readAll (w : World) : Hp := fun b => match w.heap[b]? with
  | some (.cells c e _) => some (.row e c.toList c.size none)
  | _ => none
theorem readAll_sat (w : World) : (readAll w).sat w := by
  intro b o e
  unfold readAll at e
  split at e
  · rename_i c el f hb
    cases e
    refine ⟨_, hb, rfl, rfl, by simp, fun i v hv => by simpa using hv, fun f hf => by cases hf⟩
  · cases e
theorem readAll_own (w : World) (b : Nat) : ¬ (readAll w).own b := by
  rintro ⟨o, e, hr⟩
  unfold readAll at e
  split at e
  · cases e; cases hr
  · cases e
theorem readAll_cell {w : World} {b o : Nat} {v : Value} (e : w.cell? ⟨b, o, none⟩ = some v) : (readAll w).cell ⟨b, o, none⟩ = some v := by
  unfold World.cell? at e
  unfold Hp.cell readAll
  dsimp only at e ⊢
  split at e
  · rename_i c el f hb
    rw [hb]
    simpa using e
  · cases e
theorem below_of {w w' : World} {h' : Hp} (f : Fr (readAll w) h' w w') : Below w.heap.size w w' :=
  ⟨f.os, f.tape, f.output, f.size, fun k hk => f.keep k hk (readAll_own w k)⟩
theorem ownNone : ownKnob Try.prog.godebug = none := by kernel_rfl
theorem laidOut : laidOutB Try.prog = true := by kernel_rfl
/-- The walk of a statement that tells true. -/
theorem tells_true {f : FuncId} {args : Array Value} {w : World} (c : Cn P f args (readAll w) fun v _ => v = .bool true) : Calls P f args w fun e w' => e = .returned (.bool true) ∧ Below w.heap.size w w' :=
  (c.2 w (readAll_sat w)).mono fun e w' ⟨v, h', he, _, f', hv⟩ => ⟨by rw [he, hv], below_of f'⟩
end Go.Proofs.Ytbglokdjlbknaaa
set_option linter.unusedSimpArgs false
set_option linter.unusedVariables false
set_option maxRecDepth 100000
namespace Go.Proofs.Ytbglokdjlbknaaa
open Go Go.SL Go.Pure
open Go.ChangeShapes Go.WideShapes Go.ChangeAt Go.RowKit
theorem ty_open {H : Type} {enc : TypeId × Value → H} {w : World} : ∀ (ty : Ty),
    (∀ (t : TypeId) (fuel : Nat) (cs : List Value) (x : DataW H × List MemPlace), tyB P ty (.inl t) = true → DataW.trod enc P w 0 (fun _ => true) true fuel t cs = some x → ty.Rd (readAll w) cs) ∧
    (∀ (o : Nat) (l : List Field) (n : Nat) (cs : List Value), tyB P ty (.inr (o, l)) = true → cs.length = o + ty.size → (∀ (j : Nat) (f : Field), l[j]? = some f → ∃ y, DataW.trod enc P w 0 (fun _ => true) true n f.type ((cs.drop f.offset).take (P.cellsOf f.type)) = some y) → ty.Rd (readAll w) (cs.drop o)) := by
  intro ty
  induction ty with
  | int k =>
    refine ⟨fun t fuel cs x hb h => ?_, fun o l n cs hb => by simp [tyB] at hb⟩
    unfold tyB at hb
    split at hb
    · rename_i k' hu
      obtain ⟨n, rfl, _, hw⟩ := DataW.trod_int hu h
      rw [beq_iff_eq] at hb
      subst hb
      exact ⟨n, rfl, hw⟩
    · cases hb
  | bool =>
    refine ⟨fun t fuel cs x hb h => ?_, fun o l n cs hb => by simp [tyB] at hb⟩
    unfold tyB at hb
    split at hb
    · rename_i hu
      obtain ⟨b, rfl, _⟩ := DataW.trod_bool hu h
      exact ⟨b, rfl⟩
    · cases hb
  | str =>
    refine ⟨fun t fuel cs x hb h => ?_, fun o l n cs hb => by simp [tyB] at hb⟩
    unfold tyB at hb
    split at hb
    · rename_i hu
      obtain ⟨s, rfl, _, hs⟩ := DataW.trod_string hu h
      exact ⟨s, rfl, Nat.le_trans hs (by decide)⟩
    · cases hb
  | sl e ih =>
    refine ⟨fun t fuel cs x hb h => ?_, fun o l n cs hb => by simp [tyB] at hb⟩
    unfold tyB at hb
    split at hb
    · rename_i te hu
      simp only [Bool.and_eq_true, beq_iff_eq, decide_eq_true_eq] at hb
      obtain ⟨⟨hc, h0⟩, hb⟩ := hb
      rcases DataW.trod_slice hu h with ⟨rfl, _⟩ | ⟨a', len, cap, elems, rest, m, _, rfl, _, _, hl, hm, hlen, hel, _, _⟩
      · exact ⟨_, [], rfl, ⟨none, 0, rfl, Nat.le_refl _, .inl rfl⟩, by simp, by simp⟩
      · have each : ∀ i, i < len → ∃ cs : List Value, cs.length = e.size ∧ e.Rd (readAll w) cs ∧ ∀ j y, cs[j]? = some y → w.cell? ((a'.add (i * e.size)).add j) = some y := by
          intro i hi
          have h1 := hel i hi
          rw [hc, List.getElem?_eq_getElem (by omega), Option.bind_eq_some_iff] at h1
          obtain ⟨cs, hcs, htr⟩ := h1
          obtain ⟨_, hlen, hcell⟩ := World.cells?_some hcs
          refine ⟨cs, hlen, ih.1 te m cs _ hb htr, fun j y ey => ?_⟩
          have hlt := (List.getElem?_eq_some_iff.1 ey).1
          rw [hcell j (by omega)]
          exact ey
        obtain ⟨f, hfn⟩ : ∃ f : Nat → List Value, ∀ i, i < len → (f i).length = e.size ∧ e.Rd (readAll w) (f i) ∧ ∀ j y, (f i)[j]? = some y → w.cell? ((a'.add (i * e.size)).add j) = some y := by
          refine ⟨fun i => if q : i < len then (each i q).choose else [], fun i hi => ?_⟩
          simp only [hi, dif_pos]
          exact (each i hi).choose_spec
        have hget : ∀ (i : Nat) (x : List Value), ((List.range len).map f)[i]? = some x → i < len ∧ x = f i := by
          intro i x e
          have hi : i < len := by simpa using (List.getElem?_eq_some_iff.1 e).1
          rw [List.getElem?_map, List.getElem?_range hi] at e
          exact ⟨hi, by simpa using e.symm⟩
        have ll : ((List.range len).map f).length = len := by simp
        have hm' : cap ≤ 9223372036854775807 := Nat.le_trans hm (by decide)
        refine ⟨_, (List.range len).map f, rfl, ⟨some a', cap, by rw [ll], by rw [ll]; exact hl, ?_⟩, by rw [ll]; omega, fun x hx => ?_⟩
        · by_cases hl0 : len = 0
          · left; subst hl0; rfl
          · right
            obtain ⟨l0, _, c0⟩ := hfn 0 (by omega)
            have hc0 := c0 0 _ (List.getElem?_eq_getElem (by omega))
            obtain ⟨b, o, sp⟩ := a'
            have hsp : sp = none := by
              cases sp with
              | none => rfl
              | some s =>
                unfold World.cell? Addr.add at hc0
                dsimp only at hc0
                split at hc0 <;> simp at hc0
            subst hsp
            refine ⟨b, o, rfl, fun i x e j y ey => ?_⟩
            obtain ⟨hi, rfl⟩ := hget i x e
            have := (hfn i hi).2.2 j y ey
            rw [add_off, add_off] at this
            exact readAll_cell this
        · obtain ⟨i, hi, rfl⟩ := List.mem_map.1 hx
          have hi : i < len := by simpa using hi
          exact ⟨(hfn i hi).1, (hfn i hi).2.1⟩
    · cases hb
  | arr n e ih =>
    refine ⟨fun t fuel cs x hb h => ?_, fun o l n cs hb => by simp [tyB] at hb⟩
    unfold tyB at hb
    split at hb
    · rename_i m te hu
      simp only [Bool.and_eq_true, beq_iff_eq] at hb
      obtain ⟨⟨⟨rfl, hc⟩, hct⟩, hb⟩ := hb
      obtain ⟨xs, k, _, _, hlen, hl, hel⟩ := DataW.trod_array hu h
      rw [hct] at hlen
      have piece : ∀ i, i < m → ((cs.drop (i * e.size)).take e.size).length = e.size ∧ e.Rd (readAll w) ((cs.drop (i * e.size)).take e.size) := fun i hi => by
        have h1 := hel i hi
        rw [hc, List.getElem?_eq_getElem (by omega)] at h1
        refine ⟨?_, ih.1 te k _ _ hb h1⟩
        rw [List.length_take, List.length_drop, hlen]
        have : (i + 1) * e.size ≤ m * e.size := Nat.mul_le_mul_right _ hi
        rw [Nat.succ_mul] at this
        omega
      have flat : ∀ (m : Nat) (cs : List Value), cs.length = m * e.size → ((List.range m).map fun i => (cs.drop (i * e.size)).take e.size).flatten = cs := by
        intro m
        induction m with
        | zero => intro cs hl; obtain rfl : cs = [] := List.eq_nil_of_length_eq_zero (by simpa using hl); rfl
        | succ m ihm =>
          intro cs hl
          rw [Nat.succ_mul] at hl
          rw [List.range_succ_eq_map, List.map_cons, List.map_map, List.flatten_cons, Nat.zero_mul, List.drop_zero]
          have e1 : ((fun i => (cs.drop (i * e.size)).take e.size) ∘ Nat.succ) = fun i => ((cs.drop e.size).drop (i * e.size)).take e.size := by
            funext i
            show (cs.drop ((i + 1) * e.size)).take e.size = _
            rw [List.drop_drop, Nat.succ_mul, Nat.add_comm]
          rw [e1, ihm (cs.drop e.size) (by rw [List.length_drop]; omega), List.take_append_drop]
      refine ⟨_, (flat m cs hlen).symm, by simp, fun x hx => ?_⟩
      obtain ⟨i, hi, rfl⟩ := List.mem_map.1 hx
      exact piece i (by simpa using hi)
    · cases hb
  | rcd fs ih =>
    refine ⟨fun t fuel cs x hb h => ?_, fun o l n cs hb => by simp [tyB] at hb⟩
    unfold tyB at hb
    split at hb
    · rename_i fa hu
      simp only [Bool.and_eq_true, beq_iff_eq] at hb
      obtain ⟨xs, n, _, _, hl, hlen, hf⟩ := DataW.trod_struct hu h
      have := ih.2 0 fa.toList n cs hb.2 (by rw [hl, hb.1, Nat.zero_add]) fun j f hj => by
        have := hf j f (by simpa using hj)
        have hlt : j < xs.length := by
          have := (List.getElem?_eq_some_iff.1 hj).1
          simp at this
          omega
        exact ⟨_, this.trans (List.getElem?_eq_getElem hlt)⟩
      exact this
    · cases hb
  | nil =>
    refine ⟨fun t fuel cs x hb h => by simp [tyB] at hb, fun o l n cs hb hl hf => ?_⟩
    exact List.drop_of_length_le (by rw [hl]; exact Nat.le_refl _)
  | cons a b iha ihb =>
    refine ⟨fun t fuel cs x hb h => by simp [tyB] at hb, fun o l n cs hb hl hf => ?_⟩
    unfold tyB at hb
    cases l with
    | nil => cases hb
    | cons f l =>
      simp only [Bool.and_eq_true, beq_iff_eq] at hb
      obtain ⟨⟨⟨ho, hc⟩, h1⟩, h2⟩ := hb
      have hsz : (Ty.cons a b).size = a.size + b.size := rfl
      obtain ⟨y, hy⟩ := hf 0 f rfl
      rw [ho, hc] at hy
      refine ⟨(cs.drop o).take a.size, cs.drop (o + a.size), by rw [← List.drop_drop, List.take_append_drop], ?_, iha.1 f.type n _ _ h1 hy, ihb.2 (o + a.size) l n cs h2 (by omega) fun j g hj => hf (j + 1) g hj⟩
      rw [List.length_take, List.length_drop]
      omega
/-- A thing that is handed in. -/
theorem rd_open {H : Type} {enc : TypeId × Value → H} {w : World} {v : Value} {d : DataW H} {p : List MemPlace} (ty : Ty) {t : TypeId} (hb : tyB P ty (.inl t) = true) (h : DataW.Trod enc P w 0 (fun _ => true) true t v d p) : ty.Rd (readAll w) v.cells.toList := by
  obtain ⟨fuel, hf⟩ := h
  exact (ty_open ty).1 t fuel _ _ hb hf
end Go.Proofs.Ytbglokdjlbknaaa
set_option linter.unusedSimpArgs false
set_option linter.unusedVariables false
namespace Go.SL
open Go
theorem wf_i64 {n : Int} (h : (Lit.int .i64 n).wf = true) : -9223372036854775808 ≤ n ∧ n ≤ 9223372036854775807 := by
  simp [Lit.wf, IntKind.min, IntKind.max, IntKind.signed, IntKind.bits] at h
  omega
end Go.SL
set_option linter.unusedSimpArgs false
set_option linter.unusedVariables false
set_option maxRecDepth 100000
namespace Go.Proofs.Ytbglokdjlbknaaa
open Go Go.SL Go.Pure
open Go.ChangeShapes Go.WideShapes Go.ChangeAt Go.RowKit
namespace cachePlays
theorem lifted (os : Os) (started : os.Started) (H : Type) (enc : TypeId × Value → H) :
    ReturnsInHanded {} Try.checked os n_orloplaw22_CachePlays .any (Rows.cachePlaysSpec.pre6 enc Try.prog Try.f5 Rows.cachePlaysRow.domain false) (Rows.cachePlaysSpec.post enc Try.prog Try.f5 false true false false) := by
  refine returnsInHanded_of_change_sized (C := Try.checked) ownNone started (by kernel_rfl) Try.func5
    (ChangeSpec.witness6 (enc := enc) (C := Try.checked) false ⟨#[], #[.int .i64 0, .slice none 0 0], []⟩ 8 (by kernel_rfl) (by kernel_rfl) (by kernel_rfl) (by kernel_rfl)) ?_
  intro W base args ds gs before hval0 hW hcnd hsz0 _
  have hval : ∀ (j : Nat) t v, Try.f5.params[j]? = some t → args[j]? = some v → Value.okWide Try.prog W .any base t v := hval0
  have hW' := hW
  obtain ⟨p, q, hA0, hV, rfl, hfz, hnd⟩ := hW
  have hA : DataW.TrodAll enc Try.prog W 0 (fun _ => true) true Try.f5.params.toList args.toList ds p := hA0
  rw [Try.params5] at hA hval
  obtain ⟨v0, vs0, d0, ds0, p0, q0, hargs, rfl, rfl, h0, r0⟩ := trodAll_cons hA
  obtain ⟨v1, vs1, d1, ds1, p1, q1, rfl, rfl, rfl, h1, r1⟩ := trodAll_cons r0
  obtain ⟨rfl, rfl, rfl⟩ := trodAll_nil r1
  obtain rfl : args = #[v0, v1] := by cases args; simp_all
  obtain ⟨rfl, rfl⟩ := trodVars_none hV
  have lt0 : ∀ x ∈ p0, x.block < W.heap.size := by obtain ⟨m, hm⟩ := h0; exact DataW.trod_lt m _ _ _ hm
  have lt1 : ∀ x ∈ p1, x.block < W.heap.size := by obtain ⟨m, hm⟩ := h1; exact DataW.trod_lt m _ _ _ hm
  obtain ⟨n0, rfl, rfl, rfl, w0⟩ := open_int Try.underlying3 (hval 0 3 v0 rfl rfl) h0
  have hw0 := wf_i64 w0
  obtain ⟨a1, n1, c1, rfl⟩ := okWide_slice Try.underlying43 (hval 1 43 v1 rfl rfl)
  obtain ⟨w1, items1, e1, A1, hl1, hD1⟩ := rd_open (.sl Do22Ty) (by kernel_rfl) h1
  have e1 : [Value.slice a1 n1 c1] = [w1] := e1
  simp only [List.cons.injEq, and_true] at e1
  subst e1
  clear hA0 hval0 hsz0
  refine (tells_true (T_CachePlays n0 (by omega) A1 (fun x hx => (hD1 x hx).2) hl1 (K := fun v _ => v = .bool true) fun _ => rfl)).mono fun e W' ⟨he, bel⟩ => ?_
  subst he
  exact ⟨_, rfl, _, _, _, [], _, [], hW', trodAll_mk1 (shut_bool Try.underlying4 _), (trodAll_cons_mk (shut_int Try.underlying3 w0) (trodAll_cons_mk (Below.trod laidOut (by kernel_rfl) (of_decide_eq_true (by kernel_rfl)) h1 bel lt1) trodAll_mk0)), rfl, bel.frame _, fun h => by cases h⟩
theorem over : Rows.cachePlaysRow.holds Try.pinned (OpenSpec.ofChange Rows.cachePlaysSpec) :=
  OpenClaim.holds_of_wide 5 Try.f5 rfl rfl rfl rfl rfl rfl rfl ⟨rfl, rfl, rfl, rfl, rfl⟩ rfl rfl rfl rfl rfl (by kernel_rfl) Try.func5 (by kernel_rfl)
    (of_decide_eq_true (by kernel_rfl)) (by unfold Func.isWrapper; first | (rw [if_pos (by decide +kernel)]; kernel_rfl) | (rw [if_neg (by decide +kernel)]; exact ⟨rfl, rfl⟩))
    (fun os started H enc _ => lifted os started H enc)
theorem proved : Rows.CachePlaysSaid := over
end cachePlays
/-- The row, under a short name. -/
theorem cachePlays_holds : Rows.CachePlaysSaid := cachePlays.proved
end Go.Proofs.Ytbglokdjlbknaaa
