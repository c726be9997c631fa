/- tarLoose_holds tarLoose proved lifted over: part 3 of its proof; each part's own remarks stand with its declarations. Conditions: each lemma names its own. -/
import Derived.Test.YtflfhbnflcfmgaaGreatDoorTarLoose2
import Derived.Test.YtflfhbnflcfmgaaGreatDoorRows
import Derived.WalkKit
import Derived.ProofKit
import Derived.OpenShut
import Derived.ShutString
import Derived.ChangeOld
import Derived.Below
import Derived.Carry
import Derived.SizedLaws
import Derived.Lib.SmallJoins
import Derived.LaidMore
import Derived.LaidHandle
import Derived.LaidLaws
import Derived.MakeChecks
import Derived.Test.YtflfhbnflcfmgaaGreatDoorCards
import Derived.Test.YtflfhbnflcfmgaaGreatDoorTie
import Derived.Stop.Joined
import Derived.SevenTiedAt
set_option linter.unusedSimpArgs false
set_option linter.unusedVariables false
set_option linter.unusedSimpArgs false
set_option linter.unusedVariables false
set_option maxRecDepth 100000
set_option maxHeartbeats 1000000
namespace Go.Proofs.YtflfhbnflcfmgaaGreatDoor
open Go Go.SL Go.Pure Go.Tar
theorem set_app {H t : List Nat} {i x : Nat} (h : i < H.length) : (H ++ t).set i x = put H i [x] ++ t := by
  rw [List.set_append_left _ _ h, put_one _ _ _ h]
theorem szE_le {l : List Ent} {e : Ent} (h : e ∈ l) : szE e ≤ szL l := by
  unfold szL
  induction l with
  | nil => cases h
  | cons x l ih =>
    rw [List.map_cons, List.sum_cons]
    rcases List.mem_cons.1 h with rfl | q
    · omega
    · have := ih q; omega
section
variable {R h : Hp} {K : Value → Hp → Prop}
theorem T_TarLoose {lv : Value} {l : List Ent} {blocks owner : Nat} (hbk : blocks < 256) (ho : owner < 256) (w : Own R h []) (hP : Pow R) (hB : Bru R) (a : LiR R lv l) (hl : l.length ≤ 9223372036854775807)
    (hb : ∀ e ∈ l, e.name.length ≤ 1125899906842624 ∧ e.link.length ≤ 1125899906842624 ∧ e.data.length ≤ 1125899906842624) (k : K (.bool true) h) :
    Cn P n_orloplaw19_TarLoose #[lv, .int .u8 (blocks : Int), .int .u8 (owner : Int)] h K := by
  refine Cn_wk (F_orloplaw19_TarLoose ?_)
  unfold s_orloplaw19_TarLoose
  have x := w.sub.cle
  refine T_awake w hP hB ?_
  simp -zeta only [GL, Bool.not_true, Bool.false_eq_true, if_false]
  intro J5
  have q5 : szL l ≤ 4000 → (l.length ≤ 256 ∧ ∀ e ∈ l, okEnt e) → J5 h := by
    intro hz g
    simp -zeta only [J5]
    clear J5
    have eb : ∀ e ∈ l, okEnt e ∧ EntB e := fun e he => by
      obtain ⟨ps, el, _, en⟩ := a
      have he' := he
      rw [el] at he'
      obtain ⟨p, hp, rfl⟩ := List.mem_map.1 he'
      have := en p hp
      refine ⟨g.2 _ he, this.bn, this.bl, this.bd, ?_⟩
      have q := szE_le he
      have es : szE p.1 = 1 + p.1.name.length + p.1.link.length + p.1.data.length := rfl
      have : (4001 : Nat) < 8 ^ 11 := by decide
      omega
    have lb := bodyP_lenZ l eb
    have lw : (writeP l).length = (bodyP l).length + 1024 := by rw [writeP, List.length_append, List.length_replicate]
    have bw := writeB eb
    refine T_refWrite a x hl g (by omega) fun r h1 n1 => ?_
    have w1 : IntKind.i64.wrap (blocks : Int) = (blocks : Int) := wi64 (by omega) (by omega)
    have w2 : (blocks : Int).tmod 5 = ((blocks % 5 : Nat) : Int) := by rw [Int.tmod_eq_emod_of_nonneg (by omega)]; omega
    have w3 : IntKind.i64.wrap (512 * ((blocks % 5 : Nat) : Int)) = ((512 * (blocks % 5) : Nat) : Int) := by rw [wi64 (by omega) (by omega)]; omega
    simp -zeta (disch := decide) only [RL, GL, w1, w2, w3]
    generalize hm : 512 * (blocks % 5) = m
    have hm2 : m ≤ 2048 := by omega
    refine aw_grow (v := r) (T := t_Sl_uint8) u_Sl_uint8 u_int nfo_uint8 rfl rfl (by decide) n1 (by omega) (.refl _) fun v H n2 => ?_
    have n3 : Nn h t_uint8 .u8 v H (writeP l ++ List.replicate m 0) := by
      unfold Nn
      rw [nv_app, ← replicate_nv, List.length_append, List.length_replicate]
      exact n2
    clear n2 n1
    have rm := read_more eb g.1 m
    have bT : Bytes (writeP l ++ List.replicate m 0) := bw.append (rep_b m)
    have lT : (writeP l ++ List.replicate m 0).length = (bodyP l).length + 1024 + m := by rw [List.length_append, lw, List.length_replicate]
    have first : ∀ e l', l = e :: l' → moreP e = [] → writeP l ++ List.replicate m 0 = headP e.name e.mode.toNat e.data.length (kindP e) e.link ++ (fillP e.data ++ (bodyP l' ++ (List.replicate 1024 0 ++ List.replicate m 0))) := fun e l' q nm => by
      rw [q]; exact write_first nm m
    have pax : ∀ e l', l = e :: l' → moreP e ≠ [] → ∃ t, writeP l ++ List.replicate m 0 = headP paxS 0 (moreP e).length 120 [] ++ t := fun e l' q nm => by
      rw [q]; exact write_pax nm m
    generalize hT : writeP l ++ List.replicate m 0 = T at *
    generalize hN : T.length = N at *
    have hN2 : N ≤ 400000 := by omega
    have hN1 : 1024 ≤ N := by omega
    obtain ⟨b, c, f, hbn, hc, rfl, rfl, hf⟩ := New.form n3 (by omega)
    rw [hN] at hc ⊢
    have hf' : ∀ i, i < N → ¬ (f.1 ≤ i ∧ i < f.2) := fun i hi => hf i (by omega)
    have newB : ∀ B : List Nat, B.length = N → Nn h t_uint8 .u8 (.slice (some ⟨b, 0, none⟩) N c) (h.set b (.row t_uint8 (nv .u8 B) (c * 1) (some f))) B := fun B hB => by
      unfold Nn
      rw [hB]
      exact ⟨by rw [nv_len, hB, Nat.mul_one], .inr ⟨b, c, f, hbn, hc, rfl, rfl, hf⟩⟩
    intro J12
    have q12 : ∀ (B : List Nat) (F : Nat), B.length = N → Bytes B → readE F { b := B, path := [], link := [], told := false, list := [] } = some (some l) → readE F { b := B ++ [1], path := [], link := [], told := false, list := [] } = some none →
        J12 (h.set b (.row t_uint8 (nv .u8 B) (c * 1) (some f))) := by
      intro B F lB bB e1 e2
      simp -zeta only [J12]
      clear J12
      obtain ⟨R1, s1, r1⟩ := Stp.new w (newB B lB)
      have r1' : Rn R1 .u8 (.slice (some ⟨b, 0, none⟩) N c) B := r1
      refine T_Read s1.own (hP.mono s1.ext.cle) r1' bB (by omega) e1 (fun q => by cases q) fun l2 q R2 h2 lv2 s2 L2 => ?_
      obtain rfl : l2 = l := (Option.some.inj q).symm
      have s12 := s1.trans s2
      rw [ext0, ext1]
      refine aw_nilB fun v3 h3 n3 => ?_
      have r2 : Rn h3 .u8 (.slice (some ⟨b, 0, none⟩) N c) B := ((s2.own.rn (r1'.mono s2.ext.cle)).mono n3.cle)
      refine aw_appB n3 r2 (by simp; omega) fun v4 h4 n4 => ?_
      refine aw_lit1 1 fun v5 h5 n5 => ?_
      refine aw_appF n4 n5 (by simp; omega) fun v6 h6 n6 => ?_
      rw [List.nil_append] at n6
      obtain ⟨R6, s6, r6⟩ := Stp.new s2.own n6
      have r6' : Rn R6 .u8 v6 (B ++ [1]) := r6
      have s16 := s12.trans s6
      refine T_Read s6.own (hP.mono s16.ext.cle) r6' (bB.append (by intro z hz; rw [List.mem_singleton.1 hz]; decide)) (by simp; omega) e2 (fun _ R7 h7 s7 => ?_) (fun l3 q => by cases q)
      have s17 := s16.trans s7
      have d0 : ((0 : Int) == 0) = true := rfl
      have d8 : ((8 : Int) == 8) = true := rfl
      rw [ext0, ext1]
      simp -zeta only [GL, d0, if_true]
      refine T_refSame (L2.mono (s6.trans s7).ext.cle) (a.mono s17.ext.cle) s17.own.sub.cle hl ?_
      simp -zeta only [decide_true, GL, if_true, RL, d8]
      exact ⟨h, (Hp.ext.le fun b' o e => s17.keep b' o (by simp) e), k⟩
    clear_value J12
    have ix : ∀ {K : Value → Prop} (H : Hp) (i : Nat), i < N → q P H (Instr.indexAt 26 (.slice (some ⟨b, 0, none⟩) N c) (.int .i64 (i : Int))) K = K (.pointer (some ⟨b, i, none⟩)) := fun H i hi => by
      rw [q_idxS u_Sl_uint8 z_uint8 _ _ _ _ _ (by omega) (by omega), Int.toNat_natCast, add_off, Nat.zero_add, Nat.mul_one]
    have cl : ∀ (B : List Nat) (i : Nat), i < B.length → (h.set b (.row t_uint8 (nv .u8 B) (c * 1) (some f))).cell ⟨b, i, none⟩ = some (.int .u8 ((B.getD i 0 : Nat) : Int)) := fun B i hi => by
      rw [cell_row (Hp.set_same ..)]
      exact nv_getD _ _ _ hi
    have st : ∀ {H t : List Nat} {i x : Nat} {K : Unit → Hp → Prop}, H.length = 512 → (H ++ t).length = N → i < 512 → K () (h.set b (.row t_uint8 (nv .u8 (put H i [x] ++ t)) (c * 1) (some f))) → aw P (Instr.storeAt 5 (.pointer (some ⟨b, i, none⟩)) (.int .u8 (x : Int))) K (h.set b (.row t_uint8 (nv .u8 (H ++ t)) (c * 1) (some f))) := by
      intro H t i x K hH hN hi k
      refine aw_store z_uint8 rfl (put_row (Hp.set_same ..) (by rw [nv_len]; omega) (hf' _ (by omega)) _) ?_
      rw [Hp.set_set, nv_set, set_app (by omega)]
      exact k
    have i156 : (156 : Int) = ((156 : Nat) : Int) := rfl
    have i110 : (110 : Int) = ((110 : Nat) : Int) := rfl
    have i140 : (140 : Int) = ((140 : Nat) : Int) := rfl
    intro J13
    have qT : ∀ e l', l = e :: l' → moreP e = [] → J13 (.bool true) (h.set b (.row t_uint8 (nv .u8 T) (c * 1) (some f))) := by
      intro e l' el nm
      simp -zeta only [J13]
      clear J13
      obtain ⟨ok, be⟩ := eb e (by rw [el]; simp)
      obtain ⟨kc1, kc2, kc3⟩ := kind_cases ok
      have hT2 := first e l' el nm
      have hr := head_read (name := e.name) (link := e.link) e.mode.toNat e.data.length (kindP e) be.name be.link kc3
      have hrb := headP_b (mode := e.mode.toNat) (size := e.data.length) be.name be.link kc3
      generalize headP e.name e.mode.toNat e.data.length (kindP e) e.link = H0 at *
      have rc := fun (H : List Nat) (kd : Nat) (r : HeadR H e.name e.mode.toNat e.data.length kd e.link) (k1 : kindOfT kd = some e.kind) (k2 : kd ≠ 120) => read_changed (l := l') (by rw [← el]; exact eb) (by rw [← el]; exact g.1) nm r k1 k2 m
      rw [← el] at rc
      have bt : Bytes (fillP e.data ++ (bodyP l' ++ (List.replicate 1024 0 ++ List.replicate m 0))) := by
        have := bT
        rw [hT2] at this
        exact fun z hz => this z (by rw [List.mem_append]; exact .inr hz)
      generalize fillP e.data ++ (bodyP l' ++ (List.replicate 1024 0 ++ List.replicate m 0)) = t at *
      subst hT2
      have lN : ∀ H : List Nat, H.length = 512 → (H ++ t).length = N := fun H hH => by rw [List.length_append, hH, ← hr.len, ← List.length_append]; exact hN
      have w1 : (owner : Int).tmod 8 = ((owner % 8 : Nat) : Int) := by rw [Int.tmod_eq_emod_of_nonneg (by omega)]; omega
      have w2 : IntKind.u8.wrap (48 + ((owner % 8 : Nat) : Int)) = ((48 + owner % 8 : Nat) : Int) := by rw [wu8i (by omega) (by omega)]; omega
      have w3 : IntKind.u8.wrap ((owner : Int).tdiv 8) = ((owner / 8 : Nat) : Int) := by rw [Int.tdiv_eq_ediv_of_nonneg (by omega), wu8i (by omega) (by omega)]; omega
      have w4 : ((owner / 8 : Nat) : Int).tmod 8 = ((owner / 8 % 8 : Nat) : Int) := by rw [Int.tmod_eq_emod_of_nonneg (by omega)]; omega
      have w5 : IntKind.u8.wrap (48 + ((owner / 8 % 8 : Nat) : Int)) = ((48 + owner / 8 % 8 : Nat) : Int) := by rw [wu8i (by omega) (by omega)]; omega
      simp -zeta (disch := decide) only [GL, if_true, w1, w2]
      rw [i110, ix _ 110 (by omega)]
      refine st hr.len (lN _ hr.len) (by decide) ?_
      simp -zeta (disch := decide) only [GL, w3, w4, w5]
      have l1 : (put H0 110 [48 + owner % 8]).length = 512 := by rw [put_len (by rw [hr.len]; simp), hr.len]
      rw [i140, ix _ 140 (by omega)]
      refine st l1 (lN _ l1) (by decide) ?_
      have l2 : (put (put H0 110 [48 + owner % 8]) 140 [48 + owner / 8 % 8]).length = 512 := by rw [put_len (by rw [l1]; simp), l1]
      have ty : (put (put H0 110 [48 + owner % 8]) 140 [48 + owner / 8 % 8]).getD 156 0 = kindP e := by
        rw [get_put_gt (by simp) (by rw [l1]; decide), get_put_gt (by simp) (by rw [hr.len]; decide), hr.ty]
      intro J16
      have q16 : ∀ kd : Nat, kd < 256 → kindOfT kd = some e.kind → kd ≠ 120 → J16 (h.set b (.row t_uint8 (nv .u8 (put (put (put H0 110 [48 + owner % 8]) 140 [48 + owner / 8 % 8]) 156 [kd] ++ t)) (c * 1) (some f))) := by
        intro kd hk k1 k2
        simp -zeta only [J16]
        clear J16
        obtain ⟨r4, b4, s4, l3, b3⟩ := loose_head hr hrb (x := 48 + owner % 8) (y := 48 + owner / 8 % 8) (kd := kd) (by omega) (by omega) hk rfl
        generalize put (put (put H0 110 [48 + owner % 8]) 140 [48 + owner / 8 % 8]) 156 [kd] = H3 at *
        obtain ⟨c1, c2⟩ := rc _ kd r4 k1 k2
        have rr : Rn (h.set b (.row t_uint8 (nv .u8 (H3 ++ t)) (c * 1) (some f))) .u8 (.slice (some ⟨b, 0, none⟩) N c) (H3 ++ t) := (newB _ (lN _ l3)).rn
        have i512 : (512 : Int) = ((512 : Nat) : Int) := rfl
        rw [i512]
        refine q_slRnHi u_Sl_uint8 z_uint8 rr .i64 512 (by rw [lN _ l3]; omega) fun w' rw' => ?_
        have e512 : (H3 ++ t).take 512 = H3 := by rw [List.take_append_of_le_length (by omega), List.take_of_length_le (by omega)]
        rw [e512] at rw'
        refine T_refSum rw' b3 l3 ?_
        generalize Go.Tar.sumP H3 = s at *
        refine Lp_mk (fun m vs H => ∃ j : Nat, j + m = 6 ∧ vs = [.int .i64 ((s / 8 ^ j : Nat) : Int), .int .i64 (5 - (j : Int))] ∧ H = h.set b (.row t_uint8 (nv .u8 (put H3 (148 + (6 - j)) (asc (oct8 j s)) ++ t)) (c * 1) (some f))) 6 ⟨0, rfl, by simp, by
          have : put H3 (148 + (6 - 0)) (asc (oct8 0 s)) = H3 := by simp [put, oct8, asc]
          rw [this]⟩ ?_
        rintro n vs H ⟨j, hj, rfl, rfl⟩
        simp -zeta only [GL, List.getD_cons_zero, List.getD_cons_succ]
        by_cases hlt : j < 6
        · have d1 : decide ((0 : Int) ≤ 5 - (j : Int)) = true := decide_eq_true (by omega)
          have hh := oct8_head j s
          have hq : s / 8 ^ j / 8 = s / 8 ^ (j + 1) := by rw [Nat.div_div_eq_div_mul, ← Nat.pow_succ]
          have hle : s / 8 ^ j ≤ s := Nat.div_le_self _ _
          have s6 : s < 262144 := s4
          generalize s / 8 ^ j = u at *
          have w1 : (u : Int).tmod 8 = ((u % 8 : Nat) : Int) := by rw [Int.tmod_eq_emod_of_nonneg (by omega)]; omega
          have w2 : IntKind.i64.wrap (48 + ((u % 8 : Nat) : Int)) = ((48 + u % 8 : Nat) : Int) := by rw [wi64 (by omega) (by omega)]; omega
          have w3 : IntKind.u8.wrap ((48 + u % 8 : Nat) : Int) = ((48 + u % 8 : Nat) : Int) := wu8i (by omega) (by omega)
          have w4 : IntKind.i64.wrap ((u : Int).tdiv 8) = ((u / 8 : Nat) : Int) := by rw [Int.tdiv_eq_ediv_of_nonneg (by omega), wi64 (by omega) (by omega)]; omega
          have w5 : IntKind.i64.wrap (148 + (5 - (j : Int))) = ((148 + (5 - j) : Nat) : Int) := by rw [wi64 (by omega) (by omega)]; omega
          have w6 : IntKind.i64.wrap ((5 - (j : Int)) - 1) = 5 - ((j + 1 : Nat) : Int) := by rw [wi64 (by omega) (by omega)]; omega
          simp -zeta (disch := decide) only [d1, if_true, GL, RL, w1, w2, w3, w4, w5, w6]
          rw [ix _ _ (by omega)]
          have lp : (put H3 (148 + (6 - j)) (asc (oct8 j s))).length = 512 := by rw [put_len (by rw [asc_len, oct8_len]; omega), l3]
          refine aw_store z_uint8 rfl (put_row (Hp.set_same ..) (by rw [nv_len, lN _ lp]; omega) (hf' _ (by omega)) _) ?_
          have e6 : 6 - j = 5 - j + 1 := by omega
          have hs : (put H3 (148 + (6 - j)) (asc (oct8 j s)) ++ t).set (148 + (5 - j)) (48 + u % 8) = put H3 (148 + (6 - (j + 1))) (asc (oct8 (j + 1) s)) ++ t := by
            rw [List.set_append_left _ _ (by omega), e6, ← Nat.add_assoc, put_cons (by omega), hh]
            have : asc ([u % 8] ++ oct8 j s) = (48 + u % 8) :: asc (oct8 j s) := by simp [asc]; omega
            rw [this, show 6 - (j + 1) = 5 - j by omega]
          rw [Hp.set_set, nv_set, hs]
          exact ⟨_, .refl _, n - 1, by omega, j + 1, by omega, by rw [← hq], rfl⟩
        · obtain rfl : j = 6 := by omega
          have d1 : decide ((0 : Int) ≤ 5 - ((6 : Nat) : Int)) = false := decide_eq_false (by omega)
          simp -zeta only [d1, Bool.false_eq_true, if_false]
          have e8 : asc (oct8 6 s) = octS s 6 := by rw [octS, oct8_D s4]
          rw [Nat.sub_self, Nat.add_zero, e8]
          exact q12 _ _ (lN _ r4.len) (b4.append bt) c1 c2
      clear_value J16
      have c156 := cl (put (put H0 110 [48 + owner % 8]) 140 [48 + owner / 8 % 8] ++ t) 156 (by rw [lN _ l2]; omega)
      have e156 : (put (put H0 110 [48 + owner % 8]) 140 [48 + owner / 8 % 8] ++ t).getD 156 0 = kindP e := by
        rw [List.getD_eq_getElem?_getD, List.getElem?_append_left (by omega), ← List.getD_eq_getElem?_getD]
        exact ty
      rw [e156] at c156
      have d48 : (((kindP e : Nat) : Int) == 48) = decide (kindP e = 48) := eqNat _ 48
      rw [i156, ix _ 156 (by omega)]
      simp -zeta only [RL, GL, c156, d48]
      by_cases z : kindP e = 48
      · rw [decide_eq_true z, if_pos rfl]
        rw [ix _ 156 (by omega)]
        refine st (i := 156) (x := 0) l2 (lN _ l2) (by decide) ?_
        refine q16 0 (by decide) ?_ (by decide)
        rw [← kc1, z]
        rfl
      · rw [decide_eq_false z, if_neg (by simp)]
        have := q16 (kindP e) kc3 kc1 kc2
        have pi := put_id (B := put (put H0 110 [48 + owner % 8]) 140 [48 + owner / 8 % 8]) (i := 156) (by omega)
        rw [ty] at pi
        rw [pi] at this
        exact this
    have qF : J13 (.bool false) (h.set b (.row t_uint8 (nv .u8 T) (c * 1) (some f))) := by
      simp -zeta only [J13, GL, Bool.false_eq_true, if_false]
      exact q12 T _ hN bT rm.1 rm.2
    clear_value J13
    obtain ⟨a0, ca, rfl, hca⟩ := a.shape
    have dl : decide ((0 : Int) < ((l.length : Nat) : Int)) = decide (0 < l.length) := by rw [decide_eq_decide]; omega
    simp -zeta only [RL, GL, dl]
    match l, hT, first, pax, eb with
    | [], _, _, _, _ =>
      simp -zeta only [List.length_nil, Nat.lt_irrefl, decide_false, Bool.false_eq_true, if_false]
      exact qF
    | e :: l', hT, first, pax, eb =>
      have : decide (0 < (e :: l').length) = true := decide_eq_true (by simp)
      rw [this]
      simp -zeta only [if_true]
      obtain ⟨ok, be⟩ := eb e (by simp)
      have kc := kind_cases ok
      rw [i156, ix _ 156 (by omega)]
      have c156 := cl T 156 (by omega)
      by_cases nm : moreP e = []
      · have e156 : T.getD 156 0 = kindP e := by
          rw [first e l' rfl nm]
          have hr := head_read (name := e.name) (link := e.link) e.mode.toNat e.data.length (kindP e) be.name be.link kc.2.2
          rw [List.getD_eq_getElem?_getD, List.getElem?_append_left (by rw [hr.len]; decide), ← List.getD_eq_getElem?_getD]
          exact hr.ty
        rw [e156] at c156
        have d48 : (((kindP e : Nat) : Int) != 120) = true := by
          rw [bne_iff_ne]
          have := kc.2.1
          omega
        simp -zeta only [RL, GL, c156, d48]
        exact qT e l' rfl nm
      · have e156 : T.getD 156 0 = 120 := by
          obtain ⟨t, et⟩ := pax e l' rfl nm
          rw [et]
          have hr := head_read (name := paxS) (link := []) 0 (moreP e).length 120 bytes_paxS (by intro x hx; cases hx) (by decide)
          rw [List.getD_eq_getElem?_getD, List.getElem?_append_left (by rw [hr.len]; decide), ← List.getD_eq_getElem?_getD]
          exact hr.ty
        rw [e156] at c156
        have d48 : (((120 : Nat) : Int) != 120) = false := by decide
        simp -zeta only [RL, GL, c156, d48]
        exact qF
  clear_value J5
  refine T_Small (lim := 4000) a x hl (by decide) hb ?_ fun hz => ?_
  · simp -zeta only [GL, Bool.not_false, Bool.true_eq_false, if_false, if_true]
    exact ⟨h, .refl _, k⟩
  · simp -zeta only [GL, Bool.not_true, if_true]
    refine T_refMay a x hl ?_
    by_cases g : l.length ≤ 256 ∧ ∀ e ∈ l, okEnt e
    · rw [decide_eq_true g]
      simp -zeta only [GL, Bool.not_true, Bool.false_eq_true, if_false]
      exact q5 hz g
    · rw [decide_eq_false g]
      simp -zeta only [GL, Bool.not_false, if_true]
      exact ⟨h, .refl _, k⟩
end
end Go.Proofs.YtflfhbnflcfmgaaGreatDoor
set_option linter.unusedSimpArgs false
set_option linter.unusedVariables false
set_option maxRecDepth 100000
namespace Go.Proofs.YtflfhbnflcfmgaaGreatDoor
open Go Go.SL Go.Pure
open Go.ChangeShapes Go.WideShapes Go.ChangeAt Go.RowKit
/-- All cells that lie in memory, to read. -/
def readAll (w : World) : Hp := fun b => match w.heap[b]? with
  | some (.cells c e _) => some (.row e c.toList c.size none)
  | _ => none
theorem readAll_sat (w : World) : (readAll w).sat w := by
  intro b o e
  unfold readAll at e
  split at e
  · rename_i c el f hb
    cases e
    refine ⟨_, hb, rfl, rfl, by simp, fun i v hv => by simpa using hv, fun f hf => by cases hf⟩
  · cases e
theorem readAll_own (w : World) (b : Nat) : ¬ (readAll w).own b := by
  rintro ⟨o, e, hr⟩
  unfold readAll at e
  split at e
  · cases e; cases hr
  · cases e
theorem readAll_cell {w : World} {b o : Nat} {v : Value} (e : w.cell? ⟨b, o, none⟩ = some v) : (readAll w).cell ⟨b, o, none⟩ = some v := by
  unfold World.cell? at e
  unfold Hp.cell readAll
  dsimp only at e ⊢
  split at e
  · rename_i c el f hb
    rw [hb]
    simpa using e
  · cases e
theorem below_of {w w' : World} {h' : Hp} (f : Fr (readAll w) h' w w') : Below w.heap.size w w' :=
  ⟨f.os, f.tape, f.output, f.size, fun k hk => f.keep k hk (readAll_own w k)⟩
theorem ownNone : ownKnob Tryz.prog.godebug = none := by kernel_rfl
theorem laidOut : laidOutB Tryz.prog = true := by kernel_rfl
/-- The walk of a statement that tells true. -/
theorem tells_true {f : FuncId} {args : Array Value} {w : World} (c : Cn P f args (readAll w) fun v _ => v = .bool true) : Calls P f args w fun e w' => e = .returned (.bool true) ∧ Below w.heap.size w w' :=
  (c.2 w (readAll_sat w)).mono fun e w' ⟨v, h', he, _, f', hv⟩ => ⟨by rw [he, hv], below_of f'⟩
end Go.Proofs.YtflfhbnflcfmgaaGreatDoor
set_option linter.unusedSimpArgs false
set_option linter.unusedVariables false
set_option maxRecDepth 100000
namespace Go.Proofs.YtflfhbnflcfmgaaGreatDoor
open Go Go.SL Go.Pure
open Go.ChangeShapes Go.WideShapes Go.ChangeAt Go.RowKit
theorem ty_open {H : Type} {enc : TypeId × Value → H} {w : World} : ∀ (ty : Ty),
    (∀ (t : TypeId) (fuel : Nat) (cs : List Value) (x : DataW H × List MemPlace), tyB P ty (.inl t) = true → DataW.trod enc P w 0 (fun _ => true) true fuel t cs = some x → ty.Rd (readAll w) cs) ∧
    (∀ (o : Nat) (l : List Field) (n : Nat) (cs : List Value), tyB P ty (.inr (o, l)) = true → cs.length = o + ty.size → (∀ (j : Nat) (f : Field), l[j]? = some f → ∃ y, DataW.trod enc P w 0 (fun _ => true) true n f.type ((cs.drop f.offset).take (P.cellsOf f.type)) = some y) → ty.Rd (readAll w) (cs.drop o)) := by
  intro ty
  induction ty with
  | int k =>
    refine ⟨fun t fuel cs x hb h => ?_, fun o l n cs hb => by simp [tyB] at hb⟩
    unfold tyB at hb
    split at hb
    · rename_i k' hu
      obtain ⟨n, rfl, _, hw⟩ := DataW.trod_int hu h
      rw [beq_iff_eq] at hb
      subst hb
      exact ⟨n, rfl, hw⟩
    · cases hb
  | bool =>
    refine ⟨fun t fuel cs x hb h => ?_, fun o l n cs hb => by simp [tyB] at hb⟩
    unfold tyB at hb
    split at hb
    · rename_i hu
      obtain ⟨b, rfl, _⟩ := DataW.trod_bool hu h
      exact ⟨b, rfl⟩
    · cases hb
  | str =>
    refine ⟨fun t fuel cs x hb h => ?_, fun o l n cs hb => by simp [tyB] at hb⟩
    unfold tyB at hb
    split at hb
    · rename_i hu
      obtain ⟨s, rfl, _, hs⟩ := DataW.trod_string hu h
      exact ⟨s, rfl, Nat.le_trans hs (by decide)⟩
    · cases hb
  | sl e ih =>
    refine ⟨fun t fuel cs x hb h => ?_, fun o l n cs hb => by simp [tyB] at hb⟩
    unfold tyB at hb
    split at hb
    · rename_i te hu
      simp only [Bool.and_eq_true, beq_iff_eq, decide_eq_true_eq] at hb
      obtain ⟨⟨hc, h0⟩, hb⟩ := hb
      rcases DataW.trod_slice hu h with ⟨rfl, _⟩ | ⟨a', len, cap, elems, rest, m, _, rfl, _, _, hl, hm, hlen, hel, _, _⟩
      · exact ⟨_, [], rfl, ⟨none, 0, rfl, Nat.le_refl _, .inl rfl⟩, by simp, by simp⟩
      · have each : ∀ i, i < len → ∃ cs : List Value, cs.length = e.size ∧ e.Rd (readAll w) cs ∧ ∀ j y, cs[j]? = some y → w.cell? ((a'.add (i * e.size)).add j) = some y := by
          intro i hi
          have h1 := hel i hi
          rw [hc, List.getElem?_eq_getElem (by omega), Option.bind_eq_some_iff] at h1
          obtain ⟨cs, hcs, htr⟩ := h1
          obtain ⟨_, hlen, hcell⟩ := World.cells?_some hcs
          refine ⟨cs, hlen, ih.1 te m cs _ hb htr, fun j y ey => ?_⟩
          have hlt := (List.getElem?_eq_some_iff.1 ey).1
          rw [hcell j (by omega)]
          exact ey
        obtain ⟨f, hfn⟩ : ∃ f : Nat → List Value, ∀ i, i < len → (f i).length = e.size ∧ e.Rd (readAll w) (f i) ∧ ∀ j y, (f i)[j]? = some y → w.cell? ((a'.add (i * e.size)).add j) = some y := by
          refine ⟨fun i => if q : i < len then (each i q).choose else [], fun i hi => ?_⟩
          simp only [hi, dif_pos]
          exact (each i hi).choose_spec
        have hget : ∀ (i : Nat) (x : List Value), ((List.range len).map f)[i]? = some x → i < len ∧ x = f i := by
          intro i x e
          have hi : i < len := by simpa using (List.getElem?_eq_some_iff.1 e).1
          rw [List.getElem?_map, List.getElem?_range hi] at e
          exact ⟨hi, by simpa using e.symm⟩
        have ll : ((List.range len).map f).length = len := by simp
        have hm' : cap ≤ 9223372036854775807 := Nat.le_trans hm (by decide)
        refine ⟨_, (List.range len).map f, rfl, ⟨some a', cap, by rw [ll], by rw [ll]; exact hl, ?_⟩, by rw [ll]; omega, fun x hx => ?_⟩
        · by_cases hl0 : len = 0
          · left; subst hl0; rfl
          · right
            obtain ⟨l0, _, c0⟩ := hfn 0 (by omega)
            have hc0 := c0 0 _ (List.getElem?_eq_getElem (by omega))
            obtain ⟨b, o, sp⟩ := a'
            have hsp : sp = none := by
              cases sp with
              | none => rfl
              | some s =>
                unfold World.cell? Addr.add at hc0
                dsimp only at hc0
                split at hc0 <;> simp at hc0
            subst hsp
            refine ⟨b, o, rfl, fun i x e j y ey => ?_⟩
            obtain ⟨hi, rfl⟩ := hget i x e
            have := (hfn i hi).2.2 j y ey
            rw [add_off, add_off] at this
            exact readAll_cell this
        · obtain ⟨i, hi, rfl⟩ := List.mem_map.1 hx
          have hi : i < len := by simpa using hi
          exact ⟨(hfn i hi).1, (hfn i hi).2.1⟩
    · cases hb
  | arr n e ih =>
    refine ⟨fun t fuel cs x hb h => ?_, fun o l n cs hb => by simp [tyB] at hb⟩
    unfold tyB at hb
    split at hb
    · rename_i m te hu
      simp only [Bool.and_eq_true, beq_iff_eq] at hb
      obtain ⟨⟨⟨rfl, hc⟩, hct⟩, hb⟩ := hb
      obtain ⟨xs, k, _, _, hlen, hl, hel⟩ := DataW.trod_array hu h
      rw [hct] at hlen
      have piece : ∀ i, i < m → ((cs.drop (i * e.size)).take e.size).length = e.size ∧ e.Rd (readAll w) ((cs.drop (i * e.size)).take e.size) := fun i hi => by
        have h1 := hel i hi
        rw [hc, List.getElem?_eq_getElem (by omega)] at h1
        refine ⟨?_, ih.1 te k _ _ hb h1⟩
        rw [List.length_take, List.length_drop, hlen]
        have : (i + 1) * e.size ≤ m * e.size := Nat.mul_le_mul_right _ hi
        rw [Nat.succ_mul] at this
        omega
      have flat : ∀ (m : Nat) (cs : List Value), cs.length = m * e.size → ((List.range m).map fun i => (cs.drop (i * e.size)).take e.size).flatten = cs := by
        intro m
        induction m with
        | zero => intro cs hl; obtain rfl : cs = [] := List.eq_nil_of_length_eq_zero (by simpa using hl); rfl
        | succ m ihm =>
          intro cs hl
          rw [Nat.succ_mul] at hl
          rw [List.range_succ_eq_map, List.map_cons, List.map_map, List.flatten_cons, Nat.zero_mul, List.drop_zero]
          have e1 : ((fun i => (cs.drop (i * e.size)).take e.size) ∘ Nat.succ) = fun i => ((cs.drop e.size).drop (i * e.size)).take e.size := by
            funext i
            show (cs.drop ((i + 1) * e.size)).take e.size = _
            rw [List.drop_drop, Nat.succ_mul, Nat.add_comm]
          rw [e1, ihm (cs.drop e.size) (by rw [List.length_drop]; omega), List.take_append_drop]
      refine ⟨_, (flat m cs hlen).symm, by simp, fun x hx => ?_⟩
      obtain ⟨i, hi, rfl⟩ := List.mem_map.1 hx
      exact piece i (by simpa using hi)
    · cases hb
  | rcd fs ih =>
    refine ⟨fun t fuel cs x hb h => ?_, fun o l n cs hb => by simp [tyB] at hb⟩
    unfold tyB at hb
    split at hb
    · rename_i fa hu
      simp only [Bool.and_eq_true, beq_iff_eq] at hb
      obtain ⟨xs, n, _, _, hl, hlen, hf⟩ := DataW.trod_struct hu h
      have := ih.2 0 fa.toList n cs hb.2 (by rw [hl, hb.1, Nat.zero_add]) fun j f hj => by
        have := hf j f (by simpa using hj)
        have hlt : j < xs.length := by
          have := (List.getElem?_eq_some_iff.1 hj).1
          simp at this
          omega
        exact ⟨_, this.trans (List.getElem?_eq_getElem hlt)⟩
      exact this
    · cases hb
  | nil =>
    refine ⟨fun t fuel cs x hb h => by simp [tyB] at hb, fun o l n cs hb hl hf => ?_⟩
    exact List.drop_of_length_le (by rw [hl]; exact Nat.le_refl _)
  | cons a b iha ihb =>
    refine ⟨fun t fuel cs x hb h => by simp [tyB] at hb, fun o l n cs hb hl hf => ?_⟩
    unfold tyB at hb
    cases l with
    | nil => cases hb
    | cons f l =>
      simp only [Bool.and_eq_true, beq_iff_eq] at hb
      obtain ⟨⟨⟨ho, hc⟩, h1⟩, h2⟩ := hb
      have hsz : (Ty.cons a b).size = a.size + b.size := rfl
      obtain ⟨y, hy⟩ := hf 0 f rfl
      rw [ho, hc] at hy
      refine ⟨(cs.drop o).take a.size, cs.drop (o + a.size), by rw [← List.drop_drop, List.take_append_drop], ?_, iha.1 f.type n _ _ h1 hy, ihb.2 (o + a.size) l n cs h2 (by omega) fun j g hj => hf (j + 1) g hj⟩
      rw [List.length_take, List.length_drop]
      omega
/-- A thing that is handed in. -/
theorem rd_open {H : Type} {enc : TypeId × Value → H} {w : World} {v : Value} {d : DataW H} {p : List MemPlace} (ty : Ty) {t : TypeId} (hb : tyB P ty (.inl t) = true) (h : DataW.Trod enc P w 0 (fun _ => true) true t v d p) : ty.Rd (readAll w) v.cells.toList := by
  obtain ⟨fuel, hf⟩ := h
  exact (ty_open ty).1 t fuel _ _ hb hf
end Go.Proofs.YtflfhbnflcfmgaaGreatDoor
set_option linter.unusedSimpArgs false
set_option linter.unusedVariables false
set_option maxRecDepth 100000
namespace Go.Proofs.YtflfhbnflcfmgaaGreatDoor
open Go Go.SL Go.Pure
open Go.ChangeShapes Go.WideShapes Go.ChangeAt Go.RowKit
/-- Cells that are a thing of that shape, in which no text and no slice is longer than B. -/
def RdB (R : Hp) (B : Nat) : Ty → List Value → Prop
  | .int k, vs => ∃ n, vs = [.int k n] ∧ (Lit.int k n).wf = true
  | .bool, vs => ∃ b, vs = [.bool b]
  | .str, vs => ∃ s : ByteArray, vs = [.string s] ∧ s.size ≤ B
  | .sl e, vs => ∃ (v : Value) (items : List (List Value)), vs = [v] ∧ SlAt R e.size v items ∧ items.length ≤ B ∧ ∀ x ∈ items, x.length = e.size ∧ RdB R B e x
  | .arr n e, vs => ∃ items : List (List Value), vs = items.flatten ∧ items.length = n ∧ ∀ x ∈ items, x.length = e.size ∧ RdB R B e x
  | .rcd fs, vs => RdB R B fs vs
  | .nil, vs => vs = []
  | .cons a b, vs => ∃ x y, vs = x ++ y ∧ x.length = a.size ∧ RdB R B a x ∧ RdB R B b y
theorem RdB.rd {R : Hp} {B : Nat} (hB : B ≤ 9223372036854775807) : ∀ {ty : Ty} {vs : List Value}, RdB R B ty vs → ty.Rd R vs
  | .int _, _, h => h
  | .bool, _, h => h
  | .str, _, ⟨s, e, l⟩ => ⟨s, e, Nat.le_trans l hB⟩
  | .sl _, _, ⟨v, items, e, a, hl, h⟩ => ⟨v, items, e, a, Nat.le_trans hl hB, fun x hx => ⟨(h x hx).1, RdB.rd hB (h x hx).2⟩⟩
  | .arr _ _, _, ⟨items, e, l, h⟩ => ⟨items, e, l, fun x hx => ⟨(h x hx).1, RdB.rd hB (h x hx).2⟩⟩
  | .rcd fs, _, h => RdB.rd (ty := fs) hB h
  | .nil, _, h => h
  | .cons _ _, _, ⟨x, y, e, l, h1, h2⟩ => ⟨x, y, e, l, RdB.rd hB h1, RdB.rd hB h2⟩
/-- Does every slice's element weigh something? -/
def szB (P : Program) : Ty → TypeId ⊕ (Nat × List Field) → Bool
  | .sl e, .inl t => match P.underlying t with
    | some (.slice te) => decide (1 ≤ P.bytesOf te) && szB P e (.inl te)
    | _ => false
  | .arr _ e, .inl t => match P.underlying t with
    | some (.array _ te) => szB P e (.inl te)
    | _ => false
  | .rcd fs, .inl t => match P.underlying t with
    | some (.struct fa) => szB P fs (.inr (0, fa.toList))
    | _ => false
  | .cons a b, .inr (o, l) => match l with
    | f :: l => szB P a (.inl f.type) && szB P b (.inr (o + a.size, l))
    | [] => false
  | _, _ => true
theorem weights_all {H : Type} {P : Program} {e : TypeId} {n : Nat} : ∀ {l : List (DataW H)} {d : DataW H}, d ∈ l → n ∈ d.weights P e → n ∈ DataW.weightsAll P e l
  | x :: l, d, hd, hn => by
    simp only [DataW.weightsAll, List.mem_append]
    rcases List.mem_cons.1 hd with rfl | q
    · exact .inl hn
    · exact .inr (weights_all q hn)
theorem weights_each {H : Type} {P : Program} {n : Nat} : ∀ {ts : List TypeId} {ds : List (DataW H)} {j : Nat} {t : TypeId} {d : DataW H}, ts[j]? = some t → ds[j]? = some d → n ∈ d.weights P t → n ∈ DataW.weightsEach P ts ds
  | t0 :: ts, d0 :: ds, 0, t, d, ht, hd, hn => by
    simp only [List.getElem?_cons_zero, Option.some.injEq] at ht hd
    subst ht; subst hd
    simp only [DataW.weightsEach, List.mem_append]
    exact .inl hn
  | t0 :: ts, d0 :: ds, j + 1, t, d, ht, hd, hn => by
    simp only [List.getElem?_cons_succ] at ht hd
    simp only [DataW.weightsEach, List.mem_append]
    exact .inr (weights_each ht hd hn)
  | [], _, _, _, _, ht, _, _ => by simp at ht
  | _ :: _, [], _, _, _, _, hd, _ => by simp at hd
theorem ty_openB {B : Nat} {H : Type} {enc : TypeId × Value → H} {w : World} : ∀ (ty : Ty),
    (∀ (t : TypeId) (fuel : Nat) (cs : List Value) (x : DataW H × List MemPlace), tyB P ty (.inl t) = true → szB P ty (.inl t) = true → DataW.trod enc P w 0 (fun _ => true) true fuel t cs = some x → (∀ n ∈ x.1.weights P t, n ≤ B) → RdB (readAll w) B ty cs) ∧
    (∀ (o : Nat) (l : List Field) (n : Nat) (cs : List Value), tyB P ty (.inr (o, l)) = true → szB P ty (.inr (o, l)) = true → cs.length = o + ty.size → (∀ (j : Nat) (f : Field), l[j]? = some f → ∃ y, DataW.trod enc P w 0 (fun _ => true) true n f.type ((cs.drop f.offset).take (P.cellsOf f.type)) = some y ∧ ∀ n ∈ y.1.weights P f.type, n ≤ B) → RdB (readAll w) B ty (cs.drop o)) := by
  intro ty
  induction ty with
  | int k =>
    refine ⟨fun t fuel cs x hb hz h hw => ?_, fun o l n cs hb hz => by simp [tyB] at hb⟩
    unfold tyB at hb
    split at hb
    · rename_i k' hu
      obtain ⟨n, rfl, _, hwf⟩ := DataW.trod_int hu h
      rw [beq_iff_eq] at hb
      subst hb
      exact ⟨n, rfl, hwf⟩
    · cases hb
  | bool =>
    refine ⟨fun t fuel cs x hb hz h hw => ?_, fun o l n cs hb hz => by simp [tyB] at hb⟩
    unfold tyB at hb
    split at hb
    · rename_i hu
      obtain ⟨b, rfl, _⟩ := DataW.trod_bool hu h
      exact ⟨b, rfl⟩
    · cases hb
  | str =>
    refine ⟨fun t fuel cs x hb hz h hw => ?_, fun o l n cs hb hz => by simp [tyB] at hb⟩
    unfold tyB at hb
    split at hb
    · rename_i hu
      obtain ⟨s, rfl, rfl, hs⟩ := DataW.trod_string hu h
      refine ⟨s, rfl, ?_⟩
      have := hw s.data.toList.length (by simp [DataW.weights])
      simpa using this
    · cases hb
  | sl e ih =>
    refine ⟨fun t fuel cs x hb hz h hw => ?_, fun o l n cs hb hz => by simp [tyB] at hb⟩
    unfold tyB at hb
    split at hb
    · rename_i te hu
      simp only [Bool.and_eq_true, beq_iff_eq, decide_eq_true_eq] at hb
      obtain ⟨⟨hc, h0⟩, hb⟩ := hb
      unfold szB at hz
      rw [hu] at hz
      simp only [Bool.and_eq_true, decide_eq_true_eq] at hz
      obtain ⟨h1b, hz⟩ := hz
      rcases DataW.trod_slice hu h with ⟨rfl, _⟩ | ⟨a', len, cap, elems, rest, m, _, rfl, rfl, _, hl, hm, hlen, hel, _, _⟩
      · exact ⟨_, [], rfl, ⟨none, 0, rfl, Nat.le_refl _, .inl rfl⟩, by simp, by simp⟩
      · have each : ∀ i, i < len → ∃ cs : List Value, cs.length = e.size ∧ RdB (readAll w) B e cs ∧ ∀ j y, cs[j]? = some y → w.cell? ((a'.add (i * e.size)).add j) = some y := by
          intro i hi
          have h1 := hel i hi
          rw [hc, List.getElem?_eq_getElem (by omega), Option.bind_eq_some_iff] at h1
          obtain ⟨cs, hcs, htr⟩ := h1
          have hwe : ∀ n ∈ elems[i].1.weights P te, n ≤ B := fun n hn => hw n (by
            simp only [DataW.weights, hu, List.mem_cons, List.mem_append]
            exact .inr (.inl (weights_all (List.mem_map.2 ⟨_, List.getElem_mem _, rfl⟩) hn)))
          obtain ⟨_, hlen, hcell⟩ := World.cells?_some hcs
          refine ⟨cs, hlen, ih.1 te m cs _ hb hz htr hwe, fun j y ey => ?_⟩
          have hlt := (List.getElem?_eq_some_iff.1 ey).1
          rw [hcell j (by omega)]
          exact ey
        obtain ⟨f, hfn⟩ : ∃ f : Nat → List Value, ∀ i, i < len → (f i).length = e.size ∧ RdB (readAll w) B e (f i) ∧ ∀ j y, (f i)[j]? = some y → w.cell? ((a'.add (i * e.size)).add j) = some y := by
          refine ⟨fun i => if q : i < len then (each i q).choose else [], fun i hi => ?_⟩
          simp only [hi, dif_pos]
          exact (each i hi).choose_spec
        have hget : ∀ (i : Nat) (x : List Value), ((List.range len).map f)[i]? = some x → i < len ∧ x = f i := by
          intro i x e
          have hi : i < len := by simpa using (List.getElem?_eq_some_iff.1 e).1
          rw [List.getElem?_map, List.getElem?_range hi] at e
          exact ⟨hi, by simpa using e.symm⟩
        have ll : ((List.range len).map f).length = len := by simp
        have hm' : len ≤ B := by
          have h2 := hw ((elems.length + rest.length) * P.bytesOf te) (by
            simp [DataW.weights, hu])
          have h3 : (elems.length + rest.length) * 1 ≤ (elems.length + rest.length) * P.bytesOf te := Nat.mul_le_mul_left _ h1b
          omega
        refine ⟨_, (List.range len).map f, rfl, ⟨some a', cap, by rw [ll], by rw [ll]; exact hl, ?_⟩, by rw [ll]; omega, fun x hx => ?_⟩
        · by_cases hl0 : len = 0
          · left; subst hl0; rfl
          · right
            obtain ⟨l0, _, c0⟩ := hfn 0 (by omega)
            have hc0 := c0 0 _ (List.getElem?_eq_getElem (by omega))
            obtain ⟨b, o, sp⟩ := a'
            have hsp : sp = none := by
              cases sp with
              | none => rfl
              | some s =>
                unfold World.cell? Addr.add at hc0
                dsimp only at hc0
                split at hc0 <;> simp at hc0
            subst hsp
            refine ⟨b, o, rfl, fun i x e j y ey => ?_⟩
            obtain ⟨hi, rfl⟩ := hget i x e
            have := (hfn i hi).2.2 j y ey
            rw [add_off, add_off] at this
            exact readAll_cell this
        · obtain ⟨i, hi, rfl⟩ := List.mem_map.1 hx
          have hi : i < len := by simpa using hi
          exact ⟨(hfn i hi).1, (hfn i hi).2.1⟩
    · cases hb
  | arr n e ih =>
    refine ⟨fun t fuel cs x hb hz h hw => ?_, fun o l n cs hb hz => by simp [tyB] at hb⟩
    unfold tyB at hb
    split at hb
    · rename_i m te hu
      simp only [Bool.and_eq_true, beq_iff_eq] at hb
      obtain ⟨⟨⟨rfl, hc⟩, hct⟩, hb⟩ := hb
      unfold szB at hz
      rw [hu] at hz
      obtain ⟨xs, k, _, rfl, hlen, hl, hel⟩ := DataW.trod_array hu h
      rw [hct] at hlen
      have piece : ∀ i, i < m → ((cs.drop (i * e.size)).take e.size).length = e.size ∧ RdB (readAll w) B e ((cs.drop (i * e.size)).take e.size) := fun i hi => by
        have h1 := hel i hi
        rw [hc, List.getElem?_eq_getElem (by omega)] at h1
        have hwe : ∀ n ∈ xs[i].1.weights P te, n ≤ B := fun n hn => hw n (by
          simp only [DataW.weights, hu]
          exact weights_all (List.mem_map.2 ⟨_, List.getElem_mem _, rfl⟩) hn)
        refine ⟨?_, ih.1 te k _ _ hb hz h1 hwe⟩
        rw [List.length_take, List.length_drop, hlen]
        have : (i + 1) * e.size ≤ m * e.size := Nat.mul_le_mul_right _ hi
        rw [Nat.succ_mul] at this
        omega
      have flat : ∀ (m : Nat) (cs : List Value), cs.length = m * e.size → ((List.range m).map fun i => (cs.drop (i * e.size)).take e.size).flatten = cs := by
        intro m
        induction m with
        | zero => intro cs hl; obtain rfl : cs = [] := List.eq_nil_of_length_eq_zero (by simpa using hl); rfl
        | succ m ihm =>
          intro cs hl
          rw [Nat.succ_mul] at hl
          rw [List.range_succ_eq_map, List.map_cons, List.map_map, List.flatten_cons, Nat.zero_mul, List.drop_zero]
          have e1 : ((fun i => (cs.drop (i * e.size)).take e.size) ∘ Nat.succ) = fun i => ((cs.drop e.size).drop (i * e.size)).take e.size := by
            funext i
            show (cs.drop ((i + 1) * e.size)).take e.size = _
            rw [List.drop_drop, Nat.succ_mul, Nat.add_comm]
          rw [e1, ihm (cs.drop e.size) (by rw [List.length_drop]; omega), List.take_append_drop]
      refine ⟨_, (flat m cs hlen).symm, by simp, fun x hx => ?_⟩
      obtain ⟨i, hi, rfl⟩ := List.mem_map.1 hx
      exact piece i (by simpa using hi)
    · cases hb
  | rcd fs ih =>
    refine ⟨fun t fuel cs x hb hz h hw => ?_, fun o l n cs hb hz => by simp [tyB] at hb⟩
    unfold tyB at hb
    split at hb
    · rename_i fa hu
      simp only [Bool.and_eq_true, beq_iff_eq] at hb
      unfold szB at hz
      rw [hu] at hz
      obtain ⟨xs, n, _, rfl, hl, hlen, hf⟩ := DataW.trod_struct hu h
      have := ih.2 0 fa.toList n cs hb.2 hz (by rw [hl, hb.1, Nat.zero_add]) fun j f hj => by
        have := hf j f (by simpa using hj)
        have hlt : j < xs.length := by
          have := (List.getElem?_eq_some_iff.1 hj).1
          simp at this
          omega
        refine ⟨_, this.trans (List.getElem?_eq_getElem hlt), fun n hn => hw n ?_⟩
        simp only [DataW.weights, hu]
        exact weights_each (j := j) (by rw [List.getElem?_map, hj]; rfl) (by rw [List.getElem?_map, List.getElem?_eq_getElem hlt]; rfl) hn
      exact this
    · cases hb
  | nil =>
    refine ⟨fun t fuel cs x hb hz h hw => by simp [tyB] at hb, fun o l n cs hb hz hl hf => ?_⟩
    exact List.drop_of_length_le (by rw [hl]; exact Nat.le_refl _)
  | cons a b iha ihb =>
    refine ⟨fun t fuel cs x hb hz h hw => by simp [tyB] at hb, fun o l n cs hb hz hl hf => ?_⟩
    unfold tyB at hb
    cases l with
    | nil => cases hb
    | cons f l =>
      simp only [Bool.and_eq_true, beq_iff_eq] at hb
      obtain ⟨⟨⟨ho, hc⟩, h1⟩, h2⟩ := hb
      unfold szB at hz
      simp only [Bool.and_eq_true] at hz
      have hsz : (Ty.cons a b).size = a.size + b.size := rfl
      obtain ⟨y, hy, hwy⟩ := hf 0 f rfl
      rw [ho, hc] at hy
      refine ⟨(cs.drop o).take a.size, cs.drop (o + a.size), by rw [← List.drop_drop, List.take_append_drop], ?_, iha.1 f.type n _ _ h1 hz.1 hy hwy, ihb.2 (o + a.size) l n cs h2 hz.2 (by omega) fun j g hj => hf (j + 1) g hj⟩
      rw [List.length_take, List.length_drop]
      omega
/-- A thing that is handed in. -/
theorem rd_openB {B : Nat} {H : Type} {enc : TypeId × Value → H} {w : World} {v : Value} {d : DataW H} {p : List MemPlace} (ty : Ty) {t : TypeId} (hb : tyB P ty (.inl t) = true) (hz : szB P ty (.inl t) = true) (h : DataW.Trod enc P w 0 (fun _ => true) true t v d p) (hw : ∀ n ∈ d.weights P t, n ≤ B) : RdB (readAll w) B ty v.cells.toList := by
  obtain ⟨fuel, hf⟩ := h
  exact (ty_openB ty).1 t fuel _ _ hb hz hf hw
/-- Each thing's weights are among all weights. -/
theorem weigh {B : Nat} {H : Type} {ts : List TypeId} {ds : List (DataW H)} (h : (DataW.weightsEach P ts ds).all (· ≤ B) = true) (j : Nat) {t : TypeId} {d : DataW H} (ht : ts[j]? = some t) (hd : ds[j]? = some d) : ∀ n ∈ d.weights P t, n ≤ B := fun n hn => by
  simpa using List.all_eq_true.1 h n (weights_each ht hd hn)
end Go.Proofs.YtflfhbnflcfmgaaGreatDoor
set_option linter.unusedSimpArgs false
set_option linter.unusedVariables false
set_option maxRecDepth 1000000
set_option maxHeartbeats 4000000
namespace Go.Proofs.YtflfhbnflcfmgaaGreatDoor
open Go
/-- The door's own heap, with Go's own table laid. -/
noncomputable def tarWorld (os : Os) : World :=
  let w0 := World.doorLaid Tryz.prog 400 os
  { w0 with heap := w0.heap.modify 0 fun
      | .cells _ t frozen => .cells (Pinned.utf8FirstZ.map fun (n : Nat) => Value.int .u8 (Int.ofNat n)).toArray t frozen
      | o => o }
theorem tar_met1 (os : Os) (args : Array Value) : (DataW.laidRun Tryz.prog ((tarWorld os).forCall (fun _ _ => 0) ⟨#[], args, []⟩).memory 8 ((Rows.tarSameRow.laid.filter fun x => x.2.handleName?.isNone).map (·.1))).map (·.1) = some (Rows.tarSameRow.laid.filter fun x => x.2.handleName?.isNone) := by kernel_rfl
theorem tar_met (os : Os) (args : Array Value) : laidMetH Tryz.prog Rows.tarSameRow.laid ((tarWorld os).forCall (fun _ _ => 0) ⟨#[], args, []⟩).memory :=
  laidMetH_of_parts3 (fuel := 8) (laidMet_of_run' 8 (tar_met1 os args) (by kernel_rfl)) (by kernel_rfl) (by kernel_rfl)
end Go.Proofs.YtflfhbnflcfmgaaGreatDoor
set_option linter.unusedSimpArgs false
set_option linter.unusedVariables false
set_option maxRecDepth 100000
set_option maxHeartbeats 1000000
namespace Go.Proofs.YtflfhbnflcfmgaaGreatDoor
open Go Go.SL Go.Pure Go.Tar
theorem arr_cells {W : World} {t e n : Nat} {k : IntKind} {cs : Array Value} {fuel : Nat} {p : List MemPlace} (ht : P.underlying t = some (.array n e)) (he : P.underlying e = some (.int k)) (hc : P.cellsOf e = 1) {ds : List (DataW Unit)}
    (h : DataW.trod (fun _ => ()) P W 0 (fun _ => true) false fuel t cs.toList = some (.agg ds, p)) {i : Nat} {z : Int} (hi : i < n) (hz : ds[i]? = some (.lit (.int k z))) : cs[i]? = some (.int k z) := by
  obtain ⟨xs, m, rfl, hx, hlen, hn, hel⟩ := DataW.trod_array ht h
  have h0 := hel i hi
  rw [hc, Nat.mul_one] at h0
  have hxi : xs[i]? = some (xs[i]'(by omega)) := List.getElem?_eq_getElem (by omega)
  rw [hxi] at h0
  obtain ⟨w, e1, e2, _⟩ := DataW.trod_int he h0
  simp only [Prod.mk.injEq, DataW.agg.injEq] at hx
  rw [hx.1, List.getElem?_map, hxi, e2] at hz
  simp only [Option.map_some, Option.some.injEq, DataW.lit.injEq, Lit.int.injEq, true_and] at hz
  subst hz
  have : (cs.toList.drop i)[0]? = some (Value.int k w) := by
    have := congrArg (fun l => l[0]?) e1
    simpa using this
  rw [List.getElem?_drop] at this
  simpa using this
theorem und_20 : P.underlying t_20_uint64 = some (.array 20 t_uint64) := by kernel_rfl
theorem und_64 : P.underlying 154 = some (.array 64 t_uint8) := by kernel_rfl
theorem gPow : Tryz.prog.globalNamed "internal/strconv.uint64pow10" = some 5 := by kernel_rfl
theorem gBru : Tryz.prog.globalNamed "math/bits.deBruijn64tab" = some 7 := by kernel_rfl
theorem tPow : (Tryz.prog.globals[5]?).map (·.type) = some t_20_uint64 := by kernel_rfl
theorem tBru : (Tryz.prog.globals[7]?).map (·.type) = some 154 := by kernel_rfl
theorem of_laid {W : World} (h : laidMetH Tryz.prog Rows.tarSameRow.laid W) : Pow (readAll W) ∧ Bru (readAll W) := by
  rw [MakeChecks.laidMetH_plain _ _ _ (by kernel_rfl)] at h
  obtain ⟨ps, ⟨g0, t0, cs0, f0, p0, q0, hg0, ht0, hv0, hd0, ⟨g1, t1, cs1, f1, p1, q1, hg1, ht1, hv1, hd1, ⟨g2, t2, cs2, f2, p2, q2, hg2, ht2, hv2, hd2, _, _⟩, _⟩, _⟩, _, _⟩ := h
  obtain rfl := Option.some.inj (gBru.symm.trans hg1)
  obtain rfl := Option.some.inj (gPow.symm.trans hg2)
  obtain rfl := Option.some.inj (tBru.symm.trans ht1)
  obtain rfl := Option.some.inj (tPow.symm.trans ht2)
  refine ⟨fun i hi => readAll_cell ?_, readAll_cell ?_⟩
  · rw [World.var?_cell gPow hv2]
    exact match i, hi with
    | 0, _ => arr_cells und_20 u_uint64 (by kernel_rfl) hd2 (by decide) rfl
    | 1, _ => arr_cells und_20 u_uint64 (by kernel_rfl) hd2 (by decide) rfl
    | 2, _ => arr_cells und_20 u_uint64 (by kernel_rfl) hd2 (by decide) rfl
    | 3, _ => arr_cells und_20 u_uint64 (by kernel_rfl) hd2 (by decide) rfl
    | 4, _ => arr_cells und_20 u_uint64 (by kernel_rfl) hd2 (by decide) rfl
    | 5, _ => arr_cells und_20 u_uint64 (by kernel_rfl) hd2 (by decide) rfl
    | 6, _ => arr_cells und_20 u_uint64 (by kernel_rfl) hd2 (by decide) rfl
    | 7, _ => arr_cells und_20 u_uint64 (by kernel_rfl) hd2 (by decide) rfl
    | 8, _ => arr_cells und_20 u_uint64 (by kernel_rfl) hd2 (by decide) rfl
    | 9, _ => arr_cells und_20 u_uint64 (by kernel_rfl) hd2 (by decide) rfl
    | 10, _ => arr_cells und_20 u_uint64 (by kernel_rfl) hd2 (by decide) rfl
    | 11, _ => arr_cells und_20 u_uint64 (by kernel_rfl) hd2 (by decide) rfl
    | 12, _ => arr_cells und_20 u_uint64 (by kernel_rfl) hd2 (by decide) rfl
    | 13, _ => arr_cells und_20 u_uint64 (by kernel_rfl) hd2 (by decide) rfl
    | 14, _ => arr_cells und_20 u_uint64 (by kernel_rfl) hd2 (by decide) rfl
    | 15, _ => arr_cells und_20 u_uint64 (by kernel_rfl) hd2 (by decide) rfl
    | 16, _ => arr_cells und_20 u_uint64 (by kernel_rfl) hd2 (by decide) rfl
    | 17, _ => arr_cells und_20 u_uint64 (by kernel_rfl) hd2 (by decide) rfl
    | 18, _ => arr_cells und_20 u_uint64 (by kernel_rfl) hd2 (by decide) rfl
    | 19, _ => arr_cells und_20 u_uint64 (by kernel_rfl) hd2 (by decide) rfl
    | n + 20, hi => absurd hi (by omega)
  · rw [World.var?_cell gBru hv1]
    exact arr_cells und_64 u_uint8 (by kernel_rfl) hd1 (by decide) rfl
abbrev tyEnt : Ty := .rcd (.cons .str (.cons (.int .i64) (.cons (.int .i64) (.cons .str (.cons .bytes .nil)))))
theorem ent_rd {R : Hp} {x : List Value} (h : tyEnt.Rd R x) : ∃ e dv, x = entC e dv ∧ EntR R e dv := by
  obtain ⟨y0, x0, rfl, _, ⟨s0, rfl, l0⟩, y1, x1, rfl, _, ⟨n1, rfl, _⟩, y2, x2, rfl, _, ⟨n2, rfl, _⟩, y3, x3, rfl, _, ⟨s3, rfl, l3⟩, y4, x4, rfl, _, hb, he⟩ := h
  obtain ⟨v, l, rfl, rd, bd, ld⟩ := Ty.Rd.asBytes hb
  have he : x4 = [] := he
  subst he
  refine ⟨{ name := sL s0, kind := n1, mode := n2, link := sL s3, data := l }, v, ?_, ⟨rd, sL_bytes _, sL_bytes _, bd, by show (sL s0).length ≤ _; rw [sL_len]; exact l0, by show (sL s3).length ≤ _; rw [sL_len]; exact l3, ld⟩⟩
  simp only [entC, strL_sL]
  rfl
theorem li_rd {R : Hp} {vs : List Value} (h : (Ty.sl tyEnt).Rd R vs) : ∃ v l, vs = [v] ∧ LiR R v l ∧ l.length ≤ 9223372036854775807 := by
  obtain ⟨v, items, rfl, ⟨a, c, rfl, hc, hr⟩, hl, hi⟩ := h
  have key : ∀ items : List (List Value), (∀ x ∈ items, x.length = tyEnt.size ∧ tyEnt.Rd R x) → ∃ ps : List (Ent × Value), items = ps.map (fun p => entC p.1 p.2) ∧ ∀ p ∈ ps, EntR R p.1 p.2 := by
    intro items
    induction items with
    | nil => intro _; exact ⟨[], rfl, by intro p hp; cases hp⟩
    | cons x items ih =>
      intro h
      obtain ⟨ps, e1, e2⟩ := ih fun y hy => h y (by simp [hy])
      obtain ⟨e, dv, rfl, en⟩ := ent_rd (h x (by simp)).2
      exact ⟨(e, dv) :: ps, by rw [e1]; rfl, fun p hp => by
        rcases List.mem_cons.1 hp with rfl | q
        · exact en
        · exact e2 p q⟩
  obtain ⟨ps, rfl, en⟩ := key items hi
  rw [List.length_map] at hc hl
  refine ⟨_, ps.map Prod.fst, rfl, ⟨ps, rfl, ⟨cellsP_len ps, a, c, by rw [List.length_map], hc, ?_⟩, en⟩, by rw [List.length_map]; exact hl⟩
  rcases hr with h0 | ⟨b, o, rfl, hy⟩
  · left
    have := congrArg List.length h0
    rwa [List.length_map] at this
  · refine .inr ⟨b, o, rfl, fun i x e => ?_⟩
    have hi5 : i / 5 < ps.length := by
      have := (List.getElem?_eq_some_iff.1 e).1
      rw [cellsP_len] at this
      omega
    have hp : ps[i / 5]? = some ps[i / 5] := List.getElem?_eq_getElem hi5
    have g := cellsP_get hp (i % 5) (Nat.mod_lt _ (by decide))
    have ei : i / 5 * 5 + i % 5 = i := Nat.div_add_mod' i 5
    rw [ei, e] at g
    have := hy (i / 5) (entC ps[i / 5].1 ps[i / 5].2) (by rw [List.getElem?_map, hp]; rfl) (i % 5) x g.symm
    have e5 : o + i / 5 * tyEnt.size + i % 5 = o + i := by
      have : tyEnt.size = 5 := rfl
      rw [this]
      omega
    rw [e5] at this
    exact this
end Go.Proofs.YtflfhbnflcfmgaaGreatDoor
set_option linter.unusedSimpArgs false
set_option linter.unusedVariables false
set_option maxRecDepth 100000
namespace Go.Proofs.YtflfhbnflcfmgaaGreatDoor
open Go Go.SL Go.Pure Go.Tar
open Go.ChangeShapes Go.WideShapes Go.ChangeAt Go.RowKit
theorem bytes_rdB {R : Hp} {B : Nat} {vs : List Value} (hB : B ≤ 9223372036854775807) (h : RdB R B Ty.bytes vs) : ∃ (v : Value) (l : List Nat), vs = [v] ∧ Rn R .u8 v l ∧ (∀ x ∈ l, x < 256) ∧ l.length ≤ B := by
  obtain ⟨v, l, rfl, rd, bd, ld⟩ := Ty.Rd.asBytes (h.rd hB)
  obtain ⟨v', items, e, ⟨a, c, hv, _⟩, hl, _⟩ := h
  obtain ⟨a2, c2, hv2, _⟩ := rd.shape
  simp only [List.cons.injEq, and_true] at e
  subst e
  rw [hv] at hv2
  simp only [Value.slice.injEq] at hv2
  exact ⟨v, l, rfl, rd, bd, by omega⟩
theorem ent_rdB {R : Hp} {B : Nat} (hB : B ≤ 9223372036854775807) {x : List Value} (h : RdB R B tyEnt x) : ∃ e dv, x = entC e dv ∧ EntR R e dv ∧ e.name.length ≤ B ∧ e.link.length ≤ B ∧ e.data.length ≤ B := by
  obtain ⟨y0, x0, rfl, _, ⟨s0, rfl, l0⟩, y1, x1, rfl, _, ⟨n1, rfl, _⟩, y2, x2, rfl, _, ⟨n2, rfl, _⟩, y3, x3, rfl, _, ⟨s3, rfl, l3⟩, y4, x4, rfl, _, hb, he⟩ := h
  obtain ⟨v, l, rfl, rd, bd, ld⟩ := bytes_rdB hB hb
  have he : x4 = [] := he
  subst he
  have m0 : (sL s0).length ≤ B := by rw [sL_len]; exact l0
  have m3 : (sL s3).length ≤ B := by rw [sL_len]; exact l3
  refine ⟨{ name := sL s0, kind := n1, mode := n2, link := sL s3, data := l }, v, ?_, ⟨rd, sL_bytes _, sL_bytes _, bd, by show (sL s0).length ≤ _; omega, by show (sL s3).length ≤ _; omega, by show l.length ≤ _; omega⟩, m0, m3, ld⟩
  simp only [entC, strL_sL]
  rfl
/-- Entries handed in: nothing in them is longer than B. -/
theorem li_rdB {R : Hp} {B : Nat} (hB : B ≤ 9223372036854775807) {v : Value} {l : List Ent} (L : LiR R v l) (h : RdB R B (Ty.sl tyEnt) [v]) : ∀ e ∈ l, e.name.length ≤ B ∧ e.link.length ≤ B ∧ e.data.length ≤ B := by
  obtain ⟨v', items, e, ⟨a, c, rfl, hc, hr⟩, hl, hi⟩ := h
  simp only [List.cons.injEq, and_true] at e
  subst e
  obtain ⟨ps, rfl, ⟨pl, a2, c2, hv2, hc2, hr2⟩, en⟩ := L
  simp only [Value.slice.injEq] at hv2
  obtain ⟨rfl, ln, rfl⟩ := hv2
  intro e he
  obtain ⟨p, hp, rfl⟩ := List.mem_map.1 he
  obtain ⟨i, hi5, rfl⟩ := List.mem_iff_getElem.1 hp
  have hit : items[i]? = some (items[i]'(by omega)) := List.getElem?_eq_getElem (by omega)
  obtain ⟨lx, rx⟩ := hi _ (List.getElem_mem (by omega : i < items.length))
  obtain ⟨e2, dv2, hx, en2, m0, m3, m4⟩ := ent_rdB hB rx
  have hpi : ps[i]? = some ps[i] := List.getElem?_eq_getElem hi5
  rcases hr with h0 | ⟨b, o, rfl, hy⟩
  · rw [h0] at ln; simp at ln; omega
  rcases hr2 with h0 | ⟨b2, o2, ha, hy2⟩
  · omega
  simp only [Option.some.injEq, Addr.mk.injEq, and_true] at ha
  obtain ⟨rfl, rfl⟩ := ha
  have cell : ∀ j, j < 5 → (entC ps[i].1 ps[i].2)[j]? = (entC e2 dv2)[j]? := fun j hj => by
    have g := cellsP_get hpi j hj
    have l1 : j < (entC e2 dv2).length := by rw [entC_len]; exact hj
    have l2 : j < (entC ps[i].1 ps[i].2).length := by rw [entC_len]; exact hj
    have q1 := hy i _ hit j _ (by rw [hx]; exact List.getElem?_eq_getElem l1)
    have q2 := hy2 (i * 5 + j) _ (by rw [g]; exact List.getElem?_eq_getElem l2)
    have e5 : o + i * tyEnt.size + j = o + (i * 5 + j) := by
      have : tyEnt.size = 5 := rfl
      rw [this]; omega
    rw [e5, q2] at q1
    rw [List.getElem?_eq_getElem l1, List.getElem?_eq_getElem l2]
    exact q1
  have sl : ∀ a b : List Nat, strL a = strL b → a.length = b.length := fun a b h => by
    have := congrArg ByteArray.size h
    rwa [strL_size, strL_size] at this
  have c0 := cell 0 (by decide)
  have c3 := cell 3 (by decide)
  have c4 := cell 4 (by decide)
  have k0 : ∀ (e : Ent) dv, (entC e dv)[0]? = some (.string (strL e.name)) := fun _ _ => rfl
  have k3 : ∀ (e : Ent) dv, (entC e dv)[3]? = some (.string (strL e.link)) := fun _ _ => rfl
  have k4 : ∀ (e : Ent) dv, (entC e dv)[4]? = some dv := fun _ _ => rfl
  rw [k0, k0] at c0
  rw [k3, k3] at c3
  rw [k4, k4] at c4
  simp only [Option.some.injEq, Value.string.injEq] at c0 c3 c4
  have en1 := en _ (List.getElem_mem hi5)
  obtain ⟨a4, c4', hd1, _⟩ := en1.rd.shape
  obtain ⟨a5, c5', hd2, _⟩ := en2.rd.shape
  rw [hd1, hd2] at c4
  simp only [Value.slice.injEq] at c4
  refine ⟨by rw [sl _ _ c0]; exact m0, by rw [sl _ _ c3]; exact m3, by omega⟩
namespace tarLoose
theorem lifted (os : Os) (started : os.Started) (H : Type) (enc : TypeId × Value → H) :
    ReturnsInHanded {} Tryz.checked os n_orloplaw19_TarLoose .any (fun w args => (Rows.tarLooseSpec.pre enc Tryz.prog Tryz.f3 [] false w args ∧ laidMetH Tryz.prog Rows.tarLooseRow.laid w) ∧ sizedMet enc Tryz.prog Tryz.f3 (OpenSpec.ofChange Rows.tarLooseSpec) false w args)
      (Rows.tarLooseSpec.post enc Tryz.prog Tryz.f3 false true false false) := by
  refine returnsInHanded_of_change_and (C := Tryz.checked) (X := fun w _ => laidMetH Tryz.prog Rows.tarLooseRow.laid w) (fun _ _ _ hh h => h.of_heap hh) ownNone started (by kernel_rfl) Tryz.func3
    (ChangeSpec.witness_shaped (enc := enc) (C := Tryz.checked) (os := os) (X := fun w _ => laidMetH Tryz.prog Rows.tarLooseRow.laid w) false (tarWorld os) #[.slice none 0 0, .int .u8 0, .int .u8 0] 8 rfl (World.shaped_of_RefB (by kernel_rfl) (by kernel_rfl)) (by kernel_rfl) (by kernel_rfl) (by kernel_rfl) (tar_met os _)) ?_
  intro W base args ds gs before hval0 hW _ hsz0 hL _
  have hval : ∀ (j : Nat) t v, Tryz.f3.params[j]? = some t → args[j]? = some v → Value.okWide Tryz.prog W .any base t v := hval0
  have hW' := hW
  obtain ⟨p, q, hA0, hV, rfl, hfz, hnd⟩ := hW
  have hA : DataW.TrodAll enc Tryz.prog W 0 (fun _ => true) true Tryz.f3.params.toList args.toList ds p := hA0
  rw [Tryz.params3] at hA hval
  obtain ⟨v0, vs0, d0, ds0, p0, q0, hargs, rfl, rfl, h0, r0⟩ := trodAll_cons hA
  obtain ⟨v1, vs1, d1, ds1, p1, q1, rfl, rfl, rfl, h1, r1⟩ := trodAll_cons r0
  obtain ⟨v2, vs2, d2, ds2, p2, q2, rfl, rfl, rfl, h2, r2⟩ := trodAll_cons r1
  obtain ⟨rfl, rfl, rfl⟩ := trodAll_nil r2
  obtain rfl : args = #[v0, v1, v2] := by cases args; simp_all
  obtain ⟨rfl, rfl⟩ := trodVars_none hV
  have lt0 : ∀ x ∈ p0, x.block < W.heap.size := by obtain ⟨m, hm⟩ := h0; exact DataW.trod_lt m _ _ _ hm
  obtain ⟨a0, n0, c0, rfl⟩ := okWide_slice Tryz.underlying22 (hval 0 22 v0 rfl rfl)
  have D0 : Ty.Rd (readAll W) (.sl tyEnt) [Value.slice a0 n0 c0] := rd_open (.sl tyEnt) (by kernel_rfl) h0
  have Z0 : RdB (readAll W) reachBytes (.sl tyEnt) [Value.slice a0 n0 c0] := rd_openB (.sl tyEnt) (by kernel_rfl) (by kernel_rfl) h0 (weigh hsz0 0 (by rw [Tryz.params3]; rfl) rfl)
  obtain ⟨w0, l0, e0, L0, hl0⟩ := li_rd D0
  simp only [List.cons.injEq, and_true] at e0
  subst e0
  have B0 := li_rdB (by decide) L0 Z0
  have hz : reachBytes ≤ 1125899906842624 := by decide
  obtain ⟨a1, rfl, rfl, rfl, w1⟩ := open_int Tryz.underlying5 (hval 1 5 v1 rfl rfl) h1
  have hw1 : 0 ≤ a1 ∧ a1 < 256 := by
    simp [Lit.wf, IntKind.min, IntKind.max, IntKind.signed, IntKind.bits] at w1
    omega
  obtain ⟨n1, rfl⟩ : ∃ o : Nat, a1 = (o : Int) := ⟨a1.toNat, by omega⟩
  obtain ⟨a2, rfl, rfl, rfl, w2⟩ := open_int Tryz.underlying5 (hval 2 5 v2 rfl rfl) h2
  have hw2 : 0 ≤ a2 ∧ a2 < 256 := by
    simp [Lit.wf, IntKind.min, IntKind.max, IntKind.signed, IntKind.bits] at w2
    omega
  obtain ⟨n2, rfl⟩ : ∃ o : Nat, a2 = (o : Int) := ⟨a2.toNat, by omega⟩
  obtain ⟨hP, hB⟩ := of_laid hL
  have own : Own (readAll W) (readAll W) [] := ⟨.refl _, fun b hb => (by cases hb), fun b hb => (by cases hb)⟩
  clear hA0 hval0 hsz0
  refine (tells_true (T_TarLoose (blocks := n1) (owner := n2) (by omega) (by omega) own hP hB L0 hl0 (fun e he => by have := B0 e he; omega) (K := fun v _ => v = .bool true) rfl)).mono fun e W' ⟨he, bel⟩ => ?_
  subst he
  exact ⟨_, rfl, _, _, _, [], _, [], hW', trodAll_mk1 (shut_bool Tryz.underlying4 _), (trodAll_cons_mk (Below.trod laidOut (by kernel_rfl) (of_decide_eq_true (by kernel_rfl)) h0 bel lt0) (trodAll_cons_mk (shut_int Tryz.underlying5 w1) (trodAll_cons_mk (shut_int Tryz.underlying5 w2) trodAll_mk0))), rfl, bel.frame _, fun h => by cases h⟩
theorem over : Rows.tarLooseRow.holds Tryz.pinned (OpenSpec.ofChange Rows.tarLooseSpec) :=
  OpenClaim.holds_of_wide 3 Tryz.f3 rfl rfl rfl rfl rfl rfl rfl ⟨rfl, rfl, rfl, rfl, rfl⟩ rfl rfl rfl rfl rfl (by kernel_rfl) Tryz.func3 (by kernel_rfl)
    (of_decide_eq_true (by kernel_rfl)) (by unfold Func.isWrapper; first | (rw [if_pos (by decide +kernel)]; kernel_rfl) | (rw [if_neg (by decide +kernel)]; exact ⟨rfl, rfl⟩))
    (fun os started H enc _ => lifted os started H enc)
theorem proved : Rows.TarLooseCardSaid :=
  Claim7.holds_tied_plain_at .later [] [.data, .data, .data, .data, .sentinel, .sentinel, .pinned] true (true, "ddb4b631333f0e00c50907440f6fa78274dd56b92ffdee26c0b32e1865676fee") true
    over (fun _ h => by cases h) (by kernel_rfl) (fun _ h => by cases h) tarLoose_row_tie rfl ⟨rfl, rfl⟩ (by kernel_rfl) rfl
    (fun f fn hf hfn => by
      obtain rfl : f = 3 := Option.some.inj ((show Tryz.prog.funcNamed "orlop/orloplaw19.TarLoose" = some 3 by kernel_rfl).symm.trans hf) |>.symm
      obtain rfl : fn = Tryz.f3 := (Option.some.inj (Tryz.func3.symm.trans hfn)).symm
      exact ⟨by kernel_rfl, fun j t ht => by
        rw [Tryz.params3] at ht
        have hm : t ∈ [22, 5, 5] := by simpa using Array.mem_of_getElem? ht
        have hall : ([22, 5, 5].all fun u => !Tryz.prog.wantsStandIn u) = true := by kernel_rfl
        exact (show Tryz.prog.wantsStandIn t = false by simpa using List.all_eq_true.1 hall t hm)⟩)
    (by kernel_rfl)
end tarLoose
/-- The card, under a short name. -/
theorem tarLoose_holds : Rows.TarLooseCardSaid := tarLoose.proved
end Go.Proofs.YtflfhbnflcfmgaaGreatDoor
