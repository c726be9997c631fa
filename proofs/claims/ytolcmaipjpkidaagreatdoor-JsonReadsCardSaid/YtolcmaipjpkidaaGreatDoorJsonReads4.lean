/- jsonReads_holds jsonReads proved lifted over: part 4 of its proof; each part's own remarks stand with its declarations. Conditions: each lemma names its own. -/
import Derived.Test.YtolcmaipjpkidaaGreatDoorJsonReads3
import Derived.Test.YtolcmaipjpkidaaGreatDoorRows
import Derived.WalkKit
import Derived.ProofKit
import Derived.OpenShut
import Derived.ShutString
import Derived.ChangeOld
import Derived.Below
import Derived.Carry
import Derived.SizedLaws
import Derived.Lib.SmallJoins
import Derived.LaidHandle
import Derived.MakeChecks
import Derived.Test.YtolcmaipjpkidaaGreatDoorCards
import Derived.Test.YtolcmaipjpkidaaGreatDoorTie
import Derived.LaidMore
import Derived.Lay
import Derived.Stop.Joined
import Derived.SevenTiedAt
set_option linter.unusedSimpArgs false
set_option linter.unusedVariables false
set_option maxRecDepth 100000
set_option maxHeartbeats 1000000
namespace Go.Proofs.YtolcmaipjpkidaaGreatDoor
open Go Go.SL Go.Pure Go.Js

mutual
/-- A value's text. -/
def writeV : JV → List Nat
  | .mk k o n t l m => if k = 1 then boolL o else if k = 2 then decI n else if k = 3 then quoteS t else if k = 4 then (91 :: joinL [44] (writeL l)) ++ [93] else if k = 5 then (123 :: joinL [44] (writeM m)) ++ [125] else [110, 117, 108, 108]
def writeL : List JV → List (List Nat)
  | [] => []
  | x :: l => writeV x :: writeL l
def writeM : List (List Nat × JV) → List (List Nat)
  | [] => []
  | p :: l => ((quoteS p.1 ++ [58]) ++ writeV p.2) :: writeM l
end
theorem writeL_map : ∀ l, writeL l = l.map writeV
  | [] => rfl
  | x :: l => by rw [writeL, writeL_map l]; rfl
theorem writeM_map : ∀ l, writeM l = l.map fun p => (quoteS p.1 ++ [58]) ++ writeV p.2
  | [] => rfl
  | x :: l => by rw [writeM, writeM_map l]; rfl
theorem decI_b (n : Int) : Bytes (decI n) := by
  unfold decI
  have := Go.Tar.asc_bytes (fun x hx => by have := Go.Tar.dig_lt (b := 10) (by decide) n.natAbs x hx; omega)
  split
  · intro x hx
    rcases List.mem_cons.1 hx with rfl | hx
    · omega
    · exact this x hx
  · exact this
theorem boolL_b (o : Bool) : Bytes (boolL o) := by cases o <;> (unfold Bytes; decide)
theorem bytes_app {a b : List Nat} (ha : Bytes a) (hb : Bytes b) : Bytes (a ++ b) := fun x hx => (List.mem_append.1 hx).elim (ha x) (hb x)
theorem sum_ge {sp : List Nat} : ∀ {l : List (List Nat)} {x : List Nat}, x ∈ l → x.length ≤ (l.map fun x => (sp ++ x).length).sum
  | b :: l, x, h => by
    rw [List.map_cons, List.sum_cons, List.length_append]
    rcases List.mem_cons.1 h with rfl | h
    · omega
    · have := sum_ge (sp := sp) h; omega
theorem sum_cnt (c : Nat) : ∀ l : List (List Nat), l.length ≤ (l.map fun x => ([c] ++ x).length).sum
  | [] => Nat.le_refl _
  | b :: l => by
    have := sum_cnt c l
    rw [List.map_cons, List.sum_cons, List.length_append, List.length_cons, List.length_singleton]; omega
theorem joinL_le {sp : List Nat} : ∀ {l : List (List Nat)} {x : List Nat}, x ∈ l → x.length ≤ (joinL sp l).length
  | a :: l, x, h => by
    unfold joinL
    rw [List.length_append, List.length_flatMap]
    rcases List.mem_cons.1 h with rfl | h
    · omega
    · have := sum_ge (sp := sp) h
      omega
theorem joinL_count (c : Nat) : ∀ l : List (List Nat), l.length ≤ (joinL [c] l).length + 1
  | [] => by simp
  | a :: l => by
    have := sum_cnt c l
    unfold joinL
    rw [List.length_append, List.length_flatMap, List.length_cons]
    omega
/-- A value's strings are bytes, its numbers have up to sixteen digits. -/
def NumOk : Nat → JV → Prop
  | 0, _ => False
  | d + 1, .mk k o n t l m => n.natAbs < 10000000000000000 ∧ (∀ x ∈ l, NumOk d x) ∧ ∀ p ∈ m, NumOk d p.2
theorem numOk_may : ∀ {d : Nat} {v : JV}, mayV d v = true → NumOk d v
  | 0, v, h => by cases h
  | d + 1, .mk k o n t l m, h => by
    simp only [mayV, Bool.and_eq_true, decide_eq_true_eq, List.all_eq_true] at h
    exact ⟨by have := h.1.1.1.1.2; omega, fun x hx => numOk_may (h.2 x hx), fun p hp => numOk_may (h.1.2 p hp).2⟩
section
variable {h : Hp} {K : Value → Hp → Prop}
theorem nfo_st : (P.info? t_string).map (fun i => (i.zero, i.size, i.bytes)) = some (some (.string ByteArray.empty), 1, 16) := by kernel_rfl
theorem strV_snoc (l : List (List Nat)) (x : List Nat) : strV l ++ [.string (strL x)] = strV (l ++ [x]) := by simp [strV]
/-- A text is appended to a row of texts that grows; what was made beside is forgotten. -/
theorem aw_app1St {H0 H : Hp} {v : Value} {xs : List (List Nat)} (nn : New h t_string 1 v H0 (strV xs) xs.length) (le : Hp.ext H0 H) (fr : Hp.ext h H0) (x : List Nat) (ln : xs.length ≤ 2000000000)
    (k : ∀ v' h', (∃ h0, Hp.le h0 h' ∧ New h t_string 1 v' h0 (strV (xs ++ [x])) (xs ++ [x]).length) → K v' h') :
    aw P (Instr.buildSlice t_Sl_string 1 #[(0, .string (strL x))]) (fun t h => aw P (Builtin.append_ #[t_Sl_string, t_Sl_string] t_Sl_string #[v, t]) (fun w h => K w h) h) H := by
  refine aw_lit (ps := [(0, .string (strL x))]) u_Sl_string z_string zr_string rfl (by decide) (fun p hp => by rw [List.mem_singleton.1 hp]; exact ⟨rfl, by omega⟩) fun w h2 n2 _ => ?_
  have e2 := n2.ext
  obtain ⟨So, o, frS⟩ := OutAt.of nn
  have o2 : OutAt t_string 1 h2 v (strV xs) xs.length So := o.keep fun y hy => by
    obtain ⟨z, hz⟩ := out_some o hy
    rw [hz, e2 _ _ (le _ _ hz)]
  refine aw_appendO u_Sl_string u_Sl_string nfo_st rfl (by omega) o2 n2.rds (by intro y hy; simp [fillL] at hy; rw [hy]; rfl) (by omega) fun v' h3 So' o3 kp fr3 => ?_
  refine k v' h3 ?_
  have kph : ∀ y o, h y = some o → h3 y = some o := fun y o e => kp y o (fun q => by rw [frS y q] at e; cases e) (e2 _ _ (le _ _ (fr _ _ e)))
  have es : strV xs ++ fillL [(0, Value.string (strL x))] (List.replicate 1 (.string ByteArray.empty)) = strV (xs ++ [x]) := by rw [← strV_snoc]; rfl
  rw [es] at o3
  have len : xs.length + 1 = (xs ++ [x]).length := by simp
  rw [len] at o3
  rcases o3 with ⟨_, q, _⟩ | ⟨b, c, f, hb, rfl, hc, hf, rfl, l1⟩
  · simp at q
  · refine ⟨h.set b (.row t_string (strV (xs ++ [x])) (c * 1) (some f)), fun y o e => ?_, l1, .inr ⟨b, c, f, ?_, hc, rfl, rfl, hf⟩⟩
    · by_cases q : y = b
      · subst q; rw [Hp.set_same] at e; cases e; exact ⟨_, hb, .refl _⟩
      · rw [Hp.set_ne _ _ q] at e; exact ⟨o, kph y o e, .refl _⟩
    · cases e : h b with
      | none => rfl
      | some o =>
        have nb : b ∉ So := fun q => by rw [frS b q] at e; cases e
        exact absurd (List.mem_singleton.2 rfl) (fr3 b o nb (e2 _ _ (le _ _ (fr _ _ e))))
theorem writeV_b : ∀ {R : Hp} {cs : List Value} {v : JV}, JvR R cs v → Bytes (writeV v) := by
  intro R cs v j
  induction j with
  | @mk ka oa na ta la ma sla sma ila ima bta lta lla lma hla nla ela hma nma ema hda ihl ihm =>
    rw [writeV]
    split
    · exact boolL_b _
    · split
      · exact decI_b _
      · split
        · exact quoteS_b bta
        · have c1 : ∀ c : Nat, c < 256 → Bytes [c] := fun c hc x hx => by rw [List.mem_singleton.1 hx]; exact hc
          split
          · refine bytes_app (bytes_app (a := [91]) (c1 _ (by omega)) (joinL_bytes (c1 _ (by omega)) fun p hp => ?_)) (c1 _ (by omega))
            rw [writeL_map] at hp
            obtain ⟨x, hx, rfl⟩ := List.mem_map.1 hp
            obtain ⟨i, hi, e⟩ := List.getElem_of_mem hx
            exact ihl i _ x (List.getElem?_eq_getElem (show i < ila.length by omega)) (by rw [← e]; exact List.getElem?_eq_getElem hi)
          · split
            · refine bytes_app (bytes_app (a := [123]) (c1 _ (by omega)) (joinL_bytes (c1 _ (by omega)) fun p hp => ?_)) (c1 _ (by omega))
              rw [writeM_map] at hp
              obtain ⟨x, hx, rfl⟩ := List.mem_map.1 hp
              obtain ⟨i, hi, e⟩ := List.getElem_of_mem hx
              have e1 := List.getElem?_eq_getElem (show i < ima.length by omega)
              have e2 : ma[i]? = some x := by rw [← e]; exact List.getElem?_eq_getElem hi
              exact bytes_app (bytes_app (quoteS_b (hda i _ x e1 e2).2.1) (c1 _ (by omega))) (ihm i _ x e1 e2)
            · unfold Bytes; decide
theorem T_written : ∀ {d : Nat} {R : Hp} {cs : List Value} {v : JV}, JvR R cs v → NumOk d v → (writeV v).length ≤ 1000000000 → ∀ {h : Hp}, Hp.cle R h → Pow R → ∀ {K : Value → Hp → Prop}, K (.string (strL (writeV v))) h → Cn P n_json_written #[.agg cs.toArray] h K
  | 0, R, cs, v, j, no, lw, h, rc, pw, K, k => no.elim
  | d + 1, R, cs, v, j, no, lw, h, rc, pw, K, k => by
    have bw := writeV_b j
    cases j with
    | @mk ka oa na ta la ma sla sma ila ima bta lta lla lma hla nla ela hma nma ema hda =>
      obtain ⟨no1, no2, no3⟩ := no
      refine Cn_wk (F_json_written ?_)
      unfold s_json_written
      refine aw_box fun r2 hr2 => ?_
      have x2 := ext_set (.row t_api_Value (Value.agg [.int .i64 ka, .bool oa, .int .i64 na, .string (strL ta), sla, sma].toArray).cells.toList (Value.agg [.int .i64 ka, .bool oa, .int .i64 na, .string (strL ta), sla, sma].toArray).cells.size (some (0, 0))) hr2
      have e2 : (h.set r2 (.row t_api_Value (Value.agg [.int .i64 ka, .bool oa, .int .i64 na, .string (strL ta), sla, sma].toArray).cells.toList (Value.agg [.int .i64 ka, .bool oa, .int .i64 na, .string (strL ta), sla, sma].toArray).cells.size (some (0, 0)))) r2 = some (.row t_api_Value [.int .i64 ka, .bool oa, .int .i64 na, .string (strL ta), sla, sma] 6 (some (0, 0))) := Hp.set_same ..
      generalize h.set r2 (.row t_api_Value (Value.agg [.int .i64 ka, .bool oa, .int .i64 na, .string (strL ta), sla, sma].toArray).cells.toList (Value.agg [.int .i64 ka, .bool oa, .int .i64 na, .string (strL ta), sla, sma].toArray).cells.size (some (0, 0))) = H at x2 e2 ⊢
      have rH : Hp.cle R H := rc.trans x2.cle
      obtain ⟨a0, a1, a2, a3, a4, a5⟩ := row6 e2
      simp -zeta only [RL, GL, vaf0, vaf1, vaf2, vaf3, vaf4, vaf5, a0, a1, a2, a3, a4, a5]
      rw [writeV] at k lw bw
      by_cases g1 : ka = 1
      · rw [if_pos g1] at k
        rw [if_pos (by simpa using g1)]
        exact T_FormatBool ⟨h, x2.le, k⟩
      rw [if_neg g1] at k lw bw
      rw [if_neg (by simpa using g1)]
      by_cases g2 : ka = 2
      · rw [if_pos g2] at k
        rw [if_pos (by simpa using g2)]
        exact T_FormatInt10 (pw.mono rH) no1 ⟨h, x2.le, k⟩
      rw [if_neg g2] at k lw bw
      rw [if_neg (by simpa using g2)]
      by_cases g3 : ka = 3
      · rw [if_pos g3] at k lw
        rw [if_pos (by simpa using g3)]
        exact T_quoted bta lw ⟨h, x2.le, k⟩
      rw [if_neg g3] at k lw bw
      rw [if_neg (by simpa using g3)]
      have c44 : Bytes [44] := by unfold Bytes; decide
      have t44 : (⟨#[44]⟩ : ByteArray) = strL [44] := by kernel_rfl
      by_cases g4 : ka = 4
      · rw [if_pos g4] at k lw bw
        rw [if_pos (by simpa using g4)]
        rw [writeL_map] at k lw bw
        obtain ⟨va, vc, rfl, hvc⟩ := hla.shape
        rw [nla] at hla hvc ⊢
        simp -zeta only [RL, GL]
        have lj : (joinL [44] (la.map writeV)).length ≤ 1000000000 := by rw [List.length_append, List.length_cons] at lw; omega
        have lcnt := joinL_count 44 (la.map writeV)
        rw [List.length_map] at lcnt
        refine Lp_mk (fun m vs G => ∃ (i : Nat) (v : Value), i + m = la.length ∧ New H t_string 1 v G (strV ((la.take i).map writeV)) ((la.take i).map writeV).length ∧ vs = [v, .int .i64 (i : Int)]) la.length ⟨0, _, by omega, ⟨rfl, .inl ⟨rfl, rfl, rfl⟩⟩, rfl⟩ ?_
        rintro m vs G ⟨i, v, hi, nn, rfl⟩
        simp -zeta only [GL, ltN]
        by_cases g : i < la.length
        · rw [if_pos (decide_eq_true g)]
          have ec : ila[i]? = some (ila[i]'(by omega)) := List.getElem?_eq_getElem _
          have ex : la[i]? = some la[i] := List.getElem?_eq_getElem _
          have jx := ela i _ _ ec ex
          have w1 : IntKind.i64.wrap ((i : Int) + 1) = ((i + 1 : Nat) : Int) := by rw [wi64 (by omega) (by omega)]; omega
          have rG : Hp.cle R G := rH.trans nn.ext.cle
          refine aw_itemAt (zs := row0 0) u_Sl_api_Value z_api_Value u_api_Value rfl zr_Jv rfl (hla.mono rG) (fun _ _ e => e) ec jx.len jx.flat fun r5 hr5 => ?_
          have x5 := ext_set (.row t_api_Value (ila[i]'(by omega)) 6 (some (0, 0))) hr5
          rw [q_ldRow (ys := ila[i]'(by omega)) u_api_Value rfl (by rw [jx.len]; exact z_api_Value) (Hp.set_same ..)]
          have lx : (writeV la[i]).length ≤ 1000000000 := Nat.le_trans (joinL_le (List.mem_map.2 ⟨_, List.getElem_mem g, rfl⟩)) lj
          refine T_written jx (no2 _ (List.getElem_mem g)) lx (rG.trans x5.cle) pw ?_
          refine aw_app1St nn x5 nn.ext _ (by rw [List.length_map, List.length_take]; omega) fun v' h' ⟨h0, le0, n0⟩ => ?_
          simp -zeta only [GL, w1]
          refine ⟨h0, le0, m - 1, by omega, i + 1, v', by omega, ?_, rfl⟩
          have : (la.take (i + 1)).map writeV = (la.take i).map writeV ++ [writeV la[i]] := by rw [List.take_add_one, ex, List.map_append]; rfl
          rw [this]
          exact n0
        · rw [if_neg (by simpa using g)]
          rw [List.take_of_length_le (by omega)] at nn
          rw [t44]
          have bj : ∀ p ∈ la.map writeV, Bytes p := fun p hp => by
            obtain ⟨x, hx, rfl⟩ := List.mem_map.1 hp
            obtain ⟨i, hi, e⟩ := List.getElem_of_mem hx
            exact writeV_b (ela i _ x (List.getElem?_eq_getElem (show i < ila.length by omega)) (by rw [← e]; exact List.getElem?_eq_getElem hi))
          refine T_Join nn.rds bj c44 (by decide) (by rw [List.length_map]; omega) lj ?_
          have t91 : (⟨#[91]⟩ : ByteArray) = strL [91] := by kernel_rfl
          have t93 : (⟨#[93]⟩ : ByteArray) = strL [93] := by kernel_rfl
          rw [t91, t93, q_addSt _ _ (by simp only [List.length_cons, List.length_nil]; omega), q_addSt _ _ (by simp only [List.length_append, List.length_cons, List.length_nil]; omega)]
          exact ⟨h, (x2.trans nn.ext).le, k⟩
      rw [if_neg g4] at k lw bw
      rw [if_neg (by simpa using g4)]
      by_cases g5 : ka = 5
      · rw [if_pos g5] at k lw bw
        rw [if_pos (by simpa using g5)]
        rw [writeM_map] at k lw bw
        obtain ⟨va, vc, rfl, hvc⟩ := hma.shape
        rw [nma] at hma hvc ⊢
        simp -zeta only [RL, GL]
        generalize hW : (fun p : List Nat × JV => (quoteS p.1 ++ [58]) ++ writeV p.2) = W at k lw bw
        have lj : (joinL [44] (ma.map W)).length ≤ 1000000000 := by rw [List.length_append, List.length_cons] at lw; omega
        have lcnt := joinL_count 44 (ma.map W)
        rw [List.length_map] at lcnt
        refine Lp_mk (fun m vs G => ∃ (i : Nat) (v : Value), i + m = ma.length ∧ New H t_string 1 v G (strV ((ma.take i).map W)) ((ma.take i).map W).length ∧ vs = [v, .int .i64 (i : Int)]) ma.length ⟨0, _, by omega, ⟨rfl, .inl ⟨rfl, rfl, rfl⟩⟩, rfl⟩ ?_
        rintro m vs G ⟨i, v, hi, nn, rfl⟩
        simp -zeta only [GL, ltN]
        by_cases g : i < ma.length
        · rw [if_pos (decide_eq_true g)]
          have ec : ima[i]? = some (ima[i]'(by omega)) := List.getElem?_eq_getElem _
          have ex : ma[i]? = some ma[i] := List.getElem?_eq_getElem _
          have me : MeR R (ima[i]'(by omega)) ma[i] := meR_of ema hda ec ex
          obtain ⟨cs, ecs, ⟨bn, ln⟩, jx⟩ := me
          have me : MeR R (ima[i]'(by omega)) ma[i] := meR_of ema hda ec ex
          have w1 : IntKind.i64.wrap ((i : Int) + 1) = ((i + 1 : Nat) : Int) := by rw [wi64 (by omega) (by omega)]; omega
          have rG : Hp.cle R G := rH.trans nn.ext.cle
          have lx : (W ma[i]).length ≤ 1000000000 := Nat.le_trans (joinL_le (List.mem_map.2 ⟨_, List.getElem_mem g, rfl⟩)) lj
          have nox := no3 _ (List.getElem_mem g)
          have tk : (ma.take (i + 1)).map W = (ma.take i).map W ++ [W ma[i]] := by rw [List.take_add_one, ex, List.map_append]; rfl
          have l7 := me.len
          have f7 := me.flat
          have eW : W ma[i] = (quoteS ma[i].1 ++ [58]) ++ writeV ma[i].2 := by rw [← hW]
          rw [eW] at lx
          rw [List.length_append, List.length_append, List.length_singleton] at lx
          generalize ma[i] = x at *
          generalize hc : ima[i]'(by omega) = cc at *
          subst ecs
          refine aw_itemAt (zs := .string ⟨#[]⟩ :: row0 0) u_Sl_api_Member z_api_Member u_api_Member rfl zr_Me rfl (hma.mono rG) (fun _ _ e => e) ec l7 f7 fun r7 hr7 => ?_
          have x7 := ext_set (.row t_api_Member (.string (strL x.1) :: cs) 7 (some (0, 0))) hr7
          have e7 : (G.set r7 (.row t_api_Member (.string (strL x.1) :: cs) 7 (some (0, 0)))) r7 = some (.row t_api_Member (.string (strL x.1) :: cs) 7 (some (0, 0))) := Hp.set_same ..
          have rG7 := rG.trans x7.cle
          generalize G.set r7 (.row t_api_Member (.string (strL x.1) :: cs) 7 (some (0, 0))) = G7 at *
          obtain ⟨p0, p1⟩ := mef e7 jx.len
          simp -zeta only [RL, GL, mef0, mef1, p0]
          refine p1 _ ?_
          refine T_quoted bn (by omega) ⟨?_, pk_q fun K => mef1 r7, ?_⟩
          · refine pk_q fun K => ?_
            rw [q_ldAgg (ys := cs) (b := r7) (o := 1) u_api_Value rfl (by rw [jx.len]; exact z_api_Value) (fun j z ez => by rw [cell_row e7, Nat.add_comm]; simpa using ez)]
          have t58 : (⟨#[58]⟩ : ByteArray) = strL [58] := by kernel_rfl
          rw [t58, q_addSt _ _ (by rw [List.length_singleton]; omega)]
          refine T_written jx nox (by omega) rG7 pw ?_
          rw [q_addSt _ _ (by rw [List.length_append, List.length_singleton]; omega), ← eW]
          refine aw_app1St nn x7 nn.ext _ (by rw [List.length_map, List.length_take]; omega) fun v' h' ⟨h0, le0, n0⟩ => ?_
          simp -zeta only [GL, w1]
          refine ⟨h0, le0, m - 1, by omega, i + 1, v', by omega, ?_, rfl⟩
          rw [tk]
          exact n0
        · rw [if_neg (by simpa using g)]
          rw [List.take_of_length_le (by omega)] at nn
          rw [t44]
          have bj : ∀ p ∈ ma.map W, Bytes p := fun p hp => by
            obtain ⟨x, hx, rfl⟩ := List.mem_map.1 hp
            obtain ⟨i, hi, e⟩ := List.getElem_of_mem hx
            have e1 := List.getElem?_eq_getElem (show i < ima.length by omega)
            have e2 : ma[i]? = some x := by rw [← e]; exact List.getElem?_eq_getElem hi
            rw [← hW]
            exact bytes_app (bytes_app (quoteS_b (hda i _ x e1 e2).2.1) (by intro y hy; rw [List.mem_singleton.1 hy]; omega)) (writeV_b (ema i _ x e1 e2))
          refine T_Join nn.rds bj c44 (by decide) (by rw [List.length_map]; omega) lj ?_
          have t123 : (⟨#[123]⟩ : ByteArray) = strL [123] := by kernel_rfl
          have t125 : (⟨#[125]⟩ : ByteArray) = strL [125] := by kernel_rfl
          rw [t123, t125, q_addSt _ _ (by simp only [List.length_cons, List.length_nil]; omega), q_addSt _ _ (by simp only [List.length_append, List.length_cons, List.length_nil]; omega)]
          exact ⟨h, (x2.trans nn.ext).le, k⟩
      rw [if_neg g5] at k
      rw [if_neg (by simpa using g5)]
      have tn : (⟨#[110, 117, 108, 108]⟩ : ByteArray) = strL [110, 117, 108, 108] := by kernel_rfl
      rw [tn]
      exact ⟨h, x2.le, k⟩
end
end Go.Proofs.YtolcmaipjpkidaaGreatDoor
namespace Go.Proofs.YtolcmaipjpkidaaGreatDoor
open Go Go.SL Go.Pure Go.Js
section
variable {R h : Hp} {K : Value → Hp → Prop}
theorem aw_boxV {cs : List Value} {v : JV} (j : JvR R cs v) (k : ∀ r H, h r = none → Hp.ext h H → H r = some (.row t_api_Value cs 6 (some (0, 0))) → K (.pointer (some ⟨r, 0, none⟩)) H) : aw P (Instr.box t_api_Value (.agg cs.toArray)) K h := by
  refine aw_box fun r hr => ?_
  have e : (Value.agg cs.toArray).cells.toList = cs := rfl
  have e2 : (Value.agg cs.toArray).cells.size = 6 := j.len
  rw [e, e2]
  exact k r _ hr (ext_set _ hr) (Hp.set_same ..)
theorem q_ldV {cs : List Value} {v : JV} (j : JvR R cs v) {r : Nat} {H : Hp} (e : H r = some (.row t_api_Value cs 6 (some (0, 0)))) {F : Value → Prop} (f : F (.agg cs.toArray)) : q P H (Instr.loadAt t_api_Value (.pointer (some ⟨r, 0, none⟩))) F := by
  rw [q_ldRow (ys := cs) u_api_Value rfl (by rw [j.len]; exact z_api_Value) e]
  exact f
theorem T_May {cs : List Value} {v : JV} (j : JvR R cs v) (rc : Hp.cle R h) (F : Fst R) (A : Acc R) (k : K (.bool (mayV 16 v)) h) : Cn P n_json_May #[.agg cs.toArray] h K := by
  refine Cn_wk (F_json_May ?_)
  unfold s_json_May
  refine aw_boxV j fun r H hr x e => ?_
  refine q_ldV j e ?_
  exact T_mayJ (d := 16) (Nat.le_refl _) j (rc.trans x.cle) F A ⟨h, x.le, k⟩
/-- A value's text, or none. -/
def writeJ (v : JV) : List Nat := if mayV 16 v = true then writeV v else []
theorem T_Write {cs : List Value} {v : JV} (j : JvR R cs v) (rc : Hp.cle R h) (F : Fst R) (A : Acc R) (pw : Pow R) (lw : mayV 16 v = true → (writeV v).length ≤ 1000000000) (k : K (.string (strL (writeJ v))) h) : Cn P n_json_Write #[.agg cs.toArray] h K := by
  refine Cn_wk (F_json_Write ?_)
  unfold s_json_Write
  refine aw_boxV j fun r H hr x e => ?_
  refine q_ldV j e ?_
  refine T_May j (rc.trans x.cle) F A ?_
  simp -zeta only [RL, GL]
  unfold writeJ at k
  by_cases g : mayV 16 v = true
  · rw [if_pos g] at k
    rw [g, if_neg (by decide)]
    refine q_ldV j e ?_
    exact T_written j (numOk_may g) (lw g) (rc.trans x.cle) pw ⟨h, x.le, k⟩
  · rw [if_neg g] at k
    rw [Bool.not_eq_true] at g
    rw [g, if_pos (by decide)]
    exact ⟨h, x.le, k⟩
/-- The value of a name's first member. -/
def getV (name : List Nat) : JV → Option JV
  | .mk k o n t l m => (m.find? fun x => decide (x.1 = name)).map Prod.snd
theorem find_fIdx {α : Type} (f : α → Bool) (l : List α) : (l.any f = false ∧ l.find? f = none ∧ fIdx f l = -1) ∨ ∃ (i : Nat) (x : α), l[i]? = some x ∧ l.find? f = some x ∧ fIdx f l = (i : Int) := by
  by_cases g : l.any f = true
  · refine .inr ?_
    have h := g
    rw [List.any_eq_true] at h
    obtain ⟨x, hx, hf⟩ := h
    have key : ∀ l : List α, l.any f = true → ∃ x, l[(l.takeWhile fun x => !f x).length]? = some x ∧ l.find? f = some x := by
      intro l
      induction l with
      | nil => intro h; cases h
      | cons a l ih =>
        intro h
        by_cases q : f a = true
        · exact ⟨a, by simp [q], by simp [q]⟩
        · rw [Bool.not_eq_true] at q
          rw [List.any_cons, q, Bool.false_or] at h
          obtain ⟨x, h1, h2⟩ := ih h
          exact ⟨x, by simpa [q] using h1, by simpa [q] using h2⟩
    obtain ⟨y, h1, h2⟩ := key l g
    refine ⟨_, y, h1, h2, ?_⟩
    unfold fIdx
    rw [if_pos g]
  · rw [Bool.not_eq_true] at g
    refine .inl ⟨g, ?_, ?_⟩
    · rw [List.find?_eq_none]
      intro x hx q
      rw [List.any_eq_false] at g
      exact g x hx q
    · unfold fIdx
      rw [if_neg (by rw [g]; decide)]
theorem mefo {h : Hp} {K : Value → Prop} (b o : Nat) : q P h (Instr.fieldAt t_api_Member (.pointer (some ⟨b, o, none⟩)) 1) K = K (.pointer (some ⟨b, o + 1, none⟩)) := q_of (by kernel_rfl) K
theorem T_Get {cs : List Value} {v : JV} {name : List Nat} (j : JvR R cs v) (rc : Hp.cle R h) (bn : Bytes name)
    (k : ∀ cs', JvR R cs' ((getV name v).getD nulV) → K (.tuple #[.agg cs'.toArray, .bool (getV name v).isSome]) h) : Cn P n_json_Get #[.agg cs.toArray, .string (strL name)] h K := by
  refine Cn_wk (F_json_Get ?_)
  unfold s_json_Get
  refine aw_boxV j fun r H hr x e => ?_
  refine aw_box fun r3 hr3 => ?_
  have x3 := ext_set (.row t_string (Value.string (strL name)).cells.toList (Value.string (strL name)).cells.size (some (0, 0))) hr3
  have c3 : (H.set r3 (.row t_string (Value.string (strL name)).cells.toList (Value.string (strL name)).cells.size (some (0, 0)))).cell ⟨r3, 0, none⟩ = some (.string (strL name)) := by rw [cell_row (Hp.set_same ..)]; rfl
  generalize H.set r3 (.row t_string (Value.string (strL name)).cells.toList (Value.string (strL name)).cells.size (some (0, 0))) = H3 at x3 c3 ⊢
  refine aw_allocL (row0 0) zr_Jv rfl fun r4 hr4 => ?_
  have x4 := ext_set (.row t_api_Value (row0 0) (row0 0).length (some (0, 0))) hr4
  have e4 : (H3.set r4 (.row t_api_Value (row0 0) (row0 0).length (some (0, 0)))) r4 = some (.row t_api_Value (row0 0) 6 (some (0, 0))) := Hp.set_same ..
  have nh4 : h r4 = none := x.none (x3.none hr4)
  generalize H3.set r4 (.row t_api_Value (row0 0) (row0 0).length (some (0, 0))) = H4 at x4 e4 ⊢
  have e := x4 _ _ (x3 _ _ e)
  have c3 := x4.cle _ _ c3
  have xx := x.trans (x3.trans x4)
  have rH := rc.trans xx.cle
  cases j with
  | @mk ka oa na ta la ma sla sma ila ima bta lta lla lma hla nla ela hma nma ema hda =>
    obtain ⟨a0, a1, a2, a3, a4, a5⟩ := row6 e
    simp -zeta only [RL, GL, vaf5, a5]
    have me : ∀ (i : Nat) (c : List Value) (x : List Nat × JV), ima[i]? = some c → ma[i]? = some x → MeR H4 c x := fun i c x e1 e2 => (meR_of ema hda e1 e2).mono rH
    refine T_IndexM (pr := fun x => decide (x.1 = name)) (hma.mono rH) nma (by omega) me (fun {K} c x m k => T_Get_1 bn c3 c x m k) ?_
    rw [q_geq]
    have done : ∀ (ys cs' : List Value) (b : Bool), ys.length = 6 → (∀ y ∈ ys, flat y = true) → K (.tuple #[.agg ys.toArray, .bool b]) h →
        aw P (Instr.storeAt t_api_Value (.pointer (some ⟨r4, 0, none⟩)) (.agg ys.toArray)) (fun _ h => q P h ((asAddr (.pointer (some ⟨r4, 0, none⟩))).bind (loadVar t_api_Value)) fun r0 => ∃ h0, Hp.le h0 h ∧ K (.tuple #[r0, .bool b]) h0) H4 := fun ys cs' b ly fy kk => by
      refine aw_storeRow (ys := ys) (by rw [ly]; exact z_api_Value) e4 (by rw [ly]; rfl) fy (fun i _ q => Nat.not_lt_zero _ q.2) ?_
      rw [q_resRow (ys := ys) u_api_Value rfl (by rw [ly]; exact z_api_Value) (Hp.set_same ..)]
      exact ⟨h, fun y o q => by rw [Hp.set_ne _ _ (by rintro rfl; rw [nh4] at q; cases q)]; exact xx.le _ _ q, kk⟩
    rcases find_fIdx (fun x : List Nat × JV => decide (x.1 = name)) ma with ⟨_, f2, f3⟩ | ⟨i, y, fi, f2, f3⟩
    · rw [f3, cnd_bool, if_neg (by decide), bldV0]
      have kk := k (row0 0) (by rw [getV, f2]; exact jv_row0 0)
      rw [getV, f2] at kk
      exact done _ [] _ rfl (row0_flat 0) kk
    · rw [f3, cnd_bool, if_pos (by simp)]
      have hi := (List.getElem?_eq_some_iff.1 fi).1
      have ec : ima[i]? = some (ima[i]'(by omega)) := List.getElem?_eq_getElem _
      have m := me i _ _ ec fi
      have m0 := meR_of ema hda ec fi
      generalize ima[i]'(by omega) = c at ec m m0
      obtain ⟨cs, rfl, bn2, jy⟩ := m0
      obtain ⟨va, vc, rfl, hvc, hr⟩ := hma.mono rH
      rcases hr with rfl | ⟨b, o, rfl, hy⟩
      · simp at ec
      have lt := (List.getElem?_eq_some_iff.1 ec).1
      rw [a5, withVal_some]
      rw [q_idxS u_Sl_api_Member z_api_Member _ _ _ _ _ (by omega) (by omega), Int.toNat_natCast, add_off, mefo]
      rw [q_ldAgg (ys := cs) u_api_Value rfl (by rw [jy.len]; exact z_api_Value) (fun j z ez => by have := hy i _ ec (1 + j) z (by rw [Nat.add_comm]; exact ez); rw [← Nat.add_assoc] at this; exact this)]
      have kk := k cs (by rw [getV, f2]; exact jy)
      rw [getV, f2] at kk
      exact done _ [] _ jy.len jy.flat kk
end
abbrev awk1 : List Nat := [32, 123, 34, 97, 34, 58, 91, 49, 44, 45, 50, 44, 34, 120, 92, 110, 34, 93, 32, 44, 32, 34, 98, 34, 58, 110, 117, 108, 108, 125]
abbrev awkV : JV := mapV [([97], listV [numV 1, numV (-2), textV [120, 10]]), ([98], nulV)]
theorem awk1_parse : parse awk1 = .ok awkV := by kernel_rfl
theorem awk2_parse : parse [48, 49] = .error 8 := by kernel_rfl
theorem awk3_parse : parse [91, 91, 91, 91, 91, 91, 91, 91, 91, 91, 91, 91, 91, 91, 91, 91, 91] = .error 3 := by kernel_rfl
theorem awk_may : mayV 16 awkV = true := by kernel_rfl
theorem awk_get : getV [97] awkV = some (listV [numV 1, numV (-2), textV [120, 10]]) := by kernel_rfl
theorem awk_write : writeV awkV = [123, 34, 97, 34, 58, 91, 49, 44, 45, 50, 44, 34, 120, 92, 117, 48, 48, 48, 97, 34, 93, 44, 34, 98, 34, 58, 110, 117, 108, 108, 125] := by kernel_rfl
section
variable {h : Hp} {K : Value → Hp → Prop}
theorem aw_litM {n : Nat} {ps : List (Nat × Value)} {l : List Nat} (hn : n ≤ 16777216) (hp : ∀ p ∈ ps, flat p.2 = true ∧ p.1 < n) (hf : fillL ps (List.replicate n (.int .u8 0)) = nv .u8 l) (hl : n = l.length)
    (k : ∀ v h', Nn h t_uint8 .u8 v h' l → K v h') : aw P (Instr.buildSlice t_Sl_uint8 n ps.toArray) (fun t h => aw P (convert t_Sl_uint8 t_Sl_uint8 t) (fun t h => K t h) h) h := by
  refine aw_lit (ps := ps) u_Sl_uint8 z_uint8 zr_uint8 rfl hn hp fun t7 h2 n2 q2 => ?_
  obtain ⟨b2, hb2, rfl, rfl⟩ := q2
  refine aw_mark hb2 (by rw [fillL_len, List.length_replicate]) fun h3 n3 => ?_
  refine k _ _ ?_
  unfold Nn
  rw [← hl]
  rw [hf] at n3
  exact n3
/-- A value, held in a cell of its own. -/
theorem aw_hold {cs : List Value} {v : JV} {Q : Hp} (j : JvR Q cs v) (k : ∀ r H, h r = none → Hp.ext h H → H r = some (.row t_api_Value cs 6 (some (0, 0))) → K (.pointer (some ⟨r, 0, none⟩)) H) :
    aw P (Instr.alloc t_api_Value true (.tuple #[])) (fun t h => aw P (Instr.storeAt t_api_Value t (.agg cs.toArray)) (fun _ h => K t h) h) h := by
  refine aw_allocL (row0 0) zr_Jv rfl fun r4 hr4 => ?_
  refine aw_storeRow (ys := cs) (by rw [j.len]; exact z_api_Value) (Hp.set_same ..) (by rw [j.len]; rfl) j.flat (fun i _ q => Nat.not_lt_zero _ q.2) ?_
  rw [Hp.set_set]
  exact k r4 _ hr4 (ext_set _ hr4) (Hp.set_same ..)
theorem T_ParseX {v : Value} {l : List Nat} (T : Tab h) (r : Rn h .u8 v l) (bl : Bytes l)
    (k : ∀ cs h', Hp.ext h h' → JvR h' cs (resV (parse l)).1 → K (.tuple #[.agg cs.toArray, .int .i64 (resV (parse l)).2]) h') : Cn P n_json_Parse #[v] h K := by
  have w0 : Own h h [] := ⟨.refl _, fun b hb => (by cases hb), fun b hb => (by cases hb)⟩
  exact T_Parse T w0 r bl fun cs R' h' s j => k cs h' (fun b o e => s.keep b o (by simp) e) (j.mono s.own.sub.cle)
theorem T_awake15 (T : Tab h) (pw : Pow h) (k : ∀ h', Hp.ext h h' → K (.bool true) h') : Cn P n_orloplaw15_awake #[] h K := by
  refine F_orloplaw15_awake ?_
  unfold s_orloplaw15_awake
  refine aw_litM (l := awk1) (by decide) (by decide +kernel) (by kernel_rfl) rfl fun v1 h1 n1 => ?_
  have x1 := n1.ext
  refine T_ParseX (T.mono x1.cle) n1.rn (by unfold Bytes; decide) fun cs h2 x2 j1 => ?_
  have x2 := x1.trans x2
  rw [awk1_parse] at j1 ⊢
  rw [ext0, ext1]
  refine aw_hold j1 fun r2 h3 hr2 x3 e2 => ?_
  have x3' := x2.trans x3
  refine aw_litM (l := [48, 49]) (by decide) (by decide +kernel) (by kernel_rfl) rfl fun v4 h4 n4 => ?_
  refine T_ParseX (T.mono (x3'.trans n4.ext).cle) n4.rn (by unfold Bytes; decide) fun cs5 h5 x5 j5 => ?_
  rw [awk2_parse] at j5 ⊢
  rw [ext0, ext1]
  refine aw_hold j5 fun r6 h6 hr6 x6 e6 => ?_
  have x6' := n4.ext.trans (x5.trans x6)
  refine aw_litM (l := [91, 91, 91, 91, 91, 91, 91, 91, 91, 91, 91, 91, 91, 91, 91, 91, 91]) (by decide) (by decide +kernel) (by kernel_rfl) rfl fun v7 h7 n7 => ?_
  refine T_ParseX (T.mono (x3'.trans (x6'.trans n7.ext)).cle) n7.rn (by unfold Bytes; decide) fun cs8 h8 x8 j8 => ?_
  rw [awk3_parse] at j8 ⊢
  rw [ext0, ext1]
  refine aw_hold j8 fun r9 h9 hr9 x9 e9 => ?_
  have x9' := x6'.trans (n7.ext.trans (x8.trans x9))
  have e2 := x9' _ _ e2
  have xx := x3'.trans x9'
  refine q_ldV j1 e2 ?_
  have t97 : (⟨#[97]⟩ : ByteArray) = strL [97] := by kernel_rfl
  rw [t97]
  have J1 : JvR h9 cs awkV := (j1.mono x3.cle).mono x9'.cle
  refine T_Get J1 (Hp.ext.refl _).cle (by unfold Bytes; decide) fun cs10 j10 => ?_
  rw [awk_get] at j10 ⊢
  rw [ext0, ext1]
  refine aw_hold j10 fun r11 h11 hr11 x11 e11 => ?_
  have e2 := x11 _ _ e2
  have d1 : ((0 : Int) == 0) = true := rfl
  have d2 : ((8 : Int) == 8) = true := rfl
  have d3 : ((3 : Int) == 3) = true := rfl
  obtain ⟨c0, rfl⟩ : ∃ c0 : List Value, c0 = cs10 := ⟨_, rfl⟩
  have hl := j10
  generalize hv : (some (listV [numV 1, numV (-2), textV [120, 10]])).getD nulV = lv at hl
  cases hl with
  | @mk ka oa na ta la ma sla sma ila ima bta lta lla lma hla nla ela hma nma ema hda =>
    have hv' : la = [numV 1, numV (-2), textV [120, 10]] := by
      have : (listV [numV 1, numV (-2), textV [120, 10]]) = .mk ka oa na ta la ma := hv
      injection this with _ _ _ _ e _
      exact e.symm
    obtain ⟨a0, a1, a2, a3, a4, a5⟩ := row6 e11
    obtain ⟨va, vc, rfl, hvc⟩ := hla.shape
    have l3 : ila.length = 3 := by rw [nla, hv']; rfl
    rw [l3] at a4
    simp -zeta only [RL, GL, vaf4, a4, resV, d1, d2, d3, Option.isSome_some, if_true]
    refine q_ldV J1 e2 ?_
    have x12 := xx.trans x11
    refine T_Write (J1.mono x11.cle) (Hp.ext.refl _).cle (T.mono x12.cle).fst (T.mono x12.cle).acc (pw.mono x12.cle) (fun _ => by rw [awk_write]; decide) ?_
    have ew : writeJ awkV = [123, 34, 97, 34, 58, 91, 49, 44, 45, 50, 44, 34, 120, 92, 117, 48, 48, 48, 97, 34, 93, 44, 34, 98, 34, 58, 110, 117, 108, 108, 125] := by unfold writeJ; rw [if_pos awk_may, awk_write]
    have et : tx_962194 = strL [123, 34, 97, 34, 58, 91, 49, 44, 45, 50, 44, 34, 120, 92, 117, 48, 48, 48, 97, 34, 93, 44, 34, 98, 34, 58, 110, 117, 108, 108, 125] := by kernel_rfl
    rw [ew, et, q_eqlSt _ _ (by unfold Bytes; decide) (by unfold Bytes; decide), decide_eq_true rfl]
    exact k _ x12
end
end Go.Proofs.YtolcmaipjpkidaaGreatDoor
namespace Go.Proofs.YtolcmaipjpkidaaGreatDoor
open Go Go.SL Go.Pure Go.Js Go.Tar
theorem has_head {w s : List Nat} {c : Nat} (hs : s.getD 0 0 ≠ c) (hc : c ≠ 0) : has (c :: w) s = false := by
  unfold has
  refine decide_eq_false fun q => hs ?_
  cases s with
  | nil => cases q
  | cons a s =>
    rw [List.length_cons, List.take_succ_cons] at q
    injection q with q _
section
variable {h : Hp} {K : Value → Hp → Prop}
theorem bldNum15 (n : Int) {h : Hp} {K : Value → Prop} : q P h (Instr.build t_api_Value #[(0, .int .i64 2), (2, .int .i64 n)]) K = K (.agg ([.int .i64 2, .bool false, .int .i64 n, .string (strL []), .slice none 0 0, .slice none 0 0] : List Value).toArray) := q_of (by kernel_rfl) K
theorem jv_num {R : Hp} (n : Int) : JvR R [.int .i64 2, .bool false, .int .i64 n, .string (strL []), .slice none 0 0, .slice none 0 0] (numV n) := jv_leaf 2 false n (t := []) (by intro x hx; cases hx) rfl
end
end Go.Proofs.YtolcmaipjpkidaaGreatDoor
namespace Go.Proofs.YtolcmaipjpkidaaGreatDoor
open Go Go.SL Go.Pure
open Go.ChangeShapes Go.WideShapes Go.ChangeAt Go.RowKit
/-- All cells that lie in memory, to read. -/
def readAll (w : World) : Hp := fun b => match w.heap[b]? with
  | some (.cells c e _) => some (.row e c.toList c.size none)
  | _ => none
theorem readAll_sat (w : World) : (readAll w).sat w := by
  intro b o e
  unfold readAll at e
  split at e
  · rename_i c el f hb
    cases e
    refine ⟨_, hb, rfl, rfl, by simp, fun i v hv => by simpa using hv, fun f hf => by cases hf⟩
  · cases e
theorem readAll_own (w : World) (b : Nat) : ¬ (readAll w).own b := by
  rintro ⟨o, e, hr⟩
  unfold readAll at e
  split at e
  · cases e; cases hr
  · cases e
theorem readAll_cell {w : World} {b o : Nat} {v : Value} (e : w.cell? ⟨b, o, none⟩ = some v) : (readAll w).cell ⟨b, o, none⟩ = some v := by
  unfold World.cell? at e
  unfold Hp.cell readAll
  dsimp only at e ⊢
  split at e
  · rename_i c el f hb
    rw [hb]
    simpa using e
  · cases e
theorem below_of {w w' : World} {h' : Hp} (f : Fr (readAll w) h' w w') : Below w.heap.size w w' :=
  ⟨f.os, f.tape, f.output, f.size, fun k hk => f.keep k hk (readAll_own w k)⟩
theorem ownNone : ownKnob Tryz.prog.godebug = none := by kernel_rfl
theorem laidOut : laidOutB Tryz.prog = true := by kernel_rfl
/-- The walk of a statement that tells true. -/
theorem tells_true {f : FuncId} {args : Array Value} {w : World} (c : Cn P f args (readAll w) fun v _ => v = .bool true) : Calls P f args w fun e w' => e = .returned (.bool true) ∧ Below w.heap.size w w' :=
  (c.2 w (readAll_sat w)).mono fun e w' ⟨v, h', he, _, f', hv⟩ => ⟨by rw [he, hv], below_of f'⟩
end Go.Proofs.YtolcmaipjpkidaaGreatDoor
namespace Go.Proofs.YtolcmaipjpkidaaGreatDoor
open Go Go.SL Go.Pure
open Go.ChangeShapes Go.WideShapes Go.ChangeAt Go.RowKit
theorem ty_open {H : Type} {enc : TypeId × Value → H} {w : World} : ∀ (ty : Ty),
    (∀ (t : TypeId) (fuel : Nat) (cs : List Value) (x : DataW H × List MemPlace), tyB P ty (.inl t) = true → DataW.trod enc P w 0 (fun _ => true) true fuel t cs = some x → ty.Rd (readAll w) cs) ∧
    (∀ (o : Nat) (l : List Field) (n : Nat) (cs : List Value), tyB P ty (.inr (o, l)) = true → cs.length = o + ty.size → (∀ (j : Nat) (f : Field), l[j]? = some f → ∃ y, DataW.trod enc P w 0 (fun _ => true) true n f.type ((cs.drop f.offset).take (P.cellsOf f.type)) = some y) → ty.Rd (readAll w) (cs.drop o)) := by
  intro ty
  induction ty with
  | int k =>
    refine ⟨fun t fuel cs x hb h => ?_, fun o l n cs hb => by simp [tyB] at hb⟩
    unfold tyB at hb
    split at hb
    · rename_i k' hu
      obtain ⟨n, rfl, _, hw⟩ := DataW.trod_int hu h
      rw [beq_iff_eq] at hb
      subst hb
      exact ⟨n, rfl, hw⟩
    · cases hb
  | bool =>
    refine ⟨fun t fuel cs x hb h => ?_, fun o l n cs hb => by simp [tyB] at hb⟩
    unfold tyB at hb
    split at hb
    · rename_i hu
      obtain ⟨b, rfl, _⟩ := DataW.trod_bool hu h
      exact ⟨b, rfl⟩
    · cases hb
  | str =>
    refine ⟨fun t fuel cs x hb h => ?_, fun o l n cs hb => by simp [tyB] at hb⟩
    unfold tyB at hb
    split at hb
    · rename_i hu
      obtain ⟨s, rfl, _, hs⟩ := DataW.trod_string hu h
      exact ⟨s, rfl, Nat.le_trans hs (by decide)⟩
    · cases hb
  | sl e ih =>
    refine ⟨fun t fuel cs x hb h => ?_, fun o l n cs hb => by simp [tyB] at hb⟩
    unfold tyB at hb
    split at hb
    · rename_i te hu
      simp only [Bool.and_eq_true, beq_iff_eq, decide_eq_true_eq] at hb
      obtain ⟨⟨hc, h0⟩, hb⟩ := hb
      rcases DataW.trod_slice hu h with ⟨rfl, _⟩ | ⟨a', len, cap, elems, rest, m, _, rfl, _, _, hl, hm, hlen, hel, _, _⟩
      · exact ⟨_, [], rfl, ⟨none, 0, rfl, Nat.le_refl _, .inl rfl⟩, by simp, by simp⟩
      · have each : ∀ i, i < len → ∃ cs : List Value, cs.length = e.size ∧ e.Rd (readAll w) cs ∧ ∀ j y, cs[j]? = some y → w.cell? ((a'.add (i * e.size)).add j) = some y := by
          intro i hi
          have h1 := hel i hi
          rw [hc, List.getElem?_eq_getElem (by omega), Option.bind_eq_some_iff] at h1
          obtain ⟨cs, hcs, htr⟩ := h1
          obtain ⟨_, hlen, hcell⟩ := World.cells?_some hcs
          refine ⟨cs, hlen, ih.1 te m cs _ hb htr, fun j y ey => ?_⟩
          have hlt := (List.getElem?_eq_some_iff.1 ey).1
          rw [hcell j (by omega)]
          exact ey
        obtain ⟨f, hfn⟩ : ∃ f : Nat → List Value, ∀ i, i < len → (f i).length = e.size ∧ e.Rd (readAll w) (f i) ∧ ∀ j y, (f i)[j]? = some y → w.cell? ((a'.add (i * e.size)).add j) = some y := by
          refine ⟨fun i => if q : i < len then (each i q).choose else [], fun i hi => ?_⟩
          simp only [hi, dif_pos]
          exact (each i hi).choose_spec
        have hget : ∀ (i : Nat) (x : List Value), ((List.range len).map f)[i]? = some x → i < len ∧ x = f i := by
          intro i x e
          have hi : i < len := by simpa using (List.getElem?_eq_some_iff.1 e).1
          rw [List.getElem?_map, List.getElem?_range hi] at e
          exact ⟨hi, by simpa using e.symm⟩
        have ll : ((List.range len).map f).length = len := by simp
        have hm' : cap ≤ 9223372036854775807 := Nat.le_trans hm (by decide)
        refine ⟨_, (List.range len).map f, rfl, ⟨some a', cap, by rw [ll], by rw [ll]; exact hl, ?_⟩, by rw [ll]; omega, fun x hx => ?_⟩
        · by_cases hl0 : len = 0
          · left; subst hl0; rfl
          · right
            obtain ⟨l0, _, c0⟩ := hfn 0 (by omega)
            have hc0 := c0 0 _ (List.getElem?_eq_getElem (by omega))
            obtain ⟨b, o, sp⟩ := a'
            have hsp : sp = none := by
              cases sp with
              | none => rfl
              | some s =>
                unfold World.cell? Addr.add at hc0
                dsimp only at hc0
                split at hc0 <;> simp at hc0
            subst hsp
            refine ⟨b, o, rfl, fun i x e j y ey => ?_⟩
            obtain ⟨hi, rfl⟩ := hget i x e
            have := (hfn i hi).2.2 j y ey
            rw [add_off, add_off] at this
            exact readAll_cell this
        · obtain ⟨i, hi, rfl⟩ := List.mem_map.1 hx
          have hi : i < len := by simpa using hi
          exact ⟨(hfn i hi).1, (hfn i hi).2.1⟩
    · cases hb
  | arr n e ih =>
    refine ⟨fun t fuel cs x hb h => ?_, fun o l n cs hb => by simp [tyB] at hb⟩
    unfold tyB at hb
    split at hb
    · rename_i m te hu
      simp only [Bool.and_eq_true, beq_iff_eq] at hb
      obtain ⟨⟨⟨rfl, hc⟩, hct⟩, hb⟩ := hb
      obtain ⟨xs, k, _, _, hlen, hl, hel⟩ := DataW.trod_array hu h
      rw [hct] at hlen
      have piece : ∀ i, i < m → ((cs.drop (i * e.size)).take e.size).length = e.size ∧ e.Rd (readAll w) ((cs.drop (i * e.size)).take e.size) := fun i hi => by
        have h1 := hel i hi
        rw [hc, List.getElem?_eq_getElem (by omega)] at h1
        refine ⟨?_, ih.1 te k _ _ hb h1⟩
        rw [List.length_take, List.length_drop, hlen]
        have : (i + 1) * e.size ≤ m * e.size := Nat.mul_le_mul_right _ hi
        rw [Nat.succ_mul] at this
        omega
      have flat : ∀ (m : Nat) (cs : List Value), cs.length = m * e.size → ((List.range m).map fun i => (cs.drop (i * e.size)).take e.size).flatten = cs := by
        intro m
        induction m with
        | zero => intro cs hl; obtain rfl : cs = [] := List.eq_nil_of_length_eq_zero (by simpa using hl); rfl
        | succ m ihm =>
          intro cs hl
          rw [Nat.succ_mul] at hl
          rw [List.range_succ_eq_map, List.map_cons, List.map_map, List.flatten_cons, Nat.zero_mul, List.drop_zero]
          have e1 : ((fun i => (cs.drop (i * e.size)).take e.size) ∘ Nat.succ) = fun i => ((cs.drop e.size).drop (i * e.size)).take e.size := by
            funext i
            show (cs.drop ((i + 1) * e.size)).take e.size = _
            rw [List.drop_drop, Nat.succ_mul, Nat.add_comm]
          rw [e1, ihm (cs.drop e.size) (by rw [List.length_drop]; omega), List.take_append_drop]
      refine ⟨_, (flat m cs hlen).symm, by simp, fun x hx => ?_⟩
      obtain ⟨i, hi, rfl⟩ := List.mem_map.1 hx
      exact piece i (by simpa using hi)
    · cases hb
  | rcd fs ih =>
    refine ⟨fun t fuel cs x hb h => ?_, fun o l n cs hb => by simp [tyB] at hb⟩
    unfold tyB at hb
    split at hb
    · rename_i fa hu
      simp only [Bool.and_eq_true, beq_iff_eq] at hb
      obtain ⟨xs, n, _, _, hl, hlen, hf⟩ := DataW.trod_struct hu h
      have := ih.2 0 fa.toList n cs hb.2 (by rw [hl, hb.1, Nat.zero_add]) fun j f hj => by
        have := hf j f (by simpa using hj)
        have hlt : j < xs.length := by
          have := (List.getElem?_eq_some_iff.1 hj).1
          simp at this
          omega
        exact ⟨_, this.trans (List.getElem?_eq_getElem hlt)⟩
      exact this
    · cases hb
  | nil =>
    refine ⟨fun t fuel cs x hb h => by simp [tyB] at hb, fun o l n cs hb hl hf => ?_⟩
    exact List.drop_of_length_le (by rw [hl]; exact Nat.le_refl _)
  | cons a b iha ihb =>
    refine ⟨fun t fuel cs x hb h => by simp [tyB] at hb, fun o l n cs hb hl hf => ?_⟩
    unfold tyB at hb
    cases l with
    | nil => cases hb
    | cons f l =>
      simp only [Bool.and_eq_true, beq_iff_eq] at hb
      obtain ⟨⟨⟨ho, hc⟩, h1⟩, h2⟩ := hb
      have hsz : (Ty.cons a b).size = a.size + b.size := rfl
      obtain ⟨y, hy⟩ := hf 0 f rfl
      rw [ho, hc] at hy
      refine ⟨(cs.drop o).take a.size, cs.drop (o + a.size), by rw [← List.drop_drop, List.take_append_drop], ?_, iha.1 f.type n _ _ h1 hy, ihb.2 (o + a.size) l n cs h2 (by omega) fun j g hj => hf (j + 1) g hj⟩
      rw [List.length_take, List.length_drop]
      omega
/-- A thing that is handed in. -/
theorem rd_open {H : Type} {enc : TypeId × Value → H} {w : World} {v : Value} {d : DataW H} {p : List MemPlace} (ty : Ty) {t : TypeId} (hb : tyB P ty (.inl t) = true) (h : DataW.Trod enc P w 0 (fun _ => true) true t v d p) : ty.Rd (readAll w) v.cells.toList := by
  obtain ⟨fuel, hf⟩ := h
  exact (ty_open ty).1 t fuel _ _ hb hf
end Go.Proofs.YtolcmaipjpkidaaGreatDoor
namespace Go.Proofs.YtolcmaipjpkidaaGreatDoor
open Go Go.SL Go.Pure Go.Js
section
variable {W : World} {t : Nat} {cs : List Value} {fuel : Nat} {p : List MemPlace} {ds : List (DataW Unit)} {d : DataW Unit}
theorem dFld {fs : Array Field} (ht : P.underlying t = some (.struct fs)) (h : DataW.trod (fun _ => ()) P W 0 (fun _ => true) false fuel t cs = some (.agg ds, p)) {i ft off : Nat} (hf : (fs[i]?).map (fun f => (f.type, f.offset)) = some (ft, off)) (hd : ds[i]? = some d) :
    ∃ n q, DataW.trod (fun _ => ()) P W 0 (fun _ => true) false n ft ((cs.drop off).take (P.cellsOf ft)) = some (d, q) := by
  obtain ⟨xs, n, rfl, hx, hlen, hn, hel⟩ := DataW.trod_struct ht h
  rw [Option.map_eq_some_iff] at hf
  obtain ⟨f, hf, e⟩ := hf
  obtain ⟨rfl, rfl⟩ := Prod.mk.inj e
  have h0 := hel i f hf
  simp only [Prod.mk.injEq, DataW.agg.injEq] at hx
  rw [hx.1, List.getElem?_map, Option.map_eq_some_iff] at hd
  obtain ⟨y, hy, rfl⟩ := hd
  rw [hy] at h0
  exact ⟨n, y.2, h0⟩
theorem dElt {n e : Nat} (ht : P.underlying t = some (.array n e)) (h : DataW.trod (fun _ => ()) P W 0 (fun _ => true) false fuel t cs = some (.agg ds, p)) {i c : Nat} (hc : P.cellsOf e = c) (hi : i < n) (hd : ds[i]? = some d) :
    ∃ m q, DataW.trod (fun _ => ()) P W 0 (fun _ => true) false m e ((cs.drop (i * c)).take c) = some (d, q) := by
  subst hc
  obtain ⟨xs, m, rfl, hx, hlen, hn, hel⟩ := DataW.trod_array ht h
  have h0 := hel i hi
  simp only [Prod.mk.injEq, DataW.agg.injEq] at hx
  rw [hx.1, List.getElem?_map, Option.map_eq_some_iff] at hd
  obtain ⟨y, hy, rfl⟩ := hd
  rw [hy] at h0
  exact ⟨m, y.2, h0⟩
theorem dInt {k : IntKind} {z : Int} (ht : P.underlying t = some (.int k)) (h : DataW.trod (fun _ => ()) P W 0 (fun _ => true) false fuel t cs = some (.lit (.int k z), p)) : cs = [.int k z] := by
  obtain ⟨n, rfl, e, _⟩ := DataW.trod_int ht h
  simp only [Prod.mk.injEq, DataW.lit.injEq, Lit.int.injEq, true_and] at e
  rw [e.1]
theorem dCell {a b : Nat} {v : Value} (h : (cs.drop a).take b = [v]) : cs[a]? = some v := by
  have := congrArg (fun l => l[0]?) h
  rw [← Nat.add_zero a, ← List.getElem?_drop]
  cases hc : cs.drop a with
  | nil => rw [hc] at h; cases b <;> simp at h
  | cons x r =>
    rw [hc] at h
    cases b with
    | zero => simp at h
    | succ b => simp at h; simp [h.1]
/-- A slice that a table is: its rows, in memory. -/
theorem dSl {e c : Nat} {ds : List (DataW Unit)} (ht : P.underlying t = some (.slice e)) (hc : P.cellsOf e = c) (h0 : 0 < c) (hn : ds ≠ []) (h : DataW.trod (fun _ => ()) P W 0 (fun _ => true) false fuel t cs = some (.slice ds [], p)) :
    ∃ b o cap, cs = [.slice (some ⟨b, o, none⟩) ds.length cap] ∧ ds.length ≤ cap ∧ ∀ i d, ds[i]? = some d → ∃ m q ys, ys.length = c ∧ DataW.trod (fun _ => ()) P W 0 (fun _ => true) false m e ys = some (d, q) ∧ ∀ j y, ys[j]? = some y → (readAll W).cell ⟨b, o + i * c + j, none⟩ = some y := by
  subst hc
  rcases DataW.trod_slice ht h with ⟨_, e1⟩ | ⟨a', len, cap, elems, rest, m, _, rfl, hx, _, hl, hm, hlen, hel, _, _⟩
  · simp at e1
  · simp only [Prod.mk.injEq, DataW.slice.injEq] at hx
    obtain ⟨⟨rfl, _⟩, _⟩ := hx
    have each : ∀ i, i < len → ∃ ys : List Value, ys.length = P.cellsOf e ∧ (DataW.trod (fun _ => ()) P W 0 (fun _ => true) false m e ys = elems[i]?) ∧ ∀ j y, ys[j]? = some y → W.cell? ((a'.add (i * P.cellsOf e)).add j) = some y := by
      intro i hi
      have h1 := hel i hi
      rw [List.getElem?_eq_getElem (by omega), Option.bind_eq_some_iff] at h1
      obtain ⟨ys, hcs, htr⟩ := h1
      obtain ⟨_, hlen', hcell⟩ := World.cells?_some hcs
      refine ⟨ys, hlen', by rw [htr, List.getElem?_eq_getElem], fun j y ey => ?_⟩
      have hlt := (List.getElem?_eq_some_iff.1 ey).1
      rw [hcell j (by omega)]
      exact ey
    have hpos : 0 < len := by
      rw [← hlen]
      exact List.length_pos_iff.2 fun q => hn (by rw [q]; rfl)
    obtain ⟨ys0, l0, _, c0⟩ := each 0 hpos
    have hc0 := c0 0 _ (List.getElem?_eq_getElem (by omega))
    obtain ⟨b, o, sp⟩ := a'
    have hsp : sp = none := by
      cases sp with
      | none => rfl
      | some s =>
        unfold World.cell? Addr.add at hc0
        dsimp only at hc0
        split at hc0 <;> simp at hc0
    subst hsp
    refine ⟨b, o, cap, by rw [List.length_map, hlen], by rw [List.length_map, hlen]; exact hl, fun i d hd => ?_⟩
    rw [List.getElem?_map, Option.map_eq_some_iff] at hd
    obtain ⟨y, hy, rfl⟩ := hd
    have hi : i < len := by rw [← hlen]; exact (List.getElem?_eq_some_iff.1 hy).1
    obtain ⟨ys, l1, tr, cl⟩ := each i hi
    rw [hy] at tr
    refine ⟨m, y.2, ys, l1, tr, fun j z hz => ?_⟩
    have := cl j z hz
    rw [add_off, add_off] at this
    exact readAll_cell this
end
abbrev laidJ : List (String × DataW Unit) := Rows.jsonReadsRow.laid
theorem gPow15 : Tryz.prog.globalNamed "internal/strconv.uint64pow10" = some gl_internal_strconv_uint64pow10 := by kernel_rfl
theorem gAcc15 : Tryz.prog.globalNamed "unicode/utf8.acceptRanges" = some gl_unicode_utf8_acceptRanges := by kernel_rfl
theorem gFst15 : Tryz.prog.globalNamed "unicode/utf8.first" = some gl_unicode_utf8_first := by kernel_rfl
theorem gCas15 : Tryz.prog.globalNamed "unicode.CaseRanges" = some gl_unicode_CaseRanges := by kernel_rfl
theorem tPow15 : (Tryz.prog.globals[gl_internal_strconv_uint64pow10]?).map (·.type) = some t_20_uint64 := by kernel_rfl
theorem tAcc15 : (Tryz.prog.globals[gl_unicode_utf8_acceptRanges]?).map (·.type) = some t_16_utf8_acceptRange := by kernel_rfl
theorem tFst15 : (Tryz.prog.globals[gl_unicode_utf8_first]?).map (·.type) = some t_256_uint8 := by kernel_rfl
theorem tCas15 : (Tryz.prog.globals[gl_unicode_CaseRanges]?).map (·.type) = some t_Sl_unicode_CaseRange := by kernel_rfl
theorem fst_datum : ∀ i, i < 256 → ((Go.Pinned.numbers .u8 Go.Pinned.utf8FirstZ : List (DataW Unit))[i]?) = some (.lit (.int .u8 ((fstT i : Nat) : Int))) := by
  have key : ∀ i, i < 256 → Go.Pinned.utf8FirstZ[i]? = some (fstT i) := by decide +kernel
  intro i hi
  show (Go.Pinned.utf8FirstZ.map _)[i]? = _
  rw [List.getElem?_map, key i hi]
  rfl
theorem st_case : ∃ fs, P.underlying t_unicode_CaseRange = some (.struct fs) ∧ (fs[0]?).map (fun f => (f.type, f.offset)) = some (t_uint32, 0) ∧ (fs[1]?).map (fun f => (f.type, f.offset)) = some (t_uint32, 1) ∧ (fs[2]?).map (fun f => (f.type, f.offset)) = some (t_unicode_d, 2) :=
  ⟨match P.underlying t_unicode_CaseRange with | some (.struct fs) => fs | _ => #[], by kernel_rfl, by kernel_rfl, by kernel_rfl, by kernel_rfl⟩
theorem st_acc : ∃ fs, P.underlying t_utf8_acceptRange = some (.struct fs) ∧ (fs[0]?).map (fun f => (f.type, f.offset)) = some (t_uint8, 0) ∧ (fs[1]?).map (fun f => (f.type, f.offset)) = some (t_uint8, 1) :=
  ⟨match P.underlying t_utf8_acceptRange with | some (.struct fs) => fs | _ => #[], by kernel_rfl, by kernel_rfl, by kernel_rfl⟩
theorem un_d : P.underlying t_unicode_d = some (.array 3 t_int32) := by kernel_rfl
def accDs : List (DataW Unit) := (List.range 16).map fun i => .agg [.lit (.int .u8 (((accT.getD i (0, 0)).1 : Nat) : Int)), .lit (.int .u8 (((accT.getD i (0, 0)).2 : Nat) : Int))]
def powDs : List (DataW Unit) := (List.range 20).map fun i => .lit (.int .u64 ((10 ^ i : Nat) : Int))
theorem acc_datum : (Rows.laid_unicode_utf8_acceptRanges : DataW Unit) = .agg accDs := by kernel_rfl
theorem pow_datum : (Rows.laid_internal_strconv_uint64pow10 : DataW Unit) = .agg powDs := by kernel_rfl
theorem accs_get (i : Nat) (hi : i < 16) : accDs[i]? = some (.agg [.lit (.int .u8 (((accT.getD i (0, 0)).1 : Nat) : Int)), .lit (.int .u8 (((accT.getD i (0, 0)).2 : Nat) : Int))]) := by
  unfold accDs
  rw [List.getElem?_map, List.getElem?_range hi]
  rfl
theorem pows_get (i : Nat) (hi : i < 20) : powDs[i]? = some (.lit (.int .u64 ((10 ^ i : Nat) : Int))) := by
  unfold powDs
  rw [List.getElem?_map, List.getElem?_range hi]
  rfl
theorem tab_of_laid {W : World} (h : laidMetH Tryz.prog laidJ W) : Tab (readAll W) ∧ Pow (readAll W) := by
  rw [MakeChecks.laidMetH_plain _ _ _ (by kernel_rfl)] at h
  obtain ⟨ps, ⟨g0, t0, cs0, f0, p0, q0, hg0, ht0, hv0, hd0, ⟨g1, t1, cs1, f1, p1, q1, hg1, ht1, hv1, hd1, ⟨g2, t2, cs2, f2, p2, q2, hg2, ht2, hv2, hd2, ⟨g3, t3, cs3, f3, p3, q3, hg3, ht3, hv3, hd3, ⟨g4, t4, cs4, f4, p4, q4, hg4, ht4, hv4, hd4, ⟨g5, t5, cs5, f5, p5, q5, hg5, ht5, hv5, hd5, ⟨g6, t6, cs6, f6, p6, q6, hg6, ht6, hv6, hd6, ⟨g7, t7, cs7, f7, p7, q7, hg7, ht7, hv7, hd7, _, _⟩, _⟩, _⟩, _⟩, _⟩, _⟩, _⟩, _⟩, _, _⟩ := h
  obtain rfl := Option.some.inj (gPow15.symm.trans hg2)
  obtain rfl := Option.some.inj (gAcc15.symm.trans hg3)
  obtain rfl := Option.some.inj (gCas15.symm.trans hg6)
  obtain rfl := Option.some.inj (gFst15.symm.trans hg7)
  obtain rfl := Option.some.inj (tPow15.symm.trans ht2)
  obtain rfl := Option.some.inj (tAcc15.symm.trans ht3)
  obtain rfl := Option.some.inj (tCas15.symm.trans ht6)
  obtain rfl := Option.some.inj (tFst15.symm.trans ht7)
  have c8 : P.cellsOf t_uint8 = 1 := by kernel_rfl
  have c64 : P.cellsOf t_uint64 = 1 := by kernel_rfl
  have cac : P.cellsOf t_utf8_acceptRange = 2 := by kernel_rfl
  have ccr : P.cellsOf t_unicode_CaseRange = 5 := by kernel_rfl
  have c32 : P.cellsOf t_uint32 = 1 := by kernel_rfl
  have ci32 : P.cellsOf t_int32 = 1 := by kernel_rfl
  have cd : P.cellsOf t_unicode_d = 3 := by kernel_rfl
  refine ⟨⟨fun i hi => readAll_cell ?_, fun i hi => ?_, ?_⟩, fun i hi => readAll_cell ?_⟩
  · rw [World.var?_cell gFst15 hv7]
    obtain ⟨m, q, e⟩ := dElt u_256_uint8 (show DataW.trod (fun _ => ()) P W 0 (fun _ => true) false f7 t_256_uint8 cs7.toList = some (.agg (Go.Pinned.numbers .u8 Go.Pinned.utf8FirstZ), p7) from hd7) c8 hi (fst_datum i hi)
    have := dCell (dInt u_uint8 e)
    simpa using this
  · obtain ⟨fs, hu, hf0, hf1⟩ := st_acc
    have hd := accs_get i hi
    obtain ⟨m, q, e⟩ := dElt u_16_utf8_acceptRange (show DataW.trod (fun _ => ()) P W 0 (fun _ => true) false f3 t_16_utf8_acceptRange cs3.toList = some (.agg accDs, p3) by rw [← acc_datum]; exact hd3) cac hi hd
    obtain ⟨m1, q1, e1⟩ := dFld hu e hf0 (d := .lit (.int .u8 (((accT.getD i (0, 0)).1 : Nat) : Int))) rfl
    obtain ⟨m2, q2, e2⟩ := dFld hu e hf1 (d := .lit (.int .u8 (((accT.getD i (0, 0)).2 : Nat) : Int))) rfl
    have r1 := dCell (dInt u_uint8 e1)
    have r2 := dCell (dInt u_uint8 e2)
    rw [List.getElem?_take_of_lt (by omega), List.getElem?_drop] at r1 r2
    exact ⟨readAll_cell (by rw [World.var?_cell gAcc15 hv3]; simpa using r1), readAll_cell (by rw [World.var?_cell gAcc15 hv3]; simpa using r2)⟩
  · obtain ⟨fs, hu, hf0, hf1, hf2⟩ := st_case
    have hd : DataW.trod (fun _ => ()) P W 0 (fun _ => true) false f6 t_Sl_unicode_CaseRange cs6.toList = some (.slice (Go.Pinned.caseRows.map Go.Pinned.caseRange) [], p6) := hd6
    obtain ⟨b, o, cap, ec, lc, hrow⟩ := dSl u_Sl_unicode_CaseRange ccr (by omega) (fun q => by have := congrArg List.length q; rw [List.length_map] at this; revert this; decide +kernel) hd
    rw [List.length_map] at ec lc
    refine ⟨b, o, cap, lc, readAll_cell (by rw [World.var?_cell gCas15 hv6]; have := congrArg (fun l => l[0]?) ec; simpa using this), fun i x hx => ?_⟩
    obtain ⟨m, q, ys, ly, tr, cl⟩ := hrow i _ (by rw [List.getElem?_map, hx]; rfl)
    obtain ⟨m1, q1, e1⟩ := dFld hu tr hf0 (d := .lit (.int .u32 x.1)) rfl
    obtain ⟨m2, q2, e2⟩ := dFld hu tr hf1 (d := .lit (.int .u32 x.2.1)) rfl
    obtain ⟨m3, q3, e3⟩ := dFld hu tr hf2 (d := .agg [.lit (.int .i32 x.2.2.1), .lit (.int .i32 x.2.2.2.1), .lit (.int .i32 x.2.2.2.2)]) rfl
    obtain ⟨m4, q4, e4⟩ := dElt un_d e3 ci32 (i := 1) (by omega) (d := .lit (.int .i32 x.2.2.2.1)) rfl
    have r1 := dCell (dInt u_uint32 e1)
    have r2 := dCell (dInt u_uint32 e2)
    have r3 := dCell (dInt u_int32 e4)
    rw [cd, List.getElem?_take_of_lt (by omega), List.getElem?_drop] at r3
    have z1 := cl 0 _ r1
    have z3 := cl 3 _ r3
    exact ⟨z1, cl 1 _ r2, z3⟩
  · rw [World.var?_cell gPow15 hv2]
    obtain ⟨m, q, e⟩ := dElt u_20_uint64 (show DataW.trod (fun _ => ()) P W 0 (fun _ => true) false f2 t_20_uint64 cs2.toList = some (.agg powDs, p2) by rw [← pow_datum]; exact hd2) c64 hi (pows_get i hi)
    have := dCell (dInt u_uint64 e)
    simpa using this
section
variable {h : Hp} {v : Value} {b : List Nat}
/-- A byte of a row, loaded. -/
theorem q_bAt (r : Rn h .u8 v b) {i : Nat} (hi : i < b.length) {he : Hp} {F : Value → Prop} : q P he (Instr.indexAt t_Sl_uint8 v (.int .i64 (i : Int))) (fun t => q P h (Instr.loadAt t_uint8 t) F) = F (.int .u8 ((b.getD i 0 : Nat) : Int)) := by
  obtain ⟨a, c, rfl, hc⟩ := r.shape
  obtain ⟨bb, o, rfl, hy⟩ := r.pos (by omega)
  rw [q_idxS u_Sl_uint8 z_uint8 _ _ _ _ _ (by omega) (by omega), Int.toNat_natCast, add_off, Nat.mul_one, q_ld u_uint8 rfl, hy i hi]
  rfl
theorem q_bLen (r : Rn h .u8 v b) {F : Value → Prop} : q P h (Builtin.len_ #[t_Sl_uint8] t_int #[v]) F = F (.int .i64 ((b.length : Nat) : Int)) := by
  obtain ⟨a, c, rfl, hc⟩ := r.shape
  simp -zeta only [GL, RL]
theorem dropAt {i : Nat} (hi : i < b.length) : b.drop i = b.getD i 0 :: b.drop (i + 1) := by
  rw [List.drop_eq_getElem_cons hi, List.getD_eq_getElem?_getD, List.getElem?_eq_getElem hi]
  rfl
theorem up1 {n : Nat} (hn : n ≤ 4611686018427387904) : IntKind.i64.wrap ((n : Int) + 1) = ((n + 1 : Nat) : Int) := by rw [wi64 (by omega) (by omega)]; omega
theorem upN {n : Nat} (c : Nat) (hn : n ≤ 4611686018427387904) (hc : c ≤ 1000000000) : IntKind.i64.wrap ((n : Int) + (c : Int)) = ((n + c : Nat) : Int) := by rw [wi64 (by omega) (by omega)]; omega
theorem eqb {a c : Nat} : (((a : Nat) : Int) == (c : Int)) = decide (a = c) := by
  by_cases g : a = c
  · subst g; simp
  · rw [decide_eq_false g]
    rw [beq_eq_false_iff_ne]
    omega
end
section
variable {h : Hp} {K : Value → Hp → Prop} {v : Value} {b : List Nat}
theorem T_blanks15 {i : Nat} (r : Rn h .u8 v b) (lb : b.length ≤ 1125899906842624) (hi : i ≤ b.length) (k : ∀ j, j ≤ b.length → b.drop j = skip (b.drop i) → K (.int .i64 (j : Int)) h) : Cn P n_orlopref15_blanks #[v, .int .i64 (i : Int)] h K := by
  refine F_orlopref15_blanks ?_
  unfold s_orlopref15_blanks
  refine Lp_mk (fun m vs G => ∃ j : Nat, j + m = b.length ∧ G = h ∧ skip (b.drop j) = skip (b.drop i) ∧ vs = [.int .i64 (j : Int)]) (b.length - i) ⟨i, by omega, rfl, rfl, rfl⟩ ?_
  rintro m vs G ⟨j, hj, rfl, e, rfl⟩
  simp -zeta only [GL, q_bLen r, ltN]
  by_cases g : j < b.length
  · have d := dropAt g
    have stop : isBl (b.getD j 0) = false → K (.int .i64 (j : Int)) G := fun q => by
      refine k j (by omega) ?_
      rw [← e, d, skip_other _ q]
    have go : isBl (b.getD j 0) = true → ∃ h0, Hp.le h0 G ∧ ∃ m', m' < m ∧ ∃ j' : Nat, j' + m' = b.length ∧ h0 = G ∧ skip (b.drop j') = skip (b.drop i) ∧ [Value.int .i64 (IntKind.i64.wrap ((j : Int) + 1))] = [.int .i64 (j' : Int)] := fun q => by
      rw [up1 (by omega)]
      refine ⟨G, .refl _, m - 1, by omega, j + 1, by omega, rfl, ?_, rfl⟩
      rw [← e, d, skip_blank _ q]
    simp -zeta only [decide_eq_true g, GL, RL, if_true, q_bAt r g]
    unfold isBl at stop go
    generalize b.getD j 0 = c at stop go ⊢
    have e9 : (((c : Nat) : Int) == 9) = (c == 9) := by rw [Bool.eq_iff_iff]; simp; omega
    have e10 : (((c : Nat) : Int) == 10) = (c == 10) := by rw [Bool.eq_iff_iff]; simp; omega
    have e13 : (((c : Nat) : Int) == 13) = (c == 13) := by rw [Bool.eq_iff_iff]; simp; omega
    have e32 : (((c : Nat) : Int) == 32) = (c == 32) := by rw [Bool.eq_iff_iff]; simp; omega
    simp -zeta only [e9, e10, e13, e32]
    cases q9 : (c == 9) <;> cases q10 : (c == 10) <;> cases q13 : (c == 13) <;> cases q32 : (c == 32) <;> simp only [q9, q10, q13, q32, Bool.or_true, Bool.true_or, Bool.or_false, Bool.false_eq_true, if_true, if_false, reduceCtorEq, false_implies, true_implies, Bool.true_eq_false] at stop go ⊢ <;> first | exact stop | exact go
  · simp -zeta only [decide_eq_false g, GL, RL, Bool.false_eq_true, if_false]
    refine k j (by omega) ?_
    rw [← e, List.drop_eq_nil_of_le (by omega), skip_nil]
theorem has_iff {w s : List Nat} : has w s = true ↔ ∀ t, t < w.length → s[t]? = w[t]? := by
  unfold has
  rw [decide_eq_true_eq]
  constructor
  · intro e t ht
    rw [← e, List.getElem?_take_of_lt ht]
  · intro e
    refine List.ext_getElem? fun t => ?_
    by_cases g : t < w.length
    · rw [List.getElem?_take_of_lt g, e t g]
    · rw [List.getElem?_eq_none (by rw [List.length_take]; omega), List.getElem?_eq_none (by omega)]
theorem T_stands15 {i : Nat} {w : List Nat} (r : Rn h .u8 v b) (lb : b.length ≤ 1125899906842624) (bb : Bytes b) (bw : Bytes w) (lw : w.length ≤ 1000) (hi : i ≤ b.length) (k : K (.bool (has w (b.drop i))) h) : Cn P n_orlopref15_stands #[v, .int .i64 (i : Int), .string (strL w)] h K := by
  refine F_orlopref15_stands ?_
  unfold s_orlopref15_stands
  refine Lp_mk (fun m vs G => ∃ j : Nat, j + m = w.length ∧ G = h ∧ (∀ t, t < j → (b.drop i)[t]? = w[t]?) ∧ vs = [.bool false, .int .i64 (j : Int)]) w.length ⟨0, by omega, rfl, by simp, rfl⟩ ?_
  rintro m vs G ⟨j, hj, rfl, e, rfl⟩
  simp -zeta only [GL, q_bLen r, q_lenSt u_string, ltN]
  by_cases g : j < w.length
  · have u1 := upN (n := i) j (by omega) (by omega)
    have no : (b.drop i)[j]? ≠ w[j]? → K (.bool false) G := fun q => by
      have : has w (b.drop i) = false := by
        rw [← Bool.not_eq_true, has_iff]
        exact fun z => q (z j g)
      rw [this] at k
      exact k
    rw [List.getElem?_drop, List.getElem?_eq_getElem g] at no
    simp -zeta only [decide_eq_true g, GL, RL, if_true, u1]
    by_cases g2 : i + j < b.length
    · rw [List.getElem?_eq_getElem g2] at no
      have l1 : decide (((b.length : Nat) : Int) ≤ ((i + j : Nat) : Int)) = false := decide_eq_false (by omega)
      have gw : w.getD j 0 = w[j] := by rw [List.getD_eq_getElem?_getD, List.getElem?_eq_getElem g]; rfl
      have gb : b.getD (i + j) 0 = b[i + j] := by rw [List.getD_eq_getElem?_getD, List.getElem?_eq_getElem g2]; rfl
      simp -zeta only [l1, Bool.false_eq_true, if_false, if_true, GL, RL]
      rw [q_bAt r g2, q_idxSt u_string bw g, q_neq, gw, gb, cnd_bool]
      by_cases q : b[i + j] = w[j]
      · have e1 : (((b[i + j] : Nat) : Int) != (w[j] : Nat)) = false := by rw [q]; simp
        rw [e1, if_neg (by decide), up1 (by omega)]
        refine ⟨G, .refl _, m - 1, by omega, j + 1, by omega, rfl, fun t ht => ?_, rfl⟩
        by_cases q2 : t = j
        · subst q2
          rw [List.getElem?_drop, List.getElem?_eq_getElem g2, List.getElem?_eq_getElem g, q]
        · exact e t (by omega)
      · have e1 : (((b[i + j] : Nat) : Int) != (w[j] : Nat)) = true := by rw [bne_iff_ne]; omega
        rw [e1, if_pos rfl]
        exact no (by simpa using q)
    · rw [List.getElem?_eq_none (by omega)] at no
      have l1 : decide (((b.length : Nat) : Int) ≤ ((i + j : Nat) : Int)) = true := decide_eq_true (by omega)
      simp -zeta only [l1, if_true, GL, RL]
      exact no (by simp)
  · simp -zeta only [decide_eq_false g, GL, RL, Bool.false_eq_true, if_false]
    have : has w (b.drop i) = true := has_iff.2 fun t ht => e t (by omega)
    rw [this] at k
    exact k
end
/-- So many digits of base sixteen, behind a value so far. -/
def hexN : Nat → List Nat → Nat → Option Nat
  | 0, _, v => some v
  | n + 1, [], _ => none
  | n + 1, c :: s, v => match hexd c with
    | none => none
    | some d => hexN n s (v * 16 + d)
theorem hexN_4 (s : List Nat) : hexN 4 s 0 = hex4 (s.take 4) := by
  match s with
  | [] => rfl
  | [a] =>
    show _ = none
    simp only [hexN]
    cases hexd a <;> rfl
  | [a, b] =>
    show _ = none
    simp only [hexN]
    cases hexd a <;> cases hexd b <;> rfl
  | [a, b, c] =>
    show _ = none
    simp only [hexN]
    cases hexd a <;> cases hexd b <;> cases hexd c <;> rfl
  | a :: b :: c :: d :: s =>
    show _ = hex4 [a, b, c, d]
    simp only [hexN, hex4]
    cases hexd a <;> cases hexd b <;> cases hexd c <;> cases hexd d <;> simp
def optI : Option Nat → Int
  | some v => (v : Int)
  | none => -1
section
variable {h : Hp} {K : Value → Hp → Prop} {v : Value} {b : List Nat}
theorem T_hex15 {i : Nat} (r : Rn h .u8 v b) (lb : b.length ≤ 1125899906842624) (bb : Bytes b) (hi : i ≤ 1125899906842624) (k : K (.int .i64 (optI (hex4 ((b.drop i).take 4)))) h) : Cn P n_orlopref15_hex #[v, .int .i64 (i : Int)] h K := by
  refine F_orlopref15_hex ?_
  unfold s_orlopref15_hex
  rw [← hexN_4] at k
  refine Lp_mk (fun m vs G => ∃ j w : Nat, j + m = 4 ∧ G = h ∧ w < 16 ^ j ∧ hexN m (b.drop (i + j)) w = hexN 4 (b.drop i) 0 ∧ vs = [.int .i64 0, .int .i64 (w : Int), .int .i64 (j : Int)]) 4 ⟨0, 0, by omega, rfl, by decide, rfl, rfl⟩ ?_
  rintro m vs G ⟨j, w, hj, rfl, hw, e, rfl⟩
  have hw' : w < 65536 := Nat.lt_of_lt_of_le hw (Nat.pow_le_pow_right (n := 16) (by decide) (show j ≤ 4 by omega))
  simp -zeta only [GL, q_bLen r]
  cases m with
  | zero =>
    have l0 : decide (((j : Nat) : Int) < 4) = false := decide_eq_false (by omega)
    simp -zeta only [GL, RL, l0, Bool.false_eq_true, if_false]
    rw [← e] at k
    exact k
  | succ m =>
    have l0 : decide (((j : Nat) : Int) < 4) = true := decide_eq_true (by omega)
    have u1 := upN (n := i) j (by omega) (by omega)
    have u2 := up1 (n := j) (by omega)
    simp -zeta only [GL, RL, l0, if_true, u1]
    by_cases g : i + j < b.length
    · have l1 : decide (((b.length : Nat) : Int) ≤ ((i + j : Nat) : Int)) = false := decide_eq_false (by omega)
      have d := dropAt g
      rw [d] at e
      simp -zeta only [GL, RL, l1, Bool.false_eq_true, if_false]
      rw [q_bAt r g]
      have hb : b.getD (i + j) 0 < 256 := by rw [List.getD_eq_getElem?_getD, List.getElem?_eq_getElem g]; exact bb _ (List.getElem_mem g)
      generalize b.getD (i + j) 0 = c at *
      have next : ∀ x, hexd c = some x → x < 16 → ∃ h0, Hp.le h0 G ∧ ∃ m', m' < m + 1 ∧ ∃ j' w' : Nat, j' + m' = 4 ∧ h0 = G ∧ w' < 16 ^ j' ∧ hexN m' (b.drop (i + j')) w' = hexN 4 (b.drop i) 0 ∧ [Value.int .i64 0, .int .i64 ((w * 16 + x : Nat) : Int), .int .i64 ((j + 1 : Nat) : Int)] = [.int .i64 0, .int .i64 (w' : Int), .int .i64 (j' : Int)] := fun x hx lx => by
        rw [hexN, hx] at e
        exact ⟨G, .refl _, m, by omega, j + 1, w * 16 + x, by omega, rfl, by rw [Nat.pow_succ]; omega, e, rfl⟩
      have cv : ∀ x : Nat, x < 16 → IntKind.i64.wrap (IntKind.i64.wrap ((w : Int) * 16) + (x : Int)) = ((w * 16 + x : Nat) : Int) := fun x hx => by
        rw [wi64 (x := (w : Int) * 16) (by omega) (by omega), wi64 (by omega) (by omega)]; omega
      by_cases g1 : 48 ≤ c ∧ c ≤ 57
      · have hx : hexd c = some (c - 48) := by unfold hexd; rw [if_pos g1]
        have c1 : decide ((48 : Int) ≤ (c : Int)) = true := decide_eq_true (by omega)
        have c2 : decide ((c : Int) ≤ 57) = true := decide_eq_true (by omega)
        have c3 : decide ((97 : Int) ≤ (c : Int)) = false := decide_eq_false (by omega)
        have c5 : decide ((65 : Int) ≤ (c : Int)) = false := decide_eq_false (by omega)
        have s1 : IntKind.u8.wrap ((c : Int) - 48) = ((c - 48 : Nat) : Int) := by rw [wu8i (by omega) (by omega)]; omega
        have s2 : IntKind.i64.wrap ((c - 48 : Nat) : Int) = ((c - 48 : Nat) : Int) := wi64 (by omega) (by omega)
        have s3 : decide (((c - 48 : Nat) : Int) < 0) = false := decide_eq_false (by omega)
        simp only [GL, RL, c1, c2, c3, c5, s1, s2, s3, if_true, Bool.false_eq_true, if_false, cv (c - 48) (by omega), u2]
        exact next _ hx (by omega)
      · by_cases g2 : 97 ≤ c ∧ c ≤ 102
        · have hx : hexd c = some (c - 87) := by unfold hexd; rw [if_neg g1, if_pos g2]
          have c1 : decide ((48 : Int) ≤ (c : Int)) = true := decide_eq_true (by omega)
          have c2 : decide ((c : Int) ≤ 57) = false := decide_eq_false (by omega)
          have c3 : decide ((97 : Int) ≤ (c : Int)) = true := decide_eq_true (by omega)
          have c4 : decide ((c : Int) ≤ 102) = true := decide_eq_true (by omega)
          have c5 : decide ((65 : Int) ≤ (c : Int)) = true := decide_eq_true (by omega)
          have c6 : decide ((c : Int) ≤ 70) = false := decide_eq_false (by omega)
          have s1 : IntKind.u8.wrap ((c : Int) - 97) = ((c - 97 : Nat) : Int) := by rw [wu8i (by omega) (by omega)]; omega
          have s2 : IntKind.i64.wrap ((c - 97 : Nat) : Int) = ((c - 97 : Nat) : Int) := wi64 (by omega) (by omega)
          have s4 : IntKind.i64.wrap (((c - 97 : Nat) : Int) + 10) = ((c - 87 : Nat) : Int) := by rw [wi64 (by omega) (by omega)]; omega
          have s3 : decide (((c - 87 : Nat) : Int) < 0) = false := decide_eq_false (by omega)
          simp only [GL, RL, c1, c2, c3, c4, c5, c6, s1, s2, s3, s4, if_true, Bool.false_eq_true, if_false, cv (c - 87) (by omega), u2]
          exact next _ hx (by omega)
        · by_cases g3 : 65 ≤ c ∧ c ≤ 70
          · have hx : hexd c = some (c - 55) := by unfold hexd; rw [if_neg g1, if_neg g2, if_pos g3]
            have c1 : decide ((48 : Int) ≤ (c : Int)) = true := decide_eq_true (by omega)
            have c2 : decide ((c : Int) ≤ 57) = false := decide_eq_false (by omega)
            have c3 : decide ((97 : Int) ≤ (c : Int)) = false := decide_eq_false (by omega)
            have c5 : decide ((65 : Int) ≤ (c : Int)) = true := decide_eq_true (by omega)
            have c6 : decide ((c : Int) ≤ 70) = true := decide_eq_true (by omega)
            have s1 : IntKind.u8.wrap ((c : Int) - 65) = ((c - 65 : Nat) : Int) := by rw [wu8i (by omega) (by omega)]; omega
            have s2 : IntKind.i64.wrap ((c - 65 : Nat) : Int) = ((c - 65 : Nat) : Int) := wi64 (by omega) (by omega)
            have s4 : IntKind.i64.wrap (((c - 65 : Nat) : Int) + 10) = ((c - 55 : Nat) : Int) := by rw [wi64 (by omega) (by omega)]; omega
            have s3 : decide (((c - 55 : Nat) : Int) < 0) = false := decide_eq_false (by omega)
            simp only [GL, RL, c1, c2, c3, c5, c6, s1, s2, s3, s4, if_true, Bool.false_eq_true, if_false, cv (c - 55) (by omega), u2]
            exact next _ hx (by omega)
          · have hx : hexd c = none := by unfold hexd; rw [if_neg g1, if_neg g2, if_neg g3]
            have kk : K (.int .i64 (-1)) G := by
              rw [← e, hexN, hx] at k
              exact k
            have c1 : (decide ((48 : Int) ≤ (c : Int)) = true ∧ decide ((c : Int) ≤ 57) = false) ∨ decide ((48 : Int) ≤ (c : Int)) = false := by
              by_cases q : 48 ≤ c
              · exact .inl ⟨decide_eq_true (by omega), decide_eq_false (by omega)⟩
              · exact .inr (decide_eq_false (by omega))
            have c3 : (decide ((97 : Int) ≤ (c : Int)) = true ∧ decide ((c : Int) ≤ 102) = false) ∨ decide ((97 : Int) ≤ (c : Int)) = false := by
              by_cases q : 97 ≤ c
              · exact .inl ⟨decide_eq_true (by omega), decide_eq_false (by omega)⟩
              · exact .inr (decide_eq_false (by omega))
            have c5 : (decide ((65 : Int) ≤ (c : Int)) = true ∧ decide ((c : Int) ≤ 70) = false) ∨ decide ((65 : Int) ≤ (c : Int)) = false := by
              by_cases q : 65 ≤ c
              · exact .inl ⟨decide_eq_true (by omega), decide_eq_false (by omega)⟩
              · exact .inr (decide_eq_false (by omega))
            have s3 : decide ((-1 : Int) < 0) = true := rfl
            rcases c1 with ⟨c1, c2⟩ | c1 <;> rcases c3 with ⟨c3, c4⟩ | c3 <;> rcases c5 with ⟨c5, c6⟩ | c5 <;> simp only [*, GL, RL, s3, if_true, Bool.false_eq_true, if_false] <;> exact kk
    · have l1 : decide (((b.length : Nat) : Int) ≤ ((i + j : Nat) : Int)) = true := decide_eq_true (by omega)
      simp -zeta only [GL, RL, l1, if_true]
      rw [List.drop_eq_nil_of_le (by omega)] at e
      rw [← e] at k
      exact k
end
end Go.Proofs.YtolcmaipjpkidaaGreatDoor
namespace Go.Js
open Go.Pure
theorem getD_app {a t : List Nat} {i : Nat} (h : i < a.length) : (a ++ t).getD i 0 = a.getD i 0 := by
  rw [List.getD_eq_getElem?_getD, List.getElem?_append_left h, ← List.getD_eq_getElem?_getD]
/-- Only its own bytes matter. -/
theorem runeN_pre {s : List Nat} (t : List Nat) (h : 0 < runeN s) : runeN (s ++ t) = runeN s := by
  cases s with
  | nil => exact absurd h (by decide)
  | cons c r =>
    rw [List.cons_append]
    have hl := runeN_len (c :: r)
    revert h
    show 0 < runeN (c :: r) → runeN (c :: (r ++ t)) = runeN (c :: r)
    have e : ∀ r : List Nat, runeN (c :: r) = if c < 128 then 1 else if c < 194 ∨ 245 ≤ c then 0 else if (acc2 c).1 ≤ r.getD 0 0 ∧ r.getD 0 0 ≤ (acc2 c).2 then (if c < 224 then 2 else if cont (r.getD 1 0) then (if c < 240 then 3 else if cont (r.getD 2 0) then 4 else 0) else 0) else 0 := fun r => rfl
    rw [e] at hl
    rw [e, e]
    have p := acc2_pos c
    by_cases g1 : c < 128
    · rw [if_pos g1, if_pos g1]; intro _; trivial
    · rw [if_neg g1, if_neg g1]
      rw [if_neg g1] at hl
      by_cases g2 : c < 194 ∨ 245 ≤ c
      · rw [if_pos g2]; intro h; omega
      · rw [if_neg g2, if_neg g2]
        rw [if_neg g2] at hl
        by_cases g3 : (acc2 c).1 ≤ r.getD 0 0 ∧ r.getD 0 0 ≤ (acc2 c).2
        · have l0 := getD_pos g3.1 (by omega)
          rw [getD_app l0, if_pos g3, if_pos g3]
          by_cases g4 : c < 224
          · rw [if_pos g4, if_pos g4]; intro _; trivial
          · rw [if_neg g4, if_neg g4]
            by_cases g5 : cont (r.getD 1 0) = true
            · have q5 := g5
              unfold cont at q5
              rw [decide_eq_true_eq] at q5
              have l1 := getD_pos q5.1 (by omega)
              rw [getD_app l1, if_pos g5, if_pos g5]
              by_cases g6 : c < 240
              · rw [if_pos g6, if_pos g6]; intro _; trivial
              · rw [if_neg g6, if_neg g6]
                by_cases g7 : cont (r.getD 2 0) = true
                · have q7 := g7
                  unfold cont at q7
                  rw [decide_eq_true_eq] at q7
                  have l2 := getD_pos q7.1 (by omega)
                  rw [getD_app l2, if_pos g7]; intro _; trivial
                · rw [if_neg g7]; intro h; omega
            · rw [if_neg g5]; intro h; omega
        · rw [if_neg g3]; intro h; omega
theorem runeN_take {s : List Nat} (h : 0 < runeN s) : runeN (s.take (runeN s)) = runeN s := by
  cases s with
  | nil => exact absurd h (by decide)
  | cons c r =>
    have e : ∀ r : List Nat, runeN (c :: r) = if c < 128 then 1 else if c < 194 ∨ 245 ≤ c then 0 else if (acc2 c).1 ≤ r.getD 0 0 ∧ r.getD 0 0 ≤ (acc2 c).2 then (if c < 224 then 2 else if cont (r.getD 1 0) then (if c < 240 then 3 else if cont (r.getD 2 0) then 4 else 0) else 0) else 0 := fun r => rfl
    have tk : ∀ (r : List Nat) (i n : Nat), i < n → (r.take n).getD i 0 = r.getD i 0 := fun r i n hi => by
      rw [List.getD_eq_getElem?_getD, List.getElem?_take_of_lt hi, ← List.getD_eq_getElem?_getD]
    revert h
    by_cases g1 : c < 128
    · intro _; rw [runeN_ascii r g1]
      show runeN (c :: r.take 0) = 1
      exact runeN_ascii _ g1
    · by_cases g2 : c < 194 ∨ 245 ≤ c
      · intro h; rw [e, if_neg g1, if_pos g2] at h; omega
      · by_cases g3 : (acc2 c).1 ≤ r.getD 0 0 ∧ r.getD 0 0 ≤ (acc2 c).2
        · by_cases g4 : c < 224
          · have q : runeN (c :: r) = 2 := by rw [e, if_neg g1, if_neg g2, if_pos g3, if_pos g4]
            intro _; rw [q]
            show runeN (c :: r.take 1) = 2
            rw [e, if_neg g1, if_neg g2, tk _ _ _ (by omega), if_pos g3, if_pos g4]
          · by_cases g5 : cont (r.getD 1 0) = true
            · by_cases g6 : c < 240
              · have q : runeN (c :: r) = 3 := by rw [e, if_neg g1, if_neg g2, if_pos g3, if_neg g4, if_pos g5, if_pos g6]
                intro _; rw [q]
                show runeN (c :: r.take 2) = 3
                rw [e, if_neg g1, if_neg g2, tk _ _ _ (by omega), if_pos g3, if_neg g4, tk _ _ _ (by omega), if_pos g5, if_pos g6]
              · by_cases g7 : cont (r.getD 2 0) = true
                · have q : runeN (c :: r) = 4 := by rw [e, if_neg g1, if_neg g2, if_pos g3, if_neg g4, if_pos g5, if_neg g6, if_pos g7]
                  intro _; rw [q]
                  show runeN (c :: r.take 3) = 4
                  rw [e, if_neg g1, if_neg g2, tk _ _ _ (by omega), if_pos g3, if_neg g4, tk _ _ _ (by omega), if_pos g5, if_neg g6, tk _ _ _ (by omega), if_pos g7]
                · intro h; rw [e, if_neg g1, if_neg g2, if_pos g3, if_neg g4, if_pos g5, if_neg g6, if_neg g7] at h; omega
            · intro h; rw [e, if_neg g1, if_neg g2, if_pos g3, if_neg g4, if_neg g5] at h; omega
        · intro h; rw [e, if_neg g1, if_neg g2, if_neg g3] at h; omega
theorem validU_app : ∀ {a : List Nat} (t : List Nat), validU a = true → validU (a ++ t) = validU t
  | a, t, h => by
    by_cases g : a = []
    · subst g; rfl
    · rw [validU_cons g] at h
      by_cases g2 : 0 < runeN a
      · rw [if_pos g2] at h
        have hl := runeN_len a
        rw [validU_cons (by simp [g]), runeN_pre t g2, if_pos g2, List.drop_append_of_le_length hl]
        exact validU_app t h
      · rw [if_neg g2] at h; cases h
termination_by a => a.length
decreasing_by
  have := List.length_pos_iff.2 g
  rw [List.length_drop]; omega
theorem validU_one {s : List Nat} (h0 : s ≠ []) (h : runeN s = s.length) : validU s = true := by
  have := List.length_pos_iff.2 h0
  rw [validU_cons h0, h, if_pos this, List.drop_length, validU_nil]
theorem validU_rune {s : List Nat} (h : 0 < runeN s) : validU (s.take (runeN s)) = true := by
  have hl := runeN_len s
  have ll : (s.take (runeN s)).length = runeN s := by rw [List.length_take]; omega
  exact validU_one (fun q => by rw [q] at ll; simp at ll; omega) (by rw [runeN_take h, ll])
/-- A rune that may be. -/
def scal (v : Nat) : Prop := v < 1114112 ∧ (v < 55296 ∨ 57343 < v)
theorem acc2_of {c x : Nat} (h1 : 128 ≤ x ∧ x ≤ 191) (h2 : c = 224 → 160 ≤ x) (h3 : c = 237 → x ≤ 159) (h4 : c = 240 → 144 ≤ x) (h5 : c = 244 → x ≤ 143) : (acc2 c).1 ≤ x ∧ x ≤ (acc2 c).2 := by
  unfold acc2
  by_cases g1 : c = 224
  · rw [if_pos g1]; exact ⟨h2 g1, h1.2⟩
  · rw [if_neg g1]
    by_cases g2 : c = 237
    · rw [if_pos g2]; exact ⟨h1.1, h3 g2⟩
    · rw [if_neg g2]
      by_cases g3 : c = 240
      · rw [if_pos g3]; exact ⟨h4 g3, h1.2⟩
      · rw [if_neg g3]
        by_cases g4 : c = 244
        · rw [if_pos g4]; exact ⟨h1.1, h5 g4⟩
        · rw [if_neg g4]; exact h1
theorem validU_enc {v : Nat} (h : scal v) : validU (enc v) = true := by
  obtain ⟨h1, h2⟩ := h
  have e : ∀ (c : Nat) (r : List Nat), runeN (c :: r) = if c < 128 then 1 else if c < 194 ∨ 245 ≤ c then 0 else if (acc2 c).1 ≤ r.getD 0 0 ∧ r.getD 0 0 ≤ (acc2 c).2 then (if c < 224 then 2 else if cont (r.getD 1 0) then (if c < 240 then 3 else if cont (r.getD 2 0) then 4 else 0) else 0) else 0 := fun c r => rfl
  have ct : ∀ x, x < 64 → cont (128 + x) = true := fun x hx => decide_eq_true (by omega)
  unfold enc
  by_cases g1 : v < 128
  · rw [if_pos g1]
    exact validU_one (by simp) (runeN_ascii _ g1)
  · rw [if_neg g1]
    by_cases g2 : v < 2048
    · rw [if_pos g2]
      refine validU_one (by simp) ?_
      rw [e, if_neg (by omega), if_neg (by omega), if_pos, if_pos (by omega)]
      · rfl
      · exact acc2_of (by show 128 ≤ 128 + v % 64 ∧ 128 + v % 64 ≤ 191; omega) (by omega) (by omega) (by omega) (by omega)
    · rw [if_neg g2]
      by_cases g3 : v < 65536
      · rw [if_pos g3]
        refine validU_one (by simp) ?_
        rw [e]
        simp only [List.getD_cons_succ, List.getD_cons_zero]
        rw [if_neg (by omega), if_neg (by omega), if_pos, if_neg (by omega), if_pos (show cont (128 + v % 64) = true from ct _ (by omega)), if_pos (by omega)]
        · rfl
        · show (acc2 (224 + v / 4096)).1 ≤ 128 + v / 64 % 64 ∧ 128 + v / 64 % 64 ≤ (acc2 (224 + v / 4096)).2
          exact acc2_of (by omega) (by omega) (by omega) (by omega) (by omega)
      · rw [if_neg g3]
        refine validU_one (by simp) ?_
        rw [e]
        simp only [List.getD_cons_succ, List.getD_cons_zero]
        rw [if_neg (by omega), if_neg (by omega), if_pos, if_neg (by omega), if_pos (show cont (128 + v / 64 % 64) = true from ct _ (by omega)), if_neg (by omega), if_pos (show cont (128 + v % 64) = true from ct _ (by omega))]
        · rfl
        · show (acc2 (240 + v / 262144)).1 ≤ 128 + v / 4096 % 64 ∧ 128 + v / 4096 % 64 ≤ (acc2 (240 + v / 262144)).2
          exact acc2_of (by omega) (by omega) (by omega) (by omega) (by omega)
theorem escape_scal {s r : List Nat} {v : Nat} (h : escape s = some (v, r)) : scal v := by
  unfold escape at h
  split at h
  · cases h
  · rename_i c t
    split at h
    · rename_i w hs
      cases h
      unfold simple at hs
      unfold scal
      split at hs
      · rename_i q; cases hs; omega
      · split at hs
        · cases hs; omega
        · split at hs
          · cases hs; omega
          · split at hs
            · cases hs; omega
            · split at hs
              · cases hs; omega
              · split at hs
                · cases hs; omega
                · cases hs
    · split at h
      · split at h
        · cases h
        · rename_i v1 r1 h1
          obtain ⟨_, _, b1⟩ := half_len h1
          split at h
          · rename_i q
            cases h
            exact ⟨by omega, q⟩
          · rename_i q
            split at h
            · rename_i q2
              split at h
              · cases h
              · rename_i v2 r2 h2
                split at h
                · rename_i q3
                  cases h
                  unfold scal
                  omega
                · cases h
            · cases h
      · cases h
theorem textG_valid : ∀ {s out r t : List Nat}, validU out = true → textG s out = some (t, r) → validU t = true
  | [], out, r, t, ho, h => by rw [textG] at h; cases h
  | c :: s, out, r, t, ho, h => by
    rw [textG] at h
    split at h
    · cases h
      exact ho
    · split at h
      · cases h
      · split at h
        · split at h
          · cases h
          · rename_i v r1 he
            split at h
            · refine textG_valid ?_ h
              rw [validU_app _ ho]
              exact validU_enc (escape_scal he)
            · cases h
        · split at h
          · rename_i hn
            refine textG_valid ?_ h
            rw [validU_app _ ho]
            exact validU_rune hn
          · cases h
termination_by s => s.length
decreasing_by
  · simp; omega
  · simp; omega
theorem text_valid {s r t : List Nat} (h : text s = some (t, r)) : validU t = true := by
  unfold text at h
  split at h
  · exact textG_valid validU_nil h
  · cases h
theorem itemsG_inv {α : Type} {one : List α → List Nat → Except Int (α × List Nat)} {shut : Nat} (I : List α → Prop) (h1 : ∀ acc s x r, I acc → one acc s = .ok (x, r) → I (acc ++ [x])) :
    ∀ {acc : List α} {s : List Nat} {l : List α} {r : List Nat}, I acc → itemsG one shut acc s = .ok (l, r) → I l := by
  intro acc s
  induction acc, s using itemsG.induct (one := one) (shut := shut) with
  | case1 acc s c e => intro l r ia h; rw [itemsG, e] at h; cases h
  | case2 acc s x r0 e hs =>
    intro l r ia h
    rw [itemsG, e] at h
    dsimp only at h
    rw [if_pos hs] at h
    cases h
    exact h1 _ _ _ _ ia e
  | case3 acc s x r0 e hs hc hl ih =>
    intro l r ia h
    rw [itemsG, e] at h
    dsimp only at h
    rw [if_neg hs, if_pos hc, if_pos hl] at h
    exact ih (h1 _ _ _ _ ia e) h
  | case4 acc s x r0 e hs hc hl =>
    intro l r ia h
    rw [itemsG, e] at h
    dsimp only at h
    rw [if_neg hs, if_pos hc, if_neg hl] at h
    cases h
  | case5 acc s x r0 e hs hc =>
    intro l r ia h
    rw [itemsG, e] at h
    dsimp only at h
    rw [if_neg hs, if_neg hc] at h
    cases h
theorem items_inv {α : Type} {one : List α → List Nat → Except Int (α × List Nat)} {shut : Nat} (I : List α → Prop) (h0 : I []) (h1 : ∀ acc s x r, I acc → one acc s = .ok (x, r) → I (acc ++ [x])) {s : List Nat} {l : List α} {r : List Nat} (h : items one shut s = .ok (l, r)) : I l := by
  unfold items at h
  split at h
  · cases h; exact h0
  · exact itemsG_inv I h1 h0 h
theorem mayV_of {d : Nat} {k : Int} {o : Bool} {n : Int} {t : List Nat} {l : List JV} {m : List (List Nat × JV)}
    (h1 : 0 ≤ k ∧ k ≤ 5) (h2 : (k ≠ 1 → o = false) ∧ (k ≠ 2 → n = 0) ∧ (k ≠ 3 → t = []) ∧ (k ≠ 4 → l.length = 0) ∧ (k ≠ 5 → m.length = 0)) (h3 : -9007199254740991 ≤ n ∧ n ≤ 9007199254740991) (h4 : validU t = true) (h5 : (m.map Prod.fst).Nodup) (h6 : ∀ p ∈ m, validU p.1 = true ∧ mayV d p.2 = true) (h7 : ∀ x ∈ l, mayV d x = true) : mayV (d + 1) (.mk k o n t l m) = true := by
  simp only [mayV, Bool.and_eq_true, List.all_eq_true]
  exact ⟨⟨⟨⟨⟨⟨decide_eq_true h1, decide_eq_true h2⟩, decide_eq_true h3⟩, h4⟩, decide_eq_true h5⟩, fun p hp => h6 p hp⟩, fun x hx => h7 x hx⟩
theorem number_may {d : Nat} {s r : List Nat} {v : JV} (h : number s = .ok (v, r)) : mayV (d + 1) v = true := by
  obtain ⟨mi, hm⟩ : ∃ mi, has [45] s = mi := ⟨_, rfl⟩
  obtain ⟨s1, h1⟩ : ∃ s1, (if mi = true then s.drop 1 else s) = s1 := ⟨_, rfl⟩
  rw [number_eq s mi hm s1 h1] at h
  by_cases g1 : numOk mi s1 = true
  · rw [if_pos g1] at h
    by_cases g2 : dec (digs s1) ≤ 9007199254740991
    · rw [if_pos g2] at h
      cases h
      refine mayV_of (by decide) ⟨by simp, by simp, by simp, by simp, by simp⟩ ?_ validU_nil (by simp) (by simp) (by simp)
      split <;> omega
    · rw [if_neg g2] at h; cases h
  · rw [if_neg g1] at h; cases h
theorem nulV_may (d : Nat) : mayV (d + 1) nulV = true := mayV_of (by decide) ⟨by simp, by simp, by simp, by simp, by simp⟩ (by omega) validU_nil (by simp) (by simp) (by simp)
theorem value_may : ∀ {d : Nat} {s r : List Nat} {v : JV}, value d s = .ok (v, r) → mayV d v = true
  | 0, s, r, v, h => by rw [value] at h; cases h
  | d + 1, s, r, v, h => by
    rw [value] at h
    try dsimp only at h
    split at h
    · split at h
      · cases h
      · rename_i t r1 ht
        cases h
        exact mayV_of (by decide) ⟨by simp, by simp, by simp, by simp, by simp⟩ (by omega) (text_valid ht) (by simp) (by simp) (by simp)
    · split at h
      · split at h
        · cases h
        · rename_i l r1 hl
          cases h
          refine mayV_of (by decide) ⟨by simp, by simp, by simp, by simp, by simp⟩ (by omega) validU_nil (by simp) (by simp) ?_
          refine items_inv (fun l => ∀ x ∈ l, mayV d x = true) (by simp) (fun acc s x r ia e => ?_) hl
          intro y hy
          rcases List.mem_append.1 hy with q | q
          · exact ia y q
          · rw [List.mem_singleton.1 q]; exact value_may e
      · split at h
        · split at h
          · cases h
          · rename_i l r1 hl
            cases h
            have key : (l.map Prod.fst).Nodup ∧ ∀ p ∈ l, validU p.1 = true ∧ mayV d p.2 = true := by
              refine items_inv (fun l => (l.map Prod.fst).Nodup ∧ ∀ p ∈ l, validU p.1 = true ∧ mayV d p.2 = true) (by simp) (fun acc s x r ia e => ?_) hl
              unfold member at e
              split at e
              · cases e
              · rename_i name r2 ht
                split at e
                · cases e
                · rename_i hany
                  split at e
                  · split at e
                    · cases e
                    · rename_i w r3 hv
                      cases e
                      refine ⟨?_, fun p hp => ?_⟩
                      · rw [List.map_append, List.nodup_append]
                        refine ⟨ia.1, by simp, fun a ha c hc q => hany ?_⟩
                        simp only [List.map_cons, List.map_nil, List.mem_singleton] at hc
                        obtain ⟨p, hp, rfl⟩ := List.mem_map.1 ha
                        rw [List.any_eq_true]
                        exact ⟨p, hp, decide_eq_true (by rw [q, hc])⟩
                      · rcases List.mem_append.1 hp with q | q
                        · exact ia.2 p q
                        · rw [List.mem_singleton.1 q]
                          exact ⟨text_valid ht, value_may hv⟩
                  · cases e
            exact mayV_of (by decide) ⟨by simp, by simp, by simp, by simp, by simp⟩ (by omega) validU_nil key.1 key.2 (by simp)
        · split at h
          · cases h; exact nulV_may d
          · split at h
            · cases h
              exact mayV_of (by decide) ⟨by simp, by simp, by simp, by simp, by simp⟩ (by omega) validU_nil (by simp) (by simp) (by simp)
            · split at h
              · cases h
                exact mayV_of (by decide) ⟨by simp, by simp, by simp, by simp, by simp⟩ (by omega) validU_nil (by simp) (by simp) (by simp)
              · exact number_may h
theorem parse_may {l : List Nat} {v : JV} (h : parse l = .ok v) : mayV 16 v = true := by
  unfold parse at h
  split at h
  · cases h
  · split at h
    · cases h
    · rename_i w r e
      split at h
      · cases h; exact value_may e
      · cases h
end Go.Js
namespace Go.Proofs.YtolcmaipjpkidaaGreatDoor
open Go Go.SL Go.Pure Go.Js
/-- So many bytes more of a rune. -/
def contN : Nat → List Nat → Nat → Option Nat
  | 0, _, v => some v
  | n + 1, [], _ => none
  | n + 1, c :: s, v => if cont c then contN n s (v * 64 + c % 64) else none
def runeW (n L : Nat) : Option Nat → Nat
  | none => 0
  | some v => if v < L ∨ 1114111 < v ∨ (55296 ≤ v ∧ v < 57344) then 0 else n
theorem runeW_some (n L v : Nat) : runeW n L (some v) = if v < L ∨ 1114111 < v ∨ (55296 ≤ v ∧ v < 57344) then 0 else n := rfl
theorem runeW_none (n L : Nat) : runeW n L none = 0 := rfl
def runeE (c : Nat) (r : List Nat) : Nat := if c < 128 then 1 else if c < 194 ∨ 245 ≤ c then 0 else if (acc2 c).1 ≤ r.getD 0 0 ∧ r.getD 0 0 ≤ (acc2 c).2 then (if c < 224 then 2 else if cont (r.getD 1 0) then (if c < 240 then 3 else if cont (r.getD 2 0) then 4 else 0) else 0) else 0
theorem runeE_eq (c : Nat) (r : List Nat) : runeN (c :: r) = runeE c r := rfl
theorem acc2_iff (c x : Nat) : ((acc2 c).1 ≤ x ∧ x ≤ (acc2 c).2) ↔ (128 ≤ x ∧ x ≤ 191) ∧ (c = 224 → 160 ≤ x) ∧ (c = 237 → x ≤ 159) ∧ (c = 240 → 144 ≤ x) ∧ (c = 244 → x ≤ 143) := by
  unfold acc2
  by_cases g1 : c = 224
  · rw [if_pos g1]; show 160 ≤ x ∧ x ≤ 191 ↔ _; omega
  · rw [if_neg g1]
    by_cases g2 : c = 237
    · rw [if_pos g2]; show 128 ≤ x ∧ x ≤ 159 ↔ _; omega
    · rw [if_neg g2]
      by_cases g3 : c = 240
      · rw [if_pos g3]; show 144 ≤ x ∧ x ≤ 191 ↔ _; omega
      · rw [if_neg g3]
        by_cases g4 : c = 244
        · rw [if_pos g4]; show 128 ≤ x ∧ x ≤ 143 ↔ _; omega
        · rw [if_neg g4]; show 128 ≤ x ∧ x ≤ 191 ↔ _; omega
theorem rune_2 {c a : Nat} {r : List Nat} (h : 194 ≤ c ∧ c < 224) : runeN (c :: a :: r) = runeW 2 128 (contN 1 (a :: r) (c % 32)) := by
  rw [runeE_eq]
  unfold runeE
  rw [if_neg (by omega), if_neg (by omega)]
  simp only [List.getD_cons_zero, acc2_iff, contN]
  by_cases q : cont a = true
  · have q' := q
    unfold cont at q'
    rw [decide_eq_true_eq] at q'
    rw [if_pos (by omega), if_pos (by omega), if_pos q]
    rw [show ∀ n L v, runeW n L (some v) = if v < L ∨ 1114111 < v ∨ (55296 ≤ v ∧ v < 57344) then 0 else n from fun _ _ _ => rfl]
    rw [if_neg (by omega)]
  · have q' := q
    unfold cont at q'
    rw [decide_eq_true_eq] at q'
    rw [if_neg (by omega), if_neg q]
    rfl
theorem rune_3 {c a a2 : Nat} {r : List Nat} (h : 224 ≤ c ∧ c < 240) : runeN (c :: a :: a2 :: r) = runeW 3 2048 (contN 2 (a :: a2 :: r) (c % 16)) := by
  rw [runeE_eq]
  unfold runeE
  rw [if_neg (by omega), if_neg (by omega)]
  simp only [List.getD_cons_zero, List.getD_cons_succ, acc2_iff, contN]
  by_cases q : cont a = true
  · have q' := q
    unfold cont at q'
    rw [decide_eq_true_eq] at q'
    rw [if_pos q]
    by_cases p : cont a2 = true
    · have p' := p
      unfold cont at p'
      rw [decide_eq_true_eq] at p'
      rw [if_pos p, if_pos p]
      rw [runeW_some, if_neg (show ¬ c < 224 by omega), if_pos (show c < 240 by omega)]
      by_cases z : (c % 16 * 64 + a % 64) * 64 + a2 % 64 < 2048 ∨ 1114111 < (c % 16 * 64 + a % 64) * 64 + a2 % 64 ∨ (55296 ≤ (c % 16 * 64 + a % 64) * 64 + a2 % 64 ∧ (c % 16 * 64 + a % 64) * 64 + a2 % 64 < 57344)
      · rw [if_pos z, if_neg (by omega)]
      · rw [if_neg z, if_pos (by omega)]
    · rw [if_neg p, if_neg p]
      rw [runeW_none]
      rw [if_neg (show ¬ c < 224 by omega), ite_self]
  · have q' := q
    unfold cont at q'
    rw [decide_eq_true_eq] at q'
    rw [if_neg (by omega), if_neg q]
    rfl
theorem rune_4 {c a a2 a3 : Nat} {r : List Nat} (h : 240 ≤ c ∧ c < 245) : runeN (c :: a :: a2 :: a3 :: r) = runeW 4 65536 (contN 3 (a :: a2 :: a3 :: r) (c % 8)) := by
  rw [runeE_eq]
  unfold runeE
  rw [if_neg (by omega), if_neg (by omega)]
  simp only [List.getD_cons_zero, List.getD_cons_succ, acc2_iff, contN]
  rw [if_neg (show ¬ c < 224 by omega), if_neg (show ¬ c < 240 by omega)]
  by_cases q : cont a = true
  · have q' := q
    unfold cont at q'
    rw [decide_eq_true_eq] at q'
    rw [if_pos q]
    by_cases p : cont a2 = true
    · have p' := p
      unfold cont at p'
      rw [decide_eq_true_eq] at p'
      rw [if_pos p, if_pos p]
      by_cases o : cont a3 = true
      · have o' := o
        unfold cont at o'
        rw [decide_eq_true_eq] at o'
        rw [if_pos o, if_pos o]
        rw [runeW_some]
        by_cases z : ((c % 8 * 64 + a % 64) * 64 + a2 % 64) * 64 + a3 % 64 < 65536 ∨ 1114111 < ((c % 8 * 64 + a % 64) * 64 + a2 % 64) * 64 + a3 % 64 ∨ (55296 ≤ ((c % 8 * 64 + a % 64) * 64 + a2 % 64) * 64 + a3 % 64 ∧ ((c % 8 * 64 + a % 64) * 64 + a2 % 64) * 64 + a3 % 64 < 57344)
        · rw [if_pos z, if_neg (by omega)]
        · rw [if_neg z, if_pos (by omega)]
      · rw [if_neg o, if_neg o]
        rw [runeW_none]
        rw [ite_self]
    · rw [if_neg p, if_neg p]
      rw [runeW_none]
      rw [ite_self]
  · have q' := q
    unfold cont at q'
    rw [decide_eq_true_eq] at q'
    rw [if_neg (by omega), if_neg q]
    rfl
section
variable {h : Hp} {K : Value → Hp → Prop} {v : Value} {b : List Nat}
theorem T_Rune9 {n L w0 : Nat} (r : Rn h .u8 v b) (bb : Bytes b) (hn : 2 ≤ n ∧ n ≤ 4) (hl : n ≤ b.length) (hL : L ≤ 65536) (hw : w0 < 64)
    (k : ∀ x, K (.tuple #[.int .i64 x, .int .i64 ((runeW n L (contN (n - 1) (b.drop 1) w0) : Nat) : Int)]) h) : s_orlopref15_Rune_9 K h v (.int .i64 0) (.int .i64 0) (.int .i64 (n : Int)) (.int .i64 (w0 : Int)) (.int .i64 (L : Int)) := by
  unfold s_orlopref15_Rune_9
  refine Lp_mk (fun m vs G => ∃ j w : Nat, j + m = n ∧ 1 ≤ j ∧ G = h ∧ w < 64 ^ j ∧ contN m (b.drop j) w = contN (n - 1) (b.drop 1) w0 ∧ vs = [.int .i64 0, .int .i64 0, .int .i64 (w : Int), .int .i64 (j : Int)]) (n - 1) ⟨1, w0, by omega, by omega, rfl, by omega, rfl, rfl⟩ ?_
  rintro m vs G ⟨j, w, hj, h1, rfl, hw, e, rfl⟩
  have hw' : w < 16777216 := Nat.lt_of_lt_of_le hw (Nat.pow_le_pow_right (n := 64) (by decide) (show j ≤ 4 by omega))
  simp -zeta only [GL, q_bLen r, ltN]
  cases m with
  | zero =>
    rw [decide_eq_false (show ¬ j < n by omega)]
    simp -zeta only [GL, RL, Bool.false_eq_true, if_false]
    rw [← e] at k
    simp only [contN, runeW] at k
    unfold s_orlopref15_Rune_10 s_orlopref15_Rune_11
    by_cases c1 : w < L
    · rw [if_pos (by omega)] at k
      simp -zeta only [GL, RL, ltN, decide_eq_true c1, if_true, Bool.true_eq_false, if_false]
      exact k 0
    · have d2 : ∀ z, (1114111 < w ↔ z = true) → decide ((1114111 : Int) < (w : Int)) = z := fun z hz => by
        by_cases q : 1114111 < w
        · rw [hz.1 q]; exact decide_eq_true (by omega)
        · have : z = false := by cases z; · rfl
                                 · exact absurd (hz.2 rfl) q
          rw [this]; exact decide_eq_false (by omega)
      by_cases c2 : 1114111 < w
      · rw [if_pos (by omega)] at k
        simp -zeta only [GL, RL, ltN, decide_eq_false c1, d2 true (by simp [c2]), if_true, Bool.true_eq_false, if_false]
        exact k 0
      · have f2 := d2 false (by simp; omega)
        by_cases c3 : 55296 ≤ w
        · have f3 : decide ((55296 : Int) ≤ (w : Int)) = true := decide_eq_true (by omega)
          by_cases c4 : w < 57344
          · have f4 : decide ((w : Int) < 57344) = true := decide_eq_true (by omega)
            rw [if_pos (by omega)] at k
            simp -zeta only [GL, RL, ltN, decide_eq_false c1, f2, f3, f4, if_true, Bool.true_eq_false, if_false]
            exact k 0
          · have f4 : decide ((w : Int) < 57344) = false := decide_eq_false (by omega)
            rw [if_neg (by omega)] at k
            simp -zeta only [GL, RL, ltN, decide_eq_false c1, f2, f3, f4, if_true, Bool.true_eq_false, Bool.false_eq_true, if_false]
            exact k _
        · have f3 : decide ((55296 : Int) ≤ (w : Int)) = false := decide_eq_false (by omega)
          rw [if_neg (by omega)] at k
          simp -zeta only [GL, RL, ltN, decide_eq_false c1, f2, f3, if_true, Bool.true_eq_false, Bool.false_eq_true, if_false]
          exact k _
  | succ m =>
    rw [decide_eq_true (show j < n by omega)]
    have g : j < b.length := by omega
    rw [dropAt g] at e
    simp -zeta only [GL, RL, if_true, q_bAt r g, up1 (n := j) (by omega)]
    have hb : b.getD j 0 < 256 := by rw [List.getD_eq_getElem?_getD, List.getElem?_eq_getElem g]; exact bb _ (List.getElem_mem g)
    generalize b.getD j 0 = c at *
    have q1 : ((c : Nat) : Int).tdiv 64 = ((c / 64 : Nat) : Int) := by rw [Int.tdiv_eq_ediv_of_nonneg (by omega)]; omega
    have q2 : IntKind.u8.wrap ((c / 64 : Nat) : Int) = ((c / 64 : Nat) : Int) := wu8i (by omega) (by omega)
    have q3 : IntKind.i64.wrap ((c : Nat) : Int) = (c : Int) := wi64 (by omega) (by omega)
    have q4 : ((c : Nat) : Int).tmod 64 = ((c % 64 : Nat) : Int) := by rw [Int.tmod_eq_emod_of_nonneg (by omega)]; omega
    have q5 : IntKind.i64.wrap (IntKind.i64.wrap ((w : Int) * 64) + ((c % 64 : Nat) : Int)) = ((w * 64 + c % 64 : Nat) : Int) := by
      rw [wi64 (x := (w : Int) * 64) (by omega) (by omega), wi64 (by omega) (by omega)]; omega
    rw [q_quo _ _ _ _ (by decide), q1, q2]
    by_cases z : cont c = true
    · have z' := z
      unfold cont at z'
      rw [decide_eq_true_eq] at z'
      have z2 : (((c / 64 : Nat) : Int) != 2) = false := by
        have : c / 64 = 2 := by omega
        rw [this]; rfl
      simp -zeta only [GL, RL, z2, Bool.false_eq_true, if_false, q3]
      rw [q_rem _ _ _ _ (by decide), q4]
      simp -zeta only [GL, RL, q5]
      rw [contN, if_pos z] at e
      exact ⟨G, .refl _, m, by omega, j + 1, w * 64 + c % 64, by omega, by omega, rfl, by rw [Nat.pow_succ]; omega, e, rfl⟩
    · have z' := z
      unfold cont at z'
      rw [decide_eq_true_eq] at z'
      have z2 : (((c / 64 : Nat) : Int) != 2) = true := by
        rw [bne_iff_ne]; omega
      simp -zeta only [GL, RL, z2, if_true]
      rw [contN, if_neg z] at e
      rw [← e] at k
      exact k 0
theorem T_Rune15 (r : Rn h .u8 v b) (bb : Bytes b) (lb : b.length ≤ 1125899906842624) (k : ∀ x, K (.tuple #[.int .i64 x, .int .i64 ((runeN b : Nat) : Int)]) h) : Cn P n_orlopref15_Rune #[v] h K := by
  refine F_orlopref15_Rune ?_
  unfold s_orlopref15_Rune s_orlopref15_Rune_1
  simp -zeta only [GL, RL, q_bLen r]
  by_cases g0 : b.length = 0
  · have : b = [] := List.length_eq_zero_iff.1 g0
    subst this
    have e0 : ((([] : List Nat).length : Nat) : Int) == 0 := rfl
    simp -zeta only [e0, if_true]
    exact k 0
  have e0 : (((b.length : Nat) : Int) == 0) = false := by rw [beq_eq_false_iff_ne]; omega
  simp -zeta only [e0, Bool.false_eq_true, if_false]
  unfold s_orlopref15_Rune_2
  have i0 : (Value.int .i64 0) = .int .i64 ((0 : Nat) : Int) := rfl
  have hb : b.getD 0 0 < 256 := by rw [List.getD_eq_getElem?_getD, List.getElem?_eq_getElem (by omega)]; exact bb _ (List.getElem_mem (by omega))
  have eb : b = b.getD 0 0 :: b.drop 1 := by
    have := dropAt (b := b) (i := 0) (by omega)
    rwa [List.drop_zero] at this
  rw [i0, q_bAt r (by omega)]
  have ld : (b.drop 1).length + 1 = b.length := by rw [List.length_drop]; omega
  generalize hc : b.getD 0 0 = c at *
  have q3 : IntKind.i64.wrap ((c : Nat) : Int) = (c : Int) := wi64 (by omega) (by omega)
  simp -zeta only [GL, RL, q3]
  unfold s_orlopref15_Rune_3
  have l1 : ∀ z : Nat, decide (((c : Nat) : Int) < (z : Int)) = decide (c < z) := fun z => by
    by_cases q : c < z
    · rw [decide_eq_true q]; exact decide_eq_true (by omega)
    · rw [decide_eq_false q]; exact decide_eq_false (by omega)
  by_cases g1 : c < 128
  · have f1 : decide (((c : Nat) : Int) < 128) = true := decide_eq_true (by omega)
    simp -zeta only [GL, RL, f1, if_true]
    have := k (c : Int)
    rw [eb, runeN_ascii _ g1] at this
    exact this
  have f1 : decide (((c : Nat) : Int) < 128) = false := decide_eq_false (by omega)
  simp -zeta only [GL, RL, f1, Bool.false_eq_true, if_false]
  unfold s_orlopref15_Rune_4 s_orlopref15_Rune_5 s_orlopref15_Rune_6 s_orlopref15_Rune_7
  have no : runeN b = 0 → K (.tuple #[.int .i64 0, .int .i64 0]) h := fun q => by
    have := k 0
    rw [q] at this
    exact this
  have part : ∀ (n L w0 : Nat), 2 ≤ n ∧ n ≤ 4 → L ≤ 65536 → w0 < 64 → (b.length < n → runeN b = 0) → (n ≤ b.length → runeN b = runeW n L (contN (n - 1) (b.drop 1) w0)) → s_orlopref15_Rune_8 K h v (.int .i64 0) (.int .i64 0) (.int .i64 (n : Int)) (.int .i64 (w0 : Int)) (.int .i64 (L : Int)) := fun n L w0 hn hL hw h1 h2 => by
    unfold s_orlopref15_Rune_8
    have e1 : (((n : Nat) : Int) == 0) = false := by rw [beq_eq_false_iff_ne]; omega
    simp -zeta only [GL, RL, q_bLen r, e1, Bool.false_eq_true, if_false, if_true, ltN]
    by_cases g : b.length < n
    · rw [if_pos (by simpa using g)]
      exact no (h1 g)
    · rw [if_neg (by simpa using g)]
      refine T_Rune9 r bb hn (by omega) hL hw fun x => ?_
      rw [← h2 (by omega)]
      exact k x
  have two : ∀ n, ((194 ≤ c ∧ c < 224 ∧ n = 2) ∨ (224 ≤ c ∧ c < 240 ∧ n = 3) ∨ (240 ≤ c ∧ c < 245 ∧ n = 4)) → runeN b = 0 ∨ runeN b = n := fun n hn => by
    rw [eb, runeE_eq]
    unfold runeE
    rw [if_neg g1, if_neg (by omega)]
    split
    · split
      · right; omega
      · split
        · split
          · right; omega
          · split
            · right; omega
            · exact .inl rfl
        · exact .inl rfl
    · exact .inl rfl
  have len := runeN_len b
  have b1 : ((2 : Nat) : Int) = 2 ∧ ((3 : Nat) : Int) = 3 ∧ ((4 : Nat) : Int) = 4 := ⟨rfl, rfl, rfl⟩
  by_cases g2 : c < 194
  · have n0 : runeN b = 0 := by
      rw [eb, runeE_eq]; unfold runeE; rw [if_neg g1, if_pos (by omega)]
    have f2 : decide ((194 : Int) ≤ ((c : Nat) : Int)) = false := decide_eq_false (by omega)
    have f3 : decide ((224 : Int) ≤ ((c : Nat) : Int)) = false := decide_eq_false (by omega)
    have f4 : decide ((240 : Int) ≤ ((c : Nat) : Int)) = false := decide_eq_false (by omega)
    have z0 : ((0 : Int) == 0) = true := rfl
    simp only [GL, RL, f2, f3, f4, Bool.false_eq_true, if_false]
    unfold s_orlopref15_Rune_8
    simp -zeta only [GL, RL, z0, if_true, Bool.true_eq_false, if_false]
    exact no n0
  have f2 : decide ((194 : Int) ≤ ((c : Nat) : Int)) = true := decide_eq_true (by omega)
  by_cases g3 : c < 224
  · have f3 : decide (((c : Nat) : Int) < 224) = true := decide_eq_true (by omega)
    have t1 : ((c : Nat) : Int).tmod 32 = ((c % 32 : Nat) : Int) := by rw [Int.tmod_eq_emod_of_nonneg (by omega)]; omega
    simp only [GL, RL, f2, f3, if_true]
    rw [q_rem _ _ _ _ (by decide), t1]
    refine part 2 128 (c % 32) (by omega) (by omega) (by omega) (fun q => ?_) (fun q => ?_)
    · have := two 2 (by omega); omega
    · cases e : b.drop 1 with
      | nil => rw [e] at ld; simp at ld; omega
      | cons a r' => rw [eb, e]; exact rune_2 ⟨by omega, g3⟩
  have f3 : decide (((c : Nat) : Int) < 224) = false := decide_eq_false (by omega)
  have f4 : decide ((224 : Int) ≤ ((c : Nat) : Int)) = true := decide_eq_true (by omega)
  by_cases g4 : c < 240
  · have f5 : decide (((c : Nat) : Int) < 240) = true := decide_eq_true (by omega)
    have t1 : ((c : Nat) : Int).tmod 16 = ((c % 16 : Nat) : Int) := by rw [Int.tmod_eq_emod_of_nonneg (by omega)]; omega
    simp only [GL, RL, f2, f3, f4, f5, if_true, Bool.false_eq_true, if_false]
    rw [q_rem _ _ _ _ (by decide), t1]
    refine part 3 2048 (c % 16) (by omega) (by omega) (by omega) (fun q => ?_) (fun q => ?_)
    · have := two 3 (by omega); omega
    · cases e : b.drop 1 with
      | nil => rw [e] at ld; simp at ld; omega
      | cons a r' =>
        cases r' with
        | nil => rw [e] at ld; simp at ld; omega
        | cons a2 r2 => rw [eb, e]; exact rune_3 ⟨by omega, g4⟩
  have f5 : decide (((c : Nat) : Int) < 240) = false := decide_eq_false (by omega)
  have f6 : decide ((240 : Int) ≤ ((c : Nat) : Int)) = true := decide_eq_true (by omega)
  by_cases g5 : c < 245
  · have f7 : decide (((c : Nat) : Int) < 245) = true := decide_eq_true (by omega)
    have t1 : ((c : Nat) : Int).tmod 8 = ((c % 8 : Nat) : Int) := by rw [Int.tmod_eq_emod_of_nonneg (by omega)]; omega
    simp only [GL, RL, f2, f3, f4, f5, f6, f7, if_true, Bool.false_eq_true, if_false]
    rw [q_rem _ _ _ _ (by decide), t1]
    refine part 4 65536 (c % 8) (by omega) (by omega) (by omega) (fun q => ?_) (fun q => ?_)
    · have := two 4 (by omega); omega
    · cases e : b.drop 1 with
      | nil => rw [e] at ld; simp at ld; omega
      | cons a r' =>
        cases r' with
        | nil => rw [e] at ld; simp at ld; omega
        | cons a2 r2 =>
          cases r2 with
          | nil => rw [e] at ld; simp at ld; omega
          | cons a3 r3 => rw [eb, e]; exact rune_4 ⟨by omega, g5⟩
  have f7 : decide (((c : Nat) : Int) < 245) = false := decide_eq_false (by omega)
  have n0 : runeN b = 0 := by
    rw [eb, runeE_eq]; unfold runeE; rw [if_neg g1, if_pos (by omega)]
  have z0 : ((0 : Int) == 0) = true := rfl
  simp only [GL, RL, f2, f3, f4, f5, f6, f7, if_true, Bool.false_eq_true, if_false]
  unfold s_orlopref15_Rune_8
  simp -zeta only [GL, RL, z0, if_true, Bool.true_eq_false, if_false]
  exact no n0
end
section
variable {h : Hp} {K : Value → Hp → Prop} {v : Value} {b : List Nat}
theorem T_Encode15 {x : Nat} (hx : x < 2097152) (k : ∀ w h', Nn h t_uint8 .u8 w h' (enc x) → K w h') : Cn P n_orlopref15_Encode #[.int .i64 (x : Int)] h K := by
  refine F_orlopref15_Encode ?_
  unfold s_orlopref15_Encode
  have dv : ∀ c : Nat, 0 < c → ((x : Nat) : Int).tdiv (c : Int) = ((x / c : Nat) : Int) := fun c hc => by rw [Int.tdiv_eq_ediv_of_nonneg (by omega)]; rfl
  have w8 : ∀ n : Nat, n < 256 → IntKind.u8.wrap (n : Int) = (n : Int) := fun n hn => wu8i (by omega) (by omega)
  have md : ∀ n : Nat, ((n : Nat) : Int).tmod 64 = ((n % 64 : Nat) : Int) := fun n => by rw [Int.tmod_eq_emod_of_nonneg (by omega)]; omega
  have w64 : ∀ (a n : Nat), a < 1000 → n < 2097152 → IntKind.i64.wrap ((a : Int) + (n : Int)) = ((a + n : Nat) : Int) := fun a n ha hn => by rw [wi64 (by omega) (by omega)]; omega
  have wd : ∀ n : Nat, n < 2097153 → IntKind.i64.wrap (n : Int) = (n : Int) := fun n hn => wi64 (by omega) (by omega)
  have d64 : ((x : Nat) : Int).tdiv 64 = ((x / 64 : Nat) : Int) := dv 64 (by decide)
  have d4k : ((x : Nat) : Int).tdiv 4096 = ((x / 4096 : Nat) : Int) := dv 4096 (by decide)
  have d26 : ((x : Nat) : Int).tdiv 262144 = ((x / 262144 : Nat) : Int) := dv 262144 (by decide)
  have e192 : (192 : Int) = ((192 : Nat) : Int) := rfl
  have e128 : (128 : Int) = ((128 : Nat) : Int) := rfl
  have e224 : (224 : Int) = ((224 : Nat) : Int) := rfl
  have e240 : (240 : Int) = ((240 : Nat) : Int) := rfl
  unfold enc at k
  by_cases g1 : x < 128
  · have f1 : decide (((x : Nat) : Int) < 128) = true := decide_eq_true (by omega)
    rw [if_pos g1] at k
    simp -zeta only [GL, RL, f1, if_true, w8 x (by omega)]
    exact aw_lit1 x k
  rw [if_neg g1] at k
  have f1 : decide (((x : Nat) : Int) < 128) = false := decide_eq_false (by omega)
  by_cases g2 : x < 2048
  · have f2 : decide (((x : Nat) : Int) < 2048) = true := decide_eq_true (by omega)
    rw [if_pos g2] at k
    simp -zeta only [GL, RL, f1, f2, if_true, Bool.false_eq_true, if_false]
    rw [q_quo _ _ _ _ (by decide), d64, wd _ (by omega)]
    simp -zeta only [GL, RL]
    rw [e192, w64 _ _ (by omega) (by omega), w8 _ (by omega), q_rem _ _ _ _ (by decide), md]
    simp -zeta only [GL, RL]
    rw [e128, w64 _ _ (by omega) (by omega), w8 _ (by omega)]
    exact aw_lit2 _ _ k
  rw [if_neg g2] at k
  have f2 : decide (((x : Nat) : Int) < 2048) = false := decide_eq_false (by omega)
  by_cases g3 : x < 65536
  · have f3 : decide (((x : Nat) : Int) < 65536) = true := decide_eq_true (by omega)
    rw [if_pos g3] at k
    simp -zeta only [GL, RL, f1, f2, f3, if_true, Bool.false_eq_true, if_false]
    rw [q_quo _ _ _ _ (by decide), d4k, wd _ (by omega)]
    simp -zeta only [GL, RL]
    rw [e224, w64 _ _ (by omega) (by omega), w8 _ (by omega), q_quo _ _ _ _ (by decide), d64, wd _ (by omega), q_rem _ _ _ _ (by decide), md]
    simp -zeta only [GL, RL]
    rw [e128, w64 _ _ (by omega) (by omega), w8 _ (by omega), q_rem _ _ _ _ (by decide), md]
    simp -zeta only [GL, RL]
    rw [w64 _ _ (by omega) (by omega), w8 _ (by omega)]
    exact aw_lit3 _ _ _ k
  · have f3 : decide (((x : Nat) : Int) < 65536) = false := decide_eq_false (by omega)
    rw [if_neg g3] at k
    simp -zeta only [GL, RL, f1, f2, f3, if_true, Bool.false_eq_true, if_false]
    rw [q_quo _ _ _ _ (by decide), d26, wd _ (by omega)]
    simp -zeta only [GL, RL]
    rw [e240, w64 _ _ (by omega) (by omega), w8 _ (by omega), q_quo _ _ _ _ (by decide), d4k, wd _ (by omega), q_rem _ _ _ _ (by decide), md]
    simp -zeta only [GL, RL]
    rw [e128, w64 _ _ (by omega) (by omega), w8 _ (by omega), q_quo _ _ _ _ (by decide), d64, wd _ (by omega), q_rem _ _ _ _ (by decide), md]
    simp -zeta only [GL, RL]
    rw [w64 _ _ (by omega) (by omega), w8 _ (by omega), q_rem _ _ _ _ (by decide), md]
    simp -zeta only [GL, RL]
    rw [w64 _ _ (by omega) (by omega), w8 _ (by omega)]
    exact aw_lit4 _ _ _ _ k
theorem half_some {r : List Nat} {v : Nat} (h : hex4 (r.take 4) = some v) : half r = some (v, r.drop 4) := by unfold half; rw [h]; rfl
theorem half_none {r : List Nat} (h : hex4 (r.take 4) = none) : half r = none := by unfold half; rw [h]; rfl
theorem T_escape15 {i : Nat} (r : Rn h .u8 v b) (lb : b.length ≤ 1125899906842624) (bb : Bytes b) (hi : i ≤ b.length)
    (kn : escape (b.drop i) = none → K (.tuple #[.int .i64 0, .int .i64 (-1)]) h) (ks : ∀ x t j, escape (b.drop i) = some (x, t) → j ≤ b.length → b.drop j = t → K (.tuple #[.int .i64 (x : Int), .int .i64 (j : Int)]) h) :
    Cn P n_orlopref15_escape #[v, .int .i64 (i : Int)] h K := by
  refine F_orlopref15_escape ?_
  unfold s_orlopref15_escape
  simp -zeta only [GL, RL, q_bLen r]
  by_cases g : i < b.length
  · have l0 : decide (((b.length : Nat) : Int) ≤ ((i : Nat) : Int)) = false := decide_eq_false (by omega)
    simp -zeta only [l0, Bool.false_eq_true, if_false]
    rw [q_bAt r g]
    have hb : b.getD i 0 < 256 := by rw [List.getD_eq_getElem?_getD, List.getElem?_eq_getElem g]; exact bb _ (List.getElem_mem g)
    have d := dropAt g
    rw [d] at kn ks
    have u1 := up1 (n := i) (by omega)
    have ld : (b.drop (i + 1)).length = b.length - (i + 1) := List.length_drop ..
    have kv : ∀ x, simple (b.getD i 0) = some x → K (.tuple #[.int .i64 (x : Int), .int .i64 ((i + 1 : Nat) : Int)]) h := fun x hx => ks x (b.drop (i + 1)) (i + 1) (by unfold escape; dsimp only; rw [hx]) (by omega) rfl
    have eq1 : ∀ a : Nat, (((b.getD i 0 : Nat) : Int) == (a : Int)) = decide (b.getD i 0 = a) := fun a => eqb
    have q3 : IntKind.i64.wrap ((b.getD i 0 : Nat) : Int) = ((b.getD i 0 : Nat) : Int) := wi64 (by omega) (by omega)
    intro J7
    have hT : b.getD i 0 = 34 ∨ b.getD i 0 = 92 ∨ b.getD i 0 = 47 → J7 (.bool true) h := fun q => by
      show cnd _ _ _
      rw [cnd_bool, if_pos rfl, q_bAt r g]
      simp -zeta only [GL, RL, q3, u1]
      exact kv _ (by unfold simple; rw [if_pos q])
    have hF : ¬ (b.getD i 0 = 34 ∨ b.getD i 0 = 92 ∨ b.getD i 0 = 47) → J7 (.bool false) h := fun q => by
      show cnd _ _ _
      rw [cnd_bool, if_neg (by decide)]
      generalize hc : b.getD i 0 = c at *
      clear J7 hT
      have s0 : simple c = if c = 98 then some 8 else if c = 102 then some 12 else if c = 110 then some 10 else if c = 114 then some 13 else if c = 116 then some 9 else none := by unfold simple; rw [if_neg q]
      have e98 : (((c : Nat) : Int) == 98) = decide (c = 98) := eq1 98
      have e102 : (((c : Nat) : Int) == 102) = decide (c = 102) := eq1 102
      have e110 : (((c : Nat) : Int) == 110) = decide (c = 110) := eq1 110
      have e114 : (((c : Nat) : Int) == 114) = decide (c = 114) := eq1 114
      have e116 : (((c : Nat) : Int) == 116) = decide (c = 116) := eq1 116
      have e117 : (((c : Nat) : Int) == 117) = decide (c = 117) := eq1 117
      rw [q_eql, e98]
      by_cases h98 : c = 98
      · rw [decide_eq_true h98, cnd_bool, if_pos rfl, u1]
        exact kv 8 (by rw [s0, if_pos h98])
      rw [decide_eq_false h98, cnd_bool, if_neg (by decide), q_eql, e102]
      rw [if_neg h98] at s0
      by_cases h102 : c = 102
      · rw [decide_eq_true h102, cnd_bool, if_pos rfl, u1]
        exact kv 12 (by rw [s0, if_pos h102])
      rw [decide_eq_false h102, cnd_bool, if_neg (by decide), q_eql, e110]
      rw [if_neg h102] at s0
      by_cases h110 : c = 110
      · rw [decide_eq_true h110, cnd_bool, if_pos rfl, u1]
        exact kv 10 (by rw [s0, if_pos h110])
      rw [decide_eq_false h110, cnd_bool, if_neg (by decide), q_eql, e114]
      rw [if_neg h110] at s0
      by_cases h114 : c = 114
      · rw [decide_eq_true h114, cnd_bool, if_pos rfl, u1]
        exact kv 13 (by rw [s0, if_pos h114])
      rw [decide_eq_false h114, cnd_bool, if_neg (by decide), q_eql, e116]
      rw [if_neg h114] at s0
      by_cases h116 : c = 116
      · rw [decide_eq_true h116, cnd_bool, if_pos rfl, u1]
        exact kv 9 (by rw [s0, if_pos h116])
      rw [decide_eq_false h116, cnd_bool, if_neg (by decide), q_eql, e117]
      rw [if_neg h116] at s0
      by_cases h117 : c = 117
      · rw [decide_eq_true h117, cnd_bool, if_pos rfl, u1]
        have es : escape (c :: b.drop (i + 1)) = match half (b.drop (i + 1)) with
            | none => none
            | some (v, r1) => if v < 55296 ∨ 57343 < v then some (v, r1)
              else if v < 56320 ∧ has [92, 117] r1 = true then
                match half (r1.drop 2) with
                | none => none
                | some (w, r2) => if 56320 ≤ w ∧ w ≤ 57343 then some ((v - 55296) * 1024 + (w - 56320) + 65536, r2) else none
              else none := by
          unfold escape
          dsimp only
          rw [s0, if_pos h117]
          rfl
        rw [es] at kn ks
        clear es s0
        refine T_hex15 r lb bb (by omega) ?_
        cases h4 : hex4 ((b.drop (i + 1)).take 4) with
        | none =>
          rw [half_none h4] at kn
          have z : decide ((-1 : Int) < 0) = true := rfl
          simp only [GL, RL, optI, z, if_true, Bool.true_eq_false, if_false]
          exact kn rfl
        | some x =>
          have hf := half_some h4
          obtain ⟨l4, _, x4⟩ := half_len hf
          rw [hf] at kn ks
          dsimp only at kn ks
          rw [List.drop_drop] at kn ks l4
          have i5 : i + 1 + 4 = i + 5 := rfl
          rw [i5] at kn ks l4
          have hi5 : i + 5 ≤ b.length := by rw [List.length_drop, List.length_drop] at l4; omega
          have u5 : IntKind.i64.wrap ((i : Int) + 5) = ((i + 5 : Nat) : Int) := upN 5 (by omega) (by omega)
          have u7 : IntKind.i64.wrap ((i : Int) + 7) = ((i + 7 : Nat) : Int) := upN 7 (by omega) (by omega)
          have u11 : IntKind.i64.wrap ((i : Int) + 11) = ((i + 11 : Nat) : Int) := upN 11 (by omega) (by omega)
          have z0 : decide (((x : Nat) : Int) < 0) = false := decide_eq_false (by omega)
          have tf : ∀ (a : Nat) (z : Bool), decide (a ≤ x) = z → decide ((a : Int) ≤ (x : Int)) = z := fun a z hz => by
            rw [← hz]; by_cases q : a ≤ x
            · rw [decide_eq_true q]; exact decide_eq_true (by omega)
            · rw [decide_eq_false q]; exact decide_eq_false (by omega)
          by_cases c1 : x < 55296 ∨ 57343 < x
          · rw [if_pos c1] at ks
            have kk := ks x (b.drop (i + 5)) (i + 5) rfl hi5 rfl
            rcases c1 with c1 | c1
            · have f1 : decide ((56320 : Int) ≤ (x : Int)) = false := decide_eq_false (by omega)
              have f2 : decide ((x : Int) < 55296) = true := decide_eq_true (by omega)
              simp only [GL, RL, optI, z0, f1, f2, u5, if_true, Bool.false_eq_true, Bool.true_eq_false, if_false]
              exact kk
            · have f1 : decide ((56320 : Int) ≤ (x : Int)) = true := decide_eq_true (by omega)
              have f2 : decide ((x : Int) < 55296) = false := decide_eq_false (by omega)
              have f3 : decide ((x : Int) < 57344) = false := decide_eq_false (by omega)
              have f4 : decide ((57344 : Int) ≤ (x : Int)) = true := decide_eq_true (by omega)
              simp only [GL, RL, optI, z0, f1, f2, f3, f4, u5, if_true, Bool.false_eq_true, Bool.true_eq_false, if_false]
              exact kk
          · rw [if_neg c1] at kn ks
            have f2 : decide ((x : Int) < 55296) = false := decide_eq_false (by omega)
            have f4 : decide ((57344 : Int) ≤ (x : Int)) = false := decide_eq_false (by omega)
            have f3 : decide ((x : Int) < 57344) = true := decide_eq_true (by omega)
            by_cases c2 : x < 56320
            · have f1 : decide ((56320 : Int) ≤ (x : Int)) = false := decide_eq_false (by omega)
              simp only [GL, RL, optI, z0, f1, f2, f3, f4, u5, u7, u11, if_true, Bool.false_eq_true, Bool.true_eq_false, if_false]
              have t9 : (⟨#[92, 117]⟩ : ByteArray) = strL [92, 117] := by kernel_rfl
              rw [t9]
              refine T_stands15 r lb bb (by unfold Bytes; decide) (by decide) hi5 ?_
              by_cases c3 : has [92, 117] (b.drop (i + 5)) = true
              · rw [if_pos ⟨c2, c3⟩] at kn ks
                rw [c3]
                simp only [GL, RL, if_true]
                have l7 := has_ne c3
                rw [List.length_drop] at l7
                simp only [List.length_cons, List.length_nil] at l7
                rw [List.drop_drop] at kn ks
                have i7 : i + 5 + 2 = i + 7 := rfl
                rw [i7] at kn ks
                cases h7 : hex4 ((b.drop (i + 7)).take 4) with
                | none =>
                  rw [half_none h7] at kn
                  refine T_hex15 r lb bb (by omega) ?_
                  rw [h7]
                  have z : decide ((-1 : Int) < 56320) = true := rfl
                  simp only [GL, RL, optI, z, if_true, Bool.true_eq_false, if_false]
                  exact kn rfl
                | some y =>
                  have hf2 := half_some h7
                  obtain ⟨l8, _, y4⟩ := half_len hf2
                  rw [hf2] at kn ks
                  dsimp only at kn ks
                  rw [List.drop_drop] at kn ks l8
                  have i11 : i + 7 + 4 = i + 11 := rfl
                  rw [i11] at kn ks l8
                  have hi11 : i + 11 ≤ b.length := by rw [List.length_drop, List.length_drop] at l8; omega
                  by_cases c4 : 56320 ≤ y ∧ y ≤ 57343
                  · rw [if_pos c4] at ks
                    have kk := ks _ (b.drop (i + 11)) (i + 11) rfl hi11 rfl
                    have f5 : decide ((y : Int) < 56320) = false := decide_eq_false (by omega)
                    have f6 : decide ((57344 : Int) ≤ (y : Int)) = false := decide_eq_false (by omega)
                    have a1 : IntKind.i64.wrap ((x : Int) - 55296) = ((x - 55296 : Nat) : Int) := by rw [wi64 (by omega) (by omega)]; omega
                    have a2 : IntKind.i64.wrap (((x - 55296 : Nat) : Int) * 1024) = (((x - 55296) * 1024 : Nat) : Int) := by rw [wi64 (by omega) (by omega)]; omega
                    have a3 : IntKind.i64.wrap ((((x - 55296) * 1024 : Nat) : Int) + (y : Int)) = (((x - 55296) * 1024 + y : Nat) : Int) := by rw [wi64 (by omega) (by omega)]; omega
                    have a4 : IntKind.i64.wrap ((((x - 55296) * 1024 + y : Nat) : Int) - 56320) = (((x - 55296) * 1024 + (y - 56320) : Nat) : Int) := by rw [wi64 (by omega) (by omega)]; omega
                    have a5 : IntKind.i64.wrap ((((x - 55296) * 1024 + (y - 56320) : Nat) : Int) + 65536) = (((x - 55296) * 1024 + (y - 56320) + 65536 : Nat) : Int) := by rw [wi64 (by omega) (by omega)]; omega
                    refine T_hex15 r lb bb (by omega) ?_
                    rw [h7]
                    generalize (x - 55296) * 1024 + (y - 56320) + 65536 = A at kk a5
                    simp only [GL, RL, optI, f5, f6, a1, a2, a3, a4, a5, if_true, Bool.false_eq_true, if_false]
                    exact kk
                  · rw [if_neg c4] at kn
                    have kk := kn rfl
                    by_cases c5 : y < 56320
                    · have f5 : decide ((y : Int) < 56320) = true := decide_eq_true (by omega)
                      refine T_hex15 r lb bb (by omega) ?_
                      rw [h7]
                      simp only [GL, RL, optI, f5, if_true, Bool.true_eq_false, if_false]
                      exact kk
                    · have f5 : decide ((y : Int) < 56320) = false := decide_eq_false (by omega)
                      have f6 : decide ((57344 : Int) ≤ (y : Int)) = true := decide_eq_true (by omega)
                      refine T_hex15 r lb bb (by omega) ?_
                      rw [h7]
                      simp only [GL, RL, optI, f5, f6, if_true, Bool.false_eq_true, if_false]
                      exact kk
              · rw [if_neg (by rintro ⟨_, q⟩; exact c3 q)] at kn
                rw [Bool.not_eq_true] at c3
                rw [c3]
                have z : decide ((-1 : Int) < 56320) = true := rfl
                simp only [GL, RL, z, if_true, Bool.false_eq_true, Bool.true_eq_false, if_false]
                exact kn rfl
            · rw [if_neg (by omega)] at kn
              have f1 : decide ((56320 : Int) ≤ (x : Int)) = true := decide_eq_true (by omega)
              simp only [GL, RL, optI, z0, f1, f2, f3, f4, if_true, Bool.false_eq_true, Bool.true_eq_false, if_false]
              exact kn rfl
      · rw [decide_eq_false h117, cnd_bool, if_neg (by decide)]
        exact kn (by unfold escape; dsimp only; rw [s0, if_neg h117])
    clear_value J7
    generalize b.getD i 0 = c at *
    have e34 : (((c : Nat) : Int) == 34) = decide (c = 34) := eq1 34
    have e92 : (((c : Nat) : Int) == 92) = decide (c = 92) := eq1 92
    have e47 : (((c : Nat) : Int) == 47) = decide (c = 47) := eq1 47
    simp -zeta only [GL, RL, e34, e92, e47]
    by_cases h34 : c = 34
    · rw [decide_eq_true h34, if_pos rfl]; exact hT (.inl h34)
    · rw [decide_eq_false h34, if_neg (by decide)]
      by_cases h92 : c = 92
      · rw [decide_eq_true h92, if_pos rfl]; exact hT (.inr (.inl h92))
      · rw [decide_eq_false h92, if_neg (by decide)]
        by_cases h47 : c = 47
        · rw [decide_eq_true h47]; exact hT (.inr (.inr h47))
        · rw [decide_eq_false h47]; exact hF (by omega)
  · have l0 : decide (((b.length : Nat) : Int) ≤ ((i : Nat) : Int)) = true := decide_eq_true (by omega)
    simp -zeta only [l0, if_true]
    exact kn (by rw [List.drop_eq_nil_of_le (by omega)]; rfl)
end
section
variable {h : Hp} {K : Value → Hp → Prop} {v : Value} {b : List Nat}
theorem textG_cons (c : Nat) (r out : List Nat) : textG (c :: r) out = if c = 34 then some (out, r) else if c < 32 then none else if c = 92 then (match escape r with | none => none | some (v, r1) => if r1.length < r.length + 1 then textG r1 (out ++ enc v) else none)
    else if 0 < runeN (c :: r) then textG ((c :: r).drop (runeN (c :: r))) (out ++ (c :: r).take (runeN (c :: r))) else none := by
  rw [textG]
  rfl
theorem T_text15 {i : Nat} (r : Rn h .u8 v b) (lb : b.length ≤ 1000000) (bb : Bytes b) (hi : i ≤ b.length)
    (kn : text (b.drop i) = none → K (.tuple #[.string ⟨#[]⟩, .int .i64 (-1)]) h) (ks : ∀ x t j, text (b.drop i) = some (x, t) → j ≤ b.length → b.drop j = t → K (.tuple #[.string (strL x), .int .i64 (j : Int)]) h) :
    Cn P n_orlopref15_text #[v, .int .i64 (i : Int)] h K := by
  refine Cn_wk (F_orlopref15_text ?_)
  unfold s_orlopref15_text
  intro J2
  by_cases g : i < b.length
  · have l0 : decide (((b.length : Nat) : Int) ≤ ((i : Nat) : Int)) = false := decide_eq_false (by omega)
    rw [q_bLen r, q_geq, l0]
    simp -zeta only [GL, Bool.false_eq_true, if_false, if_true]
    rw [q_bAt r g]
    have d := dropAt g
    have e34 : (((b.getD i 0 : Nat) : Int) != 34) = !decide (b.getD i 0 = 34) := by rw [← eqb]; rfl
    have ht : text (b.drop i) = if b.getD i 0 = 34 then textG (b.drop (i + 1)) [] else none := by
      unfold text
      rw [d, has1]
      by_cases g34 : b.getD i 0 = 34
      · rw [if_pos g34, if_pos (decide_eq_true (by rw [List.head?_cons, g34]))]; rfl
      · rw [if_neg g34, if_neg (by rw [decide_eq_true_eq, List.head?_cons]; intro z; injection z with z; exact g34 z)]
    simp -zeta only [GL, RL, e34]
    by_cases g34 : b.getD i 0 = 34
    · rw [if_pos g34] at ht
      rw [ht] at kn ks
      simp -zeta only [decide_eq_true g34, Bool.not_true, Bool.false_eq_true, if_false]
      show SL.q P h (binOp .add t_int (.int .i64 (i : Int)) (.int .i64 1)) _
      rw [q_add, up1 (by omega)]
      intro J9
      refine Lp_mk (fun m vs G => ∃ (j : Nat) (w : Value) (out : List Nat), j + m = b.length ∧ Nn h t_uint8 .u8 w G out ∧ out.length ≤ 4 * j ∧ textG (b.drop j) out = textG (b.drop (i + 1)) [] ∧ vs = [.string ⟨#[]⟩, .int .i64 0, w, .int .i64 (j : Int)]) (b.length - (i + 1)) ⟨i + 1, _, [], by omega, ⟨rfl, .inl ⟨rfl, rfl, rfl⟩⟩, by simp, rfl, rfl⟩ ?_
      rintro m vs G ⟨j, w, out, hj, nw, lo, e, rfl⟩
      have rG : Rn G .u8 v b := r.mono nw.ext.cle
      have none' : textG (b.drop j) out = none → ∃ h0, Hp.le h0 G ∧ K (.tuple #[.string ⟨#[]⟩, .int .i64 (-1)]) h0 := fun z => ⟨h, nw.ext.le, kn (by rw [← e]; exact z)⟩
      have hJ9 : (b.drop j = [] ∨ ∃ r', b.drop j = 34 :: r') → J9 (.int .i64 (j : Int)) w G := fun z => by
        show SL.q P G (Builtin.len_ #[t_Sl_uint8] t_int #[v]) _
        rw [q_bLen rG, q_geq, cnd_bool]
        by_cases gj : j < b.length
        · have l1 : decide (((b.length : Nat) : Int) ≤ ((j : Nat) : Int)) = false := decide_eq_false (by omega)
          rw [l1, if_neg (by decide), q_str nw.rn, q_add, up1 (by omega)]
          rcases z with z | ⟨r', z⟩
          · have := congrArg List.length z; rw [List.length_drop] at this; simp at this; omega
          · rw [z, textG_cons, if_pos rfl] at e
            have dj := dropAt gj
            rw [z] at dj
            injection dj with _ dj
            exact ⟨h, nw.ext.le, ks out r' (j + 1) e.symm (by omega) dj.symm⟩
        · have l1 : decide (((b.length : Nat) : Int) ≤ ((j : Nat) : Int)) = true := decide_eq_true (by omega)
          rw [l1, if_pos rfl]
          refine none' ?_
          rw [List.drop_eq_nil_of_le (by omega), textG]
      clear_value J9
      intro J11
      by_cases gj : j < b.length
      · have dj := dropAt gj
        have u1 := up1 (n := j) (by omega)
        have hb : b.getD j 0 < 256 := by rw [List.getD_eq_getElem?_getD, List.getElem?_eq_getElem gj]; exact bb _ (List.getElem_mem gj)
        have hJ11 : b.getD j 0 ≠ 34 → J11 G := fun q34 => by
          rw [dj, textG_cons, if_neg q34] at e none'
          show SL.q P G (Instr.indexAt t_Sl_uint8 v (.int .i64 (j : Int))) _
          simp -zeta only [List.getD_cons_succ, List.getD_cons_zero]
          rw [q_bAt rG gj, q_lss, cnd_bool]
          by_cases q32 : b.getD j 0 < 32
          · have f1 : decide (((b.getD j 0 : Nat) : Int) < 32) = true := decide_eq_true (by omega)
            rw [f1, if_pos rfl]
            exact none' (by rw [if_pos q32])
          · have f1 : decide (((b.getD j 0 : Nat) : Int) < 32) = false := decide_eq_false (by omega)
            have e92 : (((b.getD j 0 : Nat) : Int) == 92) = decide (b.getD j 0 = 92) := eqb
            rw [if_neg q32] at e none'
            rw [f1, if_neg (by decide), q_bAt rG gj, q_eql, e92, cnd_bool]
            by_cases q92 : b.getD j 0 = 92
            · rw [if_pos q92] at e none'
              rw [decide_eq_true q92, if_pos rfl, q_add, u1]
              refine T_escape15 rG (by omega) bb (by omega) (fun en => ?_) fun x t z en hz tz => ?_
              · have z : decide ((-1 : Int) < 0) = true := rfl
                rw [ext0, ext1]
                simp -zeta only [GL, RL, z, if_true]
                exact none' (by rw [en])
              · have z0 : decide (((z : Nat) : Int) < 0) = false := decide_eq_false (by omega)
                rw [ext0, ext1]
                simp -zeta only [GL, RL, z0, Bool.false_eq_true, if_false]
                have sc := escape_scal en
                obtain ⟨le1, _⟩ := escape_len en
                have lt : t.length = b.length - z := by rw [← tz, List.length_drop]
                rw [List.length_drop] at le1
                rw [en] at e
                dsimp only at e
                rw [if_pos (by rw [List.length_drop]; omega)] at e
                refine T_Encode15 (by have := sc.1; omega) fun w2 h2 n2 => ?_
                have le := (enc_len x).2
                refine aw_appendN u_Sl_uint8 u_Sl_uint8 nfo_uint8 rfl (by omega) nw n2 (nv_flat _ _) (by omega) fun v3 h3 n3 => ?_
                have n3' : Nn h t_uint8 .u8 v3 h3 (out ++ enc x) := by
                  unfold Nn
                  rw [nv_app, List.length_append]
                  exact n3
                refine ⟨h3, .refl _, b.length - z, by omega, z, v3, out ++ enc x, by omega, n3', by rw [List.length_append]; omega, ?_, rfl⟩
                rw [tz]; exact e
            · rw [if_neg q92] at e none'
              rw [decide_eq_false q92, if_neg (by decide)]
              have lj : (b.drop j).length = b.length - j := List.length_drop ..
              refine q_slRn u_Sl_uint8 z_uint8 rG .i64 j (by omega) fun w2 r2 => ?_
              refine T_Rune15 r2 (fun x hx => bb x (List.mem_of_mem_drop hx)) (by omega) fun x => ?_
              rw [← dj] at e none'
              have rl := runeN_len (b.drop j)
              rw [ext0, ext1]
              by_cases qn : 0 < runeN (b.drop j)
              · have z0 : (((runeN (b.drop j) : Nat) : Int) == 0) = false := by rw [beq_eq_false_iff_ne]; omega
                rw [if_pos qn] at e
                generalize hn : runeN (b.drop j) = n at *
                have un := upN (n := j) n (by omega) (by omega)
                rw [q_eql, z0, cnd_bool, if_neg (by decide), q_add, un]
                refine q_slRnLH u_Sl_uint8 z_uint8 rG .i64 .i64 j (j + n) (by omega) (by omega) fun w3 r3 => ?_
                have et : (b.take (j + n)).drop j = (b.drop j).take n := by rw [List.drop_take, Nat.add_sub_cancel_left]
                rw [et] at r3
                have lt : ((b.drop j).take n).length = n := by rw [List.length_take]; omega
                refine aw_appB nw r3 (by omega) fun v4 h4 n4 => ?_
                rw [q_add, un]
                refine ⟨h4, .refl _, b.length - (j + n), by omega, j + n, v4, _, by omega, n4, by rw [List.length_append]; omega, ?_, rfl⟩
                rw [← e, List.drop_drop]
              · have z0 : (((runeN (b.drop j) : Nat) : Int) == 0) = true := by rw [beq_iff_eq]; omega
                rw [q_eql, z0, cnd_bool, if_pos rfl]
                exact none' (by rw [if_neg qn])
        clear_value J11
        simp -zeta only [GL, RL, q_bLen rG, ltN]
        rw [decide_eq_true gj, if_pos rfl, q_bAt rG gj, q_neq, cnd_bool]
        have e34 : (((b.getD j 0 : Nat) : Int) != 34) = !decide (b.getD j 0 = 34) := by rw [← eqb]; rfl
        rw [e34]
        by_cases q34 : b.getD j 0 = 34
        · rw [decide_eq_true q34, if_neg (by decide)]
          exact hJ9 (.inr ⟨b.drop (j + 1), by rw [dj, q34]⟩)
        · rw [decide_eq_false q34, if_pos (by decide)]
          exact hJ11 q34
      · clear_value J11
        simp -zeta only [GL, RL, q_bLen rG, ltN]
        rw [decide_eq_false gj, if_neg (by decide)]
        exact hJ9 (.inl (List.drop_eq_nil_of_le (by omega)))
    · rw [if_neg g34] at ht
      simp -zeta only [decide_eq_false g34, Bool.not_false, if_true]
      exact ⟨h, .refl _, kn ht⟩
  · have l0 : decide (((b.length : Nat) : Int) ≤ ((i : Nat) : Int)) = true := decide_eq_true (by omega)
    clear_value J2
    rw [q_bLen r, q_geq, l0]
    simp -zeta only [GL, if_true, Bool.true_eq_false, if_false]
    exact ⟨h, .refl _, kn (by rw [List.drop_eq_nil_of_le (by omega)]; rfl)⟩
end
theorem dec_snoc (l : List Nat) (c : Nat) : dec (l ++ [c]) = dec l * 10 + (c - 48) := by
  unfold dec Go.Tar.valD
  rw [List.map_append, List.foldl_append]
  rfl
theorem dec_pre (l m : List Nat) : dec l ≤ dec (l ++ m) := by
  unfold dec
  rw [List.map_append, Go.Tar.valD_app]
  have : 1 ≤ 10 ^ (m.map (· - 48)).length := Nat.pow_pos (by decide)
  have := Nat.mul_le_mul_left (Go.Tar.valD 10 (l.map (· - 48))) this
  omega
theorem dec_big {c : Nat} {l : List Nat} (hc : 49 ≤ c) : 10 ^ l.length ≤ dec (c :: l) := by
  have e : dec (c :: l) = (c - 48) * 10 ^ l.length + dec l := by
    unfold dec
    have := Go.Tar.valD_app 10 [c - 48] (l.map (· - 48))
    rw [List.length_map] at this
    have e1 : Go.Tar.valD 10 [c - 48] = c - 48 := by unfold Go.Tar.valD; simp
    rw [e1] at this
    exact this
  rw [e]
  have : 1 * 10 ^ l.length ≤ (c - 48) * 10 ^ l.length := Nat.mul_le_mul_right _ (by omega)
  omega
theorem digs_preN : ∀ {s : List Nat} {n : Nat}, (∀ x ∈ s.take n, isDig x = true) → ∃ m, Js.digs s = s.take n ++ m
  | [], n, _ => ⟨[], by simp [Js.digs]⟩
  | c :: s, 0, _ => ⟨Js.digs (c :: s), by simp⟩
  | c :: s, n + 1, h => by
    obtain ⟨m, e⟩ := digs_preN (s := s) (n := n) fun x hx => h x (by simp [hx])
    exact ⟨m, by rw [digs_yes s (h c (by simp)), e]; simp⟩
theorem digs_end : ∀ {s : List Nat} {n : Nat}, (∀ x ∈ s.take n, isDig x = true) → isDig ((s.drop n).getD 0 0) = false → Js.digs s = s.take n
  | [], n, _, _ => by simp [Js.digs]
  | c :: s, 0, _, h => by
    rw [digs_no s (by simpa using h)]; rfl
  | c :: s, n + 1, h, h2 => by
    rw [digs_yes s (h c (by simp)), digs_end (s := s) (n := n) (fun x hx => h x (by simp [hx])) (by simpa using h2)]
    simp
section
variable {h : Hp} {K : Value → Hp → Prop} {v : Value} {b : List Nat}
theorem T_number15 {i : Nat} (r : Rn h .u8 v b) (lb : b.length ≤ 1000000) (bb : Bytes b) (hi : i ≤ b.length)
    (kn : ∀ c, number (b.drop i) = .error c → K (.tuple #[.int .i64 0, .int .i64 (-1)]) h) (ks : ∀ n t j, number (b.drop i) = .ok (numV n, t) → j ≤ b.length → b.drop j = t → K (.tuple #[.int .i64 n, .int .i64 (j : Int)]) h) :
    Cn P n_orlopref15_number #[v, .int .i64 (i : Int)] h K := by
  refine F_orlopref15_number ?_
  unfold s_orlopref15_number
  intro J2
  have hJ2 : ∀ mi, has [45] (b.drop i) = mi → J2 (.bool mi) h := fun mi hm => by
    simp -zeta only [J2]
    intro J3
    have hJ3 : ∀ i1 : Nat, i1 ≤ b.length → (if mi = true then (b.drop i).drop 1 else b.drop i) = b.drop i1 → J3 (.int .i64 (i1 : Int)) h := fun i1 h1 e1 => by
      have ne := number_eq (b.drop i) mi hm _ e1
      have ls : (b.drop i1).length = b.length - i1 := List.length_drop ..
      have bad : ∀ {n : Nat}, n ≤ (b.drop i1).length → (∀ x ∈ (b.drop i1).take n, isDig x = true) → 9007199254740991 < dec ((b.drop i1).take n) → K (.tuple #[.int .i64 0, .int .i64 (-1)]) h := fun {n} hn hd hx => by
        obtain ⟨m, em⟩ := digs_preN hd
        refine kn 8 ?_
        rw [ne]
        split
        · rw [if_neg]
          have := dec_pre ((b.drop i1).take n) m
          rw [← em] at this
          omega
        · rfl
      simp -zeta only [J3]
      intro J7
      have hJ7 : ∀ n : Nat, n ≤ (b.drop i1).length → Js.digs (b.drop i1) = (b.drop i1).take n → dec ((b.drop i1).take n) ≤ 9007199254740991 → J7 (.int .i64 ((dec ((b.drop i1).take n) : Nat) : Int)) (.int .i64 ((i1 + n : Nat) : Int)) h := fun n hn en hx => by
        show SL.q P h (eqop .eql t_int _ _ _ _) _
        have lt : ((b.drop i1).take n).length = n := by rw [List.length_take]; omega
        rw [en, lt] at ne
        have k0 : numOk mi (b.drop i1) = false → K (.tuple #[.int .i64 0, .int .i64 (-1)]) h := fun z => kn 8 (by rw [ne, z]; rfl)
        have nk : numOk mi (b.drop i1) = decide (0 < n ∧ n ≤ 16 ∧ ((b.drop i1).getD 0 0 ≠ 48 ∨ (n = 1 ∧ mi = false))) := by unfold numOk; rw [en, lt]
        have ei : (((i1 + n : Nat) : Int) == (i1 : Int)) = decide (n = 0) := by
          rw [eqb]; by_cases z : n = 0
          · rw [decide_eq_true z]; exact decide_eq_true (by omega)
          · rw [decide_eq_false z]; exact decide_eq_false (by omega)
        rw [q_eql, ei]
        by_cases z : n = 0
        · rw [decide_eq_true z]
          simp -zeta only [GL, Bool.true_eq_false, if_false, if_true]
          exact k0 (by rw [nk]; exact decide_eq_false (by omega))
        · have gi : i1 < b.length := by omega
          have eg : (b.drop i1).getD 0 0 = b.getD i1 0 := by rw [dropAt gi]; rfl
          have e48 : (((b.getD i1 0 : Nat) : Int) == 48) = decide (b.getD i1 0 = 48) := eqb
          rw [decide_eq_false z]
          simp -zeta only [GL, if_true]
          rw [q_bAt r gi, q_eql, e48]
          have good : numOk mi (b.drop i1) = true → (if mi = true then K (.tuple #[.int .i64 (-((dec ((b.drop i1).take n) : Nat) : Int)), .int .i64 ((i1 + n : Nat) : Int)]) h else K (.tuple #[.int .i64 ((dec ((b.drop i1).take n) : Nat) : Int), .int .i64 ((i1 + n : Nat) : Int)]) h) := fun ok => by
            have := ks (if mi = true then -((dec ((b.drop i1).take n) : Nat) : Int) else ((dec ((b.drop i1).take n) : Nat) : Int)) _ (i1 + n) (by rw [ne, ok, if_pos rfl, if_pos hx]) (by omega) (by rw [List.drop_drop])
            cases mi
            · exact this
            · exact this
          have fin : numOk mi (b.drop i1) = true → cnd (.bool mi) (SL.q P h (Op.unary .neg (.int .i64 ((dec ((b.drop i1).take n) : Nat) : Int))) fun t76 => K (.tuple #[t76, .int .i64 ((i1 + n : Nat) : Int)]) h) (K (.tuple #[.int .i64 ((dec ((b.drop i1).take n) : Nat) : Int), .int .i64 ((i1 + n : Nat) : Int)]) h) := fun ok => by
            have g := good ok
            cases mi
            · rw [cnd_bool, if_neg (by decide)]; exact g
            · have w : IntKind.i64.wrap (0 - ((dec ((b.drop i1).take n) : Nat) : Int)) = -((dec ((b.drop i1).take n) : Nat) : Int) := by rw [wi64 (by omega) (by omega)]; omega
              rw [cnd_bool, if_pos rfl]
              rw [q_neg, w]
              exact g
          by_cases y : b.getD i1 0 = 48
          · rw [decide_eq_true y]
            simp -zeta only [GL, if_true]
            have wn : IntKind.i64.wrap ((i1 : Int) + 1) = ((i1 + 1 : Nat) : Int) := up1 (by omega)
            have gt : decide (((i1 + 1 : Nat) : Int) < ((i1 + n : Nat) : Int)) = decide (1 < n) := by
              by_cases z : 1 < n
              · rw [decide_eq_true z]; exact decide_eq_true (by omega)
              · rw [decide_eq_false z]; exact decide_eq_false (by omega)
            rw [wn, gt]
            by_cases x : 1 < n
            · rw [decide_eq_true x]
              simp -zeta only [GL, Bool.true_eq_false, if_false, if_true]
              exact k0 (by rw [nk]; exact decide_eq_false (by rw [eg]; omega))
            · rw [decide_eq_false x]
              simp -zeta only [GL, if_true]
              cases mi
              · simp -zeta only [GL, Bool.false_eq_true, if_false]
                have := good (by rw [nk]; exact decide_eq_true ⟨by omega, by omega, .inr ⟨by omega, rfl⟩⟩)
                exact this
              · simp -zeta only [GL, if_true]
                exact k0 (by rw [nk]; exact decide_eq_false (by rw [eg]; rintro ⟨_, _, q1 | ⟨_, q2⟩⟩; · exact q1 y
                                                                · cases q2))
          · rw [decide_eq_false y]
            simp -zeta only [GL, Bool.false_eq_true, if_false]
            refine fin ?_
            rw [nk]
            refine decide_eq_true ⟨by omega, ?_, .inl (by rw [eg]; exact y)⟩
            refine Decidable.byContradiction fun big => ?_
            have hd0 : b.drop i1 = b.getD i1 0 :: b.drop (i1 + 1) := dropAt gi
            obtain ⟨n', rfl⟩ : ∃ n', n = n' + 1 := ⟨n - 1, by omega⟩
            have ha : isDig (b.getD i1 0) = true := by
              have hm : b.getD i1 0 ∈ Js.digs (b.drop i1) := by rw [en, hd0]; simp
              exact List.all_eq_true.1 List.all_takeWhile _ hm
            unfold isDig at ha
            rw [decide_eq_true_eq] at ha
            rw [hd0, List.take_succ_cons] at hx
            have := dec_big (c := b.getD i1 0) (l := (b.drop (i1 + 1)).take n') (by omega)
            have l16 : 16 ≤ ((b.drop (i1 + 1)).take n').length := by rw [hd0] at lt; simp only [List.take_succ_cons, List.length_cons] at lt; omega
            have p16 : 10 ^ 16 ≤ 10 ^ ((b.drop (i1 + 1)).take n').length := Nat.pow_le_pow_right (by decide) l16
            have : (10 : Nat) ^ 16 = 10000000000000000 := by decide
            omega
      clear_value J7
      refine Lp_mk (fun m vs G => ∃ n : Nat, n + m = (b.drop i1).length ∧ G = h ∧ (∀ x ∈ (b.drop i1).take n, isDig x = true) ∧ dec ((b.drop i1).take n) ≤ 9007199254740991 ∧ vs = [.int .i64 ((dec ((b.drop i1).take n) : Nat) : Int), .int .i64 ((i1 + n : Nat) : Int), .int .i64 0, .int .i64 0]) (b.drop i1).length ⟨0, by omega, rfl, by simp, by rw [List.take_zero]; decide, rfl⟩ ?_
      rintro m vs G ⟨n, hn, rfl, hd, hx, rfl⟩
      intro J9
      by_cases gn : i1 + n < b.length
      · have dn := dropAt gn
        have hb : b.getD (i1 + n) 0 < 256 := by rw [List.getD_eq_getElem?_getD, List.getElem?_eq_getElem gn]; exact bb _ (List.getElem_mem gn)
        have sn : (b.drop i1).take (n + 1) = (b.drop i1).take n ++ [b.getD (i1 + n) 0] := by
          rw [List.take_add_one, List.getElem?_drop, List.getElem?_eq_getElem gn, List.getD_eq_getElem?_getD, List.getElem?_eq_getElem gn]; rfl
        have hJ9 : isDig (b.getD (i1 + n) 0) = true → J9 G := fun dg => by
          have hd1 : ∀ x ∈ (b.drop i1).take (n + 1), isDig x = true := by
            rw [sn]; intro x hx
            rcases List.mem_append.1 hx with q1 | q1
            · exact hd x q1
            · rw [List.mem_singleton.1 q1]; exact dg
          unfold isDig at dg
          rw [decide_eq_true_eq] at dg
          have ds := dec_snoc ((b.drop i1).take n) (b.getD (i1 + n) 0)
          rw [← sn] at ds
          show SL.q P G (binOp .mul t_int64 _ _) _
          simp -zeta only [List.getD_cons_succ, List.getD_cons_zero]
          generalize dec ((b.drop i1).take n) = w at *
          have w1 : IntKind.i64.wrap ((w : Int) * 10) = ((w * 10 : Nat) : Int) := by rw [wi64 (by omega) (by omega)]; omega
          have s1 : IntKind.u8.wrap (((b.getD (i1 + n) 0 : Nat) : Int) - 48) = ((b.getD (i1 + n) 0 - 48 : Nat) : Int) := by rw [wu8i (by omega) (by omega)]; omega
          have s2 : IntKind.i64.wrap ((b.getD (i1 + n) 0 - 48 : Nat) : Int) = ((b.getD (i1 + n) 0 - 48 : Nat) : Int) := wi64 (by omega) (by omega)
          have s3 : IntKind.i64.wrap (((w * 10 : Nat) : Int) + ((b.getD (i1 + n) 0 - 48 : Nat) : Int)) = ((dec ((b.drop i1).take (n + 1)) : Nat) : Int) := by rw [wi64 (by omega) (by omega), ds]; omega
          have u1 : IntKind.i64.wrap (((i1 + n : Nat) : Int) + 1) = ((i1 + (n + 1) : Nat) : Int) := up1 (n := i1 + n) (by omega)
          rw [q_mul, w1, q_bAt r gn, q_sub, s1, q_conv _ u_uint8 u_int64, s2, q_add, s3, q_add, u1, q_gtr, cnd_bool]
          by_cases big : 9007199254740991 < dec ((b.drop i1).take (n + 1))
          · have f : decide ((9007199254740991 : Int) < ((dec ((b.drop i1).take (n + 1)) : Nat) : Int)) = true := decide_eq_true (by omega)
            rw [f, if_pos rfl]
            exact bad (by omega) hd1 big
          · have f : decide ((9007199254740991 : Int) < ((dec ((b.drop i1).take (n + 1)) : Nat) : Int)) = false := decide_eq_false (by omega)
            rw [f, if_neg (by decide)]
            exact ⟨G, .refl _, m - 1, by omega, n + 1, by omega, rfl, hd1, by omega, rfl⟩
        have stop : isDig (b.getD (i1 + n) 0) = false → J7 (.int .i64 ((dec ((b.drop i1).take n) : Nat) : Int)) (.int .i64 ((i1 + n : Nat) : Int)) G := fun nd =>
          hJ7 n (by omega) (digs_end hd (by rw [List.drop_drop, dn]; exact nd)) hx
        clear_value J9
        simp -zeta only [GL, RL, q_bLen r, ltN]
        rw [decide_eq_true gn, if_pos rfl, q_bAt r gn]
        unfold isDig at hJ9 stop
        by_cases c1 : 48 ≤ b.getD (i1 + n) 0
        · have f1 : decide ((48 : Int) ≤ ((b.getD (i1 + n) 0 : Nat) : Int)) = true := decide_eq_true (by omega)
          rw [q_geq, f1]
          simp -zeta only [GL, RL, if_true, q_bAt r gn]
          by_cases c2 : b.getD (i1 + n) 0 ≤ 57
          · have f2 : decide (((b.getD (i1 + n) 0 : Nat) : Int) ≤ 57) = true := decide_eq_true (by omega)
            rw [f2, if_pos rfl]
            exact hJ9 (decide_eq_true ⟨c1, c2⟩)
          · have f2 : decide (((b.getD (i1 + n) 0 : Nat) : Int) ≤ 57) = false := decide_eq_false (by omega)
            rw [f2, if_neg (by decide)]
            exact stop (decide_eq_false (by omega))
        · have f1 : decide ((48 : Int) ≤ ((b.getD (i1 + n) 0 : Nat) : Int)) = false := decide_eq_false (by omega)
          rw [q_geq, f1]
          simp -zeta only [GL, Bool.false_eq_true, if_false]
          exact stop (decide_eq_false (by omega))
      · clear_value J9
        simp -zeta only [GL, RL, q_bLen r, ltN]
        rw [decide_eq_false gn]
        simp -zeta only [GL, Bool.false_eq_true, if_false]
        refine hJ7 n (by omega) (digs_end hd ?_) hx
        rw [List.drop_drop, List.drop_eq_nil_of_le (by omega)]
        rfl
    clear_value J3
    cases mi
    · rw [cnd_bool, if_neg (by decide)]
      exact hJ3 i hi rfl
    · have := has_ne hm
      rw [List.length_drop] at this
      simp only [List.length_cons, List.length_nil] at this
      rw [cnd_bool, if_pos rfl, q_add, up1 (by omega)]
      exact hJ3 (i + 1) (by omega) (by rw [if_pos rfl, List.drop_drop])
  clear_value J2
  simp -zeta only [GL, RL, q_bLen r, ltN]
  by_cases g : i < b.length
  · have e45 : (((b.getD i 0 : Nat) : Int) == 45) = decide (b.getD i 0 = 45) := eqb
    rw [decide_eq_true g, if_pos rfl, q_bAt r g, q_eql, e45]
    refine hJ2 _ ?_
    rw [dropAt g, has1, List.head?_cons]
    by_cases z : b.getD i 0 = 45
    · rw [z]; rfl
    · rw [decide_eq_false z]; exact decide_eq_false fun y => z (by injection y)
  · rw [decide_eq_false g, if_neg (by decide)]
    exact hJ2 false (by rw [List.drop_eq_nil_of_le (by omega)]; rfl)
end
/-- A list's or a map's variable, that grows. -/
structure Grow (E sE off : Nat) (kd : Int) (r : Nat) (css : List (List Value)) (sv : Value) (So : List Nat) (R h : Hp) : Prop where
  own : Own R h (r :: So)
  nr : r ∉ So
  row : h r = some (.row t_api_Value ((row0 kd).set off sv) 6 (some (0, 0)))
  out : OutAt E sE h sv css.flatten css.length So
section
variable {R h : Hp} {K : Hp → Prop} {E sE off r : Nat} {kd : Int} {css : List (List Value)} {sv : Value} {So : List Nat}
theorem Grow.go {R' h' : Hp} (I : Grow E sE off kd r css sv So R h) (st : Stp R h R' h' [] []) : Grow E sE off kd r css sv So R' h' ∧ Stp R h R' h' (r :: So) (r :: So) := by
  obtain ⟨ow, _, eq⟩ := st.frame I.own (fun b _ q => by cases q)
  have w := st.wide I.own (fun b _ q => by cases q)
  exact ⟨⟨ow, I.nr, by rw [eq r (by simp)]; exact I.row, I.out.keep fun x hx => eq x (List.mem_cons_of_mem _ hx)⟩, w⟩
theorem Grow.start (ho : off = 4 ∨ off = 5) (w : Own R h []) (hr : h r = none) : Grow E sE off kd r [] (.slice none 0 0) [] R (h.set r (.row t_api_Value (row0 kd) 6 (some (0, 0)))) ∧ Stp R h R (h.set r (.row t_api_Value (row0 kd) 6 (some (0, 0)))) [] [r] := by
  have x := ext_set (.row t_api_Value (row0 kd) 6 (some (0, 0))) hr
  obtain ⟨w1, w2, dj, _⟩ := Own.mk1 (.row t_api_Value (row0 kd) 6 (some (0, 0))) w hr
  refine ⟨⟨w1, by simp, ?_, .inl ⟨rfl, rfl, rfl, rfl⟩⟩, (Stp.ext0 w x).gain w1 fun y hy => by rw [List.mem_singleton.1 hy]; exact hr⟩
  rcases ho with rfl | rfl <;> exact Hp.set_same ..
/-- One more is taken in. -/
theorem Grow.push {T B : Nat} {z : Value} {cs : List Value} (I : Grow E sE off kd r css sv So R h) (uT : P.underlying T = some (.slice E)) (zE : sz P E = some sE) (zT : sz P T = some 1) (hzr : zr P E = some z) (hz : z.cells.size = sE)
    (nfo : (P.info? E).map (fun i => (i.zero, i.size, i.bytes)) = some (some z, sE, B)) (hB1 : 1 ≤ B) (hB2 : B ≤ 1000) (h0 : 0 < sE) (hs : sE ≤ 1000) (ho : off < 6) (fld : ∀ {h : Hp} {K : Value → Prop}, q P h (Instr.fieldAt t_api_Value (.pointer (some ⟨r, 0, none⟩)) off) K = K (.pointer (some ⟨r, off, none⟩)))
    (lc : cs.length = sE) (fc : ∀ y ∈ cs, flat y = true) (ln : css.length ≤ 100000)
    (k : ∀ v' h' So', Grow E sE off kd r (css ++ [cs]) v' So' R h' → Stp R h R h' (r :: So) (r :: So') → K h') :
    aw P (Instr.buildSlice T 1 #[(0, .agg cs.toArray)]) (fun t113 h => aw P (Builtin.append_ #[T, T] T #[sv, t113]) (fun t114 h => q P h (Instr.fieldAt t_api_Value (.pointer (some ⟨r, 0, none⟩)) off) fun t115 => aw P (Instr.storeAt T t115 t114) (fun _ h => K h) h) h) h := by
  refine aw_litA uT zE hzr hz lc h0 hs fun w h1 nw => ?_
  have x1 := nw.ext
  have o1 : OutAt E sE h1 sv css.flatten css.length So := I.out.keep fun y hy => by
    obtain ⟨o, ho⟩ := I.own.kn y (List.mem_cons_of_mem _ hy)
    rw [ho, x1 _ _ ho]
  have row1 := x1 _ _ I.row
  refine aw_appendO uT uT nfo hz hB1 o1 nw.rds fc ?_ fun v' h2 So' o2 kp fr => ?_
  · have : (2 * (css.length + 1) + 768) * B ≤ 201000 * 1000 := Nat.mul_le_mul (by omega) hB2
    omega
  have row2 := kp r _ I.nr row1
  have nr2 := fr r _ I.nr row1
  rw [fld]
  have fv : flat v' = true := by rcases o2 with ⟨rfl, _⟩ | ⟨_, _, _, _, rfl, _⟩ <;> rfl
  refine aw_store zT fv (put_row row2 (by simp; omega) (by omega) _) ?_
  rw [List.set_set]
  have oth : ∀ y, y ∈ So' → y ≠ r := fun y hy z => nr2 (by rw [← z]; exact hy)
  have o3 : OutAt E sE (h2.set r (.row t_api_Value ((row0 kd).set off v') 6 (some (0, 0)))) v' (css ++ [cs]).flatten (css ++ [cs]).length So' := by
    have := o2.keep (h' := h2.set r (.row t_api_Value ((row0 kd).set off v') 6 (some (0, 0)))) fun y hy => Hp.set_ne _ _ (oth y hy)
    rw [List.flatten_append, List.length_append]
    simpa using this
  have hRs : ∀ x o, R x = some o → x ∉ r :: So := fun x o e q => by rw [I.own.dis x q] at e; cases e
  have kp3 : ∀ x o, x ∉ r :: So → h x = some o → (h2.set r (.row t_api_Value ((row0 kd).set off v') 6 (some (0, 0)))) x = some o := fun x o hx e => by
    rw [Hp.set_ne _ _ (fun z => hx (by rw [z]; simp))]
    exact kp x o (fun z => hx (List.mem_cons_of_mem _ z)) (x1 _ _ e)
  have fr3 : ∀ x o, x ∉ r :: So → h x = some o → x ∉ r :: So' := fun x o hx e z => by
    rcases List.mem_cons.1 z with z | z
    · exact hx (by rw [z]; simp)
    · exact fr x o (fun z => hx (List.mem_cons_of_mem _ z)) (x1 _ _ e) z
  have ow : Own R (h2.set r (.row t_api_Value ((row0 kd).set off v') 6 (some (0, 0)))) (r :: So') := ⟨fun x o e => kp3 x o (hRs x o e) (I.own.sub x o e), fun x hx => by
    cases e : R x with
    | none => rfl
    | some o => exact absurd hx (fr3 x o (hRs x o e) (I.own.sub x o e)), fun x hx => by
    rcases List.mem_cons.1 hx with rfl | hx
    · exact ⟨_, Hp.set_same ..⟩
    · exact out_some o3 hx⟩
  exact k v' _ So' ⟨ow, nr2, Hp.set_same .., o3⟩ ⟨.refl _, kp3, fr3, fun x o hx e q => q, ow⟩
end
section
variable {R h : Hp} {K : Value → Hp → Prop}
/-- A function's named result is given back. -/
theorem ret15 {r6 : Nat} {R' h' : Hp} {cs : List Value} {F : Value → Hp → Prop} (hr : h r6 = none) (w : Own R h []) (st : Stp R (h.set r6 (.row t_api_Value (row0 0) 6 (some (0, 0)))) R' h' [] []) (lc : cs.length = 6) (fc : ∀ y ∈ cs, flat y = true)
    (k : ∀ h'', Stp R h R' h'' [] [] → F (.agg cs.toArray) h'') :
    aw P (Instr.storeAt t_api_Value (.pointer (some ⟨r6, 0, none⟩)) (.agg cs.toArray)) (fun _ h => q P h ((asAddr (.pointer (some ⟨r6, 0, none⟩))).bind (loadVar t_api_Value)) fun r0 => F r0 h) h' := by
  have e4 := st.keep r6 _ (by simp) (Hp.set_same ..)
  have n4 : R' r6 = none := st.frR r6 _ (by simp) (Hp.set_same ..) (w.sub.none hr)
  refine aw_storeRow (ys := cs) (by rw [lc]; exact z_api_Value) e4 (by rw [lc]; rfl) fc (fun i _ q => Nat.not_lt_zero _ q.2) ?_
  rw [q_resRow (ys := cs) u_api_Value rfl (by rw [lc]; exact z_api_Value) (Hp.set_same ..)]
  refine k _ ⟨st.ext, fun b o _ e => ?_, fun b o _ _ q => (by cases q), fun b o _ e r => st.frR b o (by simp) (ext_set _ hr _ _ e) r, ⟨fun b o e => ?_, fun b q => (by cases q), fun b q => (by cases q)⟩⟩
  · rw [Hp.set_ne _ _ (by rintro rfl; rw [hr] at e; cases e)]
    exact st.keep b o (by simp) (ext_set _ hr _ _ e)
  · rw [Hp.set_ne _ _ (by rintro rfl; rw [n4] at e; cases e)]
    exact st.own.sub b o e
end
theorem itemsG_err {α : Type} {one : List α → List Nat → Except Int (α × List Nat)} {shut : Nat} (h1 : ∀ acc s c, one acc s = .error c → c ≠ 0) :
    ∀ {acc : List α} {s : List Nat} {c : Int}, itemsG one shut acc s = .error c → c ≠ 0 := by
  intro acc s
  induction acc, s using itemsG.induct (one := one) (shut := shut) with
  | case1 acc s c e => intro c' h; rw [itemsG, e] at h; cases h; exact h1 _ _ _ e
  | case2 acc s x r0 e hs =>
    intro c' h
    rw [itemsG, e] at h
    dsimp only at h
    rw [if_pos hs] at h
    cases h
  | case3 acc s x r0 e hs hc hl ih =>
    intro c' h
    rw [itemsG, e] at h
    dsimp only at h
    rw [if_neg hs, if_pos hc, if_pos hl] at h
    exact ih h
  | case4 acc s x r0 e hs hc hl =>
    intro c' h
    rw [itemsG, e] at h
    dsimp only at h
    rw [if_neg hs, if_pos hc, if_neg hl] at h
    cases h; decide
  | case5 acc s x r0 e hs hc =>
    intro c' h
    rw [itemsG, e] at h
    dsimp only at h
    rw [if_neg hs, if_neg hc] at h
    cases h; decide
theorem number_err {s : List Nat} {c : Int} (h : number s = .error c) : c ≠ 0 := by
  obtain ⟨mi, hm⟩ : ∃ mi, has [45] s = mi := ⟨_, rfl⟩
  obtain ⟨s1, h1⟩ : ∃ s1, (if mi = true then s.drop 1 else s) = s1 := ⟨_, rfl⟩
  rw [number_eq s mi hm s1 h1] at h
  split at h
  · split at h
    · cases h
    · cases h; decide
  · cases h; decide
theorem value_err : ∀ {d : Nat} {s : List Nat} {c : Int}, value d s = .error c → c ≠ 0
  | 0, s, c, h => by rw [value] at h; cases h; decide
  | d + 1, s, c, h => by
    have me : ∀ acc s c, member (value d) acc s = .error c → c ≠ 0 := fun acc s c e => by
      unfold member at e
      split at e
      · cases e; decide
      · split at e
        · cases e; decide
        · split at e
          · split at e
            · rename_i c1 hv
              cases e
              exact value_err hv
            · cases e
          · cases e; decide
    rw [value] at h
    try dsimp only at h
    split at h
    · split at h
      · cases h; decide
      · cases h
    · split at h
      · split at h
        · rename_i c1 hi
          cases h
          unfold items at hi
          split at hi
          · cases hi
          · exact itemsG_err (fun acc s c e => value_err e) hi
        · cases h
      · split at h
        · split at h
          · rename_i c1 hi
            cases h
            unfold items at hi
            split at hi
            · cases hi
            · exact itemsG_err me hi
          · cases h
        · split at h
          · cases h
          · split at h
            · cases h
            · split at h
              · cases h
              · exact number_err h
/-- What the document's reader tells. -/
def Res15 (b : List Nat) (R : Hp) (e : Except Int (JV × List Nat)) (cs : List Value) (j c : Int) : Prop := match e with
  | .error c' => cs = row0 0 ∧ j = 0 ∧ c = c'
  | .ok (x, t) => JvR R cs x ∧ c = 0 ∧ ∃ n : Nat, j = (n : Int) ∧ n ≤ b.length ∧ b.drop n = t
theorem Res15.len {b : List Nat} {R : Hp} {e : Except Int (JV × List Nat)} {cs : List Value} {j c : Int} (a : Res15 b R e cs j c) : cs.length = 6 ∧ ∀ y ∈ cs, flat y = true := by
  unfold Res15 at a
  split at a
  · rw [a.1]; exact ⟨rfl, row0_flat 0⟩
  · exact ⟨a.1.len, a.1.flat⟩
def DValueOk (b : List Nat) (d : Nat) : Prop := ∀ {R h : Hp} {K : Value → Hp → Prop} {v : Value} {i : Nat}, Own R h [] → Rn R .u8 v b → i ≤ b.length →
  (∀ cs j c R' h', Stp R h R' h' [] [] → Res15 b R' (value d (b.drop i)) cs j c → K (.tuple #[.agg cs.toArray, .int .i64 j, .int .i64 c]) h') → Cn P n_orlopref15_value #[v, .int .i64 (i : Int), .int .i64 (17 - (d : Int))] h K
def itemsV (d : Nat) (s : List Nat) : Except Int (JV × List Nat) := if s.getD 0 0 = 91 then (match items (fun _ x => value d x) 93 s with
    | .error c => .error c
    | .ok (l, r) => .ok (listV l, r))
  else match items (member (value d)) 125 s with
    | .error c => .error c
    | .ok (l, r) => .ok (mapV l, r)
theorem enc_b15 {v : Nat} (h : scal v) : Bytes (enc v) := by
  have := h.1
  unfold enc
  intro x hx
  split at hx
  · rw [List.mem_singleton.1 hx]; omega
  · split at hx
    · simp only [List.mem_cons, List.not_mem_nil, or_false] at hx; omega
    · split at hx
      · simp only [List.mem_cons, List.not_mem_nil, or_false] at hx; omega
      · simp only [List.mem_cons, List.not_mem_nil, or_false] at hx; omega
theorem textG_b15 : ∀ {s out r t : List Nat}, Bytes s → Bytes out → textG s out = some (t, r) → Bytes t
  | [], out, r, t, hs, ho, h => by rw [textG] at h; cases h
  | c :: s, out, r, t, hs, ho, h => by
    have hs' : Bytes s := fun x hx => hs x (List.mem_cons_of_mem _ hx)
    rw [textG] at h
    split at h
    · cases h
      exact ho
    · split at h
      · cases h
      · split at h
        · split at h
          · cases h
          · rename_i v r1 he
            split at h
            · have sf := (escape_len he).2
              refine textG_b15 (fun x hx => hs' x (sf.subset hx)) ?_ h
              exact bytes_app ho (enc_b15 (escape_scal he))
            · cases h
        · split at h
          · rename_i hn
            refine textG_b15 (fun x hx => hs x (List.mem_of_mem_drop hx)) ?_ h
            exact bytes_app ho fun x hx => hs x (List.mem_of_mem_take hx)
          · cases h
termination_by s => s.length
decreasing_by
  · simp; omega
  · simp; omega
theorem text_b15 {s r t : List Nat} (hs : Bytes s) (h : text s = some (t, r)) : Bytes t := by
  unfold text at h
  split at h
  · exact textG_b15 (fun x hx => hs x (List.mem_of_mem_drop hx)) (by intro x hx; cases hx) h
  · cases h
theorem mefz {h : Hp} {K : Value → Prop} (b o : Nat) : q P h (Instr.fieldAt t_api_Member (.pointer (some ⟨b, o, none⟩)) 0) K = K (.pointer (some ⟨b, o, none⟩)) := q_of (by kernel_rfl) K
section
variable {R h : Hp} {K : Value → Hp → Prop} {v : Value} {b : List Nat}
/-- Behind an item. -/
theorem aft15 {n sh : Nat} {A C : Value → Hp → Prop} {Bd : Hp → Prop} (r : Rn h .u8 v b) (lb : b.length ≤ 1125899906842624) (hn : n ≤ b.length)
    (kend : has [sh] (skip (b.drop n)) = true → ∀ j, j + 1 ≤ b.length → b.drop (j + 1) = (skip (b.drop n)).drop 1 → A (.int .i64 (j : Int)) h)
    (kerr : has [sh] (skip (b.drop n)) = false → has [44] (skip (b.drop n)) = false → Bd h)
    (knext : has [sh] (skip (b.drop n)) = false → has [44] (skip (b.drop n)) = true → ∀ j, j + 1 ≤ b.length → b.drop (j + 1) = (skip (b.drop n)).drop 1 → C (.int .i64 (j : Int)) h) :
    Cn P n_orlopref15_blanks #[v, .int .i64 (n : Int)] h fun t126 h =>
      let J40 : Value → Hp → Prop := fun t138 h => cnd t138 (A t126 h) (
        let J43 : Value → Hp → Prop := fun t152 h => cnd t152 (Bd h) (C t126 h)
        q P h (Builtin.len_ #[t_Sl_uint8] t_int #[v]) fun t144 => q P h (binOp .geq t_int t126 t144) fun t145 => gd t145 false (q P h (Instr.indexAt t_Sl_uint8 v t126) fun t149 => q P h (Instr.loadAt t_uint8 t149) fun t150 => q P h (eqop .neq t_uint8 (.tmp 150) (.const (Value.int .u8 44)) t150 (Value.int .u8 44)) fun t151 => J43 t151 h) (J43 (Value.bool true) h))
      q P h (Builtin.len_ #[t_Sl_uint8] t_int #[v]) fun t129 => q P h (binOp .lss t_int t126 t129) fun t130 => gd t130 true (q P h (Instr.indexAt t_Sl_uint8 v t126) fun t134 => q P h (Instr.loadAt t_uint8 t134) fun t135 => q P h (eqop .eql t_uint8 (.tmp 135) (.tmp 136) t135 (.int .u8 (sh : Int))) fun t137 => J40 t137 h) (J40 (Value.bool false) h) := by
  refine T_blanks15 r lb hn fun j hj ej => ?_
  rw [← ej] at kend kerr knext
  by_cases g : j < b.length
  · have d := dropAt g
    have hh : ∀ c, has [c] (b.drop j) = decide (b.getD j 0 = c) := fun c => by
      rw [d, has1, List.head?_cons]
      by_cases z : b.getD j 0 = c
      · rw [z]; simp
      · rw [decide_eq_false z]; exact decide_eq_false fun y => z (by injection y)
    have ed : (b.drop j).drop 1 = b.drop (j + 1) := by rw [List.drop_drop]
    rw [hh] at kend kerr knext
    rw [hh] at kerr knext
    rw [ed] at kend knext
    have l1 : decide (((j : Nat) : Int) < ((b.length : Nat) : Int)) = true := decide_eq_true (by omega)
    have l2 : decide (((b.length : Nat) : Int) ≤ ((j : Nat) : Int)) = false := decide_eq_false (by omega)
    simp only [GL, RL, q_bLen r, l1, l2, if_true, Bool.false_eq_true, if_false, q_bAt r g]
    have es : (((b.getD j 0 : Nat) : Int) == (sh : Int)) = decide (b.getD j 0 = sh) := eqb
    have e44 : (((b.getD j 0 : Nat) : Int) != 44) = !decide (b.getD j 0 = 44) := by rw [← eqb]; rfl
    rw [es, e44]
    by_cases z : b.getD j 0 = sh
    · rw [decide_eq_true z, if_pos rfl]
      exact kend (decide_eq_true z) j (by omega) rfl
    · rw [decide_eq_false z, if_neg (by decide)]
      by_cases y : b.getD j 0 = 44
      · rw [decide_eq_true y, if_neg (by decide)]
        exact knext (decide_eq_false z) (decide_eq_true y) j (by omega) rfl
      · rw [decide_eq_false y, if_pos (by decide)]
        exact kerr (decide_eq_false z) (decide_eq_false y)
  · have l1 : decide (((j : Nat) : Int) < ((b.length : Nat) : Int)) = false := decide_eq_false (by omega)
    have l2 : decide (((b.length : Nat) : Int) ≤ ((j : Nat) : Int)) = true := decide_eq_true (by omega)
    have e0 : b.drop j = [] := List.drop_eq_nil_of_le (by omega)
    have hn : ∀ c, has [c] (b.drop j) = false := fun c => by rw [e0]; rfl
    simp only [GL, RL, q_bLen r, l1, l2, if_true, Bool.false_eq_true, Bool.true_eq_false, if_false]
    exact kerr (hn sh) (hn 44)
theorem aw_hold6 {cs : List Value} (lc : cs.length = 6) (fc : ∀ y ∈ cs, flat y = true) (k : ∀ r, h r = none → K (.pointer (some ⟨r, 0, none⟩)) (h.set r (.row t_api_Value cs 6 (some (0, 0))))) :
    aw P (Instr.alloc t_api_Value true (.tuple #[])) (fun t h => aw P (Instr.storeAt t_api_Value t (.agg cs.toArray)) (fun _ h => K t h) h) h := by
  refine aw_allocL (row0 0) zr_Jv rfl fun r4 hr4 => ?_
  refine aw_storeRow (ys := cs) (by rw [lc]; exact z_api_Value) (Hp.set_same ..) (by rw [lc]; rfl) fc (fun i _ q => Nat.not_lt_zero _ q.2) ?_
  rw [Hp.set_set]
  exact k r4 hr4
theorem ext3a {h : Hp} {F : Value → Prop} (a b c : Value) : q P h (Instr.extract (.tuple #[a, b, c]) 0) F = F a := q_ext #[a, b, c] 0 a rfl
theorem ext3b {h : Hp} {F : Value → Prop} (a b c : Value) : q P h (Instr.extract (.tuple #[a, b, c]) 1) F = F b := q_ext #[a, b, c] 1 b rfl
theorem ext3c {h : Hp} {F : Value → Prop} (a b c : Value) : q P h (Instr.extract (.tuple #[a, b, c]) 2) F = F c := q_ext #[a, b, c] 2 c rfl
theorem q_ld6 {cs : List Value} (lc : cs.length = 6) {r : Nat} {H : Hp} (e : H r = some (.row t_api_Value cs 6 (some (0, 0)))) {F : Value → Prop} (f : F (.agg cs.toArray)) : q P H (Instr.loadAt t_api_Value (.pointer (some ⟨r, 0, none⟩))) F := by
  rw [q_ldRow (ys := cs) u_api_Value rfl (by rw [lc]; exact z_api_Value) e]
  exact f
theorem T_items15 {d : Nat} (hd : d ≤ 15) (lb : b.length ≤ 65536) (bb : Bytes b) (V : DValueOk b d) {i : Nat} (w : Own R h []) (r : Rn R .u8 v b) (hi : i < b.length) (hc : b.getD i 0 = 91 ∨ b.getD i 0 = 123)
    (k : ∀ cs j c R' h', Stp R h R' h' [] [] → Res15 b R' (itemsV d (b.drop i)) cs j c → K (.tuple #[.agg cs.toArray, .int .i64 j, .int .i64 c]) h') : Cn P n_orlopref15_items #[v, .int .i64 (i : Int), .int .i64 (16 - (d : Int))] h K := by
  refine F_orlopref15_items ?_
  unfold s_orlopref15_items
  refine aw_allocL (row0 0) zr_Jv rfl fun r6 hr6 => ?_
  have x1 := ext_set (.row t_api_Value (row0 0) (row0 0).length (some (0, 0))) hr6
  have e61 : (h.set r6 (.row t_api_Value (row0 0) (row0 0).length (some (0, 0)))) = h.set r6 (.row t_api_Value (row0 0) 6 (some (0, 0))) := rfl
  rw [e61] at x1 ⊢
  have w1 : Own R (h.set r6 (.row t_api_Value (row0 0) 6 (some (0, 0)))) [] := (Stp.ext0 w x1).own
  -- what is given back
  have ret : ∀ {R' h' : Hp} {S : List Nat} (cs : List Value) (j c : Int), Stp R (h.set r6 (.row t_api_Value (row0 0) 6 (some (0, 0)))) R' h' [] S → cs.length = 6 → (∀ y ∈ cs, flat y = true) → Res15 b R' (itemsV d (b.drop i)) cs j c →
      aw P (Instr.storeAt t_api_Value (.pointer (some ⟨r6, 0, none⟩)) (.agg cs.toArray)) (fun _ h => q P h ((asAddr (.pointer (some ⟨r6, 0, none⟩))).bind (loadVar t_api_Value)) fun r0 => K (.tuple #[r0, .int .i64 j, .int .i64 c]) h) h' := fun {R' h' S} cs j c st lc fc res =>
    ret15 (F := fun r0 h => K (.tuple #[r0, .int .i64 j, .int .i64 c]) h) hr6 w (st.drop (T' := []) (by simp)) lc fc fun h'' st' => k cs j c R' h'' st' res
  generalize hh1 : h.set r6 (.row t_api_Value (row0 0) 6 (some (0, 0))) = h1 at x1 w1 ret ⊢
  have r1 := w1.rn r
  rw [q_bAt r1 hi, q_eql, bldV1]
  have e91 : (((b.getD i 0 : Nat) : Int) == 91) = decide (b.getD i 0 = 91) := eqb
  rw [e91]
  refine aw_hold6 (cs := row0 5) rfl (row0_flat 5) fun r10 hr10 => ?_
  have w16 : IntKind.i64.wrap ((16 - (d : Int)) + 1) = 17 - (d : Int) := by rw [wi64 (by omega) (by omega)]; omega
  have u1 := up1 (n := i) (by omega)
  have dri : b.drop i = b.getD i 0 :: b.drop (i + 1) := dropAt hi
  have bad : ∀ {R' h' : Hp} {S : List Nat} (c : Int), Stp R h1 R' h' [] S → itemsV d (b.drop i) = .error c →
      aw P (Instr.storeAt t_api_Value (.pointer (some ⟨r6, 0, none⟩)) (.agg (row0 0).toArray)) (fun _ h => q P h ((asAddr (.pointer (some ⟨r6, 0, none⟩))).bind (loadVar t_api_Value)) fun r0 => K (.tuple #[r0, .int .i64 0, .int .i64 c]) h) h' := fun {R' h' S} c st e =>
    ret (row0 0) 0 c st rfl (row0_flat 0) (by rw [e]; exact ⟨rfl, rfl, rfl⟩)
  intro J5
  rcases hc with hc | hc
  · -- a list
    have iv : itemsV d (b.drop i) = match items (fun _ x => value d x) 93 (b.drop i) with
        | .error c => .error c
        | .ok (l, r) => .ok (listV l, r) := by unfold itemsV; rw [if_pos (by rw [dri]; exact hc)]
    have done : ∀ {R' G : Hp} {css : List (List Value)} {sv : Value} {So : List Nat} {acc : List JV} {j : Nat} {t : List Nat}, Grow t_api_Value 6 4 4 r10 css sv So R' G → Stp R h1 R' G [] (r10 :: So) → css.length = acc.length → (∀ (i : Nat) (c : List Value) (x : JV), css[i]? = some c → acc[i]? = some x → JvR R' c x) → acc.length ≤ 65536 → items (fun _ x => value d x) 93 (b.drop i) = .ok (acc, t) → j + 1 ≤ b.length → b.drop (j + 1) = t →
        q P G (Instr.loadAt t_api_Value (.pointer (some ⟨r10, 0, none⟩))) fun t43 => q P G (binOp .add t_int (.int .i64 (j : Int)) (.int .i64 1)) fun t45 => aw P (Instr.storeAt t_api_Value (.pointer (some ⟨r6, 0, none⟩)) t43) (fun _ h => q P h ((asAddr (.pointer (some ⟨r6, 0, none⟩))).bind (loadVar t_api_Value)) fun r0 => K (.tuple #[r0, t45, .int .i64 0]) h) G := fun {R' G css sv So acc j t} I st lc jc la e hj ht => by
      obtain ⟨R2, st2, xr, rd⟩ := fixO (S' := []) (st.drop (T' := [] ++ So) (by simp; exact fun x hx => .inr hx)) (by simp) I.out
      have sl := rds_sl (s := 6) rd fun c hc => by
        obtain ⟨n, hn, rfl⟩ := List.getElem_of_mem hc
        exact (jc n _ _ (List.getElem?_eq_getElem hn) (List.getElem?_eq_getElem (by omega))).len
      have jr : JvR R2 ((row0 4).set 4 sv) (listV acc) := by
        show JvR R2 [.int .i64 4, .bool false, .int .i64 0, .string (strL []), sv, .slice none 0 0] (listV acc)
        exact .mk css [] (by intro x hx; cases hx) (by decide) (by omega) (by decide) sl lc (fun i c x e1 e2 => (jc i c x e1 e2).mono xr.cle) (SlAt.nilV R2 7) rfl (fun i c x e => by simp at e) (fun i c x e => by simp at e)
      refine q_ld6 (by simp) I.row ?_
      rw [q_add, up1 (by omega)]
      exact ret _ ((j + 1 : Nat) : Int) 0 st2 (by simp) jr.flat (by rw [iv, e]; exact ⟨jr, rfl, j + 1, rfl, hj, ht⟩)
    have hJ5 : ∀ {G : Hp}, Grow t_api_Value 6 4 4 r10 [] (.slice none 0 0) [] R G → Stp R h1 R G [] [r10] → J5 (.int .u8 ((93 : Nat) : Int)) G := fun {G} I st => by
      simp -zeta only [J5]
      rw [q_add, u1]
      have rG := I.own.rn r
      refine T_blanks15 rG (by omega) (by omega) fun j0 hj0 ej0 => ?_
      have wh : items (fun _ x => value d x) 93 (b.drop i) = if has [93] (b.drop j0) then .ok ([], (b.drop j0).drop 1) else itemsG (fun _ x => value d x) 93 [] (b.drop j0) := by
        unfold items
        rw [List.drop_drop, ej0]
      intro J10
      have hT : has [93] (b.drop j0) = true → J10 (.bool true) G := fun hh => by
        simp -zeta only [J10]
        rw [cnd_bool, if_pos rfl]
        have l0 := has_ne hh
        rw [List.length_drop] at l0
        simp only [List.length_cons, List.length_nil] at l0
        exact done (css := []) (acc := []) I st rfl (fun i c x e _ => by simp at e) (by simp) (by rw [wh, if_pos hh]) (by omega) (by rw [List.drop_drop])
      have hF : has [93] (b.drop j0) = false → J10 (.bool false) G := fun hh => by
        rw [hh] at wh
        simp only [Bool.false_eq_true, if_false] at wh
        simp -zeta only [J10]
        rw [cnd_bool, if_neg (by decide)]
        clear hT
        clear J10
        refine Lp_mk (fun m vs G => ∃ (j : Nat) (acc : List JV) (css : List (List Value)) (sv : Value) (So : List Nat) (R' : Hp), j + m = b.length ∧ Grow t_api_Value 6 4 4 r10 css sv So R' G ∧ Stp R h1 R' G [] (r10 :: So) ∧ css.length = acc.length ∧ (∀ (i : Nat) (c : List Value) (x : JV), css[i]? = some c → acc[i]? = some x → JvR R' c x) ∧ acc.length ≤ j ∧ itemsG (fun _ x => value d x) 93 acc (b.drop j) = items (fun _ x => value d x) 93 (b.drop i) ∧ vs = [.int .i64 0, .int .i64 0, .int .i64 (j : Int)]) (b.length - j0) ⟨j0, [], [], _, [], R, by omega, I, st, rfl, fun i c x e => by simp at e, by simp, wh.symm, rfl⟩ ?_
        rintro m vs G2 ⟨j, acc, css, sv, So, R', hj, I2, st2, lc, jc, la, ew, rfl⟩
        intro J14
        have hJ14 : J14 (.int .i64 (j : Int)) (.int .i64 0) (.int .i64 0) (.string ⟨#[]⟩) G2 := by
          simp -zeta only [J14]
          rw [q_add, w16]
          have w2 : Own R' G2 [] := I2.own.nil
          refine V w2 (r.mono st2.ext.cle) (by omega) fun cs jj c R3 h3 st3 res => ?_
          obtain ⟨lcs, fcs⟩ := res.len
          rw [ext3a, ext3b, ext3c]
          obtain ⟨I3, st3'⟩ := I2.go st3
          refine aw_hold6 lcs fcs fun r16 hr16 => ?_
          have x16 := ext_set (.row t_api_Value cs 6 (some (0, 0))) hr16
          have e16 : (h3.set r16 (.row t_api_Value cs 6 (some (0, 0)))) r16 = some (.row t_api_Value cs 6 (some (0, 0))) := Hp.set_same ..
          obtain ⟨I4, st4⟩ := I3.go (Stp.ext0 I3.own.nil x16)
          generalize h3.set r16 (.row t_api_Value cs 6 (some (0, 0))) = h4 at x16 e16 I4 st4 ⊢
          have st5 := st2.trans (st3'.trans st4)
          have r4 := I4.own.rn (r.mono st5.ext.cle)
          cases ev : value d (b.drop j) with
          | error c' =>
            rw [ev] at res
            obtain ⟨rfl, rfl, rfl⟩ := res
            have z : (c != 0) = true := by rw [bne_iff_ne]; exact value_err ev
            rw [q_neq, z, cnd_bool, if_pos rfl, bldV0]
            refine bad c st5 ?_
            rw [iv, ← ew, itemsG, ev]
          | ok xt =>
            obtain ⟨x, t⟩ := xt
            rw [ev] at res
            obtain ⟨jx, rfl, n, rfl, hn, ht⟩ := res
            obtain ⟨vl, _⟩ := value_len ev
            have lt : t.length = b.length - n := by rw [← ht, List.length_drop]
            rw [List.length_drop] at vl
            rw [q_neq, show ((0 : Int) != 0) = false from rfl, cnd_bool, if_neg (by decide)]
            intro J36
            have hJ36 : ∀ {G4 : Hp} {sv' : Value} {So' : List Nat}, Grow t_api_Value 6 4 4 r10 (css ++ [cs]) sv' So' R3 G4 → Stp R h1 R3 G4 [] (r10 :: So') → J36 G4 := fun {G4 sv' So'} I5 st6 => by
              simp -zeta only [J36]
              have jc' : ∀ (i : Nat) (c : List Value) (y : JV), (css ++ [cs])[i]? = some c → (acc ++ [x])[i]? = some y → JvR R3 c y := snoc_all lc (fun i c y e1 e2 => (jc i c y e1 e2).mono st3.ext.cle) jx
              have lc' : (css ++ [cs]).length = (acc ++ [x]).length := by simp [lc]
              have la' : (acc ++ [x]).length ≤ j + 1 := by simp; omega
              refine aft15 (I5.own.rn (r.mono st6.ext.cle)) (by omega) hn (fun hs j2 hj2 e2 => ?_) (fun hs h44 => ?_) (fun hs h44 j2 hj2 e2 => ?_)
              · rw [ht] at hs e2
                exact done I5 st6 lc' jc' (by omega) (by rw [← ew, itemsG, ev]; dsimp only; rw [if_pos hs]) hj2 e2
              · rw [ht] at hs h44
                rw [bldV0]
                refine bad 8 st6 ?_
                rw [iv, ← ew, itemsG, ev]
                dsimp only
                rw [if_neg (by rw [hs]; decide), if_neg (by rw [h44]; decide)]
              · rw [ht] at hs h44 e2
                rw [q_add, up1 (by omega)]
                have l2 := congrArg List.length e2
                rw [List.length_drop, List.length_drop] at l2
                have := skip_len t
                have h1' := has1_ne h44
                refine ⟨G4, .refl _, b.length - (j2 + 1), by omega, j2 + 1, acc ++ [x], css ++ [cs], sv', So', R3, by omega, I5, st6, lc', jc', by omega, ?_, rfl⟩
                rw [e2, ← ew]
                conv => rhs; rw [itemsG, ev]
                dsimp only
                rw [if_neg (by rw [hs]; decide), if_pos h44, if_pos (by rw [List.length_drop, List.length_drop]; omega)]
            clear_value J36
            rw [cnd_bool, if_pos (decide_eq_true hc), vaf4]
            have c4 : h4.cell ⟨r10, 4, none⟩ = some sv := by rw [cell_row I4.row]; rfl
            rw [q_ld u_Sl_api_Value rfl, c4, withVal_some]
            refine q_ld6 lcs e16 ?_
            refine I4.push u_Sl_api_Value z_api_Value z_Sl_api_Value zr_Jv rfl nfo_Va (by decide) (by decide) (by decide) (by decide) (by decide) (vaf4 r10) lcs fcs (by omega) fun v' h' So' I5 st6 => ?_
            exact hJ36 I5 (st5.trans st6)
        clear_value J14
        simp -zeta only [GL, Bool.not_true, Bool.false_eq_true, if_false, decide_eq_true hc]
        exact hJ14
      clear_value J10
      rw [q_bLen rG, q_lss, ltN]
      by_cases g : j0 < b.length
      · have dj := dropAt g
        have hh : has [93] (b.drop j0) = decide (b.getD j0 0 = 93) := by
          rw [dj, has1, List.head?_cons]
          by_cases z : b.getD j0 0 = 93
          · rw [z]; simp
          · rw [decide_eq_false z]; exact decide_eq_false fun y => z (by injection y)
        have es : (((b.getD j0 0 : Nat) : Int) == ((93 : Nat) : Int)) = decide (b.getD j0 0 = 93) := eqb
        rw [hh] at hT hF
        rw [decide_eq_true g]
        simp -zeta only [GL, if_true]
        rw [q_bAt rG g, q_eql, es]
        by_cases z : b.getD j0 0 = 93
        · rw [decide_eq_true z]; exact hT (decide_eq_true z)
        · rw [decide_eq_false z]; exact hF (decide_eq_false z)
      · rw [decide_eq_false g]
        simp -zeta only [GL, Bool.false_eq_true, if_false]
        exact hF (by rw [List.drop_eq_nil_of_le (by omega)]; rfl)
    clear_value J5
    rw [cnd_bool, if_pos (decide_eq_true hc), vaf0]
    refine aw_store z_int rfl (put_row (Hp.set_same ..) (by simp) (by omega) _) ?_
    rw [Hp.set_set]
    obtain ⟨I0, st0⟩ := Grow.start (E := t_api_Value) (sE := 6) (off := 4) (kd := 4) (.inl rfl) w1 hr10
    exact hJ5 I0 st0
  · -- a map
    have ne91 : b.getD i 0 ≠ 91 := by omega
    have iv : itemsV d (b.drop i) = match items (member (value d)) 125 (b.drop i) with
        | .error c => .error c
        | .ok (l, r) => .ok (mapV l, r) := by unfold itemsV; rw [if_neg (by rw [dri]; exact ne91)]
    have done : ∀ {R' G : Hp} {css : List (List Value)} {sv : Value} {So : List Nat} {acc : List (List Nat × JV)} {j : Nat} {t : List Nat}, Grow t_api_Member 7 5 5 r10 css sv So R' G → Stp R h1 R' G [] (r10 :: So) → css.length = acc.length → (∀ (i : Nat) (c : List Value) (x : List Nat × JV), css[i]? = some c → acc[i]? = some x → MeR R' c x) → acc.length ≤ 65536 → items (member (value d)) 125 (b.drop i) = .ok (acc, t) → j + 1 ≤ b.length → b.drop (j + 1) = t →
        q P G (Instr.loadAt t_api_Value (.pointer (some ⟨r10, 0, none⟩))) fun t43 => q P G (binOp .add t_int (.int .i64 (j : Int)) (.int .i64 1)) fun t45 => aw P (Instr.storeAt t_api_Value (.pointer (some ⟨r6, 0, none⟩)) t43) (fun _ h => q P h ((asAddr (.pointer (some ⟨r6, 0, none⟩))).bind (loadVar t_api_Value)) fun r0 => K (.tuple #[r0, t45, .int .i64 0]) h) G := fun {R' G css sv So acc j t} I st lc jc la e hj ht => by
      obtain ⟨R2, st2, xr, rd⟩ := fixO (S' := []) (st.drop (T' := [] ++ So) (by simp; exact fun x hx => .inr hx)) (by simp) I.out
      have sl := rds_sl (s := 7) rd fun c hc => by
        obtain ⟨n, hn, rfl⟩ := List.getElem_of_mem hc
        exact (jc n _ _ (List.getElem?_eq_getElem hn) (List.getElem?_eq_getElem (by omega))).len
      have jr : JvR R2 ((row0 5).set 5 sv) (mapV acc) := by
        show JvR R2 [.int .i64 5, .bool false, .int .i64 0, .string (strL []), .slice none 0 0, sv] (mapV acc)
        refine .mk [] css (by intro x hx; cases hx) (by decide) (by decide) (by omega) (SlAt.nilV R2 6) rfl (fun i c x e => by simp at e) sl lc (fun i c x e1 e2 => ?_) (fun i c x e1 e2 => ?_)
        · obtain ⟨cs, rfl, _, jx⟩ := jc i c x e1 e2
          exact jx.mono xr.cle
        · obtain ⟨cs, rfl, bx, _⟩ := jc i c x e1 e2
          exact ⟨rfl, bx⟩
      refine q_ld6 (by simp) I.row ?_
      rw [q_add, up1 (by omega)]
      exact ret _ ((j + 1 : Nat) : Int) 0 st2 (by simp) jr.flat (by rw [iv, e]; exact ⟨jr, rfl, j + 1, rfl, hj, ht⟩)
    have hJ5 : ∀ {G : Hp}, Grow t_api_Member 7 5 5 r10 [] (.slice none 0 0) [] R G → Stp R h1 R G [] [r10] → J5 (.int .u8 ((125 : Nat) : Int)) G := fun {G} I st => by
      simp -zeta only [J5]
      rw [q_add, u1]
      have rG := I.own.rn r
      refine T_blanks15 rG (by omega) (by omega) fun j0 hj0 ej0 => ?_
      have wh : items (member (value d)) 125 (b.drop i) = if has [125] (b.drop j0) then .ok ([], (b.drop j0).drop 1) else itemsG (member (value d)) 125 [] (b.drop j0) := by
        unfold items
        rw [List.drop_drop, ej0]
      intro J10
      have hT : has [125] (b.drop j0) = true → J10 (.bool true) G := fun hh => by
        simp -zeta only [J10]
        rw [cnd_bool, if_pos rfl]
        have l0 := has_ne hh
        rw [List.length_drop] at l0
        simp only [List.length_cons, List.length_nil] at l0
        exact done (css := []) (acc := []) I st rfl (fun i c x e _ => by simp at e) (by simp) (by rw [wh, if_pos hh]) (by omega) (by rw [List.drop_drop])
      have hF : has [125] (b.drop j0) = false → J10 (.bool false) G := fun hh => by
        rw [hh] at wh
        simp only [Bool.false_eq_true, if_false] at wh
        simp -zeta only [J10]
        rw [cnd_bool, if_neg (by decide)]
        clear hT
        clear J10
        refine Lp_mk (fun m vs G => ∃ (j : Nat) (acc : List (List Nat × JV)) (css : List (List Value)) (sv : Value) (So : List Nat) (R' : Hp), j + m = b.length ∧ Grow t_api_Member 7 5 5 r10 css sv So R' G ∧ Stp R h1 R' G [] (r10 :: So) ∧ css.length = acc.length ∧ (∀ (i : Nat) (c : List Value) (x : List Nat × JV), css[i]? = some c → acc[i]? = some x → MeR R' c x) ∧ acc.length ≤ j ∧ itemsG (member (value d)) 125 acc (b.drop j) = items (member (value d)) 125 (b.drop i) ∧ vs = [.int .i64 0, .int .i64 0, .int .i64 (j : Int)]) (b.length - j0) ⟨j0, [], [], _, [], R, by omega, I, st, rfl, fun i c x e => by simp at e, by simp, wh.symm, rfl⟩ ?_
        rintro m vs G2 ⟨j, acc, css, sv, So, R', hj, I2, st2, lc, jc, la, ew, rfl⟩
        intro J14
        have em : ∀ c, member (value d) acc (b.drop j) = .error c → itemsV d (b.drop i) = .error c := fun c e => by rw [iv, ← ew, itemsG, e]
        have hJ14 : ∀ (p : Nat) (nm r0 : List Nat), text (skip (b.drop j)) = some (nm, r0) → Bytes nm → nm.length ≤ 1000000 → acc.any (fun m => decide (m.1 = nm)) = false → has [58] (skip r0) = true → p ≤ b.length → j < p → b.drop p = (skip r0).drop 1 → J14 (.int .i64 (p : Int)) (.int .i64 0) (.int .i64 0) (.string (strL nm)) G2 := fun p nm r0 et bn ln ha h58 hp hjp ep => by
          have emv : member (value d) acc (b.drop j) = match value d (b.drop p) with
              | .error c => .error c
              | .ok (v, r2) => .ok ((nm, v), r2) := by
            unfold member
            rw [et]
            dsimp only
            rw [if_neg (by rw [ha]; decide), if_pos h58, ep]
            cases value d ((skip r0).drop 1) <;> rfl
          simp -zeta only [J14]
          rw [q_add, w16]
          have w2 : Own R' G2 [] := I2.own.nil
          refine V w2 (r.mono st2.ext.cle) hp fun cs jj c R3 h3 st3 res => ?_
          obtain ⟨lcs, fcs⟩ := res.len
          rw [ext3a, ext3b, ext3c]
          obtain ⟨I3, st3'⟩ := I2.go st3
          refine aw_hold6 lcs fcs fun r16 hr16 => ?_
          have x16 := ext_set (.row t_api_Value cs 6 (some (0, 0))) hr16
          have e16 : (h3.set r16 (.row t_api_Value cs 6 (some (0, 0)))) r16 = some (.row t_api_Value cs 6 (some (0, 0))) := Hp.set_same ..
          obtain ⟨I4, st4⟩ := I3.go (Stp.ext0 I3.own.nil x16)
          generalize h3.set r16 (.row t_api_Value cs 6 (some (0, 0))) = h4 at x16 e16 I4 st4 ⊢
          have st5 := st2.trans (st3'.trans st4)
          have r4 := I4.own.rn (r.mono st5.ext.cle)
          cases ev : value d (b.drop p) with
          | error c' =>
            rw [ev] at res emv
            obtain ⟨rfl, rfl, rfl⟩ := res
            have z : (c != 0) = true := by rw [bne_iff_ne]; exact value_err ev
            rw [q_neq, z, cnd_bool, if_pos rfl, bldV0]
            exact bad c st5 (em c emv)
          | ok xt =>
            obtain ⟨x, t⟩ := xt
            rw [ev] at res emv
            dsimp only at emv
            obtain ⟨jx, rfl, n, rfl, hn, ht⟩ := res
            obtain ⟨vl, _⟩ := value_len ev
            have lt : t.length = b.length - n := by rw [← ht, List.length_drop]
            rw [List.length_drop] at vl
            rw [q_neq, show ((0 : Int) != 0) = false from rfl, cnd_bool, if_neg (by decide)]
            intro J36
            have mx : MeR R3 (.string (strL nm) :: cs) (nm, x) := ⟨cs, rfl, ⟨bn, by show nm.length ≤ _; omega⟩, jx⟩
            have hJ36 : ∀ {G4 : Hp} {sv' : Value} {So' : List Nat}, Grow t_api_Member 7 5 5 r10 (css ++ [.string (strL nm) :: cs]) sv' So' R3 G4 → Stp R h1 R3 G4 [] (r10 :: So') → J36 G4 := fun {G4 sv' So'} I5 st6 => by
              simp -zeta only [J36]
              have jc' : ∀ (i : Nat) (c : List Value) (y : List Nat × JV), (css ++ [.string (strL nm) :: cs])[i]? = some c → (acc ++ [(nm, x)])[i]? = some y → MeR R3 c y := snoc_all lc (fun i c y e1 e2 => (jc i c y e1 e2).mono st3.ext.cle) mx
              have lc' : (css ++ [Value.string (strL nm) :: cs]).length = (acc ++ [(nm, x)]).length := by simp [lc]
              have la' : (acc ++ [(nm, x)]).length ≤ j + 1 := by simp; omega
              refine aft15 (I5.own.rn (r.mono st6.ext.cle)) (by omega) hn (fun hs j2 hj2 e2 => ?_) (fun hs h44 => ?_) (fun hs h44 j2 hj2 e2 => ?_)
              · rw [ht] at hs e2
                exact done I5 st6 lc' jc' (by omega) (by rw [← ew, itemsG, emv]; dsimp only; rw [if_pos hs]) hj2 e2
              · rw [ht] at hs h44
                rw [bldV0]
                refine bad 8 st6 ?_
                rw [iv, ← ew, itemsG, emv]
                dsimp only
                rw [if_neg (by rw [hs]; decide), if_neg (by rw [h44]; decide)]
              · rw [ht] at hs h44 e2
                rw [q_add, up1 (by omega)]
                have l2 := congrArg List.length e2
                rw [List.length_drop, List.length_drop] at l2
                have := skip_len t
                have h1' := has1_ne h44
                refine ⟨G4, .refl _, b.length - (j2 + 1), by omega, j2 + 1, acc ++ [(nm, x)], css ++ [.string (strL nm) :: cs], sv', So', R3, by omega, I5, st6, lc', jc', by omega, ?_, rfl⟩
                rw [e2, ← ew]
                conv => rhs; rw [itemsG, emv]
                dsimp only
                rw [if_neg (by rw [hs]; decide), if_pos h44, if_pos (by rw [List.length_drop, List.length_drop]; omega)]
            clear_value J36
            rw [cnd_bool, if_neg (by rw [decide_eq_false ne91]; decide), vaf5]
            have c5 : h4.cell ⟨r10, 5, none⟩ = some sv := by rw [cell_row I4.row]; rfl
            rw [q_ld u_Sl_api_Member rfl, c5, withVal_some]
            refine q_ld6 lcs e16 ?_
            rw [bldMem _ lcs]
            refine I4.push u_Sl_api_Member z_api_Member z_Sl_api_Member zr_Me rfl nfo_Me (by decide) (by decide) (by decide) (by decide) (by decide) (vaf5 r10) mx.len mx.flat (by omega) fun v' h' So' I5 st6 => ?_
            exact hJ36 I5 (st5.trans st6)
        clear_value J14
        have er8 : ∀ {G3 : Hp}, G3 = G2 → member (value d) acc (b.drop j) = .error 8 → aw P (Instr.storeAt t_api_Value (.pointer (some ⟨r6, 0, none⟩)) (.agg (row0 0).toArray)) (fun _ h => q P h ((asAddr (.pointer (some ⟨r6, 0, none⟩))).bind (loadVar t_api_Value)) fun r0 => K (.tuple #[r0, .int .i64 0, .int .i64 8]) h) G3 := fun {G3} eG e => by
          subst eG
          exact bad 8 st2 (em 8 e)
        rw [decide_eq_false ne91, q_not, cnd_bool, if_pos (by decide)]
        simp -zeta only [List.getD_cons_succ, List.getD_cons_zero]
        have r2 := I2.own.rn (r.mono st2.ext.cle)
        refine T_blanks15 r2 (by omega) (by omega) fun j3 hj3 ej3 => ?_
        -- the names so far
        have names : ∀ (nm : List Nat) (p : Int) {F : List Value → Hp → Prop}, Bytes nm → (p < 0 → p = -1) → (∀ z, F [.int .i64 (if 0 ≤ p ∧ acc.any (fun m => decide (m.1 = nm)) = true then -1 else p), z] G2) →
            Lp [.int .i64 p, .int .i64 0] G2 fun nx19 vs19 h => q P h (Instr.fieldAt t_api_Value (.pointer (some ⟨r10, 0, none⟩)) 5) fun t57 => q P h (Instr.loadAt t_Sl_api_Member t57) fun t58 => q P h (Builtin.len_ #[t_Sl_api_Member] t_int #[t58]) fun t59 => q P h (binOp .lss t_int (vs19.getD 1 undef) t59) fun t60 => cnd t60 (q P h (binOp .geq t_int (vs19.getD 0 undef) (Value.int .i64 0)) fun t64 => gd t64 true (q P h (Instr.fieldAt t_api_Value (.pointer (some ⟨r10, 0, none⟩)) 5) fun t66 => q P h (Instr.loadAt t_Sl_api_Member t66) fun t67 => q P h (Instr.indexAt t_Sl_api_Member t67 (vs19.getD 1 undef)) fun t69 => q P h (Instr.fieldAt t_api_Member t69 0) fun t70 => q P h (Instr.loadAt t_string t70) fun t71 => q P h (eqop .eql t_string (.tmp 71) (.tmp 72) t71 (.string (strL nm))) fun t73 => cnd t73 (q P h (binOp .add t_int (vs19.getD 1 undef) (Value.int .i64 1)) fun t62 => nx19 [(Value.int .i64 (-1)), t62] h) (q P h (binOp .add t_int (vs19.getD 1 undef) (Value.int .i64 1)) fun t62 => nx19 [(vs19.getD 0 undef), t62] h)) (cnd (Value.bool false) (q P h (binOp .add t_int (vs19.getD 1 undef) (Value.int .i64 1)) fun t62 => nx19 [(Value.int .i64 (-1)), t62] h) (q P h (binOp .add t_int (vs19.getD 1 undef) (Value.int .i64 1)) fun t62 => nx19 [(vs19.getD 0 undef), t62] h))) (F vs19 h) := fun nm p F bn hp f => by
          have c5 : G2.cell ⟨r10, 5, none⟩ = some sv := by rw [cell_row I2.row]; rfl
          have hl7 : ∀ c ∈ css, c.length = 7 := fun c hc => by
            obtain ⟨n, hn, rfl⟩ := List.getElem_of_mem hc
            exact (jc n _ _ (List.getElem?_eq_getElem hn) (List.getElem?_eq_getElem (by omega))).len
          obtain ⟨av, cv, rfl, hcv, hrow⟩ := out_sl I2.out hl7
          refine Lp_mk (fun m vs G => ∃ n : Nat, n + m = acc.length ∧ G = G2 ∧ vs = [.int .i64 (if 0 ≤ p ∧ (acc.take n).any (fun m => decide (m.1 = nm)) = true then -1 else p), .int .i64 (n : Int)]) acc.length ⟨0, by omega, rfl, by simp⟩ ?_
          rintro m vs G3 ⟨n, hn, rfl, rfl⟩
          simp -zeta only [GL, RL, vaf5, c5, lc, ltN]
          by_cases g : n < acc.length
          · have un := up1 (n := n) (by omega)
            have tk : (acc.take (n + 1)).any (fun m => decide (m.1 = nm)) = ((acc.take n).any (fun m => decide (m.1 = nm)) || decide (acc[n].1 = nm)) := by
              rw [List.take_add_one, List.getElem?_eq_getElem g, List.any_append]; simp
            have nxt : ∀ z : Int, z = (if 0 ≤ p ∧ (acc.take (n + 1)).any (fun m => decide (m.1 = nm)) = true then -1 else p) → ∃ h0, Hp.le h0 G3 ∧ ∃ m', m' < m ∧ ∃ n' : Nat, n' + m' = acc.length ∧ h0 = G3 ∧ [Value.int .i64 z, .int .i64 ((n + 1 : Nat) : Int)] = [.int .i64 (if 0 ≤ p ∧ (acc.take n').any (fun m => decide (m.1 = nm)) = true then -1 else p), .int .i64 (n' : Int)] := fun z hz => ⟨G3, .refl _, m - 1, by omega, n + 1, by omega, rfl, by rw [hz]⟩
            rw [decide_eq_true g, if_pos rfl, un]
            by_cases y : 0 ≤ p ∧ (acc.take n).any (fun m => decide (m.1 = nm)) = true
            · rw [if_pos y]
              have z : decide ((0 : Int) ≤ -1) = false := rfl
              simp -zeta only [z, GL, Bool.false_eq_true, if_false]
              exact nxt _ (by rw [if_pos ⟨y.1, by rw [tk, y.2]; rfl⟩])
            · rw [if_neg y]
              by_cases y2 : 0 ≤ p
              · have af : (acc.take n).any (fun m => decide (m.1 = nm)) = false := by
                  cases q : (acc.take n).any (fun m => decide (m.1 = nm))
                  · rfl
                  · exact absurd ⟨y2, q⟩ y
                rw [af, Bool.false_or] at tk
                have ec : css[n]? = some (css[n]'(by omega)) := List.getElem?_eq_getElem _
                have me := jc n _ _ ec (List.getElem?_eq_getElem g)
                generalize css[n]'(by omega) = cc at ec me
                obtain ⟨cs0, rfl, ⟨bn0, _⟩, _⟩ := me
                rcases hrow with h0 | ⟨bq, oq, rfl, hy⟩
                · rw [h0] at lc; simp at lc; omega
                have cl := hy n _ ec 0 _ rfl
                rw [Nat.add_zero] at cl
                rw [decide_eq_true y2]
                simp -zeta only [GL, if_true]
                rw [q_idxS u_Sl_api_Member z_api_Member _ _ _ _ _ (by omega) (by omega), Int.toNat_natCast, add_off, mefz, q_ld u_string rfl, cl, withVal_some, q_eqlSt _ _ bn0 bn, cnd_bool]
                by_cases y3 : acc[n].1 = nm
                · rw [decide_eq_true y3, if_pos rfl]
                  exact nxt _ (by rw [if_pos ⟨y2, by rw [tk]; exact decide_eq_true y3⟩])
                · rw [decide_eq_false y3, if_neg (by decide)]
                  exact nxt _ (by rw [if_neg (by rintro ⟨_, q⟩; rw [tk, decide_eq_true_eq] at q; exact y3 q)])
              · have z : decide ((0 : Int) ≤ p) = false := decide_eq_false y2
                rw [z]
                simp -zeta only [GL, Bool.false_eq_true, if_false]
                exact nxt _ (by rw [if_neg (by rintro ⟨q, _⟩; exact y2 q)])
          · rw [decide_eq_false g, if_neg (by decide)]
            rw [List.take_of_length_le (by omega)]
            exact f _
        refine T_text15 r2 (by omega) bb hj3 (fun et => ?_) fun nm r0 j4 et hj4 ej4 => ?_
        · rw [ext0, ext1]
          rw [ej3] at et
          have e0 : (⟨#[]⟩ : ByteArray) = strL [] := rfl
          rw [e0]
          refine names [] (-1) (by intro x hx; cases hx) (fun _ => rfl) fun z => ?_
          simp -zeta only [List.getD_cons_zero]
          rw [if_neg (by omega), q_lss, show decide ((-1 : Int) < 0) = true from rfl, cnd_bool, if_pos rfl, bldV0]
          exact er8 rfl (by unfold member; rw [et])
        · rw [ext0, ext1]
          rw [ej3] at et
          have bn : Bytes nm := text_b15 (fun x hx => bb x (List.mem_of_mem_drop ((skip_suf _).subset hx))) et
          obtain ⟨tl1, _, tl2⟩ := text_len et
          have sl1 := skip_len (b.drop j)
          rw [List.length_drop] at sl1
          refine names nm (j4 : Int) bn (by omega) fun z => ?_
          simp -zeta only [List.getD_cons_zero]
          by_cases ha : acc.any (fun m => decide (m.1 = nm)) = true
          · rw [if_pos ⟨by omega, ha⟩, q_lss, show decide ((-1 : Int) < 0) = true from rfl, cnd_bool, if_pos rfl, bldV0]
            exact er8 rfl (by unfold member; rw [et]; dsimp only; rw [if_pos ha])
          · rw [if_neg (by rintro ⟨_, q⟩; exact ha q), q_lss, show decide (((j4 : Nat) : Int) < 0) = false from decide_eq_false (by omega), cnd_bool, if_neg (by decide)]
            refine T_blanks15 r2 (by omega) hj4 fun j5 hj5 ej5 => ?_
            rw [ej4] at ej5
            have r0l : r0.length = b.length - j4 := by rw [← ej4, List.length_drop]
            have s5 := skip_len r0
            rw [← ej5, List.length_drop] at s5
            have mem : member (value d) acc (b.drop j) = if has [58] (b.drop j5) then (match value d ((b.drop j5).drop 1) with
                | .error c => .error c
                | .ok (v, r2) => .ok ((nm, v), r2)) else .error 8 := by
              unfold member
              rw [et]
              dsimp only
              rw [if_neg ha, ej5]
              cases has [58] (skip r0) <;> cases value d ((skip r0).drop 1) <;> rfl
            intro J30
            have hN : has [58] (b.drop j5) = false → J30 (.bool true) G2 := fun hh => by
              simp -zeta only [J30]
              rw [cnd_bool, if_pos rfl, bldV0]
              exact er8 rfl (by rw [mem, hh]; rfl)
            have hY : has [58] (b.drop j5) = true → J30 (.bool false) G2 := fun hh => by
              simp -zeta only [J30]
              rw [cnd_bool, if_neg (by decide), q_add, up1 (by omega)]
              have l0 := has_ne hh
              rw [List.length_drop] at l0
              simp only [List.length_cons, List.length_nil] at l0
              refine hJ14 (j5 + 1) nm r0 et bn (by omega) (by rw [Bool.not_eq_true] at ha; exact ha) (by rw [← ej5]; exact hh) (by omega) (by omega) ?_
              rw [← ej5, List.drop_drop]
            clear_value J30
            rw [q_bLen r2, q_geq]
            by_cases g : j5 < b.length
            · have dj := dropAt g
              have hh : has [58] (b.drop j5) = decide (b.getD j5 0 = 58) := by
                rw [dj, has1, List.head?_cons]
                by_cases z : b.getD j5 0 = 58
                · rw [z]; simp
                · rw [decide_eq_false z]; exact decide_eq_false fun y => z (by injection y)
              have es : (((b.getD j5 0 : Nat) : Int) != 58) = !decide (b.getD j5 0 = 58) := by rw [← eqb]; rfl
              rw [hh] at hN hY
              have l2 : decide (((b.length : Nat) : Int) ≤ ((j5 : Nat) : Int)) = false := decide_eq_false (by omega)
              rw [l2]
              simp -zeta only [GL, if_true]
              rw [q_bAt r2 g, q_neq, es]
              by_cases z : b.getD j5 0 = 58
              · rw [decide_eq_true z]; exact hY (decide_eq_true z)
              · rw [decide_eq_false z]; exact hN (decide_eq_false z)
            · have l2 : decide (((b.length : Nat) : Int) ≤ ((j5 : Nat) : Int)) = true := decide_eq_true (by omega)
              rw [l2]
              simp -zeta only [GL, Bool.true_eq_false, if_false]
              exact hN (by rw [List.drop_eq_nil_of_le (by omega)]; rfl)
      clear_value J10
      rw [q_bLen rG, q_lss, ltN]
      by_cases g : j0 < b.length
      · have dj := dropAt g
        have hh : has [125] (b.drop j0) = decide (b.getD j0 0 = 125) := by
          rw [dj, has1, List.head?_cons]
          by_cases z : b.getD j0 0 = 125
          · rw [z]; simp
          · rw [decide_eq_false z]; exact decide_eq_false fun y => z (by injection y)
        have es : (((b.getD j0 0 : Nat) : Int) == ((125 : Nat) : Int)) = decide (b.getD j0 0 = 125) := eqb
        rw [hh] at hT hF
        rw [decide_eq_true g]
        simp -zeta only [GL, if_true]
        rw [q_bAt rG g, q_eql, es]
        by_cases z : b.getD j0 0 = 125
        · rw [decide_eq_true z]; exact hT (decide_eq_true z)
        · rw [decide_eq_false z]; exact hF (decide_eq_false z)
      · rw [decide_eq_false g]
        simp -zeta only [GL, Bool.false_eq_true, if_false]
        exact hF (by rw [List.drop_eq_nil_of_le (by omega)]; rfl)
    clear_value J5
    rw [cnd_bool, if_neg (by rw [decide_eq_false ne91]; decide)]
    obtain ⟨I0, st0⟩ := Grow.start (E := t_api_Member) (sE := 7) (off := 5) (kd := 5) (.inr rfl) w1 hr10
    exact hJ5 I0 st0
end
theorem has_c {c : Nat} {w s : List Nat} (hc : c ≠ 0) (h : has (c :: w) s = true) : s.getD 0 0 = c := by
  refine Decidable.byContradiction fun g => ?_
  rw [has_head g hc] at h
  cases h
theorem T_value15 {b : List Nat} (lb : b.length ≤ 65536) (bb : Bytes b) : ∀ {d : Nat}, d ≤ 16 → DValueOk b d
  | d, hd, R, h, K, v, i, w, r, hi, k => by
    refine F_orlopref15_value ?_
    unfold s_orlopref15_value
    refine aw_allocL (row0 0) zr_Jv rfl fun r6 hr6 => ?_
    have x1 := ext_set (.row t_api_Value (row0 0) (row0 0).length (some (0, 0))) hr6
    have e61 : (h.set r6 (.row t_api_Value (row0 0) (row0 0).length (some (0, 0)))) = h.set r6 (.row t_api_Value (row0 0) 6 (some (0, 0))) := rfl
    rw [e61] at x1 ⊢
    have w1 : Own R (h.set r6 (.row t_api_Value (row0 0) 6 (some (0, 0)))) [] := (Stp.ext0 w x1).own
    have ret : ∀ {R' h' : Hp} (cs : List Value) (j c : Int), Stp R (h.set r6 (.row t_api_Value (row0 0) 6 (some (0, 0)))) R' h' [] [] → Res15 b R' (value d (b.drop i)) cs j c →
        aw P (Instr.storeAt t_api_Value (.pointer (some ⟨r6, 0, none⟩)) (.agg cs.toArray)) (fun _ h => q P h ((asAddr (.pointer (some ⟨r6, 0, none⟩))).bind (loadVar t_api_Value)) fun r0 => K (.tuple #[r0, .int .i64 j, .int .i64 c]) h) h' := fun {R' h'} cs j c st res =>
      ret15 (F := fun r0 h => K (.tuple #[r0, .int .i64 j, .int .i64 c]) h) hr6 w st res.len.1 res.len.2 fun h'' st' => k cs j c R' h'' st' res
    generalize hh1 : h.set r6 (.row t_api_Value (row0 0) 6 (some (0, 0))) = h1 at x1 w1 ret ⊢
    have s0 : Stp R h1 R h1 [] [] := Stp.refl w1
    have r1 := w1.rn r
    refine T_blanks15 r1 (by omega) hi fun j hj ej => ?_
    match d, hd with
    | 0, _ =>
      rw [q_gtr, show decide ((16 : Int) < 17 - ((0 : Nat) : Int)) = true from rfl, cnd_bool, if_pos rfl, bldV0]
      exact ret (row0 0) 0 3 s0 ⟨rfl, rfl, rfl⟩
    | d + 1, hd =>
      have ev : value (d + 1) (b.drop i) = (if (skip (b.drop i)).getD 0 0 = 34 then match text (skip (b.drop i)) with
          | none => .error 8
          | some (t, r) => .ok (textV t, r)
        else if (skip (b.drop i)).getD 0 0 = 91 then match items (fun _ x => value d x) 93 (skip (b.drop i)) with
          | .error c => .error c
          | .ok (l, r) => .ok (listV l, r)
        else if (skip (b.drop i)).getD 0 0 = 123 then match items (member (value d)) 125 (skip (b.drop i)) with
          | .error c => .error c
          | .ok (l, r) => .ok (mapV l, r)
        else if has [110, 117, 108, 108] (skip (b.drop i)) then .ok (nulV, (skip (b.drop i)).drop 4)
        else if has [116, 114, 117, 101] (skip (b.drop i)) then .ok (boolV true, (skip (b.drop i)).drop 4)
        else if has [102, 97, 108, 115, 101] (skip (b.drop i)) then .ok (boolV false, (skip (b.drop i)).drop 5)
        else number (skip (b.drop i))) := rfl
      rw [← ej] at ev
      rw [ev] at ret
      clear ev
      have dd : decide ((16 : Int) < 17 - ((d + 1 : Nat) : Int)) = false := decide_eq_false (by omega)
      have d16 : (17 : Int) - ((d + 1 : Nat) : Int) = 16 - (d : Int) := by omega
      rw [q_gtr, dd, cnd_bool, if_neg (by decide), d16]
      have tn : (⟨#[110, 117, 108, 108]⟩ : ByteArray) = strL [110, 117, 108, 108] := by kernel_rfl
      have tt : (⟨#[116, 114, 117, 101]⟩ : ByteArray) = strL [116, 114, 117, 101] := by kernel_rfl
      have tf : (⟨#[102, 97, 108, 115, 101]⟩ : ByteArray) = strL [102, 97, 108, 115, 101] := by kernel_rfl
      rw [tn]
      refine T_stands15 r1 (by omega) bb (by unfold Bytes; decide) (by decide) hj ?_
      by_cases g1 : has [110, 117, 108, 108] (b.drop j) = true
      · have hc := has_c (by decide) g1
        have l := has_ne g1
        rw [List.length_drop] at l
        simp only [List.length_cons, List.length_nil] at l
        rw [if_neg (by omega), if_neg (by omega), if_neg (by omega), if_pos g1] at ret
        rw [g1, cnd_bool, if_pos rfl, bldV0, q_add, show IntKind.i64.wrap ((j : Int) + 4) = ((j + 4 : Nat) : Int) from upN 4 (by omega) (by omega)]
        exact ret (row0 0) _ 0 s0 ⟨jv_row0 0, rfl, j + 4, rfl, by omega, by rw [List.drop_drop]⟩
      have n1 := g1
      rw [Bool.not_eq_true] at n1
      rw [n1, cnd_bool, if_neg (by decide), tt]
      refine T_stands15 r1 (by omega) bb (by unfold Bytes; decide) (by decide) hj ?_
      by_cases g2 : has [116, 114, 117, 101] (b.drop j) = true
      · have hc := has_c (by decide) g2
        have l := has_ne g2
        rw [List.length_drop] at l
        simp only [List.length_cons, List.length_nil] at l
        rw [if_neg (by omega), if_neg (by omega), if_neg (by omega), if_neg g1, if_pos g2] at ret
        rw [g2, cnd_bool, if_pos rfl, bldVb, q_add, show IntKind.i64.wrap ((j : Int) + 4) = ((j + 4 : Nat) : Int) from upN 4 (by omega) (by omega)]
        exact ret [.int .i64 1, .bool true, .int .i64 0, .string ⟨#[]⟩, .slice none 0 0, .slice none 0 0] _ 0 s0 ⟨jv_leaf 1 true 0 (t := []) (by intro x hx; cases hx) rfl, rfl, j + 4, rfl, by omega, by rw [List.drop_drop]⟩
      have n2 := g2
      rw [Bool.not_eq_true] at n2
      rw [n2, cnd_bool, if_neg (by decide), tf]
      refine T_stands15 r1 (by omega) bb (by unfold Bytes; decide) (by decide) hj ?_
      by_cases g3 : has [102, 97, 108, 115, 101] (b.drop j) = true
      · have hc := has_c (by decide) g3
        have l := has_ne g3
        rw [List.length_drop] at l
        simp only [List.length_cons, List.length_nil] at l
        rw [if_neg (by omega), if_neg (by omega), if_neg (by omega), if_neg g1, if_neg g2, if_pos g3] at ret
        rw [g3, cnd_bool, if_pos rfl, bldV1, q_add, show IntKind.i64.wrap ((j : Int) + 5) = ((j + 5 : Nat) : Int) from upN 5 (by omega) (by omega)]
        exact ret (row0 1) _ 0 s0 ⟨jv_row0 1, rfl, j + 5, rfl, by omega, by rw [List.drop_drop]⟩
      have n3 := g3
      rw [Bool.not_eq_true] at n3
      rw [n3, cnd_bool, if_neg (by decide)]
      rw [if_neg g1, if_neg g2, if_neg g3] at ret
      clear g1 g2 g3 n1 n2 n3 tn tt tf
      intro J16
      have hT : j < b.length → (b.getD j 0 = 91 ∨ b.getD j 0 = 123) → J16 (.bool true) h1 := fun gj hc => by
        simp -zeta only [J16]
        rw [cnd_bool, if_pos rfl]
        refine T_items15 (by omega) lb bb (T_value15 lb bb (d := d) (by omega)) w1 r gj hc fun cs j2 c R' h' st res => ?_
        rw [ext3a, ext3b, ext3c]
        refine ret cs j2 c st ?_
        have dj : (b.drop j).getD 0 0 = b.getD j 0 := by rw [dropAt gj]; rfl
        rw [if_neg (by rw [dj]; omega)]
        unfold itemsV at res
        by_cases g : (b.drop j).getD 0 0 = 91
        · rw [if_pos g] at res ⊢
          exact res
        · rw [if_neg g] at res ⊢
          rw [if_pos (by rw [dj] at g ⊢; omega)]
          exact res
      have hF : ¬ (b.drop j).getD 0 0 = 91 → ¬ (b.drop j).getD 0 0 = 123 → J16 (.bool false) h1 := fun z91 z123 => by
        simp -zeta only [J16]
        rw [cnd_bool, if_neg (by decide)]
        rw [if_neg z91, if_neg z123] at ret
        clear hT
        clear J16
        intro J19
        have hT : (b.drop j).getD 0 0 = 34 → J19 (.bool true) h1 := fun z => by
          simp -zeta only [J19]
          rw [if_pos z] at ret
          rw [cnd_bool, if_pos rfl]
          refine T_text15 r1 (by omega) bb hj (fun et => ?_) fun t r0 j2 et hj2 e2 => ?_
          · rw [ext0, ext1, q_lss, show decide ((-1 : Int) < 0) = true from rfl, cnd_bool, if_pos rfl, bldV0]
            exact ret (row0 0) 0 8 s0 (by rw [et]; exact ⟨rfl, rfl, rfl⟩)
          · have bn : Bytes t := text_b15 (fun x hx => bb x (List.mem_of_mem_drop hx)) et
            obtain ⟨_, _, tl2⟩ := text_len et
            rw [List.length_drop] at tl2
            rw [ext0, ext1, q_lss, show decide (((j2 : Nat) : Int) < 0) = false from decide_eq_false (by omega), cnd_bool, if_neg (by decide), bldVt]
            exact ret [.int .i64 3, .bool false, .int .i64 0, .string (strL t), .slice none 0 0, .slice none 0 0] _ 0 s0 (by rw [et]; exact ⟨jv_leaf 3 false 0 bn rfl (by omega), rfl, j2, rfl, hj2, e2⟩)
        have hF : ¬ (b.drop j).getD 0 0 = 34 → J19 (.bool false) h1 := fun z => by
          simp -zeta only [J19]
          rw [if_neg z] at ret
          rw [cnd_bool, if_neg (by decide)]
          refine T_number15 r1 (by omega) bb hj (fun c en => ?_) fun n r0 j2 en hj2 e2 => ?_
          · rw [ext0, ext1, q_lss, show decide ((-1 : Int) < 0) = true from rfl, cnd_bool, if_pos rfl, bldV0]
            have c8 : c = 8 := by
              obtain ⟨mi, hm⟩ : ∃ mi, has [45] (b.drop j) = mi := ⟨_, rfl⟩
              obtain ⟨s1, h1⟩ : ∃ s1, (if mi = true then (b.drop j).drop 1 else (b.drop j)) = s1 := ⟨_, rfl⟩
              rw [number_eq _ mi hm s1 h1] at en
              split at en
              · split at en
                · cases en
                · cases en; rfl
              · cases en; rfl
            subst c8
            exact ret (row0 0) 0 8 s0 (by rw [en]; exact ⟨rfl, rfl, rfl⟩)
          · rw [ext0, ext1, q_lss, show decide (((j2 : Nat) : Int) < 0) = false from decide_eq_false (by omega), cnd_bool, if_neg (by decide), bldNum15]
            exact ret [.int .i64 2, .bool false, .int .i64 n, .string (strL []), .slice none 0 0, .slice none 0 0] _ 0 s0 (by rw [en]; exact ⟨jv_num n, rfl, j2, rfl, hj2, e2⟩)
        clear_value J19
        rw [q_bLen r1, q_lss, ltN]
        by_cases gj : j < b.length
        · have dj : (b.drop j).getD 0 0 = b.getD j 0 := by rw [dropAt gj]; rfl
          have es : (((b.getD j 0 : Nat) : Int) == 34) = decide (b.getD j 0 = 34) := eqb
          rw [dj] at hT hF
          rw [decide_eq_true gj]
          simp -zeta only [GL, if_true]
          rw [q_bAt r1 gj, q_eql, es]
          by_cases z : b.getD j 0 = 34
          · rw [decide_eq_true z]; exact hT z
          · rw [decide_eq_false z]; exact hF z
        · rw [decide_eq_false gj]
          simp -zeta only [GL, Bool.false_eq_true, if_false]
          exact hF (by rw [List.drop_eq_nil_of_le (by omega)]; decide)
      clear_value J16
      rw [q_bLen r1, q_lss, ltN]
      by_cases gj : j < b.length
      · have dj : (b.drop j).getD 0 0 = b.getD j 0 := by rw [dropAt gj]; rfl
        have e91 : (((b.getD j 0 : Nat) : Int) == 91) = decide (b.getD j 0 = 91) := eqb
        have e123 : (((b.getD j 0 : Nat) : Int) == 123) = decide (b.getD j 0 = 123) := eqb
        rw [dj] at hF
        rw [decide_eq_true gj]
        simp -zeta only [GL, if_true]
        rw [q_bAt r1 gj, q_eql, e91]
        by_cases z : b.getD j 0 = 91
        · rw [decide_eq_true z]
          simp -zeta only [GL, Bool.true_eq_false, if_false]
          exact hT gj (.inl z)
        · rw [decide_eq_false z]
          simp -zeta only [GL, if_true]
          rw [q_bAt r1 gj, q_eql, e123]
          by_cases y : b.getD j 0 = 123
          · rw [decide_eq_true y]; exact hT gj (.inr y)
          · rw [decide_eq_false y]; exact hF z y
      · rw [decide_eq_false gj]
        simp -zeta only [GL, Bool.false_eq_true, if_false]
        have e0 : (b.drop j).getD 0 0 = 0 := by rw [List.drop_eq_nil_of_le (by omega)]; rfl
        exact hF (by rw [e0]; decide) (by rw [e0]; decide)
/-- What is made of a value and its rest. -/
def fin16 : Except Int (JV × List Nat) → Except Int JV
  | .error c => .error c
  | .ok (v, r) => if skip r = [] then .ok v else .error 8
theorem parse_fin (b : List Nat) : parse b = if 65536 < b.length then .error 3 else fin16 (value 16 b) := by
  unfold parse
  by_cases g : 65536 < b.length
  · rw [if_pos g, if_pos g]
  · rw [if_neg g, if_neg g]
    generalize value 16 b = e
    cases e <;> rfl
section
variable {R h : Hp} {K : Value → Hp → Prop} {v : Value} {b : List Nat}
/-- The document's reader tells what the plain one tells. -/
theorem T_refParse15 (r : Rn h .u8 v b) (bb : Bytes b) (k : ∀ cs h', Hp.ext h h' → JvR h' cs (resV (parse b)).1 → K (.tuple #[.agg cs.toArray, .int .i64 (resV (parse b)).2]) h') : Cn P n_orlopref15_Parse #[v] h K := by
  refine F_orlopref15_Parse ?_
  unfold s_orlopref15_Parse
  have w : Own h h [] := ⟨.refl _, fun b hb => (by cases hb), fun b hb => (by cases hb)⟩
  refine aw_allocL (row0 0) zr_Jv rfl fun r6 hr6 => ?_
  have x1 := ext_set (.row t_api_Value (row0 0) (row0 0).length (some (0, 0))) hr6
  have e61 : (h.set r6 (.row t_api_Value (row0 0) (row0 0).length (some (0, 0)))) = h.set r6 (.row t_api_Value (row0 0) 6 (some (0, 0))) := rfl
  rw [e61] at x1 ⊢
  have w1 : Own h (h.set r6 (.row t_api_Value (row0 0) 6 (some (0, 0)))) [] := (Stp.ext0 w x1).own
  have ret : ∀ {R' h' : Hp} (cs : List Value) (c : Int), Stp h (h.set r6 (.row t_api_Value (row0 0) 6 (some (0, 0)))) R' h' [] [] → JvR R' cs (resV (parse b)).1 → c = (resV (parse b)).2 →
      aw P (Instr.storeAt t_api_Value (.pointer (some ⟨r6, 0, none⟩)) (.agg cs.toArray)) (fun _ h => q P h ((asAddr (.pointer (some ⟨r6, 0, none⟩))).bind (loadVar t_api_Value)) fun r0 => K (.tuple #[r0, .int .i64 c]) h) h' := fun {R' h'} cs c st jr ec =>
    ret15 (F := fun r0 h => K (.tuple #[r0, .int .i64 c]) h) hr6 w st jr.len jr.flat fun h'' st' => by
      rw [ec]
      exact k cs h'' (fun b o e => st'.keep b o (by simp) e) (jr.mono st'.own.sub.cle)
  generalize hh1 : h.set r6 (.row t_api_Value (row0 0) 6 (some (0, 0))) = h1 at x1 w1 ret ⊢
  have s0 : Stp h h1 h h1 [] [] := Stp.refl w1
  have r1 := w1.rn r
  rw [q_bLen r1, q_gtr, cnd_bool]
  have pb := parse_fin b
  by_cases g : 65536 < b.length
  · rw [if_pos g] at pb
    rw [show decide ((65536 : Int) < ((b.length : Nat) : Int)) = true from decide_eq_true (by omega), if_pos rfl, bldV0]
    exact ret (row0 0) 3 s0 (by rw [pb]; exact jv_row0 0) (by rw [pb]; rfl)
  rw [if_neg g] at pb
  rw [show decide ((65536 : Int) < ((b.length : Nat) : Int)) = false from decide_eq_false (by omega), if_neg (by decide)]
  have V : DValueOk b 16 := @T_value15 b (by omega) bb 16 (Nat.le_refl _)
  have e1 : (17 : Int) - ((16 : Nat) : Int) = 1 := by decide
  unfold DValueOk at V
  rw [e1] at V
  refine V (i := 0) w1 r (by omega) fun cs j c R' h' st res => ?_
  rw [List.drop_zero] at res
  have ver := @value_err 16 b
  generalize value 16 b = e16 at res pb ver
  rw [ext3a, ext3b, ext3c]
  obtain ⟨lcs, fcs⟩ := res.len
  refine aw_hold6 lcs fcs fun r4 hr4 => ?_
  have x4 := ext_set (.row t_api_Value cs 6 (some (0, 0))) hr4
  have e4 : (h'.set r4 (.row t_api_Value cs 6 (some (0, 0)))) r4 = some (.row t_api_Value cs 6 (some (0, 0))) := Hp.set_same ..
  have st4 := st.trans (Stp.ext0 st.own x4)
  generalize h'.set r4 (.row t_api_Value cs 6 (some (0, 0))) = h4 at x4 e4 st4 ⊢
  cases e16 with
  | error c' =>
    obtain ⟨rfl, rfl, rfl⟩ := res
    have z : (c != 0) = true := by rw [bne_iff_ne]; exact ver rfl
    rw [q_neq, z, cnd_bool, if_pos rfl, bldV0]
    exact ret (row0 0) c st4 (by rw [pb]; exact jv_row0 0) (by rw [pb]; rfl)
  | ok xt =>
    obtain ⟨x, t⟩ := xt
    unfold fin16 at pb
    dsimp only at pb
    obtain ⟨jx, rfl, n, rfl, hn, ht⟩ := res
    rw [q_neq, show ((0 : Int) != 0) = false from rfl, cnd_bool, if_neg (by decide)]
    have r4 := st4.own.rn (r.mono st4.ext.cle)
    refine T_blanks15 r4 (by omega) hn fun j2 hj2 e2 => ?_
    rw [ht] at e2
    rw [q_bLen r4, q_neq]
    have l2 : (skip t).length = b.length - j2 := by rw [← e2, List.length_drop]
    by_cases z : skip t = []
    · rw [if_pos z] at pb
      rw [z] at l2
      have : j2 = b.length := by simp at l2; omega
      rw [show (((j2 : Nat) : Int) != ((b.length : Nat) : Int)) = false from by rw [this]; simp, cnd_bool, if_neg (by decide)]
      refine q_ld6 lcs e4 ?_
      exact ret cs 0 st4 (by rw [pb]; exact jx) (by rw [pb]; rfl)
    · rw [if_neg z] at pb
      have : j2 ≠ b.length := fun q => z (List.length_eq_zero_iff.1 (by omega))
      rw [show (((j2 : Nat) : Int) != ((b.length : Nat) : Int)) = true from by rw [bne_iff_ne]; omega, cnd_bool, if_pos rfl, bldV0]
      exact ret (row0 0) 8 st4 (by rw [pb]; exact jv_row0 0) (by rw [pb]; rfl)
end
section
variable {h : Hp}
/-- A thing out of a row, loaded (its place is told without a look at memory). -/
theorem q_itemAtE {t e s : Nat} {v : Value} {items : List (List Value)} {i : Nat} {x : List Value} {d : TypeDesc} {he : Hp} {F : Value → Prop} (ht : P.underlying t = some (.slice e)) (hs : sz P e = some s) (hd : P.underlying e = some d) (hg : aggB d = true)
    (A : SlAt h s v items) (hi : items[i]? = some x) (lx : x.length = s) (k : F (.agg x.toArray)) :
    q P he (Instr.indexAt t v (.int .i64 (i : Int))) fun t31 => q P h (Instr.loadAt e t31) F := by
  have hlt := (List.getElem?_eq_some_iff.1 hi).1
  obtain ⟨a, c, rfl, hc, hr⟩ := A
  rcases hr with rfl | ⟨b, o, rfl, hy⟩
  · simp at hlt
  rw [q_idxS ht hs _ _ _ _ _ (by omega) (by omega), Int.toNat_natCast, add_off, q_ldAgg (ys := x) hd hg (by rw [lx]; exact hs) (hy i x hi)]
  exact k
theorem q_nameAt {v : Value} {items : List (List Value)} {i : Nat} {nm : Value} {x : List Value} {he : Hp} {F : Value → Prop} (A : SlAt h 7 v items) (hi : items[i]? = some (nm :: x)) (k : F nm) :
    q P he (Instr.indexAt t_Sl_api_Member v (.int .i64 (i : Int))) fun t31 => q P h (Instr.fieldAt t_api_Member t31 0) fun t81 => q P h (Instr.loadAt t_string t81) F := by
  have hlt := (List.getElem?_eq_some_iff.1 hi).1
  obtain ⟨a, c, rfl, hc, hr⟩ := A
  rcases hr with rfl | ⟨b, o, rfl, hy⟩
  · simp at hlt
  have cl := hy i _ hi 0 _ rfl
  rw [Nat.add_zero] at cl
  rw [q_idxS u_Sl_api_Member z_api_Member _ _ _ _ _ (by omega) (by omega), Int.toNat_natCast, add_off, mefz, q_ld u_string rfl, cl, withVal_some]
  exact k
theorem q_valAt {v : Value} {items : List (List Value)} {i : Nat} {nm : Value} {x : List Value} {he : Hp} {F : Value → Prop} (A : SlAt h 7 v items) (hi : items[i]? = some (nm :: x)) (lx : x.length = 6) (k : F (.agg x.toArray)) :
    q P he (Instr.indexAt t_Sl_api_Member v (.int .i64 (i : Int))) fun t31 => q P h (Instr.fieldAt t_api_Member t31 1) fun t81 => q P h (Instr.loadAt t_api_Value t81) F := by
  have hlt := (List.getElem?_eq_some_iff.1 hi).1
  obtain ⟨a, c, rfl, hc, hr⟩ := A
  rcases hr with rfl | ⟨b, o, rfl, hy⟩
  · simp at hlt
  rw [q_idxS u_Sl_api_Member z_api_Member _ _ _ _ _ (by omega) (by omega), Int.toNat_natCast, add_off, mefo]
  rw [q_ldAgg (ys := x) u_api_Value rfl (by rw [lx]; exact z_api_Value) (fun j z ez => by have := hy i _ hi (1 + j) z (by rw [Nat.add_comm]; exact ez); rw [← Nat.add_assoc] at this; exact this)]
  exact k
end
theorem T_refSame15 {R : Hp} {ca : List Value} {a : JV} (ja : JvR R ca a) : ∀ {cb : List Value}, JvR R cb a → ∀ {h : Hp}, Hp.cle R h → ∀ {K : Value → Hp → Prop}, K (.bool true) h → Cn P n_orlopref15_Same #[.agg ca.toArray, .agg cb.toArray] h K := by
  induction ja with
  | @mk ka oa na ta la ma sla sma ila ima bta lta lla lma hla nla ela hma nma ema hda ihl ihm =>
    intro cb jb h rc K k
    have jb' := jb
    have ja' : JvR R _ (.mk ka oa na ta la ma) := .mk ila ima bta lta lla lma hla nla ela hma nma ema hda
    cases jb with
    | @mk _ _ _ _ _ _ slb smb ilb imb btb ltb llb lmb hlb nlb elb hmb nmb emb hdb =>
      refine Cn_wk (F_orlopref15_Same ?_)
      unfold s_orlopref15_Same
      refine aw_boxV ja' fun r2 h2 hr2 x2 e2 => ?_
      refine aw_boxV jb' fun r3 h3 hr3 x3 e3 => ?_
      have xx := x2.trans x3
      have rH : Hp.cle R h3 := rc.trans xx.cle
      obtain ⟨a0, a1, a2, a3, a4, a5⟩ := row6 (x3 _ _ e2)
      obtain ⟨b0, b1, b2, b3, b4, b5⟩ := row6 e3
      obtain ⟨va, vac, rfl, hva⟩ := hla.shape
      obtain ⟨wa, wac, rfl, hwa⟩ := hma.shape
      obtain ⟨vb, vbc, rfl, hvb⟩ := hlb.shape
      obtain ⟨wb, wbc, rfl, hwb⟩ := hmb.shape
      intro J2
      have hJ2 : J2 h3 := by
        simp -zeta only [J2]
        refine Lp_mk (fun m vs G => ∃ j : Nat, j + m = la.length ∧ G = h3 ∧ vs = [.bool false, .int .i64 (j : Int)]) la.length ⟨0, by omega, rfl, rfl⟩ ?_
        rintro m vs G ⟨j, hj, rfl, rfl⟩
        simp -zeta only [GL, RL, vaf4, a4, b4, nla, ltN]
        by_cases g : j < la.length
        · rw [decide_eq_true g, if_pos rfl]
          have eca : ila[j]? = some (ila[j]'(by omega)) := List.getElem?_eq_getElem _
          have ecb : ilb[j]? = some (ilb[j]'(by omega)) := List.getElem?_eq_getElem _
          have ex : la[j]? = some la[j] := List.getElem?_eq_getElem _
          have h5 := hla.mono rH
          have h6 := hlb.mono rH
          rw [nla] at h5
          rw [nlb] at h6
          have j1 := ela j _ _ eca ex
          have j2 := elb j _ _ ecb ex
          refine q_itemAtE u_Sl_api_Value z_api_Value u_api_Value rfl h5 eca j1.len ?_
          try simp -zeta only [GL, RL, vaf4, a4, b4]
          try rw [nlb]
          refine q_itemAtE u_Sl_api_Value z_api_Value u_api_Value rfl h6 ecb j2.len ?_
          refine ihl j _ _ eca ex j2 rH ?_
          rw [q_not, cnd_bool, if_neg (by decide), up1 (by omega)]
          exact ⟨G, .refl _, m - 1, by omega, j + 1, by omega, rfl, rfl⟩
        · rw [decide_eq_false g, if_neg (by decide)]
          refine Lp_mk (fun m vs G2 => ∃ j : Nat, j + m = ma.length ∧ G2 = G ∧ vs = [.bool false, .int .i64 (j : Int)]) ma.length ⟨0, by omega, rfl, rfl⟩ ?_
          rintro m2 vs G2 ⟨j2, hj2, rfl, rfl⟩
          simp -zeta only [GL, RL, vaf5, a5, b5, nma, ltN]
          by_cases g2 : j2 < ma.length
          · rw [decide_eq_true g2, if_pos rfl]
            have eca : ima[j2]? = some (ima[j2]'(by omega)) := List.getElem?_eq_getElem _
            have ecb : imb[j2]? = some (imb[j2]'(by omega)) := List.getElem?_eq_getElem _
            have ex : ma[j2]? = some ma[j2] := List.getElem?_eq_getElem _
            have h5 := hma.mono rH
            have h6 := hmb.mono rH
            rw [nma] at h5
            rw [nmb] at h6
            obtain ⟨cs1, ec1, ⟨bn1, ln1⟩, jx1⟩ := meR_of ema hda eca ex
            obtain ⟨cs2, ec2, ⟨bn2, ln2⟩, jx2⟩ := meR_of emb hdb ecb ex
            have ih : ∀ {cb : List Value}, JvR R cb ma[j2].2 → ∀ {h : Hp}, Hp.cle R h → ∀ {K : Value → Hp → Prop}, K (.bool true) h → Cn P n_orlopref15_Same #[.agg cs1.toArray, .agg cb.toArray] h K := by
              intro cb
              have := @ihm j2 _ _ eca ex cb
              rw [ec1] at this
              exact this
            rw [ec1] at eca
            rw [ec2] at ecb
            refine q_nameAt h5 eca ?_
            try simp -zeta only [GL, RL, vaf5, a5, b5]
            try rw [nmb]
            refine q_nameAt h6 ecb ?_
            rw [q_neqSt _ _ bn1 bn2, decide_eq_true rfl]
            simp -zeta only [GL, RL, vaf5, a5, b5, Bool.not_true, if_true]
            try rw [nma]
            refine q_valAt h5 eca jx1.len ?_
            try simp -zeta only [GL, RL, vaf5, a5, b5]
            try rw [nmb]
            refine q_valAt h6 ecb jx2.len ?_
            refine ih jx2 rH ?_
            rw [q_not, cnd_bool, if_neg (by decide), up1 (by omega)]
            exact ⟨G2, .refl _, m2 - 1, by omega, j2 + 1, by omega, rfl, rfl⟩
          · rw [decide_eq_false g2, if_neg (by decide)]
            exact ⟨h, xx.le, k⟩
      clear_value J2
      have nk : (ka != ka) = false := by simp
      have nn : (na != na) = false := by simp
      have no : (!(oa == oa)) = false := by simp
      have nl : (((la.length : Nat) : Int) != ((la.length : Nat) : Int)) = false := by simp
      have nm : (((ma.length : Nat) : Int) != ((ma.length : Nat) : Int)) = false := by simp
      simp -zeta only [GL, RL, vaf0, vaf1, vaf2, vaf3, vaf4, vaf5, a0, a1, a2, a3, a4, a5, b0, b1, b2, b3, b4, b5, nk, nn, nla, nlb, nma, nmb, nl, nm, if_true, Bool.false_eq_true, if_false]
      rw [no, if_pos rfl, q_neqSt _ _ bta bta, decide_eq_true rfl]
      simp -zeta only [GL, Bool.not_true, if_true]
      exact hJ2
theorem parse_err {l : List Nat} {c : Int} (h : parse l = .error c) : c ≠ 0 := by
  rw [parse_fin] at h
  split at h
  · cases h; decide
  · have ve := @value_err 16 l
    generalize value 16 l = e at h ve
    cases e with
    | error c' => cases h; exact ve rfl
    | ok xt =>
      obtain ⟨x, t⟩ := xt
      rw [show fin16 (.ok (x, t)) = if skip t = [] then .ok x else .error 8 from rfl] at h
      split at h
      · cases h
      · cases h; decide
theorem T_JsonReads {h : Hp} {K : Value → Hp → Prop} {v : Value} {l : List Nat} (T : Tab h) (pw : Pow h) (r : Rn h .u8 v l) (bl : Bytes l) (k : ∀ h', K (.bool true) h') : Cn P n_orloplaw15_JsonReads #[v] h K := by
  refine F_orloplaw15_JsonReads ?_
  unfold s_orloplaw15_JsonReads
  refine T_awake15 T pw fun h1 x1 => ?_
  have r1 := r.mono x1.cle
  rw [q_not, cnd_bool, if_neg (by decide), q_bLen r1, q_gtr, cnd_bool]
  by_cases g : 4096 < l.length
  · rw [show decide ((4096 : Int) < ((l.length : Nat) : Int)) = true from decide_eq_true (by omega), if_pos rfl]
    exact k _
  rw [show decide ((4096 : Int) < ((l.length : Nat) : Int)) = false from decide_eq_false (by omega), if_neg (by decide)]
  refine aw_nilB fun w2 h2 n2 => ?_
  refine aw_appB n2 (r1.mono n2.ext.cle) (by simp; omega) fun w3 h3 n3 => ?_
  rw [List.nil_append] at n3
  have x3 := x1.trans n3.ext
  refine T_ParseX (T.mono x3.cle) n3.rn bl fun cs4 h4 x4 j4 => ?_
  have x4' := x3.trans x4
  have r3 := n3.rn.mono x4.cle
  have pm := @parse_may l
  have pe := @parse_err l
  generalize hp : parse l = p at j4 pm pe ⊢
  rw [ext0, ext1]
  refine aw_hold j4 fun r5 h5 hr5 x5 e5 => ?_
  refine T_refParse15 ((r.mono x4'.cle).mono x5.cle) bl fun cs6 h6 x6 j6 => ?_
  rw [hp] at j6 ⊢
  rw [ext0, ext1]
  refine aw_hold j6 fun r7 h7 hr7 x7 e7 => ?_
  have x67 := x6.trans x7
  have x47 := x5.trans x67
  have r37 := r3.mono x47.cle
  have rv7 := (r.mono x4'.cle).mono x47.cle
  have e5' := x67 _ _ e5
  have J4 := j4.mono x47.cle
  have J6 := j6.mono x7.cle
  have ec : ((resV p).2 == (resV p).2) = true := by simp
  rw [q_eql, ec]
  simp -zeta only [GL, if_true]
  refine q_ldV J4 e5' ?_
  refine q_ldV J6 e7 ?_
  refine T_refSame15 J4 J6 (Hp.ext.refl _).cle ?_
  simp -zeta only [GL, if_true]
  have fin : q P h7 (convert t_Sl_uint8 t_string w3) fun t44 => q P h7 (convert t_Sl_uint8 t_string v) fun t46 => q P h7 (eqop .eql t_string (.tmp 44) (.tmp 46) t44 t46) fun t47 => K t47 h7 := by
    rw [q_str r37, q_str rv7, q_eqlSt _ _ bl bl, decide_eq_true rfl]
    exact k _
  by_cases z : (resV p).2 = 0
  · rw [show ((resV p).2 != 0) = false from by rw [z]; rfl]
    simp -zeta only [GL, if_true]
    refine q_ldV J4 e5' ?_
    have T7 := T.mono (x4'.trans x47).cle
    refine T_May J4 (Hp.ext.refl _).cle T7.fst T7.acc ?_
    have hm : mayV 16 (resV p).1 = true := by
      cases p with
      | error c => exact absurd z (pe rfl)
      | ok x => exact pm rfl
    rw [hm]
    simp -zeta only [GL, if_true]
    exact fin
  · rw [show ((resV p).2 != 0) = true from by rw [bne_iff_ne]; exact z]
    simp -zeta only [GL, Bool.true_eq_false, if_false]
    exact fin
end Go.Proofs.YtolcmaipjpkidaaGreatDoor
namespace Go.Proofs.YtolcmaipjpkidaaGreatDoor
open Go Go.SL Go.Pure
open Go.ChangeShapes Go.WideShapes Go.ChangeAt Go.RowKit
namespace jsonReads
theorem laid_met (os : Os) (args : Array Value) : laidMetH Tryz.prog Rows.jsonReadsRow.laid ((World.laidAll Tryz.prog os Rows.jsonReadsRow.laid).forCall (fun _ _ => 0) ⟨#[], args, []⟩).memory := by
  rw [MakeChecks.laidMetH_plain _ _ _ (by kernel_rfl)]
  exact laidMet_laidAll _ (by kernel_rfl) (by kernel_rfl)
theorem lifted (os : Os) (started : os.Started) (H : Type) (enc : TypeId × Value → H) :
    ReturnsInHanded {} Tryz.checked os n_orloplaw15_JsonReads .any (fun w args => (Rows.jsonReadsSpec.pre enc Tryz.prog Tryz.f3 [] false w args ∧ laidMetH Tryz.prog Rows.jsonReadsRow.laid w) ∧ sizedMet enc Tryz.prog Tryz.f3 (OpenSpec.ofChange Rows.jsonReadsSpec) false w args)
      (Rows.jsonReadsSpec.post enc Tryz.prog Tryz.f3 false true false false) := by
  refine returnsInHanded_of_change_and (C := Tryz.checked) (X := fun w _ => laidMetH Tryz.prog Rows.jsonReadsRow.laid w) (fun _ _ _ hh h => h.of_heap hh) ownNone started (by kernel_rfl) Tryz.func3
    (ChangeSpec.witness_shaped (enc := enc) (C := Tryz.checked) (os := os) (X := fun w _ => laidMetH Tryz.prog Rows.jsonReadsRow.laid w) false (World.laidAll Tryz.prog os Rows.jsonReadsRow.laid) #[.slice none 0 0] 8 (World.laidAll_os ..) (World.shaped_of_ZipB (by kernel_rfl) (by kernel_rfl)) (by kernel_rfl) (by kernel_rfl) (by kernel_rfl) (laid_met os _)) ?_
  intro W base args ds gs before hval0 hW _ hsz0 hL _
  have hval : ∀ (j : Nat) t v, Tryz.f3.params[j]? = some t → args[j]? = some v → Value.okWide Tryz.prog W .any base t v := hval0
  have hW' := hW
  obtain ⟨p, q, hA0, hV, rfl, hfz, hnd⟩ := hW
  have hA : DataW.TrodAll enc Tryz.prog W 0 (fun _ => true) true Tryz.f3.params.toList args.toList ds p := hA0
  rw [Tryz.params3] at hA hval
  obtain ⟨v0, vs0, d0, ds0, p0, q0, hargs, rfl, rfl, h0, r0⟩ := trodAll_cons hA
  obtain ⟨rfl, rfl, rfl⟩ := trodAll_nil r0
  obtain rfl : args = #[v0] := by cases args; simp_all
  obtain ⟨rfl, rfl⟩ := trodVars_none hV
  have lt0 : ∀ x ∈ p0, x.block < W.heap.size := by obtain ⟨m, hm⟩ := h0; exact DataW.trod_lt m _ _ _ hm
  obtain ⟨a0, n0, c0, rfl⟩ := okWide_slice Tryz.underlying22 (hval 0 22 v0 rfl rfl)
  obtain ⟨w0, l0, e0, r0', hb0, hl0⟩ := Ty.Rd.asBytes (rd_open Ty.bytes (by kernel_rfl) h0)
  have e0 : [Value.slice a0 n0 c0] = [w0] := e0
  simp only [List.cons.injEq, and_true] at e0
  subst e0
  have T0 := tab_of_laid (W := W) hL
  clear hA0 hval0 hsz0
  refine (tells_true (T_JsonReads (K := fun v _ => v = .bool true) T0.1 T0.2 r0' hb0 fun _ => rfl)).mono fun e W' ⟨he, bel⟩ => ?_
  subst he
  exact ⟨_, rfl, _, _, _, [], _, [], hW', trodAll_mk1 (shut_bool Tryz.underlying4 _), (trodAll_cons_mk (Below.trod laidOut (by kernel_rfl) (of_decide_eq_true (by kernel_rfl)) h0 bel lt0) trodAll_mk0), rfl, bel.frame _, fun h => by cases h⟩
theorem over : Rows.jsonReadsRow.holds Tryz.pinned (OpenSpec.ofChange Rows.jsonReadsSpec) :=
  OpenClaim.holds_of_wide 3 Tryz.f3 rfl rfl rfl rfl rfl rfl rfl ⟨rfl, rfl, rfl, rfl, rfl⟩ rfl rfl rfl rfl rfl (by kernel_rfl) Tryz.func3 (by kernel_rfl)
    (of_decide_eq_true (by kernel_rfl)) (by unfold Func.isWrapper; first | (rw [if_pos (by decide +kernel)]; kernel_rfl) | (rw [if_neg (by decide +kernel)]; exact ⟨rfl, rfl⟩))
    (fun os started H enc _ => lifted os started H enc)
theorem proved : Rows.JsonReadsCardSaid :=
  Claim7.holds_tied_plain_at .later [] [.data, .data, .data, .data, .sentinel, .sentinel, .pinned, .pinned] true (true, "984915d52a11ad6d43a4841d8998c66ab362931bf101cad0c51e0099ee1e103f") true
    over (fun _ h => by cases h) (by kernel_rfl) (fun _ h => by cases h) jsonReads_row_tie rfl ⟨rfl, rfl⟩ (by kernel_rfl) rfl
    (fun f fn hf hfn => by
      obtain rfl : f = 3 := Option.some.inj ((show Tryz.prog.funcNamed "orlop/orloplaw15.JsonReads" = some 3 by kernel_rfl).symm.trans hf) |>.symm
      obtain rfl : fn = Tryz.f3 := (Option.some.inj (Tryz.func3.symm.trans hfn)).symm
      exact ⟨by kernel_rfl, fun j t ht => by
        rw [Tryz.params3] at ht
        have hm : t ∈ [22] := by simpa using Array.mem_of_getElem? ht
        have hall : ([22].all fun u => !Tryz.prog.wantsStandIn u) = true := by kernel_rfl
        exact (show Tryz.prog.wantsStandIn t = false by simpa using List.all_eq_true.1 hall t hm)⟩)
    (by kernel_rfl)
end jsonReads
/-- The card, under a short name. -/
theorem jsonReads_holds : Rows.JsonReadsCardSaid := jsonReads.proved
end Go.Proofs.YtolcmaipjpkidaaGreatDoor
