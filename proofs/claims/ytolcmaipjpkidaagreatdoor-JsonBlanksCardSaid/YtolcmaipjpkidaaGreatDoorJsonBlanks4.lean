/- jsonBlanks_holds jsonBlanks proved lifted over: part 4 of its proof; each part's own remarks stand with its declarations. Conditions: each lemma names its own. -/
import Derived.Test.YtolcmaipjpkidaaGreatDoorJsonBlanks3
import Derived.Test.YtolcmaipjpkidaaGreatDoorRows
import Derived.WalkKit
import Derived.ProofKit
import Derived.OpenShut
import Derived.ShutString
import Derived.ChangeOld
import Derived.Below
import Derived.Carry
import Derived.SizedLaws
import Derived.Lib.SmallJoins
import Derived.LaidHandle
import Derived.MakeChecks
import Derived.Test.YtolcmaipjpkidaaGreatDoorCards
import Derived.Test.YtolcmaipjpkidaaGreatDoorTie
import Derived.LaidMore
import Derived.Lay
import Derived.Stop.Joined
import Derived.SevenTiedAt
set_option linter.unusedSimpArgs false
set_option linter.unusedVariables false
set_option maxRecDepth 100000
set_option maxHeartbeats 1000000
namespace Go.Proofs.YtolcmaipjpkidaaGreatDoor
open Go Go.SL Go.Pure
theorem joinL_snoc (sp x : List Nat) : ∀ {l : List (List Nat)}, l ≠ [] → joinL sp (l ++ [x]) = joinL sp l ++ (sp ++ x)
  | [], h => absurd rfl h
  | a :: r, _ => by simp [joinL]
theorem joinL_sum (sp : List Nat) : ∀ l : List (List Nat), (l.map List.length).sum ≤ (joinL sp l).length
  | [] => by simp
  | a :: r => by
    have key : ∀ r : List (List Nat), (r.map List.length).sum ≤ (r.flatMap (sp ++ ·)).length := by
      intro r
      induction r with
      | nil => simp
      | cons x r ih => simp only [List.map_cons, List.sum_cons, List.flatMap_cons, List.length_append]; omega
    have := key r
    simp only [joinL, List.map_cons, List.sum_cons, List.length_append]
    omega
theorem take_succL {l : List (List Nat)} {i : Nat} (h : i < l.length) : l.take (i + 1) = l.take i ++ [l.getD i []] := by
  rw [List.take_add_one, List.getElem?_eq_getElem h, List.getD_eq_getElem?_getD, List.getElem?_eq_getElem h]; rfl
theorem sum_take {l : List (List Nat)} {i : Nat} (h : i < l.length) : ((l.take (i + 1)).map List.length).sum = ((l.take i).map List.length).sum + (l.getD i []).length := by
  rw [take_succL h, List.map_append, List.sum_append]
  simp
theorem sum_take_le (l : List (List Nat)) (i : Nat) : ((l.take i).map List.length).sum ≤ (l.map List.length).sum := by
  have : (l.map List.length).sum = ((l.take i).map List.length).sum + ((l.drop i).map List.length).sum := by rw [← List.sum_append, ← List.map_append, List.take_append_drop]
  omega
theorem joinL_take {sp : List Nat} (l : List (List Nat)) (i : Nat) : (joinL sp (l.take i)).length ≤ (joinL sp l).length := by
  cases l with
  | nil => simp
  | cons a r =>
    cases i with
    | zero => simp [joinL]
    | succ i =>
      rw [List.take_succ_cons]
      simp only [joinL, List.length_append]
      have : (r.flatMap (sp ++ ·)).length = ((r.take i).flatMap (sp ++ ·)).length + ((r.drop i).flatMap (sp ++ ·)).length := by
        rw [← List.length_append, ← List.flatMap_append, List.take_append_drop]
      omega
theorem joinL_bytes {sp : List Nat} {l : List (List Nat)} (bs : Bytes sp) (hb : ∀ p ∈ l, Bytes p) : Bytes (joinL sp l) := by
  cases l with
  | nil => intro x hx; cases hx
  | cons a r =>
    intro x hx
    rcases List.mem_append.1 hx with q | q
    · exact hb a (by simp) x q
    · obtain ⟨p, hp, q⟩ := List.mem_flatMap.1 q
      rcases List.mem_append.1 q with q | q
      · exact bs x q
      · exact hb p (by simp [hp]) x q
theorem str_pos {h : Hp} {v : Value} {ps : List (List Nat)} (r : Rds h 1 v (strV ps) ps.length) (hp : 0 < ps.length) : ∃ b o c, v = .slice (some ⟨b, o, none⟩) ps.length c ∧ ps.length ≤ c ∧ ∀ i, i < ps.length → h.cell ⟨b, o + i, none⟩ = some (.string (strL (ps.getD i []))) := by
  obtain ⟨_, a, c, rfl, hc, q | ⟨b, o, rfl, hy⟩⟩ := r
  · omega
  · refine ⟨b, o, c, rfl, hc, fun i hi => hy i _ ?_⟩
    rw [strV, List.getElem?_map, List.getElem?_eq_getElem hi, List.getD_eq_getElem?_getD, List.getElem?_eq_getElem hi]
    rfl
theorem getD_memL {l : List (List Nat)} {i : Nat} (h : i < l.length) : l.getD i [] ∈ l := by
  rw [List.getD_eq_getElem?_getD, List.getElem?_eq_getElem h]; exact List.getElem_mem h
section
variable {h : Hp} {K : Value → Hp → Prop}
theorem T_Join {v : Value} {ps : List (List Nat)} {sp : List Nat} (r : Rds h 1 v (strV ps) ps.length) (hb : ∀ p ∈ ps, Bytes p) (bsp : Bytes sp) (lsp : sp.length ≤ 100) (ln : ps.length ≤ 2000000000) (ls : (joinL sp ps).length ≤ 1000000000)
    (k : K (.string (strL (joinL sp ps))) h) : Cn P n_strings_Join #[v, .string (strL sp)] h K := by
  refine Cn_wk (F_strings_Join ?_)
  unfold s_strings_Join
  obtain ⟨a0, c0, rfl, hc0⟩ : ∃ a c, v = .slice a ps.length c ∧ ps.length ≤ c := by
    obtain ⟨_, a, c, e, hc, _⟩ := r
    exact ⟨a, c, e, hc⟩
  have e0 : ((((ps.length : Nat) : Int)) == 0) = decide (ps.length = 0) := by rw [Bool.eq_iff_iff, beq_iff_eq, decide_eq_true_eq]; omega
  have e1 : ((((ps.length : Nat) : Int)) == 1) = decide (ps.length = 1) := by rw [Bool.eq_iff_iff, beq_iff_eq, decide_eq_true_eq]; omega
  simp -zeta only [GL, RL, e0]
  by_cases g0 : ps.length = 0
  · simp -zeta only [g0, decide_true, if_true]
    rw [List.eq_nil_of_length_eq_zero g0] at k
    exact ⟨h, .refl _, k⟩
  simp -zeta only [g0, decide_false, Bool.false_eq_true, if_false, GL, e1]
  obtain ⟨b0, o0, c, ev, hc, hy⟩ := str_pos r (by omega)
  cases ev
  by_cases g1 : ps.length = 1
  · have hx := hy 0 (by omega)
    have i0 : (Value.int .i64 0) = .int .i64 ((0 : Nat) : Int) := rfl
    rw [i0]
    simp -zeta (disch := omega) only [g1, decide_true, if_true, GL, RL, Int.toNat_natCast, hx]
    obtain ⟨a, rfl⟩ := List.length_eq_one_iff.1 g1
    have ej : joinL sp [a] = a := by simp [joinL]
    rw [ej] at k
    exact ⟨h, .refl _, k⟩
  simp -zeta only [g1, decide_false, Bool.false_eq_true, if_false]
  intro J9
  have tot := joinL_sum sp ps
  have q9 : ∀ n0 : Nat, n0 ≤ 200000000000 → J9 (.int .i64 (n0 : Int)) h := fun n0 hn0 => by
    simp -zeta only [J9]
    clear J9
    refine Lp_mk (fun m vs H => ∃ i : Nat, i + m = ps.length ∧ H = h ∧ vs = [.int .i64 ((n0 + ((ps.take i).map List.length).sum : Nat) : Int), .int .i64 (i : Int)]) ps.length ⟨0, by omega, rfl, by simp⟩ ?_
    rintro m vs H ⟨i, hm, rfl, rfl⟩
    simp -zeta only [GL, List.getD_cons_zero, List.getD_cons_succ, lt_dec]
    have st := sum_take_le ps i
    by_cases hlt : i < ps.length
    · have hx := hy i hlt
      have s1 := sum_take hlt
      have st1 := sum_take_le ps (i + 1)
      simp -zeta (disch := omega) only [hlt, decide_true, if_true, GL, RL, Int.toNat_natCast, hx, q_lenSt u_string, strL_size]
      have w1 : IntKind.i64.wrap (9223372036854775807 - ((n0 + ((ps.take i).map List.length).sum : Nat) : Int)) = ((9223372036854775807 - (n0 + ((ps.take i).map List.length).sum) : Nat) : Int) := by rw [wi64 (by omega) (by omega)]; omega
      have d1 : decide (((9223372036854775807 - (n0 + ((ps.take i).map List.length).sum) : Nat) : Int) < (((ps.getD i []).length : Nat) : Int)) = false := decide_eq_false (by omega)
      have w2 : IntKind.i64.wrap (((n0 + ((ps.take i).map List.length).sum : Nat) : Int) + (((ps.getD i []).length : Nat) : Int)) = ((n0 + ((ps.take (i + 1)).map List.length).sum : Nat) : Int) := by rw [wi64 (by omega) (by omega)]; omega
      have w3 : IntKind.i64.wrap ((i : Int) + 1) = ((i + 1 : Nat) : Int) := by rw [wi64 (by omega) (by omega)]; omega
      simp -zeta only [GL, w1, d1, Bool.false_eq_true, if_false, w2, w3]
      exact ⟨H, .refl _, m - 1, by omega, i + 1, by omega, rfl, rfl⟩
    · simp -zeta only [hlt, decide_false, Bool.false_eq_true, if_false]
      refine aw_newBl fun b h1 a1 _ => ?_
      refine T_Grow0 (by omega) a1 fun h2 So2 a2 => ?_
      have hx := a2.1.cle _ _ (hy 0 (by omega))
      have i0 : (Value.int .i64 0) = .int .i64 ((0 : Nat) : Int) := rfl
      rw [i0]
      simp -zeta (disch := omega) only [GL, RL, Int.toNat_natCast, hx]
      have jt0 := joinL_take (sp := sp) ps 1
      have t1 : ps.take 1 = [ps.getD 0 []] := by rw [take_succL (by omega : 0 < ps.length)]; simp
      have ej : joinL sp [ps.getD 0 []] = ps.getD 0 [] := by simp [joinL]
      rw [t1, ej] at jt0
      refine T_WriteString (.inr rfl) a2 (hb _ (getD_memL (by omega))) (by simp only [List.length_nil]; omega) fun h3 So3 a3 => ?_
      rw [List.nil_append] at a3
      have i1 : (Value.int .i64 1) = .int .i64 ((1 : Nat) : Int) := rfl
      rw [i1, q_slLo u_Sl_string z_string (some ⟨b0, o0, none⟩) ps.length c0 .i64 1 (by omega) hc]
      have ec : SL.cut (some ⟨b0, o0, none⟩) c0 1 1 = some ⟨b0, o0 + 1, none⟩ := by unfold SL.cut; rw [if_neg (by omega)]; rfl
      rw [ec]
      simp -zeta only [GL, RL]
      refine Lp_mk (fun m vs H' => ∃ (i : Nat) (So : List Nat), i + m = ps.length - 1 ∧ BlA H H' b So (joinL sp (ps.take (i + 1))) (selfB b) ∧ vs = [.int .i64 (i : Int)]) (ps.length - 1) ⟨0, So3, by omega, by rw [t1, ej]; exact a3, rfl⟩ ?_
      rintro m' vs H' ⟨i', So, hm', a4, rfl⟩
      have dl : decide ((i' : Int) < ((ps.length - 1 : Nat) : Int)) = decide (i' < ps.length - 1) := lt_dec _ _
      simp -zeta only [GL, List.getD_cons_zero, dl]
      by_cases hl2 : i' < ps.length - 1
      · have hx := a4.1.cle _ _ (hy (i' + 1) (by omega))
        have eo : o0 + 1 + i' = o0 + (i' + 1) := by omega
        simp -zeta (disch := omega) only [hl2, decide_true, if_true, GL, RL, Int.toNat_natCast, eo, hx]
        have jt := joinL_take (sp := sp) ps (i' + 1 + 1)
        have ts := take_succL (show i' + 1 < ps.length by omega)
        have tn : ps.take (i' + 1) ≠ [] := fun q => by
          have := congrArg List.length q
          rw [List.length_take, List.length_nil] at this
          omega
        rw [ts, joinL_snoc sp _ tn, List.length_append, List.length_append] at jt
        refine T_WriteString (.inr rfl) a4 bsp (by omega) fun h5 So5 a5 => ?_
        refine T_WriteString (.inr rfl) a5 (hb _ (getD_memL (by omega))) (by rw [List.length_append]; omega) fun h6 So6 a6 => ?_
        have w3 : IntKind.i64.wrap ((i' : Int) + ((1 : Nat) : Int)) = ((i' + 1 : Nat) : Int) := by rw [wi64 (by omega) (by omega)]; omega
        refine ⟨h6, .refl _, m' - 1, by omega, i' + 1, So6, by omega, ?_, by rw [w3]⟩
        rw [ts, joinL_snoc sp _ tn, ← List.append_assoc]
        exact a6
      · simp -zeta only [hl2, decide_false, Bool.false_eq_true, if_false]
        have et : ps.take (i' + 1) = ps := List.take_of_length_le (by omega)
        rw [et] at a4
        have bj : Bytes (joinL sp ps) := joinL_bytes bsp hb
        exact T_bString a4 bj (by omega) ⟨H, .refl _, k⟩
  clear_value J9
  have dsp : decide ((0 : Int) < ((sp.length : Nat) : Int)) = decide (0 < sp.length) := by rw [decide_eq_decide]; omega
  have wm : IntKind.i64.wrap (((ps.length : Nat) : Int) - 1) = ((ps.length - 1 : Nat) : Int) := by rw [wi64 (by omega) (by omega)]; omega
  have qq : IntKind.i64.wrap ((9223372036854775807 : Int).tdiv ((ps.length - 1 : Nat) : Int)) = ((9223372036854775807 / (ps.length - 1) : Nat) : Int) := by
    have e : (9223372036854775807 : Int).tdiv ((ps.length - 1 : Nat) : Int) = ((9223372036854775807 / (ps.length - 1) : Nat) : Int) := (Int.ofNat_tdiv 9223372036854775807 (ps.length - 1)).symm
    have := Nat.div_le_self 9223372036854775807 (ps.length - 1)
    rw [e]
    generalize 9223372036854775807 / (ps.length - 1) = D at *
    rw [wi64 (by omega) (by omega)]
  have big : 101 ≤ 9223372036854775807 / (ps.length - 1) := (Nat.le_div_iff_mul_le (by omega)).2 (by
    have : 101 * (ps.length - 1) ≤ 101 * 2000000000 := Nat.mul_le_mul_left _ (by omega)
    omega)
  generalize 9223372036854775807 / (ps.length - 1) = D at *
  simp -zeta only [strL_size, dsp]
  by_cases gs : 0 < sp.length
  · have d2 : decide (((D : Nat) : Int) ≤ ((sp.length : Nat) : Int)) = false := decide_eq_false (by omega)
    have bm : sp.length * (ps.length - 1) ≤ 100 * 2000000000 := Nat.mul_le_mul lsp (by omega)
    have wmul : IntKind.i64.wrap (((sp.length : Nat) : Int) * ((ps.length - 1 : Nat) : Int)) = ((sp.length * (ps.length - 1) : Nat) : Int) := by
      rw [← Int.natCast_mul, wi64 (by omega) (by omega)]
    have wadd : IntKind.i64.wrap ((0 : Int) + ((sp.length * (ps.length - 1) : Nat) : Int)) = ((sp.length * (ps.length - 1) : Nat) : Int) := by rw [wi64 (by omega) (by omega)]; omega
    have nz : (((ps.length - 1 : Nat) : Int)) ≠ 0 := by omega
    simp -zeta (disch := first | omega | assumption) only [strL_size, gs, decide_true, if_true, GL, RL, wm, qq, d2, Bool.false_eq_true, if_false, wmul, wadd]
    exact q9 _ (by omega)
  · simp -zeta only [gs, decide_false, Bool.false_eq_true, if_false]
    exact q9 0 (by omega)
end
end Go.Proofs.YtolcmaipjpkidaaGreatDoor
namespace Go.Proofs.YtolcmaipjpkidaaGreatDoor
open Go Go.SL Go.Pure Go.Js
/-- Bytes in digits of base sixteen. -/
def hexL (l : List Nat) : List Nat := l.flatMap fun b => [hexc (b / 16), hexc (b % 16)]
theorem hexL_snoc (l : List Nat) (b : Nat) : hexL (l ++ [b]) = hexL l ++ [hexc (b / 16), hexc (b % 16)] := by simp [hexL]
theorem hexL_len : ∀ l : List Nat, (hexL l).length = 2 * l.length
  | [] => rfl
  | a :: l => by
    have := hexL_len l
    unfold hexL at this ⊢
    rw [List.flatMap_cons, List.length_append, this]
    simp; omega
theorem hexDs_get : ∀ i, i < 16 → hexDs.getD i 0 = hexc i := by decide
theorem hexc_b : ∀ i, i < 16 → hexc i < 128 := by decide
theorem and15 : ∀ c : Nat, c < 256 → iand .u8 (c : Int) 15 = ((c % 16 : Nat) : Int) := by decide +kernel
section
variable {h : Hp} {K : Value → Hp → Prop}
theorem T_Hex {v : Value} {l : List Nat} (r : Rn h .u8 v l) (bl : Bytes l) (ll : l.length ≤ 1000000000) (k : K (.string (strL (hexL l))) h) : Cn P n_word_Hex #[v] h K := by
  refine Cn_wk (F_word_Hex ?_)
  unfold s_word_Hex
  obtain ⟨av, cv, rfl, hcv⟩ := r.shape
  rw [hexDs_t]
  simp -zeta only [RL]
  refine Lp_mk (fun m vs H => ∃ (i : Nat) (v : Value), i + m = l.length ∧ Nn h t_uint8 .u8 v H (hexL (l.take i)) ∧ vs = [v, .int .i64 (i : Int)]) l.length ⟨0, _, by omega, Nn.nil .., rfl⟩ ?_
  rintro m vs H ⟨i, v, hi, nn, rfl⟩
  simp -zeta only [GL, ltN]
  by_cases g : i < l.length
  · rw [if_pos (decide_eq_true g)]
    have rH := r.mono nn.cle
    obtain ⟨b, o, rfl, hy⟩ := rH.pos (by omega)
    have hx := hy i g
    have c8 := bl _ (getD_memB g)
    have w1 : IntKind.i64.wrap ((i : Int) + 1) = ((i + 1 : Nat) : Int) := by rw [wi64 (by omega) (by omega)]; omega
    simp -zeta (disch := omega) only [GL, RL, Int.toNat_natCast, hx]
    rw [shr4 _ c8, q_idxSt u_string hexDs_b (by show _ < 16; omega), hexDs_get _ (by omega)]
    rw [and15 _ c8, q_idxSt u_string hexDs_b (by show _ < 16; omega), hexDs_get _ (by omega)]
    refine aw_lit2 _ _ fun w h1 n1 => aw_appF nn n1 (by rw [hexL_len, List.length_take]; simp; omega) fun v2 h2 n2 => ?_
    simp -zeta only [GL, w1]
    refine ⟨h2, .refl _, m - 1, by omega, i + 1, v2, by omega, ?_, rfl⟩
    rw [take_last g, hexL_snoc]
    exact n2
  · rw [if_neg (by simpa using g)]
    rw [List.take_of_length_le (by omega)] at nn
    rw [q_str nn.rn]
    exact ⟨h, nn.ext.le, k⟩
theorem quoteB_b {c : Nat} (hc : c < 256) : Bytes (quoteB c) := by
  unfold quoteB
  split
  · intro x hx; simp at hx; omega
  · split
    · have h1 := hexc_b (c / 16) (by omega)
      have h2 := hexc_b (c % 16) (by omega)
      intro x hx
      simp only [List.mem_cons, List.not_mem_nil, or_false] at hx
      rcases hx with rfl | rfl | rfl | rfl | rfl | rfl <;> omega
    · intro x hx; simp at hx; omega
theorem quoteB_len (c : Nat) : 1 ≤ (quoteB c).length ∧ (quoteB c).length ≤ 6 := by
  unfold quoteB
  split
  · simp
  · split <;> simp
theorem quoteS_b {t : List Nat} (bt : Bytes t) : Bytes (quoteS t) := by
  intro x hx
  unfold quoteS at hx
  rcases List.mem_append.1 hx with hx | hx
  · rcases List.mem_cons.1 hx with rfl | hx
    · omega
    · obtain ⟨c, hc, h⟩ := List.mem_flatMap.1 hx
      exact quoteB_b (bt c hc) x h
  · rw [List.mem_singleton.1 hx]; omega
theorem flatMap_take_le {α β : Type} (f : α → List β) (l : List α) (i : Nat) : ((l.take i).flatMap f).length ≤ (l.flatMap f).length := by
  conv => rhs; rw [← List.take_append_drop i l, List.flatMap_append, List.length_append]
  omega
theorem T_quoted {t : List Nat} (bt : Bytes t) (lt : (quoteS t).length ≤ 1000000000) (k : K (.string (strL (quoteS t))) h) : Cn P n_json_quoted #[.string (strL t)] h K := by
  refine Cn_wk (F_json_quoted ?_)
  unfold s_json_quoted
  have ef : quoteS t = ([34] ++ t.flatMap quoteB) ++ [34] := rfl
  have lf : (t.flatMap quoteB).length + 2 = (quoteS t).length := by rw [ef]; simp
  have tl : t.length ≤ (t.flatMap quoteB).length := by
    have : ∀ l : List Nat, l.length ≤ (l.flatMap quoteB).length := fun l => by
      induction l with
      | nil => simp
      | cons a l ih => rw [List.flatMap_cons, List.length_append, List.length_cons]; have := (quoteB_len a).1; omega
    exact this t
  refine aw_lit1 34 fun w0 h0 n0 => ?_
  rw [q_lenSt u_string]
  refine Lp_mk (fun m vs H => ∃ (i : Nat) (v : Value), i + m = t.length ∧ Nn h t_uint8 .u8 v H ([34] ++ (t.take i).flatMap quoteB) ∧ vs = [v, .int .i64 (i : Int)]) t.length ⟨0, w0, by omega, by simpa using n0, rfl⟩ ?_
  rintro m vs H ⟨i, v, hi, nn, rfl⟩
  simp -zeta only [GL, ltN]
  by_cases g : i < t.length
  · rw [if_pos (decide_eq_true g), q_idxSt u_string bt g]
    have c8 := bt _ (getD_memB g)
    have w1 : IntKind.i64.wrap ((i : Int) + 1) = ((i + 1 : Nat) : Int) := by rw [wi64 (by omega) (by omega)]; omega
    have tk : (t.take (i + 1)).flatMap quoteB = (t.take i).flatMap quoteB ++ quoteB (t.getD i 0) := by rw [take_last g, List.flatMap_append]; simp
    have lk : ([34] ++ (t.take i).flatMap quoteB).length ≤ 1000000000 := by
      rw [List.length_append, List.length_singleton]
      have := flatMap_take_le quoteB t i
      omega
    generalize t.getD i 0 = c at *
    have lq := quoteB_len c
    have nxt : ∀ (v2 : Value) (h2 : Hp), Nn h t_uint8 .u8 v2 h2 (([34] ++ (t.take i).flatMap quoteB) ++ quoteB c) → ∃ h0, Hp.le h0 h2 ∧ ∃ m', m' < m ∧ ∃ (j : Nat) (v : Value), j + m' = t.length ∧ Nn h t_uint8 .u8 v h0 ([34] ++ (t.take j).flatMap quoteB) ∧ [v2, .int .i64 ((i + 1 : Nat) : Int)] = [v, .int .i64 (j : Int)] := fun v2 h2 n2 =>
      ⟨h2, .refl _, m - 1, by omega, i + 1, v2, by omega, by rw [tk, ← List.append_assoc]; exact n2, rfl⟩
    have b34 : (((c : Nat) : Int) == 34) = decide (c = 34) := by rw [Bool.eq_iff_iff, beq_iff_eq, decide_eq_true_eq]; omega
    have b92 : (((c : Nat) : Int) == 92) = decide (c = 92) := by rw [Bool.eq_iff_iff, beq_iff_eq, decide_eq_true_eq]; omega
    intro J11
    have q11 : ∀ b : Bool, (b = true ↔ c = 34 ∨ c = 92) → J11 (.bool b) H := fun b hb => by
      simp -zeta only [J11]
      clear J11
      rw [cnd_bool]
      by_cases g1 : c = 34 ∨ c = 92
      · rw [if_pos (hb.2 g1)]
        have eq : quoteB c = [92, c] := by unfold quoteB; rw [if_pos g1]
        rw [eq] at nxt
        refine aw_lit2 92 c fun w h1 n1 => aw_appF nn n1 (by simp only [List.length_cons, List.length_nil]; omega) fun v2 h2 n2 => ?_
        simp -zeta only [GL, w1]
        exact nxt v2 h2 n2
      · rw [if_neg (fun q => g1 (hb.1 q))]
        have d32 : decide (((c : Nat) : Int) < 32) = decide (c < 32) := ltN c 32
        simp -zeta only [GL, d32]
        by_cases g2 : c < 32
        · rw [if_pos (decide_eq_true g2)]
          have eq : quoteB c = [92, 117, 48, 48, hexc (c / 16), hexc (c % 16)] := by unfold quoteB; rw [if_neg g1, if_pos g2]
          rw [eq] at nxt
          have t4 : (⟨#[92, 117, 48, 48]⟩ : ByteArray) = strL [92, 117, 48, 48] := by kernel_rfl
          refine aw_lit1 c fun w h1 n1 => ?_
          refine T_Hex n1.rn (by intro x hx; rw [List.mem_singleton.1 hx]; omega) (by simp) ?_
          have eh : hexL [c] = [hexc (c / 16), hexc (c % 16)] := rfl
          rw [eh, t4, q_addSt _ _ (by simp)]
          have bb : Bytes ([92, 117, 48, 48] ++ [hexc (c / 16), hexc (c % 16)]) := by
            have := quoteB_b (show c < 256 by omega)
            rw [eq] at this
            exact this
          obtain ⟨b1, cc, f, nb1, hc1, ew, eh1, _⟩ := n1.form (by simp)
          have nn' : Nn (h.set b1 (.row t_uint8 (nv .u8 [c]) (cc * 1) (some f))) t_uint8 .u8 v h1 ([34] ++ (t.take i).flatMap quoteB) := by
            rw [eh1]
            exact New.add nn nb1 _
          refine aw_appendT (h0 := h) u_Sl_uint8 u_string nfo8 rfl rfl rfl bb rfl (strL_size _) nn' (nv_flat _ _) (by simp only [strL_size, List.length_append, List.length_cons, List.length_nil] at lk ⊢; omega) (le_fresh (nn.ext.none nb1)) fun v2 h2 n2 => ?_
          simp -zeta only [GL, w1]
          refine nxt v2 h2 ?_
          rw [← nv_app, ← List.length_append] at n2
          exact n2
        · rw [if_neg (by simpa using g2)]
          have eq : quoteB c = [c] := by unfold quoteB; rw [if_neg g1, if_neg g2]
          rw [eq] at nxt
          refine aw_lit1 c fun w h1 n1 => aw_appF nn n1 (by simp only [List.length_cons, List.length_nil]; omega) fun v2 h2 n2 => ?_
          simp -zeta only [GL, w1]
          exact nxt v2 h2 n2
    clear_value J11
    simp -zeta only [GL, b34]
    by_cases g3 : c = 34
    · simp -zeta only [g3, decide_true, Bool.true_eq_false, if_false]
      exact q11 true ⟨fun _ => .inl g3, fun _ => rfl⟩
    · simp -zeta only [g3, decide_false, if_true, GL, b92]
      exact q11 _ (by rw [decide_eq_true_eq]; exact ⟨.inr, fun q => q.resolve_left g3⟩)
  · rw [if_neg (by simpa using g)]
    rw [List.take_of_length_le (by omega)] at nn
    refine aw_lit1 34 fun w h1 n1 => aw_appF nn n1 (by simp only [List.length_append, List.length_cons, List.length_nil]; omega) fun v2 h2 n2 => ?_
    rw [q_str n2.rn, ← ef]
    exact ⟨h, n2.ext.le, k⟩
end

mutual
/-- A value's text. -/
def writeV : JV → List Nat
  | .mk k o n t l m => if k = 1 then boolL o else if k = 2 then decI n else if k = 3 then quoteS t else if k = 4 then (91 :: joinL [44] (writeL l)) ++ [93] else if k = 5 then (123 :: joinL [44] (writeM m)) ++ [125] else [110, 117, 108, 108]
def writeL : List JV → List (List Nat)
  | [] => []
  | x :: l => writeV x :: writeL l
def writeM : List (List Nat × JV) → List (List Nat)
  | [] => []
  | p :: l => ((quoteS p.1 ++ [58]) ++ writeV p.2) :: writeM l
end
theorem writeL_map : ∀ l, writeL l = l.map writeV
  | [] => rfl
  | x :: l => by rw [writeL, writeL_map l]; rfl
theorem writeM_map : ∀ l, writeM l = l.map fun p => (quoteS p.1 ++ [58]) ++ writeV p.2
  | [] => rfl
  | x :: l => by rw [writeM, writeM_map l]; rfl
theorem decI_b (n : Int) : Bytes (decI n) := by
  unfold decI
  have := Go.Tar.asc_bytes (fun x hx => by have := Go.Tar.dig_lt (b := 10) (by decide) n.natAbs x hx; omega)
  split
  · intro x hx
    rcases List.mem_cons.1 hx with rfl | hx
    · omega
    · exact this x hx
  · exact this
theorem boolL_b (o : Bool) : Bytes (boolL o) := by cases o <;> (unfold Bytes; decide)
theorem bytes_app {a b : List Nat} (ha : Bytes a) (hb : Bytes b) : Bytes (a ++ b) := fun x hx => (List.mem_append.1 hx).elim (ha x) (hb x)
theorem sum_ge {sp : List Nat} : ∀ {l : List (List Nat)} {x : List Nat}, x ∈ l → x.length ≤ (l.map fun x => (sp ++ x).length).sum
  | b :: l, x, h => by
    rw [List.map_cons, List.sum_cons, List.length_append]
    rcases List.mem_cons.1 h with rfl | h
    · omega
    · have := sum_ge (sp := sp) h; omega
theorem sum_cnt (c : Nat) : ∀ l : List (List Nat), l.length ≤ (l.map fun x => ([c] ++ x).length).sum
  | [] => Nat.le_refl _
  | b :: l => by
    have := sum_cnt c l
    rw [List.map_cons, List.sum_cons, List.length_append, List.length_cons, List.length_singleton]; omega
theorem joinL_le {sp : List Nat} : ∀ {l : List (List Nat)} {x : List Nat}, x ∈ l → x.length ≤ (joinL sp l).length
  | a :: l, x, h => by
    unfold joinL
    rw [List.length_append, List.length_flatMap]
    rcases List.mem_cons.1 h with rfl | h
    · omega
    · have := sum_ge (sp := sp) h
      omega
theorem joinL_count (c : Nat) : ∀ l : List (List Nat), l.length ≤ (joinL [c] l).length + 1
  | [] => by simp
  | a :: l => by
    have := sum_cnt c l
    unfold joinL
    rw [List.length_append, List.length_flatMap, List.length_cons]
    omega
/-- A value's strings are bytes, its numbers have up to sixteen digits. -/
def NumOk : Nat → JV → Prop
  | 0, _ => False
  | d + 1, .mk k o n t l m => n.natAbs < 10000000000000000 ∧ (∀ x ∈ l, NumOk d x) ∧ ∀ p ∈ m, NumOk d p.2
theorem numOk_may : ∀ {d : Nat} {v : JV}, mayV d v = true → NumOk d v
  | 0, v, h => by cases h
  | d + 1, .mk k o n t l m, h => by
    simp only [mayV, Bool.and_eq_true, decide_eq_true_eq, List.all_eq_true] at h
    exact ⟨by have := h.1.1.1.1.2; omega, fun x hx => numOk_may (h.2 x hx), fun p hp => numOk_may (h.1.2 p hp).2⟩
section
variable {h : Hp} {K : Value → Hp → Prop}
theorem nfo_st : (P.info? t_string).map (fun i => (i.zero, i.size, i.bytes)) = some (some (.string ByteArray.empty), 1, 16) := by kernel_rfl
theorem strV_snoc (l : List (List Nat)) (x : List Nat) : strV l ++ [.string (strL x)] = strV (l ++ [x]) := by simp [strV]
/-- A text is appended to a row of texts that grows; what was made beside is forgotten. -/
theorem aw_app1St {H0 H : Hp} {v : Value} {xs : List (List Nat)} (nn : New h t_string 1 v H0 (strV xs) xs.length) (le : Hp.ext H0 H) (fr : Hp.ext h H0) (x : List Nat) (ln : xs.length ≤ 2000000000)
    (k : ∀ v' h', (∃ h0, Hp.le h0 h' ∧ New h t_string 1 v' h0 (strV (xs ++ [x])) (xs ++ [x]).length) → K v' h') :
    aw P (Instr.buildSlice t_Sl_string 1 #[(0, .string (strL x))]) (fun t h => aw P (Builtin.append_ #[t_Sl_string, t_Sl_string] t_Sl_string #[v, t]) (fun w h => K w h) h) H := by
  refine aw_lit (ps := [(0, .string (strL x))]) u_Sl_string z_string zr_string rfl (by decide) (fun p hp => by rw [List.mem_singleton.1 hp]; exact ⟨rfl, by omega⟩) fun w h2 n2 _ => ?_
  have e2 := n2.ext
  obtain ⟨So, o, frS⟩ := OutAt.of nn
  have o2 : OutAt t_string 1 h2 v (strV xs) xs.length So := o.keep fun y hy => by
    obtain ⟨z, hz⟩ := out_some o hy
    rw [hz, e2 _ _ (le _ _ hz)]
  refine aw_appendO u_Sl_string u_Sl_string nfo_st rfl (by omega) o2 n2.rds (by intro y hy; simp [fillL] at hy; rw [hy]; rfl) (by omega) fun v' h3 So' o3 kp fr3 => ?_
  refine k v' h3 ?_
  have kph : ∀ y o, h y = some o → h3 y = some o := fun y o e => kp y o (fun q => by rw [frS y q] at e; cases e) (e2 _ _ (le _ _ (fr _ _ e)))
  have es : strV xs ++ fillL [(0, Value.string (strL x))] (List.replicate 1 (.string ByteArray.empty)) = strV (xs ++ [x]) := by rw [← strV_snoc]; rfl
  rw [es] at o3
  have len : xs.length + 1 = (xs ++ [x]).length := by simp
  rw [len] at o3
  rcases o3 with ⟨_, q, _⟩ | ⟨b, c, f, hb, rfl, hc, hf, rfl, l1⟩
  · simp at q
  · refine ⟨h.set b (.row t_string (strV (xs ++ [x])) (c * 1) (some f)), fun y o e => ?_, l1, .inr ⟨b, c, f, ?_, hc, rfl, rfl, hf⟩⟩
    · by_cases q : y = b
      · subst q; rw [Hp.set_same] at e; cases e; exact ⟨_, hb, .refl _⟩
      · rw [Hp.set_ne _ _ q] at e; exact ⟨o, kph y o e, .refl _⟩
    · cases e : h b with
      | none => rfl
      | some o =>
        have nb : b ∉ So := fun q => by rw [frS b q] at e; cases e
        exact absurd (List.mem_singleton.2 rfl) (fr3 b o nb (e2 _ _ (le _ _ (fr _ _ e))))
theorem writeV_b : ∀ {R : Hp} {cs : List Value} {v : JV}, JvR R cs v → Bytes (writeV v) := by
  intro R cs v j
  induction j with
  | @mk ka oa na ta la ma sla sma ila ima bta lta lla lma hla nla ela hma nma ema hda ihl ihm =>
    rw [writeV]
    split
    · exact boolL_b _
    · split
      · exact decI_b _
      · split
        · exact quoteS_b bta
        · have c1 : ∀ c : Nat, c < 256 → Bytes [c] := fun c hc x hx => by rw [List.mem_singleton.1 hx]; exact hc
          split
          · refine bytes_app (bytes_app (a := [91]) (c1 _ (by omega)) (joinL_bytes (c1 _ (by omega)) fun p hp => ?_)) (c1 _ (by omega))
            rw [writeL_map] at hp
            obtain ⟨x, hx, rfl⟩ := List.mem_map.1 hp
            obtain ⟨i, hi, e⟩ := List.getElem_of_mem hx
            exact ihl i _ x (List.getElem?_eq_getElem (show i < ila.length by omega)) (by rw [← e]; exact List.getElem?_eq_getElem hi)
          · split
            · refine bytes_app (bytes_app (a := [123]) (c1 _ (by omega)) (joinL_bytes (c1 _ (by omega)) fun p hp => ?_)) (c1 _ (by omega))
              rw [writeM_map] at hp
              obtain ⟨x, hx, rfl⟩ := List.mem_map.1 hp
              obtain ⟨i, hi, e⟩ := List.getElem_of_mem hx
              have e1 := List.getElem?_eq_getElem (show i < ima.length by omega)
              have e2 : ma[i]? = some x := by rw [← e]; exact List.getElem?_eq_getElem hi
              exact bytes_app (bytes_app (quoteS_b (hda i _ x e1 e2).2.1) (c1 _ (by omega))) (ihm i _ x e1 e2)
            · unfold Bytes; decide
theorem T_written : ∀ {d : Nat} {R : Hp} {cs : List Value} {v : JV}, JvR R cs v → NumOk d v → (writeV v).length ≤ 1000000000 → ∀ {h : Hp}, Hp.cle R h → Pow R → ∀ {K : Value → Hp → Prop}, K (.string (strL (writeV v))) h → Cn P n_json_written #[.agg cs.toArray] h K
  | 0, R, cs, v, j, no, lw, h, rc, pw, K, k => no.elim
  | d + 1, R, cs, v, j, no, lw, h, rc, pw, K, k => by
    have bw := writeV_b j
    cases j with
    | @mk ka oa na ta la ma sla sma ila ima bta lta lla lma hla nla ela hma nma ema hda =>
      obtain ⟨no1, no2, no3⟩ := no
      refine Cn_wk (F_json_written ?_)
      unfold s_json_written
      refine aw_box fun r2 hr2 => ?_
      have x2 := ext_set (.row t_api_Value (Value.agg [.int .i64 ka, .bool oa, .int .i64 na, .string (strL ta), sla, sma].toArray).cells.toList (Value.agg [.int .i64 ka, .bool oa, .int .i64 na, .string (strL ta), sla, sma].toArray).cells.size (some (0, 0))) hr2
      have e2 : (h.set r2 (.row t_api_Value (Value.agg [.int .i64 ka, .bool oa, .int .i64 na, .string (strL ta), sla, sma].toArray).cells.toList (Value.agg [.int .i64 ka, .bool oa, .int .i64 na, .string (strL ta), sla, sma].toArray).cells.size (some (0, 0)))) r2 = some (.row t_api_Value [.int .i64 ka, .bool oa, .int .i64 na, .string (strL ta), sla, sma] 6 (some (0, 0))) := Hp.set_same ..
      generalize h.set r2 (.row t_api_Value (Value.agg [.int .i64 ka, .bool oa, .int .i64 na, .string (strL ta), sla, sma].toArray).cells.toList (Value.agg [.int .i64 ka, .bool oa, .int .i64 na, .string (strL ta), sla, sma].toArray).cells.size (some (0, 0))) = H at x2 e2 ⊢
      have rH : Hp.cle R H := rc.trans x2.cle
      obtain ⟨a0, a1, a2, a3, a4, a5⟩ := row6 e2
      simp -zeta only [RL, GL, vaf0, vaf1, vaf2, vaf3, vaf4, vaf5, a0, a1, a2, a3, a4, a5]
      rw [writeV] at k lw bw
      by_cases g1 : ka = 1
      · rw [if_pos g1] at k
        rw [if_pos (by simpa using g1)]
        exact T_FormatBool ⟨h, x2.le, k⟩
      rw [if_neg g1] at k lw bw
      rw [if_neg (by simpa using g1)]
      by_cases g2 : ka = 2
      · rw [if_pos g2] at k
        rw [if_pos (by simpa using g2)]
        exact T_FormatInt10 (pw.mono rH) no1 ⟨h, x2.le, k⟩
      rw [if_neg g2] at k lw bw
      rw [if_neg (by simpa using g2)]
      by_cases g3 : ka = 3
      · rw [if_pos g3] at k lw
        rw [if_pos (by simpa using g3)]
        exact T_quoted bta lw ⟨h, x2.le, k⟩
      rw [if_neg g3] at k lw bw
      rw [if_neg (by simpa using g3)]
      have c44 : Bytes [44] := by unfold Bytes; decide
      have t44 : (⟨#[44]⟩ : ByteArray) = strL [44] := by kernel_rfl
      by_cases g4 : ka = 4
      · rw [if_pos g4] at k lw bw
        rw [if_pos (by simpa using g4)]
        rw [writeL_map] at k lw bw
        obtain ⟨va, vc, rfl, hvc⟩ := hla.shape
        rw [nla] at hla hvc ⊢
        simp -zeta only [RL, GL]
        have lj : (joinL [44] (la.map writeV)).length ≤ 1000000000 := by rw [List.length_append, List.length_cons] at lw; omega
        have lcnt := joinL_count 44 (la.map writeV)
        rw [List.length_map] at lcnt
        refine Lp_mk (fun m vs G => ∃ (i : Nat) (v : Value), i + m = la.length ∧ New H t_string 1 v G (strV ((la.take i).map writeV)) ((la.take i).map writeV).length ∧ vs = [v, .int .i64 (i : Int)]) la.length ⟨0, _, by omega, ⟨rfl, .inl ⟨rfl, rfl, rfl⟩⟩, rfl⟩ ?_
        rintro m vs G ⟨i, v, hi, nn, rfl⟩
        simp -zeta only [GL, ltN]
        by_cases g : i < la.length
        · rw [if_pos (decide_eq_true g)]
          have ec : ila[i]? = some (ila[i]'(by omega)) := List.getElem?_eq_getElem _
          have ex : la[i]? = some la[i] := List.getElem?_eq_getElem _
          have jx := ela i _ _ ec ex
          have w1 : IntKind.i64.wrap ((i : Int) + 1) = ((i + 1 : Nat) : Int) := by rw [wi64 (by omega) (by omega)]; omega
          have rG : Hp.cle R G := rH.trans nn.ext.cle
          refine aw_itemAt (zs := row0 0) u_Sl_api_Value z_api_Value u_api_Value rfl zr_Jv rfl (hla.mono rG) (fun _ _ e => e) ec jx.len jx.flat fun r5 hr5 => ?_
          have x5 := ext_set (.row t_api_Value (ila[i]'(by omega)) 6 (some (0, 0))) hr5
          rw [q_ldRow (ys := ila[i]'(by omega)) u_api_Value rfl (by rw [jx.len]; exact z_api_Value) (Hp.set_same ..)]
          have lx : (writeV la[i]).length ≤ 1000000000 := Nat.le_trans (joinL_le (List.mem_map.2 ⟨_, List.getElem_mem g, rfl⟩)) lj
          refine T_written jx (no2 _ (List.getElem_mem g)) lx (rG.trans x5.cle) pw ?_
          refine aw_app1St nn x5 nn.ext _ (by rw [List.length_map, List.length_take]; omega) fun v' h' ⟨h0, le0, n0⟩ => ?_
          simp -zeta only [GL, w1]
          refine ⟨h0, le0, m - 1, by omega, i + 1, v', by omega, ?_, rfl⟩
          have : (la.take (i + 1)).map writeV = (la.take i).map writeV ++ [writeV la[i]] := by rw [List.take_add_one, ex, List.map_append]; rfl
          rw [this]
          exact n0
        · rw [if_neg (by simpa using g)]
          rw [List.take_of_length_le (by omega)] at nn
          rw [t44]
          have bj : ∀ p ∈ la.map writeV, Bytes p := fun p hp => by
            obtain ⟨x, hx, rfl⟩ := List.mem_map.1 hp
            obtain ⟨i, hi, e⟩ := List.getElem_of_mem hx
            exact writeV_b (ela i _ x (List.getElem?_eq_getElem (show i < ila.length by omega)) (by rw [← e]; exact List.getElem?_eq_getElem hi))
          refine T_Join nn.rds bj c44 (by decide) (by rw [List.length_map]; omega) lj ?_
          have t91 : (⟨#[91]⟩ : ByteArray) = strL [91] := by kernel_rfl
          have t93 : (⟨#[93]⟩ : ByteArray) = strL [93] := by kernel_rfl
          rw [t91, t93, q_addSt _ _ (by simp only [List.length_cons, List.length_nil]; omega), q_addSt _ _ (by simp only [List.length_append, List.length_cons, List.length_nil]; omega)]
          exact ⟨h, (x2.trans nn.ext).le, k⟩
      rw [if_neg g4] at k lw bw
      rw [if_neg (by simpa using g4)]
      by_cases g5 : ka = 5
      · rw [if_pos g5] at k lw bw
        rw [if_pos (by simpa using g5)]
        rw [writeM_map] at k lw bw
        obtain ⟨va, vc, rfl, hvc⟩ := hma.shape
        rw [nma] at hma hvc ⊢
        simp -zeta only [RL, GL]
        generalize hW : (fun p : List Nat × JV => (quoteS p.1 ++ [58]) ++ writeV p.2) = W at k lw bw
        have lj : (joinL [44] (ma.map W)).length ≤ 1000000000 := by rw [List.length_append, List.length_cons] at lw; omega
        have lcnt := joinL_count 44 (ma.map W)
        rw [List.length_map] at lcnt
        refine Lp_mk (fun m vs G => ∃ (i : Nat) (v : Value), i + m = ma.length ∧ New H t_string 1 v G (strV ((ma.take i).map W)) ((ma.take i).map W).length ∧ vs = [v, .int .i64 (i : Int)]) ma.length ⟨0, _, by omega, ⟨rfl, .inl ⟨rfl, rfl, rfl⟩⟩, rfl⟩ ?_
        rintro m vs G ⟨i, v, hi, nn, rfl⟩
        simp -zeta only [GL, ltN]
        by_cases g : i < ma.length
        · rw [if_pos (decide_eq_true g)]
          have ec : ima[i]? = some (ima[i]'(by omega)) := List.getElem?_eq_getElem _
          have ex : ma[i]? = some ma[i] := List.getElem?_eq_getElem _
          have me : MeR R (ima[i]'(by omega)) ma[i] := meR_of ema hda ec ex
          obtain ⟨cs, ecs, ⟨bn, ln⟩, jx⟩ := me
          have me : MeR R (ima[i]'(by omega)) ma[i] := meR_of ema hda ec ex
          have w1 : IntKind.i64.wrap ((i : Int) + 1) = ((i + 1 : Nat) : Int) := by rw [wi64 (by omega) (by omega)]; omega
          have rG : Hp.cle R G := rH.trans nn.ext.cle
          have lx : (W ma[i]).length ≤ 1000000000 := Nat.le_trans (joinL_le (List.mem_map.2 ⟨_, List.getElem_mem g, rfl⟩)) lj
          have nox := no3 _ (List.getElem_mem g)
          have tk : (ma.take (i + 1)).map W = (ma.take i).map W ++ [W ma[i]] := by rw [List.take_add_one, ex, List.map_append]; rfl
          have l7 := me.len
          have f7 := me.flat
          have eW : W ma[i] = (quoteS ma[i].1 ++ [58]) ++ writeV ma[i].2 := by rw [← hW]
          rw [eW] at lx
          rw [List.length_append, List.length_append, List.length_singleton] at lx
          generalize ma[i] = x at *
          generalize hc : ima[i]'(by omega) = cc at *
          subst ecs
          refine aw_itemAt (zs := .string ⟨#[]⟩ :: row0 0) u_Sl_api_Member z_api_Member u_api_Member rfl zr_Me rfl (hma.mono rG) (fun _ _ e => e) ec l7 f7 fun r7 hr7 => ?_
          have x7 := ext_set (.row t_api_Member (.string (strL x.1) :: cs) 7 (some (0, 0))) hr7
          have e7 : (G.set r7 (.row t_api_Member (.string (strL x.1) :: cs) 7 (some (0, 0)))) r7 = some (.row t_api_Member (.string (strL x.1) :: cs) 7 (some (0, 0))) := Hp.set_same ..
          have rG7 := rG.trans x7.cle
          generalize G.set r7 (.row t_api_Member (.string (strL x.1) :: cs) 7 (some (0, 0))) = G7 at *
          obtain ⟨p0, p1⟩ := mef e7 jx.len
          simp -zeta only [RL, GL, mef0, mef1, p0]
          refine p1 _ ?_
          refine T_quoted bn (by omega) ⟨?_, pk_q fun K => mef1 r7, ?_⟩
          · refine pk_q fun K => ?_
            rw [q_ldAgg (ys := cs) (b := r7) (o := 1) u_api_Value rfl (by rw [jx.len]; exact z_api_Value) (fun j z ez => by rw [cell_row e7, Nat.add_comm]; simpa using ez)]
          have t58 : (⟨#[58]⟩ : ByteArray) = strL [58] := by kernel_rfl
          rw [t58, q_addSt _ _ (by rw [List.length_singleton]; omega)]
          refine T_written jx nox (by omega) rG7 pw ?_
          rw [q_addSt _ _ (by rw [List.length_append, List.length_singleton]; omega), ← eW]
          refine aw_app1St nn x7 nn.ext _ (by rw [List.length_map, List.length_take]; omega) fun v' h' ⟨h0, le0, n0⟩ => ?_
          simp -zeta only [GL, w1]
          refine ⟨h0, le0, m - 1, by omega, i + 1, v', by omega, ?_, rfl⟩
          rw [tk]
          exact n0
        · rw [if_neg (by simpa using g)]
          rw [List.take_of_length_le (by omega)] at nn
          rw [t44]
          have bj : ∀ p ∈ ma.map W, Bytes p := fun p hp => by
            obtain ⟨x, hx, rfl⟩ := List.mem_map.1 hp
            obtain ⟨i, hi, e⟩ := List.getElem_of_mem hx
            have e1 := List.getElem?_eq_getElem (show i < ima.length by omega)
            have e2 : ma[i]? = some x := by rw [← e]; exact List.getElem?_eq_getElem hi
            rw [← hW]
            exact bytes_app (bytes_app (quoteS_b (hda i _ x e1 e2).2.1) (by intro y hy; rw [List.mem_singleton.1 hy]; omega)) (writeV_b (ema i _ x e1 e2))
          refine T_Join nn.rds bj c44 (by decide) (by rw [List.length_map]; omega) lj ?_
          have t123 : (⟨#[123]⟩ : ByteArray) = strL [123] := by kernel_rfl
          have t125 : (⟨#[125]⟩ : ByteArray) = strL [125] := by kernel_rfl
          rw [t123, t125, q_addSt _ _ (by simp only [List.length_cons, List.length_nil]; omega), q_addSt _ _ (by simp only [List.length_append, List.length_cons, List.length_nil]; omega)]
          exact ⟨h, (x2.trans nn.ext).le, k⟩
      rw [if_neg g5] at k
      rw [if_neg (by simpa using g5)]
      have tn : (⟨#[110, 117, 108, 108]⟩ : ByteArray) = strL [110, 117, 108, 108] := by kernel_rfl
      rw [tn]
      exact ⟨h, x2.le, k⟩
end
end Go.Proofs.YtolcmaipjpkidaaGreatDoor
namespace Go.Proofs.YtolcmaipjpkidaaGreatDoor
open Go Go.SL Go.Pure Go.Js
section
variable {R h : Hp} {K : Value → Hp → Prop}
theorem aw_boxV {cs : List Value} {v : JV} (j : JvR R cs v) (k : ∀ r H, h r = none → Hp.ext h H → H r = some (.row t_api_Value cs 6 (some (0, 0))) → K (.pointer (some ⟨r, 0, none⟩)) H) : aw P (Instr.box t_api_Value (.agg cs.toArray)) K h := by
  refine aw_box fun r hr => ?_
  have e : (Value.agg cs.toArray).cells.toList = cs := rfl
  have e2 : (Value.agg cs.toArray).cells.size = 6 := j.len
  rw [e, e2]
  exact k r _ hr (ext_set _ hr) (Hp.set_same ..)
theorem q_ldV {cs : List Value} {v : JV} (j : JvR R cs v) {r : Nat} {H : Hp} (e : H r = some (.row t_api_Value cs 6 (some (0, 0)))) {F : Value → Prop} (f : F (.agg cs.toArray)) : q P H (Instr.loadAt t_api_Value (.pointer (some ⟨r, 0, none⟩))) F := by
  rw [q_ldRow (ys := cs) u_api_Value rfl (by rw [j.len]; exact z_api_Value) e]
  exact f
theorem T_May {cs : List Value} {v : JV} (j : JvR R cs v) (rc : Hp.cle R h) (F : Fst R) (A : Acc R) (k : K (.bool (mayV 16 v)) h) : Cn P n_json_May #[.agg cs.toArray] h K := by
  refine Cn_wk (F_json_May ?_)
  unfold s_json_May
  refine aw_boxV j fun r H hr x e => ?_
  refine q_ldV j e ?_
  exact T_mayJ (d := 16) (Nat.le_refl _) j (rc.trans x.cle) F A ⟨h, x.le, k⟩
/-- A value's text, or none. -/
def writeJ (v : JV) : List Nat := if mayV 16 v = true then writeV v else []
theorem T_Write {cs : List Value} {v : JV} (j : JvR R cs v) (rc : Hp.cle R h) (F : Fst R) (A : Acc R) (pw : Pow R) (lw : mayV 16 v = true → (writeV v).length ≤ 1000000000) (k : K (.string (strL (writeJ v))) h) : Cn P n_json_Write #[.agg cs.toArray] h K := by
  refine Cn_wk (F_json_Write ?_)
  unfold s_json_Write
  refine aw_boxV j fun r H hr x e => ?_
  refine q_ldV j e ?_
  refine T_May j (rc.trans x.cle) F A ?_
  simp -zeta only [RL, GL]
  unfold writeJ at k
  by_cases g : mayV 16 v = true
  · rw [if_pos g] at k
    rw [g, if_neg (by decide)]
    refine q_ldV j e ?_
    exact T_written j (numOk_may g) (lw g) (rc.trans x.cle) pw ⟨h, x.le, k⟩
  · rw [if_neg g] at k
    rw [Bool.not_eq_true] at g
    rw [g, if_pos (by decide)]
    exact ⟨h, x.le, k⟩
/-- The value of a name's first member. -/
def getV (name : List Nat) : JV → Option JV
  | .mk k o n t l m => (m.find? fun x => decide (x.1 = name)).map Prod.snd
theorem find_fIdx {α : Type} (f : α → Bool) (l : List α) : (l.any f = false ∧ l.find? f = none ∧ fIdx f l = -1) ∨ ∃ (i : Nat) (x : α), l[i]? = some x ∧ l.find? f = some x ∧ fIdx f l = (i : Int) := by
  by_cases g : l.any f = true
  · refine .inr ?_
    have h := g
    rw [List.any_eq_true] at h
    obtain ⟨x, hx, hf⟩ := h
    have key : ∀ l : List α, l.any f = true → ∃ x, l[(l.takeWhile fun x => !f x).length]? = some x ∧ l.find? f = some x := by
      intro l
      induction l with
      | nil => intro h; cases h
      | cons a l ih =>
        intro h
        by_cases q : f a = true
        · exact ⟨a, by simp [q], by simp [q]⟩
        · rw [Bool.not_eq_true] at q
          rw [List.any_cons, q, Bool.false_or] at h
          obtain ⟨x, h1, h2⟩ := ih h
          exact ⟨x, by simpa [q] using h1, by simpa [q] using h2⟩
    obtain ⟨y, h1, h2⟩ := key l g
    refine ⟨_, y, h1, h2, ?_⟩
    unfold fIdx
    rw [if_pos g]
  · rw [Bool.not_eq_true] at g
    refine .inl ⟨g, ?_, ?_⟩
    · rw [List.find?_eq_none]
      intro x hx q
      rw [List.any_eq_false] at g
      exact g x hx q
    · unfold fIdx
      rw [if_neg (by rw [g]; decide)]
theorem mefo {h : Hp} {K : Value → Prop} (b o : Nat) : q P h (Instr.fieldAt t_api_Member (.pointer (some ⟨b, o, none⟩)) 1) K = K (.pointer (some ⟨b, o + 1, none⟩)) := q_of (by kernel_rfl) K
theorem T_Get {cs : List Value} {v : JV} {name : List Nat} (j : JvR R cs v) (rc : Hp.cle R h) (bn : Bytes name)
    (k : ∀ cs', JvR R cs' ((getV name v).getD nulV) → K (.tuple #[.agg cs'.toArray, .bool (getV name v).isSome]) h) : Cn P n_json_Get #[.agg cs.toArray, .string (strL name)] h K := by
  refine Cn_wk (F_json_Get ?_)
  unfold s_json_Get
  refine aw_boxV j fun r H hr x e => ?_
  refine aw_box fun r3 hr3 => ?_
  have x3 := ext_set (.row t_string (Value.string (strL name)).cells.toList (Value.string (strL name)).cells.size (some (0, 0))) hr3
  have c3 : (H.set r3 (.row t_string (Value.string (strL name)).cells.toList (Value.string (strL name)).cells.size (some (0, 0)))).cell ⟨r3, 0, none⟩ = some (.string (strL name)) := by rw [cell_row (Hp.set_same ..)]; rfl
  generalize H.set r3 (.row t_string (Value.string (strL name)).cells.toList (Value.string (strL name)).cells.size (some (0, 0))) = H3 at x3 c3 ⊢
  refine aw_allocL (row0 0) zr_Jv rfl fun r4 hr4 => ?_
  have x4 := ext_set (.row t_api_Value (row0 0) (row0 0).length (some (0, 0))) hr4
  have e4 : (H3.set r4 (.row t_api_Value (row0 0) (row0 0).length (some (0, 0)))) r4 = some (.row t_api_Value (row0 0) 6 (some (0, 0))) := Hp.set_same ..
  have nh4 : h r4 = none := x.none (x3.none hr4)
  generalize H3.set r4 (.row t_api_Value (row0 0) (row0 0).length (some (0, 0))) = H4 at x4 e4 ⊢
  have e := x4 _ _ (x3 _ _ e)
  have c3 := x4.cle _ _ c3
  have xx := x.trans (x3.trans x4)
  have rH := rc.trans xx.cle
  cases j with
  | @mk ka oa na ta la ma sla sma ila ima bta lta lla lma hla nla ela hma nma ema hda =>
    obtain ⟨a0, a1, a2, a3, a4, a5⟩ := row6 e
    simp -zeta only [RL, GL, vaf5, a5]
    have me : ∀ (i : Nat) (c : List Value) (x : List Nat × JV), ima[i]? = some c → ma[i]? = some x → MeR H4 c x := fun i c x e1 e2 => (meR_of ema hda e1 e2).mono rH
    refine T_IndexM (pr := fun x => decide (x.1 = name)) (hma.mono rH) nma (by omega) me (fun {K} c x m k => T_Get_1 bn c3 c x m k) ?_
    rw [q_geq]
    have done : ∀ (ys cs' : List Value) (b : Bool), ys.length = 6 → (∀ y ∈ ys, flat y = true) → K (.tuple #[.agg ys.toArray, .bool b]) h →
        aw P (Instr.storeAt t_api_Value (.pointer (some ⟨r4, 0, none⟩)) (.agg ys.toArray)) (fun _ h => q P h ((asAddr (.pointer (some ⟨r4, 0, none⟩))).bind (loadVar t_api_Value)) fun r0 => ∃ h0, Hp.le h0 h ∧ K (.tuple #[r0, .bool b]) h0) H4 := fun ys cs' b ly fy kk => by
      refine aw_storeRow (ys := ys) (by rw [ly]; exact z_api_Value) e4 (by rw [ly]; rfl) fy (fun i _ q => Nat.not_lt_zero _ q.2) ?_
      rw [q_resRow (ys := ys) u_api_Value rfl (by rw [ly]; exact z_api_Value) (Hp.set_same ..)]
      exact ⟨h, fun y o q => by rw [Hp.set_ne _ _ (by rintro rfl; rw [nh4] at q; cases q)]; exact xx.le _ _ q, kk⟩
    rcases find_fIdx (fun x : List Nat × JV => decide (x.1 = name)) ma with ⟨_, f2, f3⟩ | ⟨i, y, fi, f2, f3⟩
    · rw [f3, cnd_bool, if_neg (by decide), bldV0]
      have kk := k (row0 0) (by rw [getV, f2]; exact jv_row0 0)
      rw [getV, f2] at kk
      exact done _ [] _ rfl (row0_flat 0) kk
    · rw [f3, cnd_bool, if_pos (by simp)]
      have hi := (List.getElem?_eq_some_iff.1 fi).1
      have ec : ima[i]? = some (ima[i]'(by omega)) := List.getElem?_eq_getElem _
      have m := me i _ _ ec fi
      have m0 := meR_of ema hda ec fi
      generalize ima[i]'(by omega) = c at ec m m0
      obtain ⟨cs, rfl, bn2, jy⟩ := m0
      obtain ⟨va, vc, rfl, hvc, hr⟩ := hma.mono rH
      rcases hr with rfl | ⟨b, o, rfl, hy⟩
      · simp at ec
      have lt := (List.getElem?_eq_some_iff.1 ec).1
      rw [a5, withVal_some]
      rw [q_idxS u_Sl_api_Member z_api_Member _ _ _ _ _ (by omega) (by omega), Int.toNat_natCast, add_off, mefo]
      rw [q_ldAgg (ys := cs) u_api_Value rfl (by rw [jy.len]; exact z_api_Value) (fun j z ez => by have := hy i _ ec (1 + j) z (by rw [Nat.add_comm]; exact ez); rw [← Nat.add_assoc] at this; exact this)]
      have kk := k cs (by rw [getV, f2]; exact jy)
      rw [getV, f2] at kk
      exact done _ [] _ jy.len jy.flat kk
end
abbrev awk1 : List Nat := [32, 123, 34, 97, 34, 58, 91, 49, 44, 45, 50, 44, 34, 120, 92, 110, 34, 93, 32, 44, 32, 34, 98, 34, 58, 110, 117, 108, 108, 125]
abbrev awkV : JV := mapV [([97], listV [numV 1, numV (-2), textV [120, 10]]), ([98], nulV)]
theorem awk1_parse : parse awk1 = .ok awkV := by kernel_rfl
theorem awk2_parse : parse [48, 49] = .error 8 := by kernel_rfl
theorem awk3_parse : parse [91, 91, 91, 91, 91, 91, 91, 91, 91, 91, 91, 91, 91, 91, 91, 91, 91] = .error 3 := by kernel_rfl
theorem awk_may : mayV 16 awkV = true := by kernel_rfl
theorem awk_get : getV [97] awkV = some (listV [numV 1, numV (-2), textV [120, 10]]) := by kernel_rfl
theorem awk_write : writeV awkV = [123, 34, 97, 34, 58, 91, 49, 44, 45, 50, 44, 34, 120, 92, 117, 48, 48, 48, 97, 34, 93, 44, 34, 98, 34, 58, 110, 117, 108, 108, 125] := by kernel_rfl
section
variable {h : Hp} {K : Value → Hp → Prop}
theorem aw_litM {n : Nat} {ps : List (Nat × Value)} {l : List Nat} (hn : n ≤ 16777216) (hp : ∀ p ∈ ps, flat p.2 = true ∧ p.1 < n) (hf : fillL ps (List.replicate n (.int .u8 0)) = nv .u8 l) (hl : n = l.length)
    (k : ∀ v h', Nn h t_uint8 .u8 v h' l → K v h') : aw P (Instr.buildSlice t_Sl_uint8 n ps.toArray) (fun t h => aw P (convert t_Sl_uint8 t_Sl_uint8 t) (fun t h => K t h) h) h := by
  refine aw_lit (ps := ps) u_Sl_uint8 z_uint8 zr_uint8 rfl hn hp fun t7 h2 n2 q2 => ?_
  obtain ⟨b2, hb2, rfl, rfl⟩ := q2
  refine aw_mark hb2 (by rw [fillL_len, List.length_replicate]) fun h3 n3 => ?_
  refine k _ _ ?_
  unfold Nn
  rw [← hl]
  rw [hf] at n3
  exact n3
/-- A value, held in a cell of its own. -/
theorem aw_hold {cs : List Value} {v : JV} {Q : Hp} (j : JvR Q cs v) (k : ∀ r H, h r = none → Hp.ext h H → H r = some (.row t_api_Value cs 6 (some (0, 0))) → K (.pointer (some ⟨r, 0, none⟩)) H) :
    aw P (Instr.alloc t_api_Value true (.tuple #[])) (fun t h => aw P (Instr.storeAt t_api_Value t (.agg cs.toArray)) (fun _ h => K t h) h) h := by
  refine aw_allocL (row0 0) zr_Jv rfl fun r4 hr4 => ?_
  refine aw_storeRow (ys := cs) (by rw [j.len]; exact z_api_Value) (Hp.set_same ..) (by rw [j.len]; rfl) j.flat (fun i _ q => Nat.not_lt_zero _ q.2) ?_
  rw [Hp.set_set]
  exact k r4 _ hr4 (ext_set _ hr4) (Hp.set_same ..)
theorem T_ParseX {v : Value} {l : List Nat} (T : Tab h) (r : Rn h .u8 v l) (bl : Bytes l)
    (k : ∀ cs h', Hp.ext h h' → JvR h' cs (resV (parse l)).1 → K (.tuple #[.agg cs.toArray, .int .i64 (resV (parse l)).2]) h') : Cn P n_json_Parse #[v] h K := by
  have w0 : Own h h [] := ⟨.refl _, fun b hb => (by cases hb), fun b hb => (by cases hb)⟩
  exact T_Parse T w0 r bl fun cs R' h' s j => k cs h' (fun b o e => s.keep b o (by simp) e) (j.mono s.own.sub.cle)
theorem T_awake15 (T : Tab h) (pw : Pow h) (k : ∀ h', Hp.ext h h' → K (.bool true) h') : Cn P n_orloplaw15_awake #[] h K := by
  refine F_orloplaw15_awake ?_
  unfold s_orloplaw15_awake
  refine aw_litM (l := awk1) (by decide) (by decide +kernel) (by kernel_rfl) rfl fun v1 h1 n1 => ?_
  have x1 := n1.ext
  refine T_ParseX (T.mono x1.cle) n1.rn (by unfold Bytes; decide) fun cs h2 x2 j1 => ?_
  have x2 := x1.trans x2
  rw [awk1_parse] at j1 ⊢
  rw [ext0, ext1]
  refine aw_hold j1 fun r2 h3 hr2 x3 e2 => ?_
  have x3' := x2.trans x3
  refine aw_litM (l := [48, 49]) (by decide) (by decide +kernel) (by kernel_rfl) rfl fun v4 h4 n4 => ?_
  refine T_ParseX (T.mono (x3'.trans n4.ext).cle) n4.rn (by unfold Bytes; decide) fun cs5 h5 x5 j5 => ?_
  rw [awk2_parse] at j5 ⊢
  rw [ext0, ext1]
  refine aw_hold j5 fun r6 h6 hr6 x6 e6 => ?_
  have x6' := n4.ext.trans (x5.trans x6)
  refine aw_litM (l := [91, 91, 91, 91, 91, 91, 91, 91, 91, 91, 91, 91, 91, 91, 91, 91, 91]) (by decide) (by decide +kernel) (by kernel_rfl) rfl fun v7 h7 n7 => ?_
  refine T_ParseX (T.mono (x3'.trans (x6'.trans n7.ext)).cle) n7.rn (by unfold Bytes; decide) fun cs8 h8 x8 j8 => ?_
  rw [awk3_parse] at j8 ⊢
  rw [ext0, ext1]
  refine aw_hold j8 fun r9 h9 hr9 x9 e9 => ?_
  have x9' := x6'.trans (n7.ext.trans (x8.trans x9))
  have e2 := x9' _ _ e2
  have xx := x3'.trans x9'
  refine q_ldV j1 e2 ?_
  have t97 : (⟨#[97]⟩ : ByteArray) = strL [97] := by kernel_rfl
  rw [t97]
  have J1 : JvR h9 cs awkV := (j1.mono x3.cle).mono x9'.cle
  refine T_Get J1 (Hp.ext.refl _).cle (by unfold Bytes; decide) fun cs10 j10 => ?_
  rw [awk_get] at j10 ⊢
  rw [ext0, ext1]
  refine aw_hold j10 fun r11 h11 hr11 x11 e11 => ?_
  have e2 := x11 _ _ e2
  have d1 : ((0 : Int) == 0) = true := rfl
  have d2 : ((8 : Int) == 8) = true := rfl
  have d3 : ((3 : Int) == 3) = true := rfl
  obtain ⟨c0, rfl⟩ : ∃ c0 : List Value, c0 = cs10 := ⟨_, rfl⟩
  have hl := j10
  generalize hv : (some (listV [numV 1, numV (-2), textV [120, 10]])).getD nulV = lv at hl
  cases hl with
  | @mk ka oa na ta la ma sla sma ila ima bta lta lla lma hla nla ela hma nma ema hda =>
    have hv' : la = [numV 1, numV (-2), textV [120, 10]] := by
      have : (listV [numV 1, numV (-2), textV [120, 10]]) = .mk ka oa na ta la ma := hv
      injection this with _ _ _ _ e _
      exact e.symm
    obtain ⟨a0, a1, a2, a3, a4, a5⟩ := row6 e11
    obtain ⟨va, vc, rfl, hvc⟩ := hla.shape
    have l3 : ila.length = 3 := by rw [nla, hv']; rfl
    rw [l3] at a4
    simp -zeta only [RL, GL, vaf4, a4, resV, d1, d2, d3, Option.isSome_some, if_true]
    refine q_ldV J1 e2 ?_
    have x12 := xx.trans x11
    refine T_Write (J1.mono x11.cle) (Hp.ext.refl _).cle (T.mono x12.cle).fst (T.mono x12.cle).acc (pw.mono x12.cle) (fun _ => by rw [awk_write]; decide) ?_
    have ew : writeJ awkV = [123, 34, 97, 34, 58, 91, 49, 44, 45, 50, 44, 34, 120, 92, 117, 48, 48, 48, 97, 34, 93, 44, 34, 98, 34, 58, 110, 117, 108, 108, 125] := by unfold writeJ; rw [if_pos awk_may, awk_write]
    have et : tx_962194 = strL [123, 34, 97, 34, 58, 91, 49, 44, 45, 50, 44, 34, 120, 92, 117, 48, 48, 48, 97, 34, 93, 44, 34, 98, 34, 58, 110, 117, 108, 108, 125] := by kernel_rfl
    rw [ew, et, q_eqlSt _ _ (by unfold Bytes; decide) (by unfold Bytes; decide), decide_eq_true rfl]
    exact k _ x12
end
end Go.Proofs.YtolcmaipjpkidaaGreatDoor
namespace Go.Proofs.YtolcmaipjpkidaaGreatDoor
open Go Go.SL Go.Pure Go.Js Go.Tar
theorem dig_lenJ : ∀ L n, n < 10 ^ (L + 1) → (dig 10 n).length ≤ L + 1
  | 0, n, h => by rw [dig_one (by simpa using h)]; simp
  | L + 1, n, h => by
    rcases Nat.lt_or_ge n 10 with q | q
    · rw [dig_one q]; simp
    · rw [dig_step (by decide) q, List.length_append]
      have := dig_lenJ L (n / 10) (by rw [Nat.div_lt_iff_lt_mul (by decide), ← Nat.pow_succ]; exact h)
      simp only [List.length_singleton]
      omega
theorem asc_mapJ (l : List Nat) : (asc l).map (· - 48) = l := by
  rw [asc, List.map_map]
  conv => rhs; rw [← List.map_id l]
  exact List.map_congr_left fun x _ => by simp
theorem dig_head : ∀ (n : Nat), 0 < n → (dig 10 n).getD 0 0 ≠ 0 := by
  intro n
  induction n using Nat.strongRecOn with
  | _ n ih =>
    intro hn
    by_cases g : n < 10
    · rw [dig_one g]; show n ≠ 0; omega
    · rw [dig_step (by decide) (by omega)]
      have h1 := ih (n / 10) (by omega) (by omega)
      have hp : 0 < (dig 10 (n / 10)).length := digF_pos 10 _ _
      rw [List.getD_eq_getElem?_getD, List.getElem?_append_left hp, ← List.getD_eq_getElem?_getD]
      exact h1
theorem digs_stop {l t : List Nat} (hl : ∀ x ∈ l, isDig x = true) (ht : isDig (t.getD 0 0) = false) : digs (l ++ t) = l := by
  induction l with
  | nil =>
    cases t with
    | nil => rfl
    | cons c t => exact digs_no t ht
  | cons a l ih =>
    rw [List.cons_append, digs_yes _ (hl a (by simp)), ih fun x hx => hl x (by simp [hx])]
theorem isDig_asc {n x : Nat} (h : x ∈ asc (dig 10 n)) : isDig x = true := by
  obtain ⟨y, hy, rfl⟩ := List.mem_map.1 h
  have := dig_lt (b := 10) (by decide) n y hy
  exact decide_eq_true (by omega)
theorem asc_pos (n : Nat) : 0 < (asc (dig 10 n)).length := by rw [asc_len]; exact digF_pos 10 _ _
theorem asc_head (n : Nat) : (asc (dig 10 n)).getD 0 0 = (dig 10 n).getD 0 0 + 48 := asc_getD (digF_pos 10 _ _)
theorem getD0_app {l t : List Nat} (h : 0 < l.length) : (l ++ t).getD 0 0 = l.getD 0 0 := by
  rw [List.getD_eq_getElem?_getD, List.getElem?_append_left h, ← List.getD_eq_getElem?_getD]
theorem has_getD {c : Nat} {s : List Nat} (hc : c ≠ 0) : has [c] s = decide (s.getD 0 0 = c) := by
  rw [has1]
  cases s with
  | nil => simp; omega
  | cons a s => simp
theorem num_ok {n : Nat} {mi : Bool} {t : List Nat} (hn : n ≤ 9007199254740991) (hm : mi = true → 0 < n) (ht : isDig (t.getD 0 0) = false) : numOk mi (asc (dig 10 n) ++ t) = true := by
  unfold numOk
  rw [digs_stop (fun x hx => isDig_asc hx) ht]
  have h1 := asc_pos n
  have h2 := asc_len (dig 10 n)
  have h3 := dig_lenJ 15 n (by omega)
  rw [getD0_app h1, asc_head]
  refine decide_eq_true ⟨h1, by omega, ?_⟩
  by_cases g : n = 0
  · refine .inr ⟨by rw [g]; rfl, ?_⟩
    cases mi
    · rfl
    · have := hm rfl; omega
  · have := dig_head n (by omega)
    exact .inl (by omega)
theorem dec_asc (n : Nat) : dec (asc (dig 10 n)) = n := by unfold dec; rw [asc_mapJ]; exact dig_val (by decide) n
theorem decI_head (n : Int) (t : List Nat) : (decI n ++ t).getD 0 0 = 45 ∨ (48 ≤ (decI n ++ t).getD 0 0 ∧ (decI n ++ t).getD 0 0 ≤ 57) := by
  unfold decI
  split
  · exact .inl rfl
  · right
    rw [getD0_app (asc_pos _)]
    have : (asc (dig 10 n.natAbs)).getD 0 0 ∈ asc (dig 10 n.natAbs) := by
      rw [List.getD_eq_getElem?_getD, List.getElem?_eq_getElem (asc_pos _)]; exact List.getElem_mem _
    have := isDig_asc this
    unfold isDig at this
    exact of_decide_eq_true this
/-- A number written is read, with what stands behind. -/
theorem number_decI {n : Int} {t : List Nat} (hn : n.natAbs ≤ 9007199254740991) (ht : isDig (t.getD 0 0) = false) : number (decI n ++ t) = .ok (numV n, t) := by
  have d1 := digs_stop (l := asc (dig 10 n.natAbs)) (fun x hx => isDig_asc hx) ht
  unfold number decI
  by_cases g : n < 0
  · rw [if_pos g]
    have e1 : has [45] (45 :: asc (dig 10 n.natAbs) ++ t) = true := by rw [List.cons_append, has1]; rfl
    have e2 : (45 :: asc (dig 10 n.natAbs) ++ t).drop 1 = asc (dig 10 n.natAbs) ++ t := rfl
    dsimp only
    rw [e1, if_pos rfl, e2, num_ok (mi := true) hn (fun _ => by omega) ht, if_pos rfl, d1, dec_asc, if_pos hn, if_pos rfl, List.drop_left]
    have : -((n.natAbs : Nat) : Int) = n := by omega
    rw [this]
  · rw [if_neg g]
    have e1 : has [45] (asc (dig 10 n.natAbs) ++ t) = false := by
      rw [has_getD (by decide)]
      have := decI_head n t
      unfold decI at this
      rw [if_neg g] at this
      refine decide_eq_false fun q => ?_
      rw [getD0_app (asc_pos _), asc_head] at q
      omega
    dsimp only
    rw [e1]
    simp only [Bool.false_eq_true, if_false]
    rw [num_ok (mi := false) hn (fun q => by cases q) ht, if_pos rfl, d1, dec_asc, if_pos hn, List.drop_left]
    have : ((n.natAbs : Nat) : Int) = n := by omega
    rw [this]
theorem has_head {w s : List Nat} {c : Nat} (hs : s.getD 0 0 ≠ c) (hc : c ≠ 0) : has (c :: w) s = false := by
  unfold has
  refine decide_eq_false fun q => hs ?_
  cases s with
  | nil => cases q
  | cons a s =>
    rw [List.length_cons, List.take_succ_cons] at q
    injection q with q _
theorem decI_len {n : Int} (hn : n.natAbs ≤ 9007199254740991) : (decI n).length ≤ 17 := by
  have l := dig_lenJ 15 n.natAbs (by omega)
  unfold decI
  split
  · rw [List.length_cons, asc_len]; omega
  · rw [asc_len]; omega
section
variable {h : Hp} {K : Value → Hp → Prop}
end
end Go.Proofs.YtolcmaipjpkidaaGreatDoor
namespace Go.Proofs.YtolcmaipjpkidaaGreatDoor
open Go Go.SL Go.Pure
open Go.ChangeShapes Go.WideShapes Go.ChangeAt Go.RowKit
/-- All cells that lie in memory, to read. -/
def readAll (w : World) : Hp := fun b => match w.heap[b]? with
  | some (.cells c e _) => some (.row e c.toList c.size none)
  | _ => none
theorem readAll_sat (w : World) : (readAll w).sat w := by
  intro b o e
  unfold readAll at e
  split at e
  · rename_i c el f hb
    cases e
    refine ⟨_, hb, rfl, rfl, by simp, fun i v hv => by simpa using hv, fun f hf => by cases hf⟩
  · cases e
theorem readAll_own (w : World) (b : Nat) : ¬ (readAll w).own b := by
  rintro ⟨o, e, hr⟩
  unfold readAll at e
  split at e
  · cases e; cases hr
  · cases e
theorem readAll_cell {w : World} {b o : Nat} {v : Value} (e : w.cell? ⟨b, o, none⟩ = some v) : (readAll w).cell ⟨b, o, none⟩ = some v := by
  unfold World.cell? at e
  unfold Hp.cell readAll
  dsimp only at e ⊢
  split at e
  · rename_i c el f hb
    rw [hb]
    simpa using e
  · cases e
theorem below_of {w w' : World} {h' : Hp} (f : Fr (readAll w) h' w w') : Below w.heap.size w w' :=
  ⟨f.os, f.tape, f.output, f.size, fun k hk => f.keep k hk (readAll_own w k)⟩
theorem ownNone : ownKnob Tryz.prog.godebug = none := by kernel_rfl
theorem laidOut : laidOutB Tryz.prog = true := by kernel_rfl
/-- The walk of a statement that tells true. -/
theorem tells_true {f : FuncId} {args : Array Value} {w : World} (c : Cn P f args (readAll w) fun v _ => v = .bool true) : Calls P f args w fun e w' => e = .returned (.bool true) ∧ Below w.heap.size w w' :=
  (c.2 w (readAll_sat w)).mono fun e w' ⟨v, h', he, _, f', hv⟩ => ⟨by rw [he, hv], below_of f'⟩
end Go.Proofs.YtolcmaipjpkidaaGreatDoor
namespace Go.Proofs.YtolcmaipjpkidaaGreatDoor
open Go Go.SL Go.Pure Go.Js
section
variable {W : World} {t : Nat} {cs : List Value} {fuel : Nat} {p : List MemPlace} {ds : List (DataW Unit)} {d : DataW Unit}
theorem dFld {fs : Array Field} (ht : P.underlying t = some (.struct fs)) (h : DataW.trod (fun _ => ()) P W 0 (fun _ => true) false fuel t cs = some (.agg ds, p)) {i ft off : Nat} (hf : (fs[i]?).map (fun f => (f.type, f.offset)) = some (ft, off)) (hd : ds[i]? = some d) :
    ∃ n q, DataW.trod (fun _ => ()) P W 0 (fun _ => true) false n ft ((cs.drop off).take (P.cellsOf ft)) = some (d, q) := by
  obtain ⟨xs, n, rfl, hx, hlen, hn, hel⟩ := DataW.trod_struct ht h
  rw [Option.map_eq_some_iff] at hf
  obtain ⟨f, hf, e⟩ := hf
  obtain ⟨rfl, rfl⟩ := Prod.mk.inj e
  have h0 := hel i f hf
  simp only [Prod.mk.injEq, DataW.agg.injEq] at hx
  rw [hx.1, List.getElem?_map, Option.map_eq_some_iff] at hd
  obtain ⟨y, hy, rfl⟩ := hd
  rw [hy] at h0
  exact ⟨n, y.2, h0⟩
theorem dElt {n e : Nat} (ht : P.underlying t = some (.array n e)) (h : DataW.trod (fun _ => ()) P W 0 (fun _ => true) false fuel t cs = some (.agg ds, p)) {i c : Nat} (hc : P.cellsOf e = c) (hi : i < n) (hd : ds[i]? = some d) :
    ∃ m q, DataW.trod (fun _ => ()) P W 0 (fun _ => true) false m e ((cs.drop (i * c)).take c) = some (d, q) := by
  subst hc
  obtain ⟨xs, m, rfl, hx, hlen, hn, hel⟩ := DataW.trod_array ht h
  have h0 := hel i hi
  simp only [Prod.mk.injEq, DataW.agg.injEq] at hx
  rw [hx.1, List.getElem?_map, Option.map_eq_some_iff] at hd
  obtain ⟨y, hy, rfl⟩ := hd
  rw [hy] at h0
  exact ⟨m, y.2, h0⟩
theorem dInt {k : IntKind} {z : Int} (ht : P.underlying t = some (.int k)) (h : DataW.trod (fun _ => ()) P W 0 (fun _ => true) false fuel t cs = some (.lit (.int k z), p)) : cs = [.int k z] := by
  obtain ⟨n, rfl, e, _⟩ := DataW.trod_int ht h
  simp only [Prod.mk.injEq, DataW.lit.injEq, Lit.int.injEq, true_and] at e
  rw [e.1]
theorem dCell {a b : Nat} {v : Value} (h : (cs.drop a).take b = [v]) : cs[a]? = some v := by
  have := congrArg (fun l => l[0]?) h
  rw [← Nat.add_zero a, ← List.getElem?_drop]
  cases hc : cs.drop a with
  | nil => rw [hc] at h; cases b <;> simp at h
  | cons x r =>
    rw [hc] at h
    cases b with
    | zero => simp at h
    | succ b => simp at h; simp [h.1]
/-- A slice that a table is: its rows, in memory. -/
theorem dSl {e c : Nat} {ds : List (DataW Unit)} (ht : P.underlying t = some (.slice e)) (hc : P.cellsOf e = c) (h0 : 0 < c) (hn : ds ≠ []) (h : DataW.trod (fun _ => ()) P W 0 (fun _ => true) false fuel t cs = some (.slice ds [], p)) :
    ∃ b o cap, cs = [.slice (some ⟨b, o, none⟩) ds.length cap] ∧ ds.length ≤ cap ∧ ∀ i d, ds[i]? = some d → ∃ m q ys, ys.length = c ∧ DataW.trod (fun _ => ()) P W 0 (fun _ => true) false m e ys = some (d, q) ∧ ∀ j y, ys[j]? = some y → (readAll W).cell ⟨b, o + i * c + j, none⟩ = some y := by
  subst hc
  rcases DataW.trod_slice ht h with ⟨_, e1⟩ | ⟨a', len, cap, elems, rest, m, _, rfl, hx, _, hl, hm, hlen, hel, _, _⟩
  · simp at e1
  · simp only [Prod.mk.injEq, DataW.slice.injEq] at hx
    obtain ⟨⟨rfl, _⟩, _⟩ := hx
    have each : ∀ i, i < len → ∃ ys : List Value, ys.length = P.cellsOf e ∧ (DataW.trod (fun _ => ()) P W 0 (fun _ => true) false m e ys = elems[i]?) ∧ ∀ j y, ys[j]? = some y → W.cell? ((a'.add (i * P.cellsOf e)).add j) = some y := by
      intro i hi
      have h1 := hel i hi
      rw [List.getElem?_eq_getElem (by omega), Option.bind_eq_some_iff] at h1
      obtain ⟨ys, hcs, htr⟩ := h1
      obtain ⟨_, hlen', hcell⟩ := World.cells?_some hcs
      refine ⟨ys, hlen', by rw [htr, List.getElem?_eq_getElem], fun j y ey => ?_⟩
      have hlt := (List.getElem?_eq_some_iff.1 ey).1
      rw [hcell j (by omega)]
      exact ey
    have hpos : 0 < len := by
      rw [← hlen]
      exact List.length_pos_iff.2 fun q => hn (by rw [q]; rfl)
    obtain ⟨ys0, l0, _, c0⟩ := each 0 hpos
    have hc0 := c0 0 _ (List.getElem?_eq_getElem (by omega))
    obtain ⟨b, o, sp⟩ := a'
    have hsp : sp = none := by
      cases sp with
      | none => rfl
      | some s =>
        unfold World.cell? Addr.add at hc0
        dsimp only at hc0
        split at hc0 <;> simp at hc0
    subst hsp
    refine ⟨b, o, cap, by rw [List.length_map, hlen], by rw [List.length_map, hlen]; exact hl, fun i d hd => ?_⟩
    rw [List.getElem?_map, Option.map_eq_some_iff] at hd
    obtain ⟨y, hy, rfl⟩ := hd
    have hi : i < len := by rw [← hlen]; exact (List.getElem?_eq_some_iff.1 hy).1
    obtain ⟨ys, l1, tr, cl⟩ := each i hi
    rw [hy] at tr
    refine ⟨m, y.2, ys, l1, tr, fun j z hz => ?_⟩
    have := cl j z hz
    rw [add_off, add_off] at this
    exact readAll_cell this
end
abbrev laidJ : List (String × DataW Unit) := Rows.jsonReadsRow.laid
theorem gPow15 : Tryz.prog.globalNamed "internal/strconv.uint64pow10" = some gl_internal_strconv_uint64pow10 := by kernel_rfl
theorem gAcc15 : Tryz.prog.globalNamed "unicode/utf8.acceptRanges" = some gl_unicode_utf8_acceptRanges := by kernel_rfl
theorem gFst15 : Tryz.prog.globalNamed "unicode/utf8.first" = some gl_unicode_utf8_first := by kernel_rfl
theorem gCas15 : Tryz.prog.globalNamed "unicode.CaseRanges" = some gl_unicode_CaseRanges := by kernel_rfl
theorem tPow15 : (Tryz.prog.globals[gl_internal_strconv_uint64pow10]?).map (·.type) = some t_20_uint64 := by kernel_rfl
theorem tAcc15 : (Tryz.prog.globals[gl_unicode_utf8_acceptRanges]?).map (·.type) = some t_16_utf8_acceptRange := by kernel_rfl
theorem tFst15 : (Tryz.prog.globals[gl_unicode_utf8_first]?).map (·.type) = some t_256_uint8 := by kernel_rfl
theorem tCas15 : (Tryz.prog.globals[gl_unicode_CaseRanges]?).map (·.type) = some t_Sl_unicode_CaseRange := by kernel_rfl
theorem fst_datum : ∀ i, i < 256 → ((Go.Pinned.numbers .u8 Go.Pinned.utf8FirstZ : List (DataW Unit))[i]?) = some (.lit (.int .u8 ((fstT i : Nat) : Int))) := by
  have key : ∀ i, i < 256 → Go.Pinned.utf8FirstZ[i]? = some (fstT i) := by decide +kernel
  intro i hi
  show (Go.Pinned.utf8FirstZ.map _)[i]? = _
  rw [List.getElem?_map, key i hi]
  rfl
theorem st_case : ∃ fs, P.underlying t_unicode_CaseRange = some (.struct fs) ∧ (fs[0]?).map (fun f => (f.type, f.offset)) = some (t_uint32, 0) ∧ (fs[1]?).map (fun f => (f.type, f.offset)) = some (t_uint32, 1) ∧ (fs[2]?).map (fun f => (f.type, f.offset)) = some (t_unicode_d, 2) :=
  ⟨match P.underlying t_unicode_CaseRange with | some (.struct fs) => fs | _ => #[], by kernel_rfl, by kernel_rfl, by kernel_rfl, by kernel_rfl⟩
theorem st_acc : ∃ fs, P.underlying t_utf8_acceptRange = some (.struct fs) ∧ (fs[0]?).map (fun f => (f.type, f.offset)) = some (t_uint8, 0) ∧ (fs[1]?).map (fun f => (f.type, f.offset)) = some (t_uint8, 1) :=
  ⟨match P.underlying t_utf8_acceptRange with | some (.struct fs) => fs | _ => #[], by kernel_rfl, by kernel_rfl, by kernel_rfl⟩
theorem un_d : P.underlying t_unicode_d = some (.array 3 t_int32) := by kernel_rfl
def accDs : List (DataW Unit) := (List.range 16).map fun i => .agg [.lit (.int .u8 (((accT.getD i (0, 0)).1 : Nat) : Int)), .lit (.int .u8 (((accT.getD i (0, 0)).2 : Nat) : Int))]
def powDs : List (DataW Unit) := (List.range 20).map fun i => .lit (.int .u64 ((10 ^ i : Nat) : Int))
theorem acc_datum : (Rows.laid_unicode_utf8_acceptRanges : DataW Unit) = .agg accDs := by kernel_rfl
theorem pow_datum : (Rows.laid_internal_strconv_uint64pow10 : DataW Unit) = .agg powDs := by kernel_rfl
theorem accs_get (i : Nat) (hi : i < 16) : accDs[i]? = some (.agg [.lit (.int .u8 (((accT.getD i (0, 0)).1 : Nat) : Int)), .lit (.int .u8 (((accT.getD i (0, 0)).2 : Nat) : Int))]) := by
  unfold accDs
  rw [List.getElem?_map, List.getElem?_range hi]
  rfl
theorem pows_get (i : Nat) (hi : i < 20) : powDs[i]? = some (.lit (.int .u64 ((10 ^ i : Nat) : Int))) := by
  unfold powDs
  rw [List.getElem?_map, List.getElem?_range hi]
  rfl
theorem tab_of_laid {W : World} (h : laidMetH Tryz.prog laidJ W) : Tab (readAll W) ∧ Pow (readAll W) := by
  rw [MakeChecks.laidMetH_plain _ _ _ (by kernel_rfl)] at h
  obtain ⟨ps, ⟨g0, t0, cs0, f0, p0, q0, hg0, ht0, hv0, hd0, ⟨g1, t1, cs1, f1, p1, q1, hg1, ht1, hv1, hd1, ⟨g2, t2, cs2, f2, p2, q2, hg2, ht2, hv2, hd2, ⟨g3, t3, cs3, f3, p3, q3, hg3, ht3, hv3, hd3, ⟨g4, t4, cs4, f4, p4, q4, hg4, ht4, hv4, hd4, ⟨g5, t5, cs5, f5, p5, q5, hg5, ht5, hv5, hd5, ⟨g6, t6, cs6, f6, p6, q6, hg6, ht6, hv6, hd6, ⟨g7, t7, cs7, f7, p7, q7, hg7, ht7, hv7, hd7, _, _⟩, _⟩, _⟩, _⟩, _⟩, _⟩, _⟩, _⟩, _, _⟩ := h
  obtain rfl := Option.some.inj (gPow15.symm.trans hg2)
  obtain rfl := Option.some.inj (gAcc15.symm.trans hg3)
  obtain rfl := Option.some.inj (gCas15.symm.trans hg6)
  obtain rfl := Option.some.inj (gFst15.symm.trans hg7)
  obtain rfl := Option.some.inj (tPow15.symm.trans ht2)
  obtain rfl := Option.some.inj (tAcc15.symm.trans ht3)
  obtain rfl := Option.some.inj (tCas15.symm.trans ht6)
  obtain rfl := Option.some.inj (tFst15.symm.trans ht7)
  have c8 : P.cellsOf t_uint8 = 1 := by kernel_rfl
  have c64 : P.cellsOf t_uint64 = 1 := by kernel_rfl
  have cac : P.cellsOf t_utf8_acceptRange = 2 := by kernel_rfl
  have ccr : P.cellsOf t_unicode_CaseRange = 5 := by kernel_rfl
  have c32 : P.cellsOf t_uint32 = 1 := by kernel_rfl
  have ci32 : P.cellsOf t_int32 = 1 := by kernel_rfl
  have cd : P.cellsOf t_unicode_d = 3 := by kernel_rfl
  refine ⟨⟨fun i hi => readAll_cell ?_, fun i hi => ?_, ?_⟩, fun i hi => readAll_cell ?_⟩
  · rw [World.var?_cell gFst15 hv7]
    obtain ⟨m, q, e⟩ := dElt u_256_uint8 (show DataW.trod (fun _ => ()) P W 0 (fun _ => true) false f7 t_256_uint8 cs7.toList = some (.agg (Go.Pinned.numbers .u8 Go.Pinned.utf8FirstZ), p7) from hd7) c8 hi (fst_datum i hi)
    have := dCell (dInt u_uint8 e)
    simpa using this
  · obtain ⟨fs, hu, hf0, hf1⟩ := st_acc
    have hd := accs_get i hi
    obtain ⟨m, q, e⟩ := dElt u_16_utf8_acceptRange (show DataW.trod (fun _ => ()) P W 0 (fun _ => true) false f3 t_16_utf8_acceptRange cs3.toList = some (.agg accDs, p3) by rw [← acc_datum]; exact hd3) cac hi hd
    obtain ⟨m1, q1, e1⟩ := dFld hu e hf0 (d := .lit (.int .u8 (((accT.getD i (0, 0)).1 : Nat) : Int))) rfl
    obtain ⟨m2, q2, e2⟩ := dFld hu e hf1 (d := .lit (.int .u8 (((accT.getD i (0, 0)).2 : Nat) : Int))) rfl
    have r1 := dCell (dInt u_uint8 e1)
    have r2 := dCell (dInt u_uint8 e2)
    rw [List.getElem?_take_of_lt (by omega), List.getElem?_drop] at r1 r2
    exact ⟨readAll_cell (by rw [World.var?_cell gAcc15 hv3]; simpa using r1), readAll_cell (by rw [World.var?_cell gAcc15 hv3]; simpa using r2)⟩
  · obtain ⟨fs, hu, hf0, hf1, hf2⟩ := st_case
    have hd : DataW.trod (fun _ => ()) P W 0 (fun _ => true) false f6 t_Sl_unicode_CaseRange cs6.toList = some (.slice (Go.Pinned.caseRows.map Go.Pinned.caseRange) [], p6) := hd6
    obtain ⟨b, o, cap, ec, lc, hrow⟩ := dSl u_Sl_unicode_CaseRange ccr (by omega) (fun q => by have := congrArg List.length q; rw [List.length_map] at this; revert this; decide +kernel) hd
    rw [List.length_map] at ec lc
    refine ⟨b, o, cap, lc, readAll_cell (by rw [World.var?_cell gCas15 hv6]; have := congrArg (fun l => l[0]?) ec; simpa using this), fun i x hx => ?_⟩
    obtain ⟨m, q, ys, ly, tr, cl⟩ := hrow i _ (by rw [List.getElem?_map, hx]; rfl)
    obtain ⟨m1, q1, e1⟩ := dFld hu tr hf0 (d := .lit (.int .u32 x.1)) rfl
    obtain ⟨m2, q2, e2⟩ := dFld hu tr hf1 (d := .lit (.int .u32 x.2.1)) rfl
    obtain ⟨m3, q3, e3⟩ := dFld hu tr hf2 (d := .agg [.lit (.int .i32 x.2.2.1), .lit (.int .i32 x.2.2.2.1), .lit (.int .i32 x.2.2.2.2)]) rfl
    obtain ⟨m4, q4, e4⟩ := dElt un_d e3 ci32 (i := 1) (by omega) (d := .lit (.int .i32 x.2.2.2.1)) rfl
    have r1 := dCell (dInt u_uint32 e1)
    have r2 := dCell (dInt u_uint32 e2)
    have r3 := dCell (dInt u_int32 e4)
    rw [cd, List.getElem?_take_of_lt (by omega), List.getElem?_drop] at r3
    have z1 := cl 0 _ r1
    have z3 := cl 3 _ r3
    exact ⟨z1, cl 1 _ r2, z3⟩
  · rw [World.var?_cell gPow15 hv2]
    obtain ⟨m, q, e⟩ := dElt u_20_uint64 (show DataW.trod (fun _ => ()) P W 0 (fun _ => true) false f2 t_20_uint64 cs2.toList = some (.agg powDs, p2) by rw [← pow_datum]; exact hd2) c64 hi (pows_get i hi)
    have := dCell (dInt u_uint64 e)
    simpa using this
section
variable {h : Hp} {v : Value} {b : List Nat}
/-- A byte of a row, loaded. -/
theorem q_bAt (r : Rn h .u8 v b) {i : Nat} (hi : i < b.length) {he : Hp} {F : Value → Prop} : q P he (Instr.indexAt t_Sl_uint8 v (.int .i64 (i : Int))) (fun t => q P h (Instr.loadAt t_uint8 t) F) = F (.int .u8 ((b.getD i 0 : Nat) : Int)) := by
  obtain ⟨a, c, rfl, hc⟩ := r.shape
  obtain ⟨bb, o, rfl, hy⟩ := r.pos (by omega)
  rw [q_idxS u_Sl_uint8 z_uint8 _ _ _ _ _ (by omega) (by omega), Int.toNat_natCast, add_off, Nat.mul_one, q_ld u_uint8 rfl, hy i hi]
  rfl
theorem q_bLen (r : Rn h .u8 v b) {F : Value → Prop} : q P h (Builtin.len_ #[t_Sl_uint8] t_int #[v]) F = F (.int .i64 ((b.length : Nat) : Int)) := by
  obtain ⟨a, c, rfl, hc⟩ := r.shape
  simp -zeta only [GL, RL]
theorem dropAt {i : Nat} (hi : i < b.length) : b.drop i = b.getD i 0 :: b.drop (i + 1) := by
  rw [List.drop_eq_getElem_cons hi, List.getD_eq_getElem?_getD, List.getElem?_eq_getElem hi]
  rfl
theorem up1 {n : Nat} (hn : n ≤ 4611686018427387904) : IntKind.i64.wrap ((n : Int) + 1) = ((n + 1 : Nat) : Int) := by rw [wi64 (by omega) (by omega)]; omega
theorem upN {n : Nat} (c : Nat) (hn : n ≤ 4611686018427387904) (hc : c ≤ 1000000000) : IntKind.i64.wrap ((n : Int) + (c : Int)) = ((n + c : Nat) : Int) := by rw [wi64 (by omega) (by omega)]; omega
theorem eqb {a c : Nat} : (((a : Nat) : Int) == (c : Int)) = decide (a = c) := by
  by_cases g : a = c
  · subst g; simp
  · rw [decide_eq_false g]
    rw [beq_eq_false_iff_ne]
    omega
end
section
variable {h : Hp} {K : Value → Hp → Prop} {v : Value} {b : List Nat}
end
end Go.Proofs.YtolcmaipjpkidaaGreatDoor
namespace Go.Js
open Go.Pure
theorem getD_app {a t : List Nat} {i : Nat} (h : i < a.length) : (a ++ t).getD i 0 = a.getD i 0 := by
  rw [List.getD_eq_getElem?_getD, List.getElem?_append_left h, ← List.getD_eq_getElem?_getD]
/-- Only its own bytes matter. -/
theorem runeN_pre {s : List Nat} (t : List Nat) (h : 0 < runeN s) : runeN (s ++ t) = runeN s := by
  cases s with
  | nil => exact absurd h (by decide)
  | cons c r =>
    rw [List.cons_append]
    have hl := runeN_len (c :: r)
    revert h
    show 0 < runeN (c :: r) → runeN (c :: (r ++ t)) = runeN (c :: r)
    have e : ∀ r : List Nat, runeN (c :: r) = if c < 128 then 1 else if c < 194 ∨ 245 ≤ c then 0 else if (acc2 c).1 ≤ r.getD 0 0 ∧ r.getD 0 0 ≤ (acc2 c).2 then (if c < 224 then 2 else if cont (r.getD 1 0) then (if c < 240 then 3 else if cont (r.getD 2 0) then 4 else 0) else 0) else 0 := fun r => rfl
    rw [e] at hl
    rw [e, e]
    have p := acc2_pos c
    by_cases g1 : c < 128
    · rw [if_pos g1, if_pos g1]; intro _; trivial
    · rw [if_neg g1, if_neg g1]
      rw [if_neg g1] at hl
      by_cases g2 : c < 194 ∨ 245 ≤ c
      · rw [if_pos g2]; intro h; omega
      · rw [if_neg g2, if_neg g2]
        rw [if_neg g2] at hl
        by_cases g3 : (acc2 c).1 ≤ r.getD 0 0 ∧ r.getD 0 0 ≤ (acc2 c).2
        · have l0 := getD_pos g3.1 (by omega)
          rw [getD_app l0, if_pos g3, if_pos g3]
          by_cases g4 : c < 224
          · rw [if_pos g4, if_pos g4]; intro _; trivial
          · rw [if_neg g4, if_neg g4]
            by_cases g5 : cont (r.getD 1 0) = true
            · have q5 := g5
              unfold cont at q5
              rw [decide_eq_true_eq] at q5
              have l1 := getD_pos q5.1 (by omega)
              rw [getD_app l1, if_pos g5, if_pos g5]
              by_cases g6 : c < 240
              · rw [if_pos g6, if_pos g6]; intro _; trivial
              · rw [if_neg g6, if_neg g6]
                by_cases g7 : cont (r.getD 2 0) = true
                · have q7 := g7
                  unfold cont at q7
                  rw [decide_eq_true_eq] at q7
                  have l2 := getD_pos q7.1 (by omega)
                  rw [getD_app l2, if_pos g7]; intro _; trivial
                · rw [if_neg g7]; intro h; omega
            · rw [if_neg g5]; intro h; omega
        · rw [if_neg g3]; intro h; omega
theorem runeN_take {s : List Nat} (h : 0 < runeN s) : runeN (s.take (runeN s)) = runeN s := by
  cases s with
  | nil => exact absurd h (by decide)
  | cons c r =>
    have e : ∀ r : List Nat, runeN (c :: r) = if c < 128 then 1 else if c < 194 ∨ 245 ≤ c then 0 else if (acc2 c).1 ≤ r.getD 0 0 ∧ r.getD 0 0 ≤ (acc2 c).2 then (if c < 224 then 2 else if cont (r.getD 1 0) then (if c < 240 then 3 else if cont (r.getD 2 0) then 4 else 0) else 0) else 0 := fun r => rfl
    have tk : ∀ (r : List Nat) (i n : Nat), i < n → (r.take n).getD i 0 = r.getD i 0 := fun r i n hi => by
      rw [List.getD_eq_getElem?_getD, List.getElem?_take_of_lt hi, ← List.getD_eq_getElem?_getD]
    revert h
    by_cases g1 : c < 128
    · intro _; rw [runeN_ascii r g1]
      show runeN (c :: r.take 0) = 1
      exact runeN_ascii _ g1
    · by_cases g2 : c < 194 ∨ 245 ≤ c
      · intro h; rw [e, if_neg g1, if_pos g2] at h; omega
      · by_cases g3 : (acc2 c).1 ≤ r.getD 0 0 ∧ r.getD 0 0 ≤ (acc2 c).2
        · by_cases g4 : c < 224
          · have q : runeN (c :: r) = 2 := by rw [e, if_neg g1, if_neg g2, if_pos g3, if_pos g4]
            intro _; rw [q]
            show runeN (c :: r.take 1) = 2
            rw [e, if_neg g1, if_neg g2, tk _ _ _ (by omega), if_pos g3, if_pos g4]
          · by_cases g5 : cont (r.getD 1 0) = true
            · by_cases g6 : c < 240
              · have q : runeN (c :: r) = 3 := by rw [e, if_neg g1, if_neg g2, if_pos g3, if_neg g4, if_pos g5, if_pos g6]
                intro _; rw [q]
                show runeN (c :: r.take 2) = 3
                rw [e, if_neg g1, if_neg g2, tk _ _ _ (by omega), if_pos g3, if_neg g4, tk _ _ _ (by omega), if_pos g5, if_pos g6]
              · by_cases g7 : cont (r.getD 2 0) = true
                · have q : runeN (c :: r) = 4 := by rw [e, if_neg g1, if_neg g2, if_pos g3, if_neg g4, if_pos g5, if_neg g6, if_pos g7]
                  intro _; rw [q]
                  show runeN (c :: r.take 3) = 4
                  rw [e, if_neg g1, if_neg g2, tk _ _ _ (by omega), if_pos g3, if_neg g4, tk _ _ _ (by omega), if_pos g5, if_neg g6, tk _ _ _ (by omega), if_pos g7]
                · intro h; rw [e, if_neg g1, if_neg g2, if_pos g3, if_neg g4, if_pos g5, if_neg g6, if_neg g7] at h; omega
            · intro h; rw [e, if_neg g1, if_neg g2, if_pos g3, if_neg g4, if_neg g5] at h; omega
        · intro h; rw [e, if_neg g1, if_neg g2, if_neg g3] at h; omega
end Go.Js
namespace Go.Proofs.YtolcmaipjpkidaaGreatDoor
open Go Go.SL Go.Pure Go.Js
/-- So many bytes more of a rune. -/
def contN : Nat → List Nat → Nat → Option Nat
  | 0, _, v => some v
  | n + 1, [], _ => none
  | n + 1, c :: s, v => if cont c then contN n s (v * 64 + c % 64) else none
def runeW (n L : Nat) : Option Nat → Nat
  | none => 0
  | some v => if v < L ∨ 1114111 < v ∨ (55296 ≤ v ∧ v < 57344) then 0 else n
theorem runeW_some (n L v : Nat) : runeW n L (some v) = if v < L ∨ 1114111 < v ∨ (55296 ≤ v ∧ v < 57344) then 0 else n := rfl
theorem runeW_none (n L : Nat) : runeW n L none = 0 := rfl
def runeE (c : Nat) (r : List Nat) : Nat := if c < 128 then 1 else if c < 194 ∨ 245 ≤ c then 0 else if (acc2 c).1 ≤ r.getD 0 0 ∧ r.getD 0 0 ≤ (acc2 c).2 then (if c < 224 then 2 else if cont (r.getD 1 0) then (if c < 240 then 3 else if cont (r.getD 2 0) then 4 else 0) else 0) else 0
theorem runeE_eq (c : Nat) (r : List Nat) : runeN (c :: r) = runeE c r := rfl
theorem acc2_iff (c x : Nat) : ((acc2 c).1 ≤ x ∧ x ≤ (acc2 c).2) ↔ (128 ≤ x ∧ x ≤ 191) ∧ (c = 224 → 160 ≤ x) ∧ (c = 237 → x ≤ 159) ∧ (c = 240 → 144 ≤ x) ∧ (c = 244 → x ≤ 143) := by
  unfold acc2
  by_cases g1 : c = 224
  · rw [if_pos g1]; show 160 ≤ x ∧ x ≤ 191 ↔ _; omega
  · rw [if_neg g1]
    by_cases g2 : c = 237
    · rw [if_pos g2]; show 128 ≤ x ∧ x ≤ 159 ↔ _; omega
    · rw [if_neg g2]
      by_cases g3 : c = 240
      · rw [if_pos g3]; show 144 ≤ x ∧ x ≤ 191 ↔ _; omega
      · rw [if_neg g3]
        by_cases g4 : c = 244
        · rw [if_pos g4]; show 128 ≤ x ∧ x ≤ 143 ↔ _; omega
        · rw [if_neg g4]; show 128 ≤ x ∧ x ≤ 191 ↔ _; omega
theorem rune_2 {c a : Nat} {r : List Nat} (h : 194 ≤ c ∧ c < 224) : runeN (c :: a :: r) = runeW 2 128 (contN 1 (a :: r) (c % 32)) := by
  rw [runeE_eq]
  unfold runeE
  rw [if_neg (by omega), if_neg (by omega)]
  simp only [List.getD_cons_zero, acc2_iff, contN]
  by_cases q : cont a = true
  · have q' := q
    unfold cont at q'
    rw [decide_eq_true_eq] at q'
    rw [if_pos (by omega), if_pos (by omega), if_pos q]
    rw [show ∀ n L v, runeW n L (some v) = if v < L ∨ 1114111 < v ∨ (55296 ≤ v ∧ v < 57344) then 0 else n from fun _ _ _ => rfl]
    rw [if_neg (by omega)]
  · have q' := q
    unfold cont at q'
    rw [decide_eq_true_eq] at q'
    rw [if_neg (by omega), if_neg q]
    rfl
theorem rune_3 {c a a2 : Nat} {r : List Nat} (h : 224 ≤ c ∧ c < 240) : runeN (c :: a :: a2 :: r) = runeW 3 2048 (contN 2 (a :: a2 :: r) (c % 16)) := by
  rw [runeE_eq]
  unfold runeE
  rw [if_neg (by omega), if_neg (by omega)]
  simp only [List.getD_cons_zero, List.getD_cons_succ, acc2_iff, contN]
  by_cases q : cont a = true
  · have q' := q
    unfold cont at q'
    rw [decide_eq_true_eq] at q'
    rw [if_pos q]
    by_cases p : cont a2 = true
    · have p' := p
      unfold cont at p'
      rw [decide_eq_true_eq] at p'
      rw [if_pos p, if_pos p]
      rw [runeW_some, if_neg (show ¬ c < 224 by omega), if_pos (show c < 240 by omega)]
      by_cases z : (c % 16 * 64 + a % 64) * 64 + a2 % 64 < 2048 ∨ 1114111 < (c % 16 * 64 + a % 64) * 64 + a2 % 64 ∨ (55296 ≤ (c % 16 * 64 + a % 64) * 64 + a2 % 64 ∧ (c % 16 * 64 + a % 64) * 64 + a2 % 64 < 57344)
      · rw [if_pos z, if_neg (by omega)]
      · rw [if_neg z, if_pos (by omega)]
    · rw [if_neg p, if_neg p]
      rw [runeW_none]
      rw [if_neg (show ¬ c < 224 by omega), ite_self]
  · have q' := q
    unfold cont at q'
    rw [decide_eq_true_eq] at q'
    rw [if_neg (by omega), if_neg q]
    rfl
theorem rune_4 {c a a2 a3 : Nat} {r : List Nat} (h : 240 ≤ c ∧ c < 245) : runeN (c :: a :: a2 :: a3 :: r) = runeW 4 65536 (contN 3 (a :: a2 :: a3 :: r) (c % 8)) := by
  rw [runeE_eq]
  unfold runeE
  rw [if_neg (by omega), if_neg (by omega)]
  simp only [List.getD_cons_zero, List.getD_cons_succ, acc2_iff, contN]
  rw [if_neg (show ¬ c < 224 by omega), if_neg (show ¬ c < 240 by omega)]
  by_cases q : cont a = true
  · have q' := q
    unfold cont at q'
    rw [decide_eq_true_eq] at q'
    rw [if_pos q]
    by_cases p : cont a2 = true
    · have p' := p
      unfold cont at p'
      rw [decide_eq_true_eq] at p'
      rw [if_pos p, if_pos p]
      by_cases o : cont a3 = true
      · have o' := o
        unfold cont at o'
        rw [decide_eq_true_eq] at o'
        rw [if_pos o, if_pos o]
        rw [runeW_some]
        by_cases z : ((c % 8 * 64 + a % 64) * 64 + a2 % 64) * 64 + a3 % 64 < 65536 ∨ 1114111 < ((c % 8 * 64 + a % 64) * 64 + a2 % 64) * 64 + a3 % 64 ∨ (55296 ≤ ((c % 8 * 64 + a % 64) * 64 + a2 % 64) * 64 + a3 % 64 ∧ ((c % 8 * 64 + a % 64) * 64 + a2 % 64) * 64 + a3 % 64 < 57344)
        · rw [if_pos z, if_neg (by omega)]
        · rw [if_neg z, if_pos (by omega)]
      · rw [if_neg o, if_neg o]
        rw [runeW_none]
        rw [ite_self]
    · rw [if_neg p, if_neg p]
      rw [runeW_none]
      rw [ite_self]
  · have q' := q
    unfold cont at q'
    rw [decide_eq_true_eq] at q'
    rw [if_neg (by omega), if_neg q]
    rfl
section
variable {h : Hp} {K : Value → Hp → Prop} {v : Value} {b : List Nat}
theorem T_Rune9 {n L w0 : Nat} (r : Rn h .u8 v b) (bb : Bytes b) (hn : 2 ≤ n ∧ n ≤ 4) (hl : n ≤ b.length) (hL : L ≤ 65536) (hw : w0 < 64)
    (k : ∀ x, K (.tuple #[.int .i64 x, .int .i64 ((runeW n L (contN (n - 1) (b.drop 1) w0) : Nat) : Int)]) h) : s_orlopref15_Rune_9 K h v (.int .i64 0) (.int .i64 0) (.int .i64 (n : Int)) (.int .i64 (w0 : Int)) (.int .i64 (L : Int)) := by
  unfold s_orlopref15_Rune_9
  refine Lp_mk (fun m vs G => ∃ j w : Nat, j + m = n ∧ 1 ≤ j ∧ G = h ∧ w < 64 ^ j ∧ contN m (b.drop j) w = contN (n - 1) (b.drop 1) w0 ∧ vs = [.int .i64 0, .int .i64 0, .int .i64 (w : Int), .int .i64 (j : Int)]) (n - 1) ⟨1, w0, by omega, by omega, rfl, by omega, rfl, rfl⟩ ?_
  rintro m vs G ⟨j, w, hj, h1, rfl, hw, e, rfl⟩
  have hw' : w < 16777216 := Nat.lt_of_lt_of_le hw (Nat.pow_le_pow_right (n := 64) (by decide) (show j ≤ 4 by omega))
  simp -zeta only [GL, q_bLen r, ltN]
  cases m with
  | zero =>
    rw [decide_eq_false (show ¬ j < n by omega)]
    simp -zeta only [GL, RL, Bool.false_eq_true, if_false]
    rw [← e] at k
    simp only [contN, runeW] at k
    unfold s_orlopref15_Rune_10 s_orlopref15_Rune_11
    by_cases c1 : w < L
    · rw [if_pos (by omega)] at k
      simp -zeta only [GL, RL, ltN, decide_eq_true c1, if_true, Bool.true_eq_false, if_false]
      exact k 0
    · have d2 : ∀ z, (1114111 < w ↔ z = true) → decide ((1114111 : Int) < (w : Int)) = z := fun z hz => by
        by_cases q : 1114111 < w
        · rw [hz.1 q]; exact decide_eq_true (by omega)
        · have : z = false := by cases z; · rfl
                                 · exact absurd (hz.2 rfl) q
          rw [this]; exact decide_eq_false (by omega)
      by_cases c2 : 1114111 < w
      · rw [if_pos (by omega)] at k
        simp -zeta only [GL, RL, ltN, decide_eq_false c1, d2 true (by simp [c2]), if_true, Bool.true_eq_false, if_false]
        exact k 0
      · have f2 := d2 false (by simp; omega)
        by_cases c3 : 55296 ≤ w
        · have f3 : decide ((55296 : Int) ≤ (w : Int)) = true := decide_eq_true (by omega)
          by_cases c4 : w < 57344
          · have f4 : decide ((w : Int) < 57344) = true := decide_eq_true (by omega)
            rw [if_pos (by omega)] at k
            simp -zeta only [GL, RL, ltN, decide_eq_false c1, f2, f3, f4, if_true, Bool.true_eq_false, if_false]
            exact k 0
          · have f4 : decide ((w : Int) < 57344) = false := decide_eq_false (by omega)
            rw [if_neg (by omega)] at k
            simp -zeta only [GL, RL, ltN, decide_eq_false c1, f2, f3, f4, if_true, Bool.true_eq_false, Bool.false_eq_true, if_false]
            exact k _
        · have f3 : decide ((55296 : Int) ≤ (w : Int)) = false := decide_eq_false (by omega)
          rw [if_neg (by omega)] at k
          simp -zeta only [GL, RL, ltN, decide_eq_false c1, f2, f3, if_true, Bool.true_eq_false, Bool.false_eq_true, if_false]
          exact k _
  | succ m =>
    rw [decide_eq_true (show j < n by omega)]
    have g : j < b.length := by omega
    rw [dropAt g] at e
    simp -zeta only [GL, RL, if_true, q_bAt r g, up1 (n := j) (by omega)]
    have hb : b.getD j 0 < 256 := by rw [List.getD_eq_getElem?_getD, List.getElem?_eq_getElem g]; exact bb _ (List.getElem_mem g)
    generalize b.getD j 0 = c at *
    have q1 : ((c : Nat) : Int).tdiv 64 = ((c / 64 : Nat) : Int) := by rw [Int.tdiv_eq_ediv_of_nonneg (by omega)]; omega
    have q2 : IntKind.u8.wrap ((c / 64 : Nat) : Int) = ((c / 64 : Nat) : Int) := wu8i (by omega) (by omega)
    have q3 : IntKind.i64.wrap ((c : Nat) : Int) = (c : Int) := wi64 (by omega) (by omega)
    have q4 : ((c : Nat) : Int).tmod 64 = ((c % 64 : Nat) : Int) := by rw [Int.tmod_eq_emod_of_nonneg (by omega)]; omega
    have q5 : IntKind.i64.wrap (IntKind.i64.wrap ((w : Int) * 64) + ((c % 64 : Nat) : Int)) = ((w * 64 + c % 64 : Nat) : Int) := by
      rw [wi64 (x := (w : Int) * 64) (by omega) (by omega), wi64 (by omega) (by omega)]; omega
    rw [q_quo _ _ _ _ (by decide), q1, q2]
    by_cases z : cont c = true
    · have z' := z
      unfold cont at z'
      rw [decide_eq_true_eq] at z'
      have z2 : (((c / 64 : Nat) : Int) != 2) = false := by
        have : c / 64 = 2 := by omega
        rw [this]; rfl
      simp -zeta only [GL, RL, z2, Bool.false_eq_true, if_false, q3]
      rw [q_rem _ _ _ _ (by decide), q4]
      simp -zeta only [GL, RL, q5]
      rw [contN, if_pos z] at e
      exact ⟨G, .refl _, m, by omega, j + 1, w * 64 + c % 64, by omega, by omega, rfl, by rw [Nat.pow_succ]; omega, e, rfl⟩
    · have z' := z
      unfold cont at z'
      rw [decide_eq_true_eq] at z'
      have z2 : (((c / 64 : Nat) : Int) != 2) = true := by
        rw [bne_iff_ne]; omega
      simp -zeta only [GL, RL, z2, if_true]
      rw [contN, if_neg z] at e
      rw [← e] at k
      exact k 0
theorem T_Rune15 (r : Rn h .u8 v b) (bb : Bytes b) (lb : b.length ≤ 1125899906842624) (k : ∀ x, K (.tuple #[.int .i64 x, .int .i64 ((runeN b : Nat) : Int)]) h) : Cn P n_orlopref15_Rune #[v] h K := by
  refine F_orlopref15_Rune ?_
  unfold s_orlopref15_Rune s_orlopref15_Rune_1
  simp -zeta only [GL, RL, q_bLen r]
  by_cases g0 : b.length = 0
  · have : b = [] := List.length_eq_zero_iff.1 g0
    subst this
    have e0 : ((([] : List Nat).length : Nat) : Int) == 0 := rfl
    simp -zeta only [e0, if_true]
    exact k 0
  have e0 : (((b.length : Nat) : Int) == 0) = false := by rw [beq_eq_false_iff_ne]; omega
  simp -zeta only [e0, Bool.false_eq_true, if_false]
  unfold s_orlopref15_Rune_2
  have i0 : (Value.int .i64 0) = .int .i64 ((0 : Nat) : Int) := rfl
  have hb : b.getD 0 0 < 256 := by rw [List.getD_eq_getElem?_getD, List.getElem?_eq_getElem (by omega)]; exact bb _ (List.getElem_mem (by omega))
  have eb : b = b.getD 0 0 :: b.drop 1 := by
    have := dropAt (b := b) (i := 0) (by omega)
    rwa [List.drop_zero] at this
  rw [i0, q_bAt r (by omega)]
  have ld : (b.drop 1).length + 1 = b.length := by rw [List.length_drop]; omega
  generalize hc : b.getD 0 0 = c at *
  have q3 : IntKind.i64.wrap ((c : Nat) : Int) = (c : Int) := wi64 (by omega) (by omega)
  simp -zeta only [GL, RL, q3]
  unfold s_orlopref15_Rune_3
  have l1 : ∀ z : Nat, decide (((c : Nat) : Int) < (z : Int)) = decide (c < z) := fun z => by
    by_cases q : c < z
    · rw [decide_eq_true q]; exact decide_eq_true (by omega)
    · rw [decide_eq_false q]; exact decide_eq_false (by omega)
  by_cases g1 : c < 128
  · have f1 : decide (((c : Nat) : Int) < 128) = true := decide_eq_true (by omega)
    simp -zeta only [GL, RL, f1, if_true]
    have := k (c : Int)
    rw [eb, runeN_ascii _ g1] at this
    exact this
  have f1 : decide (((c : Nat) : Int) < 128) = false := decide_eq_false (by omega)
  simp -zeta only [GL, RL, f1, Bool.false_eq_true, if_false]
  unfold s_orlopref15_Rune_4 s_orlopref15_Rune_5 s_orlopref15_Rune_6 s_orlopref15_Rune_7
  have no : runeN b = 0 → K (.tuple #[.int .i64 0, .int .i64 0]) h := fun q => by
    have := k 0
    rw [q] at this
    exact this
  have part : ∀ (n L w0 : Nat), 2 ≤ n ∧ n ≤ 4 → L ≤ 65536 → w0 < 64 → (b.length < n → runeN b = 0) → (n ≤ b.length → runeN b = runeW n L (contN (n - 1) (b.drop 1) w0)) → s_orlopref15_Rune_8 K h v (.int .i64 0) (.int .i64 0) (.int .i64 (n : Int)) (.int .i64 (w0 : Int)) (.int .i64 (L : Int)) := fun n L w0 hn hL hw h1 h2 => by
    unfold s_orlopref15_Rune_8
    have e1 : (((n : Nat) : Int) == 0) = false := by rw [beq_eq_false_iff_ne]; omega
    simp -zeta only [GL, RL, q_bLen r, e1, Bool.false_eq_true, if_false, if_true, ltN]
    by_cases g : b.length < n
    · rw [if_pos (by simpa using g)]
      exact no (h1 g)
    · rw [if_neg (by simpa using g)]
      refine T_Rune9 r bb hn (by omega) hL hw fun x => ?_
      rw [← h2 (by omega)]
      exact k x
  have two : ∀ n, ((194 ≤ c ∧ c < 224 ∧ n = 2) ∨ (224 ≤ c ∧ c < 240 ∧ n = 3) ∨ (240 ≤ c ∧ c < 245 ∧ n = 4)) → runeN b = 0 ∨ runeN b = n := fun n hn => by
    rw [eb, runeE_eq]
    unfold runeE
    rw [if_neg g1, if_neg (by omega)]
    split
    · split
      · right; omega
      · split
        · split
          · right; omega
          · split
            · right; omega
            · exact .inl rfl
        · exact .inl rfl
    · exact .inl rfl
  have len := runeN_len b
  have b1 : ((2 : Nat) : Int) = 2 ∧ ((3 : Nat) : Int) = 3 ∧ ((4 : Nat) : Int) = 4 := ⟨rfl, rfl, rfl⟩
  by_cases g2 : c < 194
  · have n0 : runeN b = 0 := by
      rw [eb, runeE_eq]; unfold runeE; rw [if_neg g1, if_pos (by omega)]
    have f2 : decide ((194 : Int) ≤ ((c : Nat) : Int)) = false := decide_eq_false (by omega)
    have f3 : decide ((224 : Int) ≤ ((c : Nat) : Int)) = false := decide_eq_false (by omega)
    have f4 : decide ((240 : Int) ≤ ((c : Nat) : Int)) = false := decide_eq_false (by omega)
    have z0 : ((0 : Int) == 0) = true := rfl
    simp only [GL, RL, f2, f3, f4, Bool.false_eq_true, if_false]
    unfold s_orlopref15_Rune_8
    simp -zeta only [GL, RL, z0, if_true, Bool.true_eq_false, if_false]
    exact no n0
  have f2 : decide ((194 : Int) ≤ ((c : Nat) : Int)) = true := decide_eq_true (by omega)
  by_cases g3 : c < 224
  · have f3 : decide (((c : Nat) : Int) < 224) = true := decide_eq_true (by omega)
    have t1 : ((c : Nat) : Int).tmod 32 = ((c % 32 : Nat) : Int) := by rw [Int.tmod_eq_emod_of_nonneg (by omega)]; omega
    simp only [GL, RL, f2, f3, if_true]
    rw [q_rem _ _ _ _ (by decide), t1]
    refine part 2 128 (c % 32) (by omega) (by omega) (by omega) (fun q => ?_) (fun q => ?_)
    · have := two 2 (by omega); omega
    · cases e : b.drop 1 with
      | nil => rw [e] at ld; simp at ld; omega
      | cons a r' => rw [eb, e]; exact rune_2 ⟨by omega, g3⟩
  have f3 : decide (((c : Nat) : Int) < 224) = false := decide_eq_false (by omega)
  have f4 : decide ((224 : Int) ≤ ((c : Nat) : Int)) = true := decide_eq_true (by omega)
  by_cases g4 : c < 240
  · have f5 : decide (((c : Nat) : Int) < 240) = true := decide_eq_true (by omega)
    have t1 : ((c : Nat) : Int).tmod 16 = ((c % 16 : Nat) : Int) := by rw [Int.tmod_eq_emod_of_nonneg (by omega)]; omega
    simp only [GL, RL, f2, f3, f4, f5, if_true, Bool.false_eq_true, if_false]
    rw [q_rem _ _ _ _ (by decide), t1]
    refine part 3 2048 (c % 16) (by omega) (by omega) (by omega) (fun q => ?_) (fun q => ?_)
    · have := two 3 (by omega); omega
    · cases e : b.drop 1 with
      | nil => rw [e] at ld; simp at ld; omega
      | cons a r' =>
        cases r' with
        | nil => rw [e] at ld; simp at ld; omega
        | cons a2 r2 => rw [eb, e]; exact rune_3 ⟨by omega, g4⟩
  have f5 : decide (((c : Nat) : Int) < 240) = false := decide_eq_false (by omega)
  have f6 : decide ((240 : Int) ≤ ((c : Nat) : Int)) = true := decide_eq_true (by omega)
  by_cases g5 : c < 245
  · have f7 : decide (((c : Nat) : Int) < 245) = true := decide_eq_true (by omega)
    have t1 : ((c : Nat) : Int).tmod 8 = ((c % 8 : Nat) : Int) := by rw [Int.tmod_eq_emod_of_nonneg (by omega)]; omega
    simp only [GL, RL, f2, f3, f4, f5, f6, f7, if_true, Bool.false_eq_true, if_false]
    rw [q_rem _ _ _ _ (by decide), t1]
    refine part 4 65536 (c % 8) (by omega) (by omega) (by omega) (fun q => ?_) (fun q => ?_)
    · have := two 4 (by omega); omega
    · cases e : b.drop 1 with
      | nil => rw [e] at ld; simp at ld; omega
      | cons a r' =>
        cases r' with
        | nil => rw [e] at ld; simp at ld; omega
        | cons a2 r2 =>
          cases r2 with
          | nil => rw [e] at ld; simp at ld; omega
          | cons a3 r3 => rw [eb, e]; exact rune_4 ⟨by omega, g5⟩
  have f7 : decide (((c : Nat) : Int) < 245) = false := decide_eq_false (by omega)
  have n0 : runeN b = 0 := by
    rw [eb, runeE_eq]; unfold runeE; rw [if_neg g1, if_pos (by omega)]
  have z0 : ((0 : Int) == 0) = true := rfl
  simp only [GL, RL, f2, f3, f4, f5, f6, f7, if_true, Bool.false_eq_true, if_false]
  unfold s_orlopref15_Rune_8
  simp -zeta only [GL, RL, z0, if_true, Bool.true_eq_false, if_false]
  exact no n0
end
section
variable {h : Hp} {K : Value → Hp → Prop} {v : Value} {b : List Nat}
theorem textG_cons (c : Nat) (r out : List Nat) : textG (c :: r) out = if c = 34 then some (out, r) else if c < 32 then none else if c = 92 then (match escape r with | none => none | some (v, r1) => if r1.length < r.length + 1 then textG r1 (out ++ enc v) else none)
    else if 0 < runeN (c :: r) then textG ((c :: r).drop (runeN (c :: r))) (out ++ (c :: r).take (runeN (c :: r))) else none := by
  rw [textG]
  rfl
end
/-- A list's or a map's variable, that grows. -/
structure Grow (E sE off : Nat) (kd : Int) (r : Nat) (css : List (List Value)) (sv : Value) (So : List Nat) (R h : Hp) : Prop where
  own : Own R h (r :: So)
  nr : r ∉ So
  row : h r = some (.row t_api_Value ((row0 kd).set off sv) 6 (some (0, 0)))
  out : OutAt E sE h sv css.flatten css.length So
section
variable {R h : Hp} {K : Hp → Prop} {E sE off r : Nat} {kd : Int} {css : List (List Value)} {sv : Value} {So : List Nat}
theorem Grow.go {R' h' : Hp} (I : Grow E sE off kd r css sv So R h) (st : Stp R h R' h' [] []) : Grow E sE off kd r css sv So R' h' ∧ Stp R h R' h' (r :: So) (r :: So) := by
  obtain ⟨ow, _, eq⟩ := st.frame I.own (fun b _ q => by cases q)
  have w := st.wide I.own (fun b _ q => by cases q)
  exact ⟨⟨ow, I.nr, by rw [eq r (by simp)]; exact I.row, I.out.keep fun x hx => eq x (List.mem_cons_of_mem _ hx)⟩, w⟩
theorem Grow.start (ho : off = 4 ∨ off = 5) (w : Own R h []) (hr : h r = none) : Grow E sE off kd r [] (.slice none 0 0) [] R (h.set r (.row t_api_Value (row0 kd) 6 (some (0, 0)))) ∧ Stp R h R (h.set r (.row t_api_Value (row0 kd) 6 (some (0, 0)))) [] [r] := by
  have x := ext_set (.row t_api_Value (row0 kd) 6 (some (0, 0))) hr
  obtain ⟨w1, w2, dj, _⟩ := Own.mk1 (.row t_api_Value (row0 kd) 6 (some (0, 0))) w hr
  refine ⟨⟨w1, by simp, ?_, .inl ⟨rfl, rfl, rfl, rfl⟩⟩, (Stp.ext0 w x).gain w1 fun y hy => by rw [List.mem_singleton.1 hy]; exact hr⟩
  rcases ho with rfl | rfl <;> exact Hp.set_same ..
/-- One more is taken in. -/
theorem Grow.push {T B : Nat} {z : Value} {cs : List Value} (I : Grow E sE off kd r css sv So R h) (uT : P.underlying T = some (.slice E)) (zE : sz P E = some sE) (zT : sz P T = some 1) (hzr : zr P E = some z) (hz : z.cells.size = sE)
    (nfo : (P.info? E).map (fun i => (i.zero, i.size, i.bytes)) = some (some z, sE, B)) (hB1 : 1 ≤ B) (hB2 : B ≤ 1000) (h0 : 0 < sE) (hs : sE ≤ 1000) (ho : off < 6) (fld : ∀ {h : Hp} {K : Value → Prop}, q P h (Instr.fieldAt t_api_Value (.pointer (some ⟨r, 0, none⟩)) off) K = K (.pointer (some ⟨r, off, none⟩)))
    (lc : cs.length = sE) (fc : ∀ y ∈ cs, flat y = true) (ln : css.length ≤ 100000)
    (k : ∀ v' h' So', Grow E sE off kd r (css ++ [cs]) v' So' R h' → Stp R h R h' (r :: So) (r :: So') → K h') :
    aw P (Instr.buildSlice T 1 #[(0, .agg cs.toArray)]) (fun t113 h => aw P (Builtin.append_ #[T, T] T #[sv, t113]) (fun t114 h => q P h (Instr.fieldAt t_api_Value (.pointer (some ⟨r, 0, none⟩)) off) fun t115 => aw P (Instr.storeAt T t115 t114) (fun _ h => K h) h) h) h := by
  refine aw_litA uT zE hzr hz lc h0 hs fun w h1 nw => ?_
  have x1 := nw.ext
  have o1 : OutAt E sE h1 sv css.flatten css.length So := I.out.keep fun y hy => by
    obtain ⟨o, ho⟩ := I.own.kn y (List.mem_cons_of_mem _ hy)
    rw [ho, x1 _ _ ho]
  have row1 := x1 _ _ I.row
  refine aw_appendO uT uT nfo hz hB1 o1 nw.rds fc ?_ fun v' h2 So' o2 kp fr => ?_
  · have : (2 * (css.length + 1) + 768) * B ≤ 201000 * 1000 := Nat.mul_le_mul (by omega) hB2
    omega
  have row2 := kp r _ I.nr row1
  have nr2 := fr r _ I.nr row1
  rw [fld]
  have fv : flat v' = true := by rcases o2 with ⟨rfl, _⟩ | ⟨_, _, _, _, rfl, _⟩ <;> rfl
  refine aw_store zT fv (put_row row2 (by simp; omega) (by omega) _) ?_
  rw [List.set_set]
  have oth : ∀ y, y ∈ So' → y ≠ r := fun y hy z => nr2 (by rw [← z]; exact hy)
  have o3 : OutAt E sE (h2.set r (.row t_api_Value ((row0 kd).set off v') 6 (some (0, 0)))) v' (css ++ [cs]).flatten (css ++ [cs]).length So' := by
    have := o2.keep (h' := h2.set r (.row t_api_Value ((row0 kd).set off v') 6 (some (0, 0)))) fun y hy => Hp.set_ne _ _ (oth y hy)
    rw [List.flatten_append, List.length_append]
    simpa using this
  have hRs : ∀ x o, R x = some o → x ∉ r :: So := fun x o e q => by rw [I.own.dis x q] at e; cases e
  have kp3 : ∀ x o, x ∉ r :: So → h x = some o → (h2.set r (.row t_api_Value ((row0 kd).set off v') 6 (some (0, 0)))) x = some o := fun x o hx e => by
    rw [Hp.set_ne _ _ (fun z => hx (by rw [z]; simp))]
    exact kp x o (fun z => hx (List.mem_cons_of_mem _ z)) (x1 _ _ e)
  have fr3 : ∀ x o, x ∉ r :: So → h x = some o → x ∉ r :: So' := fun x o hx e z => by
    rcases List.mem_cons.1 z with z | z
    · exact hx (by rw [z]; simp)
    · exact fr x o (fun z => hx (List.mem_cons_of_mem _ z)) (x1 _ _ e) z
  have ow : Own R (h2.set r (.row t_api_Value ((row0 kd).set off v') 6 (some (0, 0)))) (r :: So') := ⟨fun x o e => kp3 x o (hRs x o e) (I.own.sub x o e), fun x hx => by
    cases e : R x with
    | none => rfl
    | some o => exact absurd hx (fr3 x o (hRs x o e) (I.own.sub x o e)), fun x hx => by
    rcases List.mem_cons.1 hx with rfl | hx
    · exact ⟨_, Hp.set_same ..⟩
    · exact out_some o3 hx⟩
  exact k v' _ So' ⟨ow, nr2, Hp.set_same .., o3⟩ ⟨.refl _, kp3, fr3, fun x o hx e q => q, ow⟩
end
section
variable {R h : Hp} {K : Value → Hp → Prop}
end
/-- What the document's reader tells. -/
def Res15 (b : List Nat) (R : Hp) (e : Except Int (JV × List Nat)) (cs : List Value) (j c : Int) : Prop := match e with
  | .error c' => cs = row0 0 ∧ j = 0 ∧ c = c'
  | .ok (x, t) => JvR R cs x ∧ c = 0 ∧ ∃ n : Nat, j = (n : Int) ∧ n ≤ b.length ∧ b.drop n = t
theorem Res15.len {b : List Nat} {R : Hp} {e : Except Int (JV × List Nat)} {cs : List Value} {j c : Int} (a : Res15 b R e cs j c) : cs.length = 6 ∧ ∀ y ∈ cs, flat y = true := by
  unfold Res15 at a
  split at a
  · rw [a.1]; exact ⟨rfl, row0_flat 0⟩
  · exact ⟨a.1.len, a.1.flat⟩
theorem mefz {h : Hp} {K : Value → Prop} (b o : Nat) : q P h (Instr.fieldAt t_api_Member (.pointer (some ⟨b, o, none⟩)) 0) K = K (.pointer (some ⟨b, o, none⟩)) := q_of (by kernel_rfl) K
section
variable {R h : Hp} {K : Value → Hp → Prop} {v : Value} {b : List Nat}
end
/-- What is made of a value and its rest. -/
def fin16 : Except Int (JV × List Nat) → Except Int JV
  | .error c => .error c
  | .ok (v, r) => if skip r = [] then .ok v else .error 8
theorem parse_fin (b : List Nat) : parse b = if 65536 < b.length then .error 3 else fin16 (value 16 b) := by
  unfold parse
  by_cases g : 65536 < b.length
  · rw [if_pos g, if_pos g]
  · rw [if_neg g, if_neg g]
    generalize value 16 b = e
    cases e <;> rfl
section
variable {R h : Hp} {K : Value → Hp → Prop} {v : Value} {b : List Nat}
end
section
variable {h : Hp}
/-- A thing out of a row, loaded (its place is told without a look at memory). -/
theorem q_itemAtE {t e s : Nat} {v : Value} {items : List (List Value)} {i : Nat} {x : List Value} {d : TypeDesc} {he : Hp} {F : Value → Prop} (ht : P.underlying t = some (.slice e)) (hs : sz P e = some s) (hd : P.underlying e = some d) (hg : aggB d = true)
    (A : SlAt h s v items) (hi : items[i]? = some x) (lx : x.length = s) (k : F (.agg x.toArray)) :
    q P he (Instr.indexAt t v (.int .i64 (i : Int))) fun t31 => q P h (Instr.loadAt e t31) F := by
  have hlt := (List.getElem?_eq_some_iff.1 hi).1
  obtain ⟨a, c, rfl, hc, hr⟩ := A
  rcases hr with rfl | ⟨b, o, rfl, hy⟩
  · simp at hlt
  rw [q_idxS ht hs _ _ _ _ _ (by omega) (by omega), Int.toNat_natCast, add_off, q_ldAgg (ys := x) hd hg (by rw [lx]; exact hs) (hy i x hi)]
  exact k
theorem q_nameAt {v : Value} {items : List (List Value)} {i : Nat} {nm : Value} {x : List Value} {he : Hp} {F : Value → Prop} (A : SlAt h 7 v items) (hi : items[i]? = some (nm :: x)) (k : F nm) :
    q P he (Instr.indexAt t_Sl_api_Member v (.int .i64 (i : Int))) fun t31 => q P h (Instr.fieldAt t_api_Member t31 0) fun t81 => q P h (Instr.loadAt t_string t81) F := by
  have hlt := (List.getElem?_eq_some_iff.1 hi).1
  obtain ⟨a, c, rfl, hc, hr⟩ := A
  rcases hr with rfl | ⟨b, o, rfl, hy⟩
  · simp at hlt
  have cl := hy i _ hi 0 _ rfl
  rw [Nat.add_zero] at cl
  rw [q_idxS u_Sl_api_Member z_api_Member _ _ _ _ _ (by omega) (by omega), Int.toNat_natCast, add_off, mefz, q_ld u_string rfl, cl, withVal_some]
  exact k
theorem q_valAt {v : Value} {items : List (List Value)} {i : Nat} {nm : Value} {x : List Value} {he : Hp} {F : Value → Prop} (A : SlAt h 7 v items) (hi : items[i]? = some (nm :: x)) (lx : x.length = 6) (k : F (.agg x.toArray)) :
    q P he (Instr.indexAt t_Sl_api_Member v (.int .i64 (i : Int))) fun t31 => q P h (Instr.fieldAt t_api_Member t31 1) fun t81 => q P h (Instr.loadAt t_api_Value t81) F := by
  have hlt := (List.getElem?_eq_some_iff.1 hi).1
  obtain ⟨a, c, rfl, hc, hr⟩ := A
  rcases hr with rfl | ⟨b, o, rfl, hy⟩
  · simp at hlt
  rw [q_idxS u_Sl_api_Member z_api_Member _ _ _ _ _ (by omega) (by omega), Int.toNat_natCast, add_off, mefo]
  rw [q_ldAgg (ys := x) u_api_Value rfl (by rw [lx]; exact z_api_Value) (fun j z ez => by have := hy i _ hi (1 + j) z (by rw [Nat.add_comm]; exact ez); rw [← Nat.add_assoc] at this; exact this)]
  exact k
end
theorem T_refSame15 {R : Hp} {ca : List Value} {a : JV} (ja : JvR R ca a) : ∀ {cb : List Value}, JvR R cb a → ∀ {h : Hp}, Hp.cle R h → ∀ {K : Value → Hp → Prop}, K (.bool true) h → Cn P n_orlopref15_Same #[.agg ca.toArray, .agg cb.toArray] h K := by
  induction ja with
  | @mk ka oa na ta la ma sla sma ila ima bta lta lla lma hla nla ela hma nma ema hda ihl ihm =>
    intro cb jb h rc K k
    have jb' := jb
    have ja' : JvR R _ (.mk ka oa na ta la ma) := .mk ila ima bta lta lla lma hla nla ela hma nma ema hda
    cases jb with
    | @mk _ _ _ _ _ _ slb smb ilb imb btb ltb llb lmb hlb nlb elb hmb nmb emb hdb =>
      refine Cn_wk (F_orlopref15_Same ?_)
      unfold s_orlopref15_Same
      refine aw_boxV ja' fun r2 h2 hr2 x2 e2 => ?_
      refine aw_boxV jb' fun r3 h3 hr3 x3 e3 => ?_
      have xx := x2.trans x3
      have rH : Hp.cle R h3 := rc.trans xx.cle
      obtain ⟨a0, a1, a2, a3, a4, a5⟩ := row6 (x3 _ _ e2)
      obtain ⟨b0, b1, b2, b3, b4, b5⟩ := row6 e3
      obtain ⟨va, vac, rfl, hva⟩ := hla.shape
      obtain ⟨wa, wac, rfl, hwa⟩ := hma.shape
      obtain ⟨vb, vbc, rfl, hvb⟩ := hlb.shape
      obtain ⟨wb, wbc, rfl, hwb⟩ := hmb.shape
      intro J2
      have hJ2 : J2 h3 := by
        simp -zeta only [J2]
        refine Lp_mk (fun m vs G => ∃ j : Nat, j + m = la.length ∧ G = h3 ∧ vs = [.bool false, .int .i64 (j : Int)]) la.length ⟨0, by omega, rfl, rfl⟩ ?_
        rintro m vs G ⟨j, hj, rfl, rfl⟩
        simp -zeta only [GL, RL, vaf4, a4, b4, nla, ltN]
        by_cases g : j < la.length
        · rw [decide_eq_true g, if_pos rfl]
          have eca : ila[j]? = some (ila[j]'(by omega)) := List.getElem?_eq_getElem _
          have ecb : ilb[j]? = some (ilb[j]'(by omega)) := List.getElem?_eq_getElem _
          have ex : la[j]? = some la[j] := List.getElem?_eq_getElem _
          have h5 := hla.mono rH
          have h6 := hlb.mono rH
          rw [nla] at h5
          rw [nlb] at h6
          have j1 := ela j _ _ eca ex
          have j2 := elb j _ _ ecb ex
          refine q_itemAtE u_Sl_api_Value z_api_Value u_api_Value rfl h5 eca j1.len ?_
          try simp -zeta only [GL, RL, vaf4, a4, b4]
          try rw [nlb]
          refine q_itemAtE u_Sl_api_Value z_api_Value u_api_Value rfl h6 ecb j2.len ?_
          refine ihl j _ _ eca ex j2 rH ?_
          rw [q_not, cnd_bool, if_neg (by decide), up1 (by omega)]
          exact ⟨G, .refl _, m - 1, by omega, j + 1, by omega, rfl, rfl⟩
        · rw [decide_eq_false g, if_neg (by decide)]
          refine Lp_mk (fun m vs G2 => ∃ j : Nat, j + m = ma.length ∧ G2 = G ∧ vs = [.bool false, .int .i64 (j : Int)]) ma.length ⟨0, by omega, rfl, rfl⟩ ?_
          rintro m2 vs G2 ⟨j2, hj2, rfl, rfl⟩
          simp -zeta only [GL, RL, vaf5, a5, b5, nma, ltN]
          by_cases g2 : j2 < ma.length
          · rw [decide_eq_true g2, if_pos rfl]
            have eca : ima[j2]? = some (ima[j2]'(by omega)) := List.getElem?_eq_getElem _
            have ecb : imb[j2]? = some (imb[j2]'(by omega)) := List.getElem?_eq_getElem _
            have ex : ma[j2]? = some ma[j2] := List.getElem?_eq_getElem _
            have h5 := hma.mono rH
            have h6 := hmb.mono rH
            rw [nma] at h5
            rw [nmb] at h6
            obtain ⟨cs1, ec1, ⟨bn1, ln1⟩, jx1⟩ := meR_of ema hda eca ex
            obtain ⟨cs2, ec2, ⟨bn2, ln2⟩, jx2⟩ := meR_of emb hdb ecb ex
            have ih : ∀ {cb : List Value}, JvR R cb ma[j2].2 → ∀ {h : Hp}, Hp.cle R h → ∀ {K : Value → Hp → Prop}, K (.bool true) h → Cn P n_orlopref15_Same #[.agg cs1.toArray, .agg cb.toArray] h K := by
              intro cb
              have := @ihm j2 _ _ eca ex cb
              rw [ec1] at this
              exact this
            rw [ec1] at eca
            rw [ec2] at ecb
            refine q_nameAt h5 eca ?_
            try simp -zeta only [GL, RL, vaf5, a5, b5]
            try rw [nmb]
            refine q_nameAt h6 ecb ?_
            rw [q_neqSt _ _ bn1 bn2, decide_eq_true rfl]
            simp -zeta only [GL, RL, vaf5, a5, b5, Bool.not_true, if_true]
            try rw [nma]
            refine q_valAt h5 eca jx1.len ?_
            try simp -zeta only [GL, RL, vaf5, a5, b5]
            try rw [nmb]
            refine q_valAt h6 ecb jx2.len ?_
            refine ih jx2 rH ?_
            rw [q_not, cnd_bool, if_neg (by decide), up1 (by omega)]
            exact ⟨G2, .refl _, m2 - 1, by omega, j2 + 1, by omega, rfl, rfl⟩
          · rw [decide_eq_false g2, if_neg (by decide)]
            exact ⟨h, xx.le, k⟩
      clear_value J2
      have nk : (ka != ka) = false := by simp
      have nn : (na != na) = false := by simp
      have no : (!(oa == oa)) = false := by simp
      have nl : (((la.length : Nat) : Int) != ((la.length : Nat) : Int)) = false := by simp
      have nm : (((ma.length : Nat) : Int) != ((ma.length : Nat) : Int)) = false := by simp
      simp -zeta only [GL, RL, vaf0, vaf1, vaf2, vaf3, vaf4, vaf5, a0, a1, a2, a3, a4, a5, b0, b1, b2, b3, b4, b5, nk, nn, nla, nlb, nma, nmb, nl, nm, if_true, Bool.false_eq_true, if_false]
      rw [no, if_pos rfl, q_neqSt _ _ bta bta, decide_eq_true rfl]
      simp -zeta only [GL, Bool.not_true, if_true]
      exact hJ2
end Go.Proofs.YtolcmaipjpkidaaGreatDoor
namespace Go.Proofs.YtolcmaipjpkidaaGreatDoor
open Go Go.SL Go.Pure Go.Js Go.Tar
section
variable {h : Hp} {K : Value → Hp → Prop}
theorem T_Utf15 {l : List Nat} (bl : Bytes l) (ll : l.length ≤ 1125899906842624) (k : K (.bool (validU l)) h) : Cn P n_orlopref15_Utf #[.string (strL l)] h K := by
  refine Cn_wk (F_orlopref15_Utf ?_)
  unfold s_orlopref15_Utf
  refine aw_stB u_string u_Sl_uint8 u_uint8 bl fun w h1 n1 => ?_
  have r1 : Rn h1 .u8 w l := (show Nn h t_uint8 .u8 w h1 l from n1).rn
  refine Lp_mk (fun m vs G => ∃ j : Nat, j + m = l.length ∧ G = h1 ∧ validU (l.drop j) = validU l ∧ vs = [.bool false, .int .i64 (j : Int)]) l.length ⟨0, by omega, rfl, rfl, rfl⟩ ?_
  rintro m vs G ⟨j, hj, rfl, e, rfl⟩
  simp -zeta only [GL, RL, q_bLen r1, ltN]
  by_cases g : j < l.length
  · rw [decide_eq_true g, if_pos rfl]
    have ne : l.drop j ≠ [] := fun z => by have := congrArg List.length z; rw [List.length_drop] at this; simp at this; omega
    refine q_slRn u_Sl_uint8 z_uint8 r1 .i64 j (by omega) fun w2 r2 => ?_
    refine T_Rune15 r2 (fun x hx => bl x (List.mem_of_mem_drop hx)) (by rw [List.length_drop]; omega) fun x => ?_
    have rl := runeN_len (l.drop j)
    rw [List.length_drop] at rl
    rw [ext0, ext1]
    rw [validU_cons ne] at e
    by_cases z : 0 < runeN (l.drop j)
    · rw [if_pos z, List.drop_drop] at e
      have z0 : (((runeN (l.drop j) : Nat) : Int) == 0) = false := by rw [beq_eq_false_iff_ne]; omega
      rw [q_eql, z0, cnd_bool, if_neg (by decide), q_add, upN (runeN (l.drop j)) (by omega) (by have := runeN_le (l.drop j); omega)]
      exact ⟨G, .refl _, l.length - (j + runeN (l.drop j)), by omega, j + runeN (l.drop j), by omega, rfl, e, rfl⟩
    · have z0 : (((runeN (l.drop j) : Nat) : Int) == 0) = true := by rw [beq_iff_eq]; omega
      rw [if_neg z] at e
      rw [q_eql, z0, cnd_bool, if_pos rfl]
      rw [← e] at k
      exact ⟨h, n1.ext.le, k⟩
  · rw [decide_eq_false g, if_neg (by decide)]
    rw [List.drop_eq_nil_of_le (by omega), validU_nil] at e
    rw [← e] at k
    exact ⟨h, n1.ext.le, k⟩
theorem quote_len (l : List Nat) : (l.flatMap quoteB).length ≤ 6 * l.length := by
  induction l with
  | nil => simp
  | cons a l ih =>
    rw [List.flatMap_cons, List.length_append, List.length_cons]
    have := quoteB_len a
    omega
theorem hexS (c : Nat) (hc : c < 16) : (hexDs.take (c + 1)).drop c = [hexc c] := by
  have : ∀ c, c < 16 → (hexDs.take (c + 1)).drop c = [hexc c] := by decide
  exact this c hc
theorem T_Quoted15 {l : List Nat} (bl : Bytes l) (ll : l.length ≤ 100000000000) (k : K (.string (strL (quoteS l))) h) : Cn P n_orlopref15_Quoted #[.string (strL l)] h K := by
  refine F_orlopref15_Quoted ?_
  unfold s_orlopref15_Quoted
  refine Lp_mk (fun m vs G => ∃ j : Nat, j + m = l.length ∧ G = h ∧ vs = [.string (strL (34 :: (l.take j).flatMap quoteB)), .int .i64 (j : Int)]) l.length ⟨0, by omega, rfl, rfl⟩ ?_
  rintro m vs G ⟨j, hj, rfl, rfl⟩
  have ql := quote_len (l.take j)
  rw [List.length_take] at ql
  simp -zeta only [List.getD_cons_succ, List.getD_cons_zero]
  rw [q_lenSt u_string, q_lss, ltN, cnd_bool]
  by_cases g : j < l.length
  · rw [decide_eq_true g, if_pos rfl]
    have u1 := up1 (n := j) (by omega)
    have gx : l.getD j 0 = l[j] := by rw [List.getD_eq_getElem?_getD, List.getElem?_eq_getElem g]; rfl
    have hb : l.getD j 0 < 256 := by rw [gx]; exact bl _ (List.getElem_mem g)
    have sl : (l.take (j + 1)).drop j = [l.getD j 0] := by
      rw [List.drop_take, Nat.add_sub_cancel_left, dropAt g]; rfl
    have nxt : ∀ x : List Nat, x = (34 :: (l.take j).flatMap quoteB) ++ quoteB (l.getD j 0) → ∃ h0, Hp.le h0 G ∧ ∃ m', m' < m ∧ ∃ n' : Nat, n' + m' = l.length ∧ h0 = G ∧ [Value.string (strL x), .int .i64 ((j + 1 : Nat) : Int)] = [.string (strL (34 :: (l.take n').flatMap quoteB)), .int .i64 (n' : Int)] := fun x hx => by
      refine ⟨G, .refl _, m - 1, by omega, j + 1, by omega, rfl, ?_⟩
      rw [List.take_add_one, List.getElem?_eq_getElem g, List.flatMap_append, hx, gx]
      simp
    generalize hq : 34 :: (l.take j).flatMap quoteB = ou at nxt ⊢
    have lo : ou.length ≤ 6 * l.length + 1 := by rw [← hq, List.length_cons]; omega
    have t92 : (⟨#[92]⟩ : ByteArray) = strL [92] := by kernel_rfl
    have tu : (⟨#[92, 117, 48, 48]⟩ : ByteArray) = strL [92, 117, 48, 48] := by kernel_rfl
    intro J9
    have hT : l.getD j 0 = 34 ∨ l.getD j 0 = 92 → J9 (.bool true) G := fun z => by
      simp -zeta only [J9]
      rw [cnd_bool, if_pos rfl, t92, q_addSt _ _ (by simp only [List.length_cons, List.length_nil]; omega), q_add, u1, q_slSt u_string l (by omega) (by omega), sl, q_addSt _ _ (by simp only [List.length_append, List.length_cons, List.length_nil]; omega), q_add, u1]
      exact nxt _ (by unfold quoteB; rw [if_pos z, List.append_assoc] <;> rfl)
    have hF : ¬ (l.getD j 0 = 34 ∨ l.getD j 0 = 92) → J9 (.bool false) G := fun z => by
      simp -zeta only [J9]
      have e32 : decide (((l.getD j 0 : Nat) : Int) < 32) = decide (l.getD j 0 < 32) := by
        by_cases y : l.getD j 0 < 32
        · rw [decide_eq_true y]; exact decide_eq_true (by omega)
        · rw [decide_eq_false y]; exact decide_eq_false (by omega)
      rw [cnd_bool, if_neg (by decide), q_idxSt u_string bl g, q_lss, e32, cnd_bool]
      by_cases y : l.getD j 0 < 32
      · rw [decide_eq_true y, if_pos rfl, tu, q_addSt _ _ (by simp only [List.length_cons, List.length_nil]; omega)]
        have d1 : ((l.getD j 0 : Nat) : Int).tdiv 16 = ((l.getD j 0 / 16 : Nat) : Int) := by rw [Int.tdiv_eq_ediv_of_nonneg (by omega)]; omega
        have m1 : ((l.getD j 0 : Nat) : Int).tmod 16 = ((l.getD j 0 % 16 : Nat) : Int) := by rw [Int.tmod_eq_emod_of_nonneg (by omega)]; omega
        have w1 : IntKind.u8.wrap ((l.getD j 0 / 16 : Nat) : Int) = ((l.getD j 0 / 16 : Nat) : Int) := wu8i (by omega) (by omega)
        have w2 : IntKind.u8.wrap (((l.getD j 0 / 16 : Nat) : Int) + 1) = ((l.getD j 0 / 16 + 1 : Nat) : Int) := by rw [wu8i (by omega) (by omega)]; omega
        have w3 : IntKind.u8.wrap (((l.getD j 0 % 16 : Nat) : Int) + 1) = ((l.getD j 0 % 16 + 1 : Nat) : Int) := by rw [wu8i (by omega) (by omega)]; omega
        rw [q_idxSt u_string bl g, q_quo _ _ _ _ (by decide), d1, w1, q_idxSt u_string bl g, q_quo _ _ _ _ (by decide), d1, w1, q_add, w2, hexDs_t, q_slSt u_string hexDs (by omega) (by show l.getD j 0 / 16 + 1 ≤ 16; omega), hexS _ (by omega), q_addSt _ _ (by simp only [List.length_append, List.length_cons, List.length_nil]; omega),
          q_idxSt u_string bl g, q_rem _ _ _ _ (by decide), m1, q_idxSt u_string bl g, q_rem _ _ _ _ (by decide), m1, q_add, w3, q_slSt u_string hexDs (by omega) (by show l.getD j 0 % 16 + 1 ≤ 16; omega), hexS _ (by omega), q_addSt _ _ (by simp only [List.length_append, List.length_cons, List.length_nil]; omega), q_add, u1]
        exact nxt _ (by unfold quoteB; rw [if_neg z, if_pos y]; simp)
      · rw [decide_eq_false y, if_neg (by decide), q_add, u1, q_slSt u_string l (by omega) (by omega), sl, q_addSt _ _ (by simp only [List.length_cons, List.length_nil]; omega), q_add, u1]
        exact nxt _ (by unfold quoteB; rw [if_neg z, if_neg y])
    clear_value J9
    have e34 : (((l.getD j 0 : Nat) : Int) == 34) = decide (l.getD j 0 = 34) := eqb
    have e92 : (((l.getD j 0 : Nat) : Int) == 92) = decide (l.getD j 0 = 92) := eqb
    rw [q_idxSt u_string bl g, q_eql, e34]
    by_cases z : l.getD j 0 = 34
    · rw [decide_eq_true z]
      simp -zeta only [GL, Bool.true_eq_false, if_false]
      exact hT (.inl z)
    · rw [decide_eq_false z]
      simp -zeta only [GL, if_true]
      rw [q_idxSt u_string bl g, q_eql, e92]
      by_cases y : l.getD j 0 = 92
      · rw [decide_eq_true y]; exact hT (.inr y)
      · rw [decide_eq_false y]; exact hF (by omega)
  · rw [decide_eq_false g, if_neg (by decide)]
    rw [List.take_of_length_le (by omega)] at ql ⊢
    have t34 : (⟨#[34]⟩ : ByteArray) = strL [34] := by kernel_rfl
    have := quote_len l
    rw [t34, q_addSt _ _ (by simp only [List.length_cons, List.length_nil]; omega)]
    exact k
theorem T_Digits15 {n : Int} (hn : -9223372036854775808 ≤ n ∧ n ≤ 9223372036854775807) (k : K (.string (strL (decI n))) h) : Cn P n_orlopref15_Digits #[.int .i64 n] h K := by
  refine Cn_wk (F_orlopref15_Digits ?_)
  unfold s_orlopref15_Digits
  refine Lp_mk (fun m vs G => ∃ (v : Int) (s : List Nat), v.natAbs = m ∧ Hp.ext h G ∧ (n < 0 → v ≤ 0) ∧ (0 ≤ n → 0 ≤ v) ∧ v.natAbs ≤ n.natAbs ∧ asc (dig 10 n.natAbs) = asc (dig 10 v.natAbs) ++ s ∧ vs = [.string (strL s), .int .i64 v]) n.natAbs ⟨n, [], rfl, .refl _, by omega, by omega, Nat.le_refl _, by simp, rfl⟩ ?_
  rintro m vs G ⟨v, s, rfl, xG, h1, h2, h3, e, rfl⟩
  simp -zeta only [List.getD_cons_succ, List.getD_cons_zero]
  have l20 : s.length ≤ 20 := by
    have l1 := dig_lenJ 19 n.natAbs (by omega)
    have l2 := congrArg List.length e
    rw [List.length_append, asc_len] at l2
    omega
  have tm : v.tmod 10 = if v < 0 then -((v.natAbs % 10 : Nat) : Int) else ((v.natAbs % 10 : Nat) : Int) := by
    by_cases g : v < 0
    · rw [if_pos g]
      have : v = -((v.natAbs : Nat) : Int) := by omega
      conv => lhs; rw [this]
      rw [Int.neg_tmod, Int.tmod_eq_emod_of_nonneg (by omega)]
      omega
    · rw [if_neg g, Int.tmod_eq_emod_of_nonneg (by omega)]
      omega
  have td : (v.tdiv 10).natAbs = v.natAbs / 10 ∧ (n < 0 → v.tdiv 10 ≤ 0) ∧ (0 ≤ n → 0 ≤ v.tdiv 10) := by
    by_cases g : v < 0
    · have : v = -((v.natAbs : Nat) : Int) := by omega
      have q : v.tdiv 10 = -((v.natAbs / 10 : Nat) : Int) := by
        conv => lhs; rw [this]
        rw [Int.neg_tdiv, Int.tdiv_eq_ediv_of_nonneg (by omega)]
        omega
      rw [q]; omega
    · have q : v.tdiv 10 = ((v.natAbs / 10 : Nat) : Int) := by
        rw [Int.tdiv_eq_ediv_of_nonneg (by omega)]; omega
      rw [q]; omega
  rw [q_rem _ _ _ _ (by decide)]
  intro J7
  have hJ7 : J7 (.int .i64 ((v.natAbs % 10 : Nat) : Int)) G := by
    simp -zeta only [J7]
    have w1 : IntKind.i64.wrap ((48 : Int) + ((v.natAbs % 10 : Nat) : Int)) = ((v.natAbs % 10 + 48 : Nat) : Int) := by rw [wi64 (by omega) (by omega)]; omega
    have w2 : IntKind.u8.wrap ((v.natAbs % 10 + 48 : Nat) : Int) = ((v.natAbs % 10 + 48 : Nat) : Int) := wu8i (by omega) (by omega)
    have w3 : IntKind.i64.wrap (v.tdiv 10) = v.tdiv 10 := wi64 (by omega) (by omega)
    rw [q_add, w1, q_conv _ u_int64 u_uint8, w2]
    refine aw_lit1 _ fun w h2' n2 => ?_
    rw [q_str n2.rn, q_addSt _ _ (by simp only [List.length_cons, List.length_nil]; omega), q_quo _ _ _ _ (by decide), w3, q_eql, cnd_bool]
    have x2 := xG.trans n2.ext
    by_cases g : v.natAbs < 10
    · have z : (v.tdiv 10 == 0) = true := by rw [beq_iff_eq]; omega
      have ed : decI n = if n < 0 then 45 :: ([v.natAbs % 10 + 48] ++ s) else [v.natAbs % 10 + 48] ++ s := by
        rw [dig_one g] at e
        have : asc [v.natAbs] = [v.natAbs % 10 + 48] := by rw [Nat.mod_eq_of_lt g]; rfl
        rw [this] at e
        unfold decI
        rw [e]
      rw [ed] at k
      rw [z, if_pos rfl, q_lss, cnd_bool]
      by_cases gn : n < 0
      · rw [if_pos gn] at k
        have t45 : (⟨#[45]⟩ : ByteArray) = strL [45] := by kernel_rfl
        rw [decide_eq_true gn, if_pos rfl, t45, q_addSt _ _ (by simp only [List.length_append, List.length_cons, List.length_nil]; omega)]
        exact ⟨h, x2.le, k⟩
      · rw [if_neg gn] at k
        rw [decide_eq_false gn, if_neg (by decide)]
        exact ⟨h, x2.le, k⟩
    · have z : (v.tdiv 10 == 0) = false := by rw [beq_eq_false_iff_ne]; omega
      rw [z, if_neg (by decide)]
      refine ⟨h2', .refl _, v.natAbs / 10, by omega, v.tdiv 10, [v.natAbs % 10 + 48] ++ s, td.1, x2, td.2.1, td.2.2, by omega, ?_, rfl⟩
      rw [e, dig_step (by decide) (by omega), td.1]
      unfold asc
      rw [List.map_append, List.append_assoc]
      rfl
  clear_value J7
  rw [q_lss, tm, cnd_bool]
  by_cases g : v < 0
  · rw [if_pos g]
    by_cases z : v.natAbs % 10 = 0
    · rw [z] at hJ7 ⊢
      rw [show decide (-((0 : Nat) : Int) < 0) = false from rfl, if_neg (by decide)]
      exact hJ7
    · rw [show decide (-((v.natAbs % 10 : Nat) : Int) < 0) = true from decide_eq_true (by omega), if_pos rfl, q_neg, wi64 (by omega) (by omega)]
      rw [show (0 : Int) - -((v.natAbs % 10 : Nat) : Int) = ((v.natAbs % 10 : Nat) : Int) by omega]
      exact hJ7
  · rw [if_neg g, show decide (((v.natAbs % 10 : Nat) : Int) < 0) = false from decide_eq_false (by omega), if_neg (by decide)]
    exact hJ7
end
end Go.Proofs.YtolcmaipjpkidaaGreatDoor
namespace Go.Proofs.YtolcmaipjpkidaaGreatDoor
open Go Go.SL Go.Pure Go.Js
theorem joinN (c : Nat) (l : List (List Nat)) (i : Nat) (hi : i < l.length) : joinL [c] (l.take (i + 1)) = (if i = 0 then joinL [c] (l.take i) else joinL [c] (l.take i) ++ [c]) ++ l[i] := by
  have e : l.take (i + 1) = l.take i ++ [l[i]] := by rw [List.take_add_one, List.getElem?_eq_getElem hi]; rfl
  rw [e]
  by_cases g : i = 0
  · subst g
    rw [if_pos rfl, List.take_zero]
    simp [joinL]
  · rw [if_neg g, joinL_snoc _ _ (fun z => by have := congrArg List.length z; rw [List.length_take, List.length_nil] at this; omega), List.append_assoc]
theorem flat_le (l : List Nat) : l.length ≤ (l.flatMap quoteB).length := by
  induction l with
  | nil => simp
  | cons a l ih =>
    rw [List.flatMap_cons, List.length_append, List.length_cons]
    have : 1 ≤ (quoteB a).length := by
      unfold quoteB
      split
      · simp
      · split <;> simp
    omega
theorem may_parts {d : Nat} {k : Int} {o : Bool} {n : Int} {t : List Nat} {l : List JV} {m : List (List Nat × JV)} (h : mayV (d + 1) (.mk k o n t l m) = true) :
    (0 ≤ k ∧ k ≤ 5) ∧ bareOk (.mk k o n t l m) = true ∧ (-9007199254740991 ≤ n ∧ n ≤ 9007199254740991) ∧ validU t = true ∧ (m.map Prod.fst).Nodup ∧ (∀ p ∈ m, validU p.1 = true ∧ mayV d p.2 = true) ∧ ∀ x ∈ l, mayV d x = true := by
  simp only [mayV, Bool.and_eq_true, decide_eq_true_eq, List.all_eq_true] at h
  exact ⟨h.1.1.1.1.1.1, h.1.1.1.1.1.2, h.1.1.1.1.2, h.1.1.1.2, h.1.1.2, h.1.2, h.2⟩
theorem T_refWrite15 : ∀ {d : Nat} {R : Hp} {cs : List Value} {v : JV}, JvR R cs v → mayV d v = true → (writeV v).length ≤ 1000000000 → ∀ {h : Hp}, Hp.cle R h → ∀ {K : Value → Hp → Prop}, K (.string (strL (writeV v))) h → Cn P n_orlopref15_Write #[.agg cs.toArray] h K
  | 0, R, cs, v, j, mv, lw, h, rc, K, k => by cases mv
  | d + 1, R, cs, v, j, mv, lw, h, rc, K, k => by
    have jj := j
    cases j with
    | @mk ka oa na ta la ma sla sma ila ima bta lta lla lma hla nla ela hma nma ema hda =>
      obtain ⟨m1, _, m3, _, _, m6, m7⟩ := may_parts mv
      refine Cn_wk (F_orlopref15_Write ?_)
      unfold s_orlopref15_Write
      refine aw_boxV jj fun r2 H hr2 x2 e2 => ?_
      have rH : Hp.cle R H := rc.trans x2.cle
      obtain ⟨a0, a1, a2, a3, a4, a5⟩ := row6 e2
      have eqk : ∀ z : Int, (ka == z) = decide (ka = z) := fun z => by
        by_cases g : ka = z
        · rw [decide_eq_true g, beq_iff_eq]; exact g
        · rw [decide_eq_false g, beq_eq_false_iff_ne]; exact g
      rw [vaf0, q_ld u_int rfl, a0, withVal_some, q_eql, eqk, cnd_bool]
      rw [writeV] at k lw
      have t44 : (⟨#[44]⟩ : ByteArray) = strL [44] := by kernel_rfl
      have t0 : (⟨#[]⟩ : ByteArray) = strL [] := rfl
      by_cases g0 : ka = 0
      · rw [decide_eq_true g0, if_pos rfl]
        rw [if_neg (by omega), if_neg (by omega), if_neg (by omega), if_neg (by omega), if_neg (by omega)] at k
        have tn : (⟨#[110, 117, 108, 108]⟩ : ByteArray) = strL [110, 117, 108, 108] := by kernel_rfl
        rw [tn]
        exact ⟨h, x2.le, k⟩
      rw [decide_eq_false g0, if_neg (by decide), q_eql, eqk, cnd_bool]
      by_cases g2 : ka = 2
      · rw [decide_eq_true g2, if_pos rfl, vaf2, q_ld u_int64 rfl, a2, withVal_some]
        rw [if_neg (by omega), if_pos g2] at k
        exact T_Digits15 (by omega) ⟨h, x2.le, k⟩
      rw [decide_eq_false g2, if_neg (by decide), q_eql, eqk, cnd_bool]
      by_cases g3 : ka = 3
      · rw [decide_eq_true g3, if_pos rfl, vaf3, q_ld u_string rfl, a3, withVal_some]
        rw [if_neg (by omega), if_neg g2, if_pos g3] at k lw
        have lq : ta.length ≤ 1000000000 := by
          have : ta.length ≤ (ta.flatMap quoteB).length := flat_le _
          unfold quoteS at lw
          rw [List.length_append, List.length_cons] at lw
          omega
        exact T_Quoted15 bta (by omega) ⟨h, x2.le, k⟩
      rw [decide_eq_false g3, if_neg (by decide), q_eql, eqk, cnd_bool]
      by_cases g4 : ka = 4
      · rw [decide_eq_true g4, if_pos rfl]
        rw [if_neg (by omega), if_neg g2, if_neg g3, if_pos g4, writeL_map] at k lw
        have lj : (joinL [44] (la.map writeV)).length ≤ 1000000000 := by rw [List.length_append, List.length_cons] at lw; omega
        obtain ⟨va, vac, rfl, hva⟩ := hla.shape
        refine Lp_mk (fun m vs G => ∃ i : Nat, i + m = la.length ∧ G = H ∧ vs = [.string (strL (joinL [44] ((la.map writeV).take i))), .int .i64 (i : Int)]) la.length ⟨0, by omega, rfl, rfl⟩ ?_
        rintro m vs G ⟨i, hi, rfl, rfl⟩
        simp -zeta only [List.getD_cons_succ, List.getD_cons_zero]
        have q0 : ∀ {F : Value → Prop}, q P G (Instr.fieldAt t_api_Value (.pointer (some ⟨r2, 0, none⟩)) 4) (fun t23 => q P G (Instr.loadAt t_Sl_api_Value t23) F) = F (.slice va ila.length vac) := fun {F} => by rw [vaf4, q_ld u_Sl_api_Value rfl, a4, withVal_some]
        have tkl := joinL_take (sp := [44]) (la.map writeV) i
        rw [q0, q_lenS u_Sl_api_Value, nla, q_lss, ltN, cnd_bool]
        by_cases g : i < la.length
        · rw [decide_eq_true g, if_pos rfl]
          have ec : ila[i]? = some (ila[i]'(by omega)) := List.getElem?_eq_getElem _
          have ex : la[i]? = some la[i] := List.getElem?_eq_getElem _
          have jx := ela i _ _ ec ex
          have lx : (writeV la[i]).length ≤ 1000000000 := Nat.le_trans (joinL_le (List.mem_map.2 ⟨_, List.getElem_mem g, rfl⟩)) lj
          have tki := joinL_take (sp := [44]) (la.map writeV) (i + 1)
          have jn := joinN 44 (la.map writeV) i (by rw [List.length_map]; exact g)
          rw [List.getElem_map] at jn
          intro J18
          have hJ : ∀ t : List Nat, t ++ writeV la[i] = joinL [44] ((la.map writeV).take (i + 1)) → J18 (.string (strL t)) G := fun t et => by
            have lt := congrArg List.length et
            rw [List.length_append] at lt
            simp -zeta only [J18]
            rw [q0]
            refine q_itemAtE u_Sl_api_Value z_api_Value u_api_Value rfl (hla.mono rH) ec jx.len ?_
            refine T_refWrite15 jx (m7 _ (List.getElem_mem g)) lx rH ?_
            rw [q_addSt _ _ (by omega), et, q_add, up1 (by omega)]
            exact ⟨G, .refl _, m - 1, by omega, i + 1, by omega, rfl, rfl⟩
          clear_value J18
          rw [q_gtr, cnd_bool]
          by_cases gi : i = 0
          · rw [show decide ((0 : Int) < (i : Int)) = false from decide_eq_false (by omega), if_neg (by decide)]
            rw [if_pos gi] at jn
            exact hJ _ jn.symm
          · rw [show decide ((0 : Int) < (i : Int)) = true from decide_eq_true (by omega), if_pos rfl, t44, q_addSt _ _ (by rw [List.length_singleton]; omega)]
            rw [if_neg gi] at jn
            exact hJ _ jn.symm
        · rw [decide_eq_false g, if_neg (by decide)]
          rw [List.take_of_length_le (by rw [List.length_map]; omega)]
          have t91 : (⟨#[91]⟩ : ByteArray) = strL [91] := by kernel_rfl
          have t93 : (⟨#[93]⟩ : ByteArray) = strL [93] := by kernel_rfl
          rw [t91, t93, q_addSt _ _ (by rw [List.length_singleton]; omega), q_addSt _ _ (by rw [List.length_append, List.length_singleton, List.length_singleton]; omega)]
          exact ⟨h, x2.le, k⟩
      rw [decide_eq_false g4, if_neg (by decide), q_eql, eqk, cnd_bool]
      by_cases g5 : ka = 5
      · rw [decide_eq_true g5, if_pos rfl]
        rw [if_neg (by omega), if_neg g2, if_neg g3, if_neg g4, if_pos g5, writeM_map] at k lw
        generalize hW : (fun p : List Nat × JV => (quoteS p.1 ++ [58]) ++ writeV p.2) = W at k lw
        have lj : (joinL [44] (ma.map W)).length ≤ 1000000000 := by rw [List.length_append, List.length_cons] at lw; omega
        obtain ⟨wa, wac, rfl, hwa, hrow⟩ := hma.mono rH
        refine Lp_mk (fun m vs G => ∃ i : Nat, i + m = ma.length ∧ G = H ∧ vs = [.string (strL (joinL [44] ((ma.map W).take i))), .int .i64 (i : Int)]) ma.length ⟨0, by omega, rfl, rfl⟩ ?_
        rintro m vs G ⟨i, hi, rfl, rfl⟩
        simp -zeta only [List.getD_cons_succ, List.getD_cons_zero]
        have q0 : ∀ {F : Value → Prop}, q P G (Instr.fieldAt t_api_Value (.pointer (some ⟨r2, 0, none⟩)) 5) (fun t23 => q P G (Instr.loadAt t_Sl_api_Member t23) F) = F (.slice wa ima.length wac) := fun {F} => by rw [vaf5, q_ld u_Sl_api_Member rfl, a5, withVal_some]
        have tkl := joinL_take (sp := [44]) (ma.map W) i
        rw [q0, q_lenS u_Sl_api_Member, nma, q_lss, ltN, cnd_bool]
        by_cases g : i < ma.length
        · rw [decide_eq_true g, if_pos rfl]
          have ec : ima[i]? = some (ima[i]'(by omega)) := List.getElem?_eq_getElem _
          have ex : ma[i]? = some ma[i] := List.getElem?_eq_getElem _
          obtain ⟨cs1, ec1, ⟨bn1, ln1⟩, jx⟩ := meR_of ema hda ec ex
          rw [ec1] at ec
          have lx : (W ma[i]).length ≤ 1000000000 := Nat.le_trans (joinL_le (List.mem_map.2 ⟨_, List.getElem_mem g, rfl⟩)) lj
          have eW : W ma[i] = (quoteS ma[i].1 ++ [58]) ++ writeV ma[i].2 := by rw [← hW]
          rw [eW, List.length_append, List.length_append, List.length_singleton] at lx
          have tki := joinL_take (sp := [44]) (ma.map W) (i + 1)
          have jn := joinN 44 (ma.map W) i (by rw [List.length_map]; exact g)
          rw [List.getElem_map, eW] at jn
          have lq : ma[i].1.length ≤ (quoteS ma[i].1).length := by
            have : ma[i].1.length ≤ (ma[i].1.flatMap quoteB).length := flat_le _
            unfold quoteS
            rw [List.length_append, List.length_cons]; omega
          rcases hrow with h0 | ⟨bq, oq, rfl, hy⟩
          · rw [h0] at ec; simp at ec
          have cn := hy i _ ec 0 _ rfl
          rw [Nat.add_zero] at cn
          have lv : ∀ {F : Value → Prop}, q P G (Instr.loadAt t_api_Value (.pointer (some ⟨bq, oq + i * 7 + 1, none⟩))) F = F (.agg cs1.toArray) := fun {F} => by
            rw [q_ldAgg (ys := cs1) u_api_Value rfl (by rw [jx.len]; exact z_api_Value) (fun j z ez => by have := hy i _ ec (1 + j) z (by rw [Nat.add_comm]; exact ez); rw [← Nat.add_assoc] at this; exact this)]
          intro J28
          have hJ : ∀ t : List Nat, t ++ ((quoteS ma[i].1 ++ [58]) ++ writeV ma[i].2) = joinL [44] ((ma.map W).take (i + 1)) → J28 (.string (strL t)) G := fun t et => by
            have lt := congrArg List.length et
            rw [List.length_append, List.length_append, List.length_append, List.length_singleton] at lt
            simp -zeta only [J28]
            rw [q0, nma, q_idxS u_Sl_api_Member z_api_Member _ _ _ _ _ (by omega) (by omega), Int.toNat_natCast, add_off, mefz, q_ld u_string rfl, cn, withVal_some, vaf5, q_ld u_Sl_api_Member rfl, a5, withVal_some, nma, q_idxS u_Sl_api_Member z_api_Member _ _ _ _ _ (by omega) (by omega), Int.toNat_natCast, add_off, mefo, lv]
            refine T_Quoted15 bn1 (by omega) ⟨pk_q fun K => lv, pk_q fun K => mefo bq _, pk_q fun K => by rw [q_ld u_Sl_api_Member rfl, a5, withVal_some, nma], pk_q fun K => vaf5 r2, ?_⟩
            have t58 : (⟨#[58]⟩ : ByteArray) = strL [58] := by kernel_rfl
            rw [q_addSt _ _ (by omega), t58, q_addSt _ _ (by rw [List.length_append, List.length_singleton]; omega)]
            refine T_refWrite15 jx (m6 _ (List.getElem_mem g)).2 (by omega) rH ?_
            rw [q_addSt _ _ (by rw [List.length_append, List.length_append, List.length_singleton]; omega), List.append_assoc, List.append_assoc, ← List.append_assoc (quoteS ma[i].1), et, q_add, up1 (by omega)]
            exact ⟨G, .refl _, m - 1, by omega, i + 1, by omega, rfl, rfl⟩
          clear_value J28
          rw [q_gtr, cnd_bool]
          by_cases gi : i = 0
          · rw [show decide ((0 : Int) < (i : Int)) = false from decide_eq_false (by omega), if_neg (by decide)]
            rw [if_pos gi] at jn
            exact hJ _ jn.symm
          · rw [show decide ((0 : Int) < (i : Int)) = true from decide_eq_true (by omega), if_pos rfl, t44, q_addSt _ _ (by rw [List.length_singleton]; omega)]
            rw [if_neg gi] at jn
            exact hJ _ jn.symm
        · rw [decide_eq_false g, if_neg (by decide)]
          rw [List.take_of_length_le (by rw [List.length_map]; omega)]
          have t123 : (⟨#[123]⟩ : ByteArray) = strL [123] := by kernel_rfl
          have t125 : (⟨#[125]⟩ : ByteArray) = strL [125] := by kernel_rfl
          rw [t123, t125, q_addSt _ _ (by rw [List.length_singleton]; omega), q_addSt _ _ (by rw [List.length_append, List.length_singleton, List.length_singleton]; omega)]
          exact ⟨h, x2.le, k⟩
      rw [decide_eq_false g5, if_neg (by decide), vaf1, q_ld u_bool rfl, a1, withVal_some, cnd_bool]
      rw [if_pos (by omega)] at k
      have tt : (⟨#[116, 114, 117, 101]⟩ : ByteArray) = strL [116, 114, 117, 101] := by kernel_rfl
      have tf : (⟨#[102, 97, 108, 115, 101]⟩ : ByteArray) = strL [102, 97, 108, 115, 101] := by kernel_rfl
      cases oa
      · rw [if_neg (by decide), tf]; exact ⟨h, x2.le, k⟩
      · rw [if_pos rfl, tt]; exact ⟨h, x2.le, k⟩
theorem nodup_snoc {l : List (List Nat)} {x : List Nat} (h : l.Nodup) (n : ∀ y ∈ l, y ≠ x) : (l ++ [x]).Nodup := by
  rw [List.nodup_append]
  exact ⟨h, by simp, fun a ha c hc q => n a ha (by rw [q, List.mem_singleton.1 hc])⟩
abbrev chn (p b : Bool) (KF E : Prop) : Prop := if p = true then (if b = false then E else KF) else E
theorem chn_intro {p b : Bool} {KF E : Prop} (kf : KF) (e : (p = true → b = false) → E) : chn p b KF E := by
  unfold chn
  cases p
  · rw [if_neg (by decide)]; exact e fun z => by cases z
  · rw [if_pos rfl]
    cases b
    · rw [if_pos rfl]; exact e fun _ => rfl
    · rw [if_neg (by decide)]; exact kf
theorem T_refMay15 : ∀ {d : Nat}, d ≤ 16 → ∀ {R : Hp} {cs : List Value} {v : JV}, JvR R cs v → ∀ {h : Hp}, Hp.cle R h → ∀ {K : Value → Hp → Prop}, (∀ g : Bool, (g = true → mayV d v = true) → K (.bool g) h) → Cn P n_orlopref15_may #[.agg cs.toArray, .int .i64 (17 - (d : Int))] h K
  | d, hd, R, cs, v, j, h, rc, K, k => by
    have jj := j
    cases j with
    | @mk ka oa na ta la ma sla sma ila ima bta lta lla lma hla nla ela hma nma ema hda =>
      refine Cn_wk (F_orlopref15_may ?_)
      unfold s_orlopref15_may
      refine aw_boxV jj fun r2 H hr2 x2 e2 => ?_
      have rH : Hp.cle R H := rc.trans x2.cle
      have kf : ∃ h0, Hp.le h0 H ∧ K (.bool false) h0 := ⟨h, x2.le, k false fun z => by cases z⟩
      obtain ⟨a0, a1, a2, a3, a4, a5⟩ := row6 e2
      match d, hd with
      | 0, _ =>
        unfold s_orlopref15_may_1
        rw [q_gtr, show decide ((16 : Int) < 17 - ((0 : Nat) : Int)) = true from rfl]
        simp -zeta only [GL, Bool.true_eq_false, if_false, if_true]
        exact kf
      | d + 1, hd =>
        have dd : decide ((16 : Int) < 17 - ((d + 1 : Nat) : Int)) = false := decide_eq_false (by omega)
        have w1 : IntKind.i64.wrap (17 - ((d + 1 : Nat) : Int) + 1) = 17 - (d : Int) := by rw [wi64 (by omega) (by omega)]; omega
        obtain ⟨va, vac, rfl, hva⟩ := hla.shape
        obtain ⟨wa, wac, rfl, hwa⟩ := hma.shape
        have c4 : ∀ {F : Value → Prop}, q P H (Instr.fieldAt t_api_Value (.pointer (some ⟨r2, 0, none⟩)) 4) (fun t23 => q P H (Instr.loadAt t_Sl_api_Value t23) F) = F (.slice va ila.length vac) := fun {F} => by rw [vaf4, q_ld u_Sl_api_Value rfl, a4, withVal_some]
        have c5 : ∀ {F : Value → Prop}, q P H (Instr.fieldAt t_api_Value (.pointer (some ⟨r2, 0, none⟩)) 5) (fun t23 => q P H (Instr.loadAt t_Sl_api_Member t23) F) = F (.slice wa ima.length wac) := fun {F} => by rw [vaf5, q_ld u_Sl_api_Member rfl, a5, withVal_some]
        have h5 := hla.mono rH
        have h6 := hma.mono rH
        -- members
        have m4 : (0 ≤ ka ∧ ka ≤ 5) → bareOk (.mk ka oa na ta la ma) = true → (-9007199254740991 ≤ na ∧ na ≤ 9007199254740991) → validU ta = true → (∀ x ∈ la, mayV d x = true) → ∀ z : Value, s_orlopref15_may_4 (fun v h' => ∃ h0, Hp.le h0 h' ∧ K v h0) H (.int .i64 (17 - ((d + 1 : Nat) : Int))) (.pointer (some ⟨r2, 0, none⟩)) z := fun m1 m2 m3 mt ml z => by
          unfold s_orlopref15_may_4
          refine Lp_mk (fun m vs G => ∃ i : Nat, i + m = ma.length ∧ G = H ∧ ((ma.take i).map Prod.fst).Nodup ∧ (∀ p ∈ ma.take i, validU p.1 = true ∧ mayV d p.2 = true) ∧ ∃ z, vs = [z, .int .i64 (i : Int)]) ma.length ⟨0, by omega, rfl, by simp, by simp, z, rfl⟩ ?_
          rintro m vs G ⟨i, hi, rfl, nd, al, z, rfl⟩
          simp -zeta only [List.getD_cons_succ, List.getD_cons_zero]
          rw [c5, q_lenS u_Sl_api_Member, nma, q_lss, ltN, cnd_bool]
          by_cases g : i < ma.length
          · rw [decide_eq_true g, if_pos rfl]
            have ec : ima[i]? = some (ima[i]'(by omega)) := List.getElem?_eq_getElem _
            have ex : ma[i]? = some ma[i] := List.getElem?_eq_getElem _
            obtain ⟨cs1, ec1, ⟨bn1, ln1⟩, jx⟩ := meR_of ema hda ec ex
            rw [ec1] at ec
            intro J70
            have hJ : validU ma[i].1 = true → mayV d ma[i].2 = true → J70 z G := fun hv hm => by
              simp -zeta only [J70]
              refine Lp_mk (fun m2 vs G2 => ∃ j : Nat, j + m2 = i ∧ G2 = G ∧ (∀ y ∈ (ma.take j).map Prod.fst, y ≠ ma[i].1) ∧ ∃ z, vs = [z, .int .i64 (j : Int)]) i ⟨0, by omega, rfl, by simp, z, rfl⟩ ?_
              rintro m2 vs G2 ⟨j, hj, rfl, ne, z2, rfl⟩
              simp -zeta only [List.getD_cons_succ, List.getD_cons_zero]
              rw [q_lss, ltN, cnd_bool]
              by_cases g2 : j < i
              · rw [decide_eq_true g2, if_pos rfl, c5]
                have ecj : ima[j]? = some (ima[j]'(by omega)) := List.getElem?_eq_getElem _
                have exj : ma[j]? = some (ma[j]'(by omega)) := List.getElem?_eq_getElem _
                obtain ⟨cs2, ec2, ⟨bn2, ln2⟩, jx2⟩ := meR_of ema hda ecj exj
                rw [ec2] at ecj
                refine q_nameAt h6 ecj ?_
                rw [c5]
                refine q_nameAt h6 ec ?_
                rw [q_eqlSt _ _ bn2 bn1, cnd_bool]
                by_cases y : (ma[j]'(by omega)).1 = ma[i].1
                · rw [decide_eq_true y, if_pos rfl]
                  exact kf
                · rw [decide_eq_false y, if_neg (by decide), q_add, up1 (by omega)]
                  refine ⟨G2, .refl _, m2 - 1, by omega, j + 1, by omega, rfl, ?_, z2, rfl⟩
                  rw [List.take_add_one, exj, List.map_append]
                  intro w hw
                  rcases List.mem_append.1 hw with q1 | q1
                  · exact ne w q1
                  · simp at q1; rw [q1]; exact y
              · rw [decide_eq_false g2, if_neg (by decide), q_add, up1 (by omega)]
                have : j = i := by omega
                subst this
                refine ⟨G2, .refl _, m - 1, by omega, j + 1, by omega, rfl, ?_, ?_, z2, rfl⟩
                · rw [List.take_add_one, ex, List.map_append]
                  exact nodup_snoc nd ne
                · rw [List.take_add_one, ex]
                  intro p hp
                  rcases List.mem_append.1 hp with q1 | q1
                  · exact al p q1
                  · simp at q1; rw [q1]; exact ⟨hv, hm⟩
            clear_value J70
            rw [c5]
            refine q_nameAt h6 ec ?_
            refine T_Utf15 bn1 (by omega) ?_
            rw [q_not]
            cases hv : validU ma[i].1
            · simp -zeta only [GL, Bool.not_false, Bool.true_eq_false, if_false, if_true]
              exact kf
            · simp -zeta only [GL, Bool.not_true, if_true]
              rw [c5]
              refine q_valAt h6 ec jx.len ?_
              rw [w1]
              refine T_refMay15 (by omega) jx rH fun g0 hg0 => ?_
              rw [q_not, cnd_bool]
              cases g0
              · rw [if_pos (by decide)]; exact kf
              · rw [if_neg (by decide)]; exact hJ hv (hg0 rfl)
          · rw [decide_eq_false g, if_neg (by decide)]
            rw [List.take_of_length_le (by omega)] at nd al
            unfold s_orlopref15_may_5 s_orlopref15_may_6
            refine ⟨h, x2.le, k true fun _ => ?_⟩
            rw [mayV_eq m1 m2 m3 mt nd al, List.all_eq_true]
            exact ml
        -- lists
        have m3 : (0 ≤ ka ∧ ka ≤ 5) → bareOk (.mk ka oa na ta la ma) = true → (-9007199254740991 ≤ na ∧ na ≤ 9007199254740991) → validU ta = true → ∀ z : Value, s_orlopref15_may_3 (fun v h' => ∃ h0, Hp.le h0 h' ∧ K v h0) H (.int .i64 (17 - ((d + 1 : Nat) : Int))) (.pointer (some ⟨r2, 0, none⟩)) z := fun m1 m2 m3 mt z => by
          unfold s_orlopref15_may_3
          refine Lp_mk (fun m vs G => ∃ i : Nat, i + m = la.length ∧ G = H ∧ (∀ x ∈ la.take i, mayV d x = true) ∧ ∃ z, vs = [z, .int .i64 (i : Int)]) la.length ⟨0, by omega, rfl, by simp, z, rfl⟩ ?_
          rintro m vs G ⟨i, hi, rfl, al, z, rfl⟩
          simp -zeta only [List.getD_cons_succ, List.getD_cons_zero]
          rw [c4, q_lenS u_Sl_api_Value, nla, q_lss, ltN, cnd_bool]
          by_cases g : i < la.length
          · rw [decide_eq_true g, if_pos rfl, c4]
            have ec : ila[i]? = some (ila[i]'(by omega)) := List.getElem?_eq_getElem _
            have ex : la[i]? = some la[i] := List.getElem?_eq_getElem _
            have jx := ela i _ _ ec ex
            refine q_itemAtE u_Sl_api_Value z_api_Value u_api_Value rfl h5 ec jx.len ?_
            rw [q_add, w1]
            refine T_refMay15 (by omega) jx rH fun g0 hg0 => ?_
            rw [q_not, cnd_bool]
            cases g0
            · rw [if_pos (by decide)]; exact kf
            · rw [if_neg (by decide), q_add, up1 (by omega)]
              refine ⟨G, .refl _, m - 1, by omega, i + 1, by omega, rfl, ?_, z, rfl⟩
              rw [List.take_add_one, ex]
              intro x hx
              rcases List.mem_append.1 hx with q1 | q1
              · exact al x q1
              · simp at q1; rw [q1]; exact hg0 rfl
          · rw [decide_eq_false g, if_neg (by decide)]
            rw [List.take_of_length_le (by omega)] at al
            exact m4 m1 m2 m3 mt al z
        have m2 : (0 ≤ ka ∧ ka ≤ 5) → bareOk (.mk ka oa na ta la ma) = true → ∀ z : Value, s_orlopref15_may_2 (fun v h' => ∃ h0, Hp.le h0 h' ∧ K v h0) H (.int .i64 (17 - ((d + 1 : Nat) : Int))) (.pointer (some ⟨r2, 0, none⟩)) z := fun m1 m2 z => by
          unfold s_orlopref15_may_2
          rw [vaf2, q_ld u_int64 rfl, a2, withVal_some, q_gtr]
          by_cases g1 : 9007199254740991 < na
          · rw [decide_eq_true g1]
            simp -zeta only [GL, Bool.true_eq_false, if_false, if_true]
            exact kf
          · rw [decide_eq_false g1]
            simp -zeta only [GL, if_true]
            rw [vaf2, q_ld u_int64 rfl, a2, withVal_some, q_lss]
            by_cases g2 : na < -9007199254740991
            · rw [decide_eq_true g2]
              simp -zeta only [GL, Bool.true_eq_false, if_false, if_true]
              exact kf
            · rw [decide_eq_false g2]
              simp -zeta only [GL, if_true]
              rw [vaf3, q_ld u_string rfl, a3, withVal_some]
              refine T_Utf15 bta (by omega) ?_
              rw [q_not, cnd_bool]
              cases hv : validU ta
              · rw [if_pos (by decide)]; exact kf
              · rw [if_neg (by decide)]; exact m3 m1 m2 (by omega) hv z
        generalize hS : s_orlopref15_may_2 (fun v h' => ∃ h0, Hp.le h0 h' ∧ K v h0) H (.int .i64 (17 - ((d + 1 : Nat) : Int))) (.pointer (some ⟨r2, 0, none⟩)) = S2 at m2
        unfold s_orlopref15_may_1
        rw [hS]
        have e0 : (⟨#[]⟩ : ByteArray) = strL [] := rfl
        have lt0 : ∀ n : Nat, decide ((0 : Int) < (n : Int)) = decide (0 < n) := fun n => by
          by_cases g : 0 < n
          · rw [decide_eq_true g]; exact decide_eq_true (by omega)
          · rw [decide_eq_false g]; exact decide_eq_false (by omega)
        have nst : ∀ {F : Value → Prop} (x y : Operand), q P H (eqop .neq t_string x y (.string (strL ta)) (.string (strL []))) F = F (.bool (!decide (ta = []))) := fun {F} x y => q_neqSt x y bta (by intro x hx; cases hx)
        rw [e0]
        by_cases k0 : ka < 0
        · simp -zeta only [GL, RL, dd, vaf0, a0, decide_eq_true k0, if_true, Bool.true_eq_false, if_false]
          exact kf
        by_cases k5 : 5 < ka
        · simp -zeta only [GL, RL, dd, vaf0, a0, decide_eq_false k0, decide_eq_true k5, if_true, Bool.true_eq_false, if_false]
          exact kf
        have kk : ka = 0 ∨ ka = 1 ∨ ka = 2 ∨ ka = 3 ∨ ka = 4 ∨ ka = 5 := by omega
        have m2 := m2 ⟨by omega, by omega⟩
        have bk : (ka ≠ 1 → oa = false) → (ka ≠ 2 → na = 0) → (ka ≠ 3 → ta = []) → (ka ≠ 4 → la.length = 0) → (ka ≠ 5 → ma.length = 0) → ∀ z, S2 z := fun b1 b2 b3 b4 b5 => m2 (decide_eq_true ⟨b1, b2, b3, b4, b5⟩)
        simp -zeta only [GL, RL, dd, vaf0, vaf1, vaf2, vaf3, vaf4, vaf5, a0, a1, a2, a3, a4, a5, decide_eq_false k0, decide_eq_false k5, nst, nla, nma, lt0, if_true]
        refine chn_intro (p := (ka != 1)) (b := oa) kf fun c1 => ?_
        refine chn_intro (p := (ka != 2)) (b := (na != 0)) kf fun c2 => ?_
        refine chn_intro (p := (ka != 3)) (b := (!decide (ta = []))) kf fun c3 => ?_
        refine chn_intro (p := (ka != 4)) (b := decide (0 < la.length)) kf fun c4 => ?_
        have fin : (ka ≠ 5 → ma.length = 0) → S2 (.bool false) := fun c5 => bk (fun z => c1 (bne_iff_ne.2 z)) (fun z => by have := c2 (bne_iff_ne.2 z); rw [bne_eq_false_iff_eq] at this; exact this) (fun z => by have := c3 (bne_iff_ne.2 z); simpa using this) (fun z => by have := c4 (bne_iff_ne.2 z); rw [decide_eq_false_iff_not] at this; omega) c5 _
        by_cases y5 : ka = 5
        · rw [show (ka != 5) = false from by rw [y5]; rfl, if_neg (by decide), if_neg (by decide)]
          exact fin fun z => absurd y5 z
        · rw [show (ka != 5) = true from bne_iff_ne.2 y5, if_pos rfl]
          by_cases ym : 0 < ma.length
          · rw [decide_eq_true ym, if_pos rfl]; exact kf
          · rw [decide_eq_false ym, if_neg (by decide)]; exact fin fun _ => by omega

mutual
/-- How much a value is. -/
def sizeV : JV → Nat
  | .mk k o n t l m => 1 + t.length + sizeL l + sizeM m
def sizeL : List JV → Nat
  | [] => 0
  | x :: l => sizeV x + sizeL l
def sizeM : List (List Nat × JV) → Nat
  | [] => 0
  | p :: l => (p.1.length + sizeV p.2) + sizeM l
end
theorem sizeL_app (x : JV) : ∀ l, sizeL (l ++ [x]) = sizeL l + sizeV x
  | [] => by simp [sizeL]
  | y :: l => by rw [List.cons_append, sizeL, sizeL, sizeL_app x l]; omega
theorem sizeM_app (p : List Nat × JV) : ∀ l, sizeM (l ++ [p]) = sizeM l + (p.1.length + sizeV p.2)
  | [] => by simp [sizeM]
  | y :: l => by rw [List.cons_append, sizeM, sizeM, sizeM_app p l]; omega
theorem T_size15 {R : Hp} {cs : List Value} {v : JV} (j : JvR R cs v) : ∀ {most D : Nat} {h : Hp}, most ≤ 1000000 → D ≤ 201 → Hp.cle R h → ∀ {K : Value → Hp → Prop}, (∀ n : Nat, (n ≤ most → sizeV v = n) → n ≤ (202 - D) * 4503599627370496 → K (.int .i64 (n : Int)) h) → Cn P n_orlopref15_size #[.agg cs.toArray, .int .i64 (most : Int), .int .i64 (D : Int)] h K := by
  have jj := j
  induction j with
  | @mk ka oa na ta la ma sla sma ila ima bta lta lla lma hla nla ela hma nma ema hda ihl ihm =>
    intro most D h hm hD rc K k
    refine Cn_wk (F_orlopref15_size ?_)
    unfold s_orlopref15_size
    refine aw_boxV jj fun r2 H hr2 x2 e2 => ?_
    have rH : Hp.cle R H := rc.trans x2.cle
    obtain ⟨a0, a1, a2, a3, a4, a5⟩ := row6 e2
    obtain ⟨va, vac, rfl, hva⟩ := hla.shape
    obtain ⟨wa, wac, rfl, hwa⟩ := hma.shape
    have c4 : ∀ {F : Value → Prop}, q P H (Instr.fieldAt t_api_Value (.pointer (some ⟨r2, 0, none⟩)) 4) (fun t23 => q P H (Instr.loadAt t_Sl_api_Value t23) F) = F (.slice va ila.length vac) := fun {F} => by rw [vaf4, q_ld u_Sl_api_Value rfl, a4, withVal_some]
    have c5 : ∀ {F : Value → Prop}, q P H (Instr.fieldAt t_api_Value (.pointer (some ⟨r2, 0, none⟩)) 5) (fun t23 => q P H (Instr.loadAt t_Sl_api_Member t23) F) = F (.slice wa ima.length wac) := fun {F} => by rw [vaf5, q_ld u_Sl_api_Member rfl, a5, withVal_some]
    have h5 := hla.mono rH
    have h6 := hma.mono rH
    have kk : ∀ n : Nat, (n ≤ most → sizeV (.mk ka oa na ta la ma) = n) → n ≤ (202 - D) * 4503599627370496 → ∃ h0, Hp.le h0 H ∧ K (.int .i64 (n : Int)) h0 := fun n h1 h2 => ⟨h, x2.le, k n h1 h2⟩
    have w0 : IntKind.i64.wrap ((1 : Int) + ((ta.length : Nat) : Int)) = ((1 + ta.length : Nat) : Int) := by rw [wi64 (by omega) (by omega)]; omega
    rw [vaf3, q_ld u_string rfl, a3, withVal_some, q_lenSt u_string, q_add, w0, q_gtr, cnd_bool]
    by_cases gD : 200 < D
    · rw [show decide ((200 : Int) < (D : Int)) = true from decide_eq_true (by omega), if_pos rfl, q_add, up1 (by omega)]
      exact kk (most + 1) (by omega) (by omega)
    rw [show decide ((200 : Int) < (D : Int)) = false from decide_eq_false (by omega), if_neg (by decide)]
    have uD := up1 (n := D) (by omega)
    have hD1 : 202 - D = (202 - (D + 1)) + 1 := by omega
    have hB : (202 - D) * 4503599627370496 = (202 - (D + 1)) * 4503599627370496 + 4503599627370496 := by rw [hD1, Nat.succ_mul]
    have hB2 : (202 - D) * 4503599627370496 ≤ 202 * 4503599627370496 := Nat.mul_le_mul_right _ (by omega)
    intro J6
    have hJ6 : ∀ n : Nat, (n ≤ most → n = 1 + ta.length + sizeL la) → n ≤ (202 - D) * 4503599627370496 → J6 (.int .i64 (n : Int)) H := fun n hn hb => by
      simp -zeta only [J6]
      refine Lp_mk (fun m vs G => ∃ (i n : Nat), i + m = ma.length ∧ G = H ∧ (n ≤ most → n = 1 + ta.length + sizeL la + sizeM (ma.take i)) ∧ n ≤ (202 - D) * 4503599627370496 ∧ vs = [.int .i64 (n : Int), .int .i64 (i : Int)]) ma.length ⟨0, n, by omega, rfl, by rw [List.take_zero]; simpa [sizeM] using hn, hb, rfl⟩ ?_
      rintro m vs G ⟨i, n, hi, rfl, hn, hb, rfl⟩
      intro J15
      have hJ15 : i < ma.length → n ≤ most → J15 G := fun g gm => by
        have ec : ima[i]? = some (ima[i]'(by omega)) := List.getElem?_eq_getElem _
        have ex : ma[i]? = some ma[i] := List.getElem?_eq_getElem _
        obtain ⟨cs1, ec1, ⟨bn1, ln1⟩, jx⟩ := meR_of ema hda ec ex
        have ih := @ihm i _ _ ec ex
        rw [ec1] at ec ih
        simp -zeta only [J15, List.getD_cons_succ, List.getD_cons_zero]
        obtain ⟨xa, xc, ex2, hxc, hrow⟩ := h6
        simp only [Value.slice.injEq] at ex2
        obtain ⟨rfl, _, rfl⟩ := ex2
        rcases hrow with h0 | ⟨bq, oq, rfl, hy⟩
        · rw [h0] at ec; simp at ec
        have cn := hy i _ ec 0 _ rfl
        rw [Nat.add_zero] at cn
        have lv : ∀ {F : Value → Prop}, q P G (Instr.loadAt t_api_Value (.pointer (some ⟨bq, oq + i * 7 + 1, none⟩))) F = F (.agg cs1.toArray) := fun {F} => by
          rw [q_ldAgg (ys := cs1) u_api_Value rfl (by rw [jx.len]; exact z_api_Value) (fun j z ez => by have := hy i _ ec (1 + j) z (by rw [Nat.add_comm]; exact ez); rw [← Nat.add_assoc] at this; exact this)]
        have w2 : IntKind.i64.wrap ((n : Int) + ((ma[i].1.length : Nat) : Int)) = ((n + ma[i].1.length : Nat) : Int) := by rw [wi64 (by omega) (by omega)]; omega
        rw [vaf5, q_ld u_Sl_api_Member rfl, a5, withVal_some, nma, q_idxS u_Sl_api_Member z_api_Member _ _ _ _ _ (by omega) (by omega), Int.toNat_natCast, add_off, mefz, q_ld u_string rfl, cn, withVal_some, q_lenSt u_string, q_add, w2, c5, nma, q_idxS u_Sl_api_Member z_api_Member _ _ _ _ _ (by omega) (by omega), Int.toNat_natCast, add_off, mefo, lv, q_add, uD]
        refine ih jx hm (by omega) rH fun n2 hn2 hb2 => ?_
        refine ⟨pk_q fun K => q_lenSt u_string _, pk_q fun K => by rw [q_ld u_string rfl, cn, withVal_some], pk_q fun K => mefz bq _, pk_q fun K => by rw [q_ld u_Sl_api_Member rfl, a5, withVal_some, nma], pk_q fun K => vaf5 r2, ?_⟩
        have w3 : IntKind.i64.wrap (((n + ma[i].1.length : Nat) : Int) + (n2 : Int)) = ((n + ma[i].1.length + n2 : Nat) : Int) := by rw [wi64 (by omega) (by omega)]; omega
        rw [q_add, w3, q_add, up1 (by omega)]
        refine ⟨G, .refl _, m - 1, by omega, i + 1, n + ma[i].1.length + n2, by omega, rfl, fun z => ?_, by omega, rfl⟩
        rw [List.take_add_one, ex]
        show n + ma[i].1.length + n2 = 1 + ta.length + sizeL la + sizeM (ma.take i ++ [ma[i]])
        rw [sizeM_app, hn2 (by omega)]
        have := hn gm
        omega
      clear_value J15
      simp -zeta only [List.getD_cons_succ, List.getD_cons_zero]
      rw [c5, q_lenS u_Sl_api_Member, nma, q_lss, ltN]
      by_cases g : i < ma.length
      · rw [decide_eq_true g]
        simp -zeta only [GL, if_true]
        by_cases gm : n ≤ most
        · rw [show decide ((n : Int) ≤ (most : Int)) = true from decide_eq_true (by omega), if_pos rfl]
          exact hJ15 g gm
        · rw [show decide ((n : Int) ≤ (most : Int)) = false from decide_eq_false (by omega), if_neg (by decide)]
          exact kk n (fun z => absurd z gm) hb
      · rw [decide_eq_false g]
        simp -zeta only [GL, Bool.false_eq_true, if_false]
        rw [List.take_of_length_le (by omega)] at hn
        exact kk n (fun z => by rw [sizeV, ← hn z]) hb
    clear_value J6
    refine Lp_mk (fun m vs G => ∃ (i n : Nat), i + m = la.length ∧ G = H ∧ (n ≤ most → n = 1 + ta.length + sizeL (la.take i)) ∧ n ≤ (202 - D) * 4503599627370496 ∧ vs = [.int .i64 (n : Int), .int .i64 (i : Int)]) la.length ⟨0, 1 + ta.length, by omega, rfl, by rw [List.take_zero]; simp [sizeL], by omega, rfl⟩ ?_
    rintro m vs G ⟨i, n, hi, rfl, hn, hb, rfl⟩
    intro J9
    have hJ9 : i < la.length → n ≤ most → J9 G := fun g gm => by
      have ec : ila[i]? = some (ila[i]'(by omega)) := List.getElem?_eq_getElem _
      have ex : la[i]? = some la[i] := List.getElem?_eq_getElem _
      have jx := ela i _ _ ec ex
      simp -zeta only [J9, List.getD_cons_succ, List.getD_cons_zero]
      rw [c4]
      refine q_itemAtE u_Sl_api_Value z_api_Value u_api_Value rfl h5 ec jx.len ?_
      rw [q_add, uD]
      refine ihl i _ _ ec ex jx hm (by omega) rH fun n2 hn2 hb2 => ?_
      have w2 : IntKind.i64.wrap ((n : Int) + (n2 : Int)) = ((n + n2 : Nat) : Int) := by rw [wi64 (by omega) (by omega)]; omega
      rw [q_add, w2, q_add, up1 (by omega)]
      refine ⟨G, .refl _, m - 1, by omega, i + 1, n + n2, by omega, rfl, fun z => ?_, by omega, rfl⟩
      rw [List.take_add_one, ex]
      show n + n2 = 1 + ta.length + sizeL (la.take i ++ [la[i]])
      rw [sizeL_app, hn2 (by omega)]
      have := hn gm
      omega
    clear_value J9
    simp -zeta only [List.getD_cons_succ, List.getD_cons_zero]
    rw [c4, q_lenS u_Sl_api_Value, nla, q_lss, ltN]
    by_cases g : i < la.length
    · rw [decide_eq_true g]
      simp -zeta only [GL, if_true]
      by_cases gm : n ≤ most
      · rw [show decide ((n : Int) ≤ (most : Int)) = true from decide_eq_true (by omega), if_pos rfl]
        exact hJ9 g gm
      · rw [show decide ((n : Int) ≤ (most : Int)) = false from decide_eq_false (by omega), if_neg (by decide)]
        exact hJ6 n (fun z => absurd z gm) hb
    · rw [decide_eq_false g]
      simp -zeta only [GL, Bool.false_eq_true, if_false]
      rw [List.take_of_length_le (by omega)] at hn
      exact hJ6 n hn hb
theorem T_Small15 {R h : Hp} {K : Value → Hp → Prop} {cs : List Value} {v : JV} {most : Nat} (j : JvR R cs v) (rc : Hp.cle R h) (hm : most ≤ 1000000) (k : ∀ g : Bool, (g = true → sizeV v ≤ most) → K (.bool g) h) : Cn P n_orlopref15_Small #[.agg cs.toArray, .int .i64 (most : Int)] h K := by
  refine Cn_wk (F_orlopref15_Small ?_)
  unfold s_orlopref15_Small
  refine aw_boxV j fun r2 H hr2 x2 e2 => ?_
  refine q_ldV j e2 ?_
  refine T_size15 (D := 0) j hm (by omega) (rc.trans x2.cle) fun n h1 h2 => ?_
  rw [q_leq]
  refine ⟨h, x2.le, k _ fun z => ?_⟩
  rw [decide_eq_true_eq] at z
  rw [h1 (by omega)]
  omega
end Go.Proofs.YtolcmaipjpkidaaGreatDoor
namespace Go.Proofs.YtolcmaipjpkidaaGreatDoor
open Go Go.SL Go.Pure Go.Js Go.Tar
def Bls (w : List Nat) : Prop := ∀ c ∈ w, isBl c = true
theorem skip_bls : ∀ {w : List Nat} (s : List Nat), Bls w → skip (w ++ s) = skip s
  | [], s, _ => rfl
  | c :: w, s, h => by
    rw [List.cons_append, skip_blank _ (h c (by simp))]
    exact skip_bls s fun x hx => h x (by simp [hx])
theorem skip_id {s : List Nat} (h : isBl (s.getD 0 0) = false) : skip s = s := by
  cases s with
  | nil => rfl
  | cons c s => exact skip_other s h
theorem joinL_two (sp x y : List Nat) (l : List (List Nat)) : joinL sp (x :: y :: l) = x ++ (sp ++ joinL sp (y :: l)) := by
  show x ++ (y :: l).flatMap (sp ++ ·) = x ++ (sp ++ (y ++ l.flatMap (sp ++ ·)))
  rw [List.flatMap_cons, List.append_assoc]
theorem itemsG_written {α : Type} {one : List α → List Nat → Except Int (α × List Nat)} {shut : Nat} {wr : α → List Nat} {w : List Nat} (hw : Bls w) (hs : isBl shut = false) (s44 : shut ≠ 44) (L : List α)
    (ok : ∀ a x b, L = a ++ x :: b → ∀ s0 rest, Bls s0 → (rest.getD 0 0 = 44 ∨ rest.getD 0 0 = shut) → ∃ R, one a (s0 ++ (wr x ++ rest)) = .ok (x, R) ∧ skip R = skip rest ∧ R.length < (s0 ++ (wr x ++ rest)).length) :
    ∀ (l2 l1 : List α) (s0 t : List Nat), L = l1 ++ l2 → l2 ≠ [] → Bls s0 → itemsG one shut l1 (s0 ++ (joinL (44 :: w) (l2.map wr) ++ shut :: t)) = .ok (L, t)
  | [], l1, s0, t, e, ne, hb => absurd rfl ne
  | [x], l1, s0, t, e, ne, hb => by
    obtain ⟨R, e1, e2, _⟩ := ok l1 x [] e s0 (shut :: t) hb (.inr rfl)
    have ej : joinL (44 :: w) ([x].map wr) = wr x := by simp [joinL]
    rw [ej, itemsG, e1]
    dsimp only
    rw [e2, skip_other t hs]
    rw [if_pos (by rw [has1]; simp)]
    rw [e]
    rfl
  | x :: y :: l, l1, s0, t, e, ne, hb => by
    have ej : joinL (44 :: w) ((x :: y :: l).map wr) ++ shut :: t = wr x ++ (44 :: (w ++ (joinL (44 :: w) ((y :: l).map wr) ++ shut :: t))) := by
      rw [List.map_cons, List.map_cons, joinL_two, List.append_assoc, List.append_assoc]
      rfl
    rw [ej]
    obtain ⟨R, e1, e2, e3⟩ := ok l1 x (y :: l) e s0 (44 :: (w ++ (joinL (44 :: w) ((y :: l).map wr) ++ shut :: t))) hb (.inl rfl)
    have ih := itemsG_written hw hs s44 L ok (y :: l) (l1 ++ [x]) w t (by rw [e]; simp) (by simp) hw
    rw [itemsG, e1]
    dsimp only
    rw [e2, skip_other _ (by decide : isBl 44 = false)]
    have sl := skip_len R
    rw [e2, skip_other _ (by decide : isBl 44 = false), List.length_cons] at sl
    rw [if_neg (by rw [has1, List.head?_cons]; intro z; rw [decide_eq_true_eq] at z; injection z with z; exact s44 z.symm), if_pos (by rw [has1]; simp), if_pos (by rw [List.drop_succ_cons, List.drop_zero]; omega)]
    exact ih
/-- A value's text, with blanks behind each token. -/
def writeB (w : List Nat) : Nat → JV → List Nat
  | 0, _ => []
  | d + 1, .mk k o n t l m => if k = 1 then boolL o else if k = 2 then decI n else if k = 3 then quoteS t ++ w else if k = 4 then 91 :: (w ++ (joinL (44 :: w) (l.map (writeB w d)) ++ 93 :: w)) else if k = 5 then 123 :: (w ++ (joinL (44 :: w) (m.map fun p => (quoteS p.1 ++ w) ++ (58 :: w ++ writeB w d p.2)) ++ 125 :: w)) else [110, 117, 108, 108]
/-- A quoted text is read. -/
theorem hexc_read (c : Nat) (hc : c < 32) : hex4 [48, 48, hexc (c / 16), hexc (c % 16)] = some c := by
  have : ∀ c, c < 32 → hex4 [48, 48, hexc (c / 16), hexc (c % 16)] = some c := by decide +kernel
  exact this c hc
theorem high_quote : ∀ {s : List Nat}, (∀ c ∈ s, 128 ≤ c) → s.flatMap quoteB = s
  | [], _ => rfl
  | c :: s, h => by
    have := h c (by simp)
    rw [List.flatMap_cons, high_quote fun x hx => h x (by simp [hx])]
    unfold quoteB
    rw [if_neg (by omega), if_neg (by omega)]
    rfl
theorem rune_high {c : Nat} {r : List Nat} (hc : 128 ≤ c) (h : 0 < runeN (c :: r)) : ∀ x ∈ (c :: r).take (runeN (c :: r)), 128 ≤ x := by
  have e := runeE_eq c r
  unfold runeE at e
  rw [if_neg (by omega)] at e
  have p := acc2_pos c
  have g0 : ∀ {x i : Nat}, 128 ≤ r.getD i 0 → x ∈ r[i]? → 128 ≤ x := fun {x i} hx hm => by
    rw [List.getD_eq_getElem?_getD, hm] at hx
    exact hx
  intro x hx
  obtain ⟨i, hi, ex⟩ := List.getElem_of_mem hx
  rw [List.getElem_take] at ex
  rw [List.length_take] at hi
  have hl : (c :: r)[i]? = some x := by rw [← ex]; exact List.getElem?_eq_getElem _
  match i, hl with
  | 0, hl => simp at hl; omega
  | i + 1, hl =>
    have hr : r[i]? = some x := by simpa using hl
    have gx : r.getD i 0 = x := by rw [List.getD_eq_getElem?_getD, hr]; rfl
    by_cases q : c < 194 ∨ 245 ≤ c
    · rw [if_pos q] at e; omega
    rw [if_neg q] at e
    by_cases q1 : (acc2 c).1 ≤ r.getD 0 0 ∧ r.getD 0 0 ≤ (acc2 c).2
    · rw [if_pos q1] at e
      match i with
      | 0 => omega
      | 1 =>
        by_cases q2 : c < 224
        · rw [if_pos q2] at e; omega
        rw [if_neg q2] at e
        by_cases q3 : cont (r.getD 1 0) = true
        · unfold cont at q3; rw [decide_eq_true_eq] at q3; omega
        · rw [if_neg q3] at e; omega
      | 2 =>
        by_cases q2 : c < 224
        · rw [if_pos q2] at e; omega
        rw [if_neg q2] at e
        by_cases q3 : cont (r.getD 1 0) = true
        · rw [if_pos q3] at e
          by_cases q4 : c < 240
          · rw [if_pos q4] at e; omega
          rw [if_neg q4] at e
          by_cases q5 : cont (r.getD 2 0) = true
          · unfold cont at q5; rw [decide_eq_true_eq] at q5; omega
          · rw [if_neg q5] at e; omega
        · rw [if_neg q3] at e; omega
      | i + 3 =>
        have := runeN_le (c :: r)
        omega
    · rw [if_neg q1] at e; omega
theorem textG_quoted : ∀ {t : List Nat} (out X : List Nat), validU t = true → textG (t.flatMap quoteB ++ 34 :: X) out = some (out ++ t, X)
  | [], out, X, hv => by
    show textG (34 :: X) out = _
    rw [textG_cons, if_pos rfl, List.append_nil]
  | c :: r, out, X, hv => by
    rw [validU_cons (by simp)] at hv
    by_cases z : 0 < runeN (c :: r)
    · rw [if_pos z] at hv
      by_cases hc : c < 128
      · rw [runeN_ascii r hc] at hv
        have ih := textG_quoted (t := r) (out ++ [c]) X hv
        have fin : out ++ [c] ++ r = out ++ c :: r := by simp
        rw [fin] at ih
        rw [List.flatMap_cons]
        have ec : enc c = [c] := by unfold enc; rw [if_pos hc]
        unfold quoteB
        by_cases q1 : c = 34 ∨ c = 92
        · rw [if_pos q1]
          have es : escape (c :: (r.flatMap quoteB ++ 34 :: X)) = some (c, r.flatMap quoteB ++ 34 :: X) := by
            unfold escape simple
            dsimp only
            rw [if_pos (by omega)]
          show textG (92 :: c :: (r.flatMap quoteB ++ 34 :: X)) out = _
          rw [textG_cons, if_neg (by decide), if_neg (by decide), if_pos rfl, es]
          dsimp only
          rw [if_pos (by rw [List.length_cons]; omega), ec]
          exact ih
        · rw [if_neg q1]
          by_cases q2 : c < 32
          · rw [if_pos q2]
            have es : escape (117 :: 48 :: 48 :: hexc (c / 16) :: hexc (c % 16) :: (r.flatMap quoteB ++ 34 :: X)) = some (c, r.flatMap quoteB ++ 34 :: X) := by
              have hh : half (48 :: 48 :: hexc (c / 16) :: hexc (c % 16) :: (r.flatMap quoteB ++ 34 :: X)) = some (c, r.flatMap quoteB ++ 34 :: X) := by
                unfold half
                show (hex4 [48, 48, hexc (c / 16), hexc (c % 16)]).map _ = _
                rw [hexc_read c q2]
                rfl
              unfold escape
              dsimp only
              rw [show simple 117 = none from rfl]
              dsimp only
              rw [if_pos rfl, hh]
              dsimp only
              rw [if_pos (by omega)]
            show textG (92 :: 117 :: 48 :: 48 :: hexc (c / 16) :: hexc (c % 16) :: (r.flatMap quoteB ++ 34 :: X)) out = _
            rw [textG_cons, if_neg (by decide), if_neg (by decide), if_pos rfl, es]
            dsimp only
            rw [if_pos (by simp only [List.length_cons]; omega), ec]
            exact ih
          · rw [if_neg q2]
            show textG (c :: (r.flatMap quoteB ++ 34 :: X)) out = _
            rw [textG_cons, if_neg (by omega), if_neg q2, if_neg (by omega), runeN_ascii _ hc, if_pos (by decide)]
            exact ih
      · have hn := runeN_len (c :: r)
        have hi := rune_high (by omega) z
        have e : c :: r = (c :: r).take (runeN (c :: r)) ++ (c :: r).drop (runeN (c :: r)) := (List.take_append_drop _ _).symm
        have rt := runeN_take z
        have lt : ((c :: r).take (runeN (c :: r))).length = runeN (c :: r) := by rw [List.length_take]; omega
        have ih := textG_quoted (t := (c :: r).drop (runeN (c :: r))) (out ++ (c :: r).take (runeN (c :: r))) X hv
        rw [List.append_assoc, List.take_append_drop] at ih
        have ef : (c :: r).flatMap quoteB ++ 34 :: X = (c :: r).take (runeN (c :: r)) ++ (((c :: r).drop (runeN (c :: r))).flatMap quoteB ++ 34 :: X) := by
          conv => lhs; rw [e, List.flatMap_append, high_quote hi]
          rw [List.append_assoc]
        rw [ef]
        have ht : ∃ r', (c :: r).take (runeN (c :: r)) = c :: r' := by
          obtain ⟨n, hn⟩ : ∃ n, runeN (c :: r) = n + 1 := ⟨runeN (c :: r) - 1, by omega⟩
          rw [hn]; exact ⟨r.take n, rfl⟩
        obtain ⟨r', ht⟩ := ht
        generalize ((c :: r).drop (runeN (c :: r))).flatMap quoteB ++ 34 :: X = Y at ih ⊢
        have rn : runeN ((c :: r).take (runeN (c :: r)) ++ Y) = runeN (c :: r) := by rw [runeN_pre Y (by rw [rt]; exact z), rt]
        generalize hT : (c :: r).take (runeN (c :: r)) = T at *
        subst ht
        show textG (c :: (r' ++ Y)) out = _
        rw [textG_cons, if_neg (by omega), if_neg (by omega), if_neg (by omega)]
        have rn' : runeN (c :: (r' ++ Y)) = runeN (c :: r) := rn
        rw [rn', if_pos z]
        have d1 : (c :: (r' ++ Y)).drop (runeN (c :: r)) = Y := by
          show ((c :: r') ++ Y).drop _ = _
          rw [← lt, List.drop_left]
        have d2 : (c :: (r' ++ Y)).take (runeN (c :: r)) = c :: r' := by
          show ((c :: r') ++ Y).take _ = _
          rw [← lt, List.take_left]
        rw [d1, d2]
        exact ih
    · rw [if_neg z] at hv; cases hv
termination_by t => t.length
decreasing_by
  · simp
  · simp only [List.length_drop, List.length_cons]; omega
theorem text_quoted {t : List Nat} (X : List Nat) (hv : validU t = true) : text (quoteS t ++ X) = some (t, X) := by
  unfold text quoteS
  rw [List.append_assoc, List.cons_append, if_pos (by rw [has1]; simp)]
  have := textG_quoted (t := t) [] X hv
  rw [List.nil_append] at this
  exact this
theorem has_app15 {w s : List Nat} : has w (w ++ s) = true := by
  unfold has
  rw [List.take_left]
  simp
/-- What a written value starts with. -/
def hd1 (c : Nat) : Prop := c = 34 ∨ c = 45 ∨ (48 ≤ c ∧ c ≤ 57) ∨ c = 91 ∨ c = 123 ∨ c = 110 ∨ c = 116 ∨ c = 102
theorem hd1_bl {c : Nat} (h : hd1 c) : isBl c = false := by
  unfold hd1 at h
  unfold isBl
  simp only [Bool.or_eq_false_iff, beq_eq_false_iff_ne]
  omega
theorem writeB_head {w : List Nat} {d : Nat} {v : JV} (h : mayV d v = true) (Z : List Nat) : hd1 ((writeB w d v ++ Z).getD 0 0) := by
  cases d with
  | zero => cases h
  | succ d =>
    cases v with
    | mk k o n t l m =>
      rw [writeB]
      unfold hd1
      split
      · cases o
        · right; right; right; right; right; right; right; rfl
        · right; right; right; right; right; right; left; rfl
      · split
        · rcases decI_head n Z with q | q
          · right; left; exact q
          · right; right; left; exact q
        · split
          · left; rfl
          · split
            · right; right; right; left; rfl
            · split
              · right; right; right; right; left; rfl
              · right; right; right; right; right; left; rfl
theorem value_at (d : Nat) {s Y : List Nat} (hs : skip s = Y) : value (d + 1) s = (if Y.getD 0 0 = 34 then match text Y with
      | none => .error 8
      | some (t, r) => .ok (textV t, r)
    else if Y.getD 0 0 = 91 then match items (fun _ x => value d x) 93 Y with
      | .error c => .error c
      | .ok (l, r) => .ok (listV l, r)
    else if Y.getD 0 0 = 123 then match items (member (value d)) 125 Y with
      | .error c => .error c
      | .ok (l, r) => .ok (mapV l, r)
    else if has [110, 117, 108, 108] Y then .ok (nulV, Y.drop 4)
    else if has [116, 114, 117, 101] Y then .ok (boolV true, Y.drop 4)
    else if has [102, 97, 108, 115, 101] Y then .ok (boolV false, Y.drop 5)
    else number Y) := by subst hs; rfl
theorem value_written {w : List Nat} (hw : Bls w) : ∀ {d : Nat} {v : JV}, mayV d v = true → ∀ (s0 rest : List Nat), Bls s0 → isDig (rest.getD 0 0) = false → ∃ R, value d (s0 ++ (writeB w d v ++ rest)) = .ok (v, R) ∧ skip R = skip rest
  | 0, v, h, s0, rest, hb, hr => by cases h
  | d + 1, .mk k o n t l m, h, s0, rest, hb, hr => by
    obtain ⟨m1, m2, m3, m4, m5, m6, m7⟩ := may_parts h
    have hh := writeB_head (w := w) h rest
    have sk : skip (s0 ++ (writeB w (d + 1) (.mk k o n t l m) ++ rest)) = writeB w (d + 1) (.mk k o n t l m) ++ rest := by rw [skip_bls _ hb, skip_id (hd1_bl hh)]
    rw [value_at d sk]
    unfold bareOk at m2
    rw [decide_eq_true_eq] at m2
    obtain ⟨b1, b2, b3, b4, b5⟩ := m2
    rw [List.length_eq_zero_iff] at b4 b5
    by_cases k1 : k = 1
    · subst k1
      obtain rfl := b2 (by decide); obtain rfl := b3 (by decide); obtain rfl := b4 (by decide); obtain rfl := b5 (by decide)
      have eW : writeB w (d + 1) (.mk 1 o 0 [] [] []) = boolL o := by rw [writeB, if_pos rfl]
      rw [eW]
      cases o
      · refine ⟨rest, ?_, rfl⟩
        rw [if_neg (by show ¬ 102 = 34; decide), if_neg (by show ¬ 102 = 91; decide), if_neg (by show ¬ 102 = 123; decide), has_head (by show 102 ≠ 110; decide) (by decide), has_head (by show 102 ≠ 116; decide) (by decide)]
        rw [show has [102, 97, 108, 115, 101] (boolL false ++ rest) = true from has_app15]
        rfl
      · refine ⟨rest, ?_, rfl⟩
        rw [if_neg (by show ¬ 116 = 34; decide), if_neg (by show ¬ 116 = 91; decide), if_neg (by show ¬ 116 = 123; decide), has_head (by show 116 ≠ 110; decide) (by decide)]
        rw [show has [116, 114, 117, 101] (boolL true ++ rest) = true from has_app15]
        rfl
    obtain rfl := b1 k1
    by_cases k2 : k = 2
    · subst k2
      obtain rfl := b3 (by decide); obtain rfl := b4 (by decide); obtain rfl := b5 (by decide)
      have eW : writeB w (d + 1) (.mk 2 false n [] [] []) = decI n := by rw [writeB, if_neg (by decide), if_pos rfl]
      rw [eW]
      refine ⟨rest, ?_, rfl⟩
      have q := decI_head n rest
      rw [if_neg (by omega), if_neg (by omega), if_neg (by omega), has_head (by omega) (by decide), has_head (by omega) (by decide), has_head (by omega) (by decide)]
      show number _ = _
      exact number_decI (by omega) hr
    obtain rfl := b2 k2
    by_cases k3 : k = 3
    · subst k3
      obtain rfl := b4 (by decide); obtain rfl := b5 (by decide)
      have eW : writeB w (d + 1) (.mk 3 false 0 t [] []) = quoteS t ++ w := by rw [writeB, if_neg (by decide), if_neg (by decide), if_pos rfl]
      rw [eW, List.append_assoc]
      refine ⟨w ++ rest, ?_, skip_bls _ hw⟩
      rw [if_pos (by rfl), text_quoted _ m4]
    obtain rfl := b3 k3
    by_cases k4 : k = 4
    · subst k4
      obtain rfl := b5 (by decide)
      have eW : writeB w (d + 1) (.mk 4 false 0 [] l []) = 91 :: (w ++ (joinL (44 :: w) (l.map (writeB w d)) ++ 93 :: w)) := by rw [writeB, if_neg (by decide), if_neg (by decide), if_neg (by decide), if_pos rfl]
      rw [eW]
      have e : (91 :: (w ++ (joinL (44 :: w) (l.map (writeB w d)) ++ 93 :: w))) ++ rest = 91 :: (w ++ (joinL (44 :: w) (l.map (writeB w d)) ++ 93 :: (w ++ rest))) := by simp
      rw [e]
      refine ⟨w ++ rest, ?_, skip_bls _ hw⟩
      have it : items (fun _ x => value d x) 93 (91 :: (w ++ (joinL (44 :: w) (l.map (writeB w d)) ++ 93 :: (w ++ rest)))) = .ok (l, w ++ rest) := by
        unfold items
        rw [List.drop_succ_cons, List.drop_zero, skip_bls _ hw]
        cases l with
        | nil =>
          show (if has [93] (skip (93 :: (w ++ rest))) then _ else _) = _
          rw [skip_other _ (by decide : isBl 93 = false), if_pos (by rw [has1]; simp)]
          rfl
        | cons x l =>
          have hx : mayV d x = true := m7 x (by simp)
          have e2 : joinL (44 :: w) ((x :: l).map (writeB w d)) ++ 93 :: (w ++ rest) = writeB w d x ++ ((l.map (writeB w d)).flatMap ((44 :: w) ++ ·) ++ 93 :: (w ++ rest)) := by
            show (writeB w d x ++ _) ++ _ = _
            rw [List.append_assoc]
          have hd := writeB_head (w := w) hx ((l.map (writeB w d)).flatMap ((44 :: w) ++ ·) ++ 93 :: (w ++ rest))
          rw [← e2] at hd
          rw [skip_id (hd1_bl hd), if_neg]
          · have := itemsG_written (one := fun _ x => value d x) (shut := 93) (wr := writeB w d) hw (by decide) (by decide) (x :: l) (fun a y b ea s1 rs hb1 hr1 => by
              have hy : mayV d y = true := m7 y (by rw [ea]; simp)
              obtain ⟨R, e1, e2⟩ := value_written hw hy s1 rs hb1 (by unfold isDig; rcases hr1 with q | q <;> (rw [q]; decide))
              exact ⟨R, e1, e2, (value_len e1).1⟩) (x :: l) [] [] (w ++ rest) rfl (by simp) (by intro c hc; cases hc)
            exact this
          · rw [has_getD (by decide)]
            unfold hd1 at hd
            rw [decide_eq_true_eq]
            omega
      rw [if_neg (by show ¬ 91 = 34; decide), if_pos (by rfl), it]
    obtain hl := b4 k4
    subst hl
    by_cases k5 : k = 5
    · subst k5
      have eW : writeB w (d + 1) (.mk 5 false 0 [] [] m) = 123 :: (w ++ (joinL (44 :: w) (m.map fun p => (quoteS p.1 ++ w) ++ (58 :: w ++ writeB w d p.2)) ++ 125 :: w)) := by rw [writeB, if_neg (by decide), if_neg (by decide), if_neg (by decide), if_neg (by decide), if_pos rfl]
      rw [eW]
      generalize hW : (fun p : List Nat × JV => (quoteS p.1 ++ w) ++ (58 :: w ++ writeB w d p.2)) = wr
      have e : (123 :: (w ++ (joinL (44 :: w) (m.map wr) ++ 125 :: w))) ++ rest = 123 :: (w ++ (joinL (44 :: w) (m.map wr) ++ 125 :: (w ++ rest))) := by simp
      rw [e]
      refine ⟨w ++ rest, ?_, skip_bls _ hw⟩
      have hd34 : ∀ (p : List Nat × JV) (Z : List Nat), (wr p ++ Z).getD 0 0 = 34 := fun p Z => by rw [← hW]; rfl
      have it : items (member (value d)) 125 (123 :: (w ++ (joinL (44 :: w) (m.map wr) ++ 125 :: (w ++ rest)))) = .ok (m, w ++ rest) := by
        unfold items
        rw [List.drop_succ_cons, List.drop_zero, skip_bls _ hw]
        cases m with
        | nil =>
          show (if has [125] (skip (125 :: (w ++ rest))) then _ else _) = _
          rw [skip_other _ (by decide : isBl 125 = false), if_pos (by rw [has1]; simp)]
          rfl
        | cons x l =>
          have e2 : joinL (44 :: w) ((x :: l).map wr) ++ 125 :: (w ++ rest) = wr x ++ ((l.map wr).flatMap ((44 :: w) ++ ·) ++ 125 :: (w ++ rest)) := by
            show (wr x ++ _) ++ _ = _
            rw [List.append_assoc]
          have hd := hd34 x ((l.map wr).flatMap ((44 :: w) ++ ·) ++ 125 :: (w ++ rest))
          rw [← e2] at hd
          rw [skip_id (by rw [hd]; decide), if_neg]
          · have := itemsG_written (one := member (value d)) (shut := 125) (wr := wr) hw (by decide) (by decide) (x :: l) (fun a y b ea s1 rs hb1 hr1 => by
              have hy := m6 y (by rw [ea]; simp)
              have hn : ¬ (a.any fun q => decide (q.1 = y.1)) = true := fun q => by
                rw [List.any_eq_true] at q
                obtain ⟨p, hp, e⟩ := q
                rw [decide_eq_true_eq] at e
                rw [ea, List.map_append, List.map_cons, List.nodup_append] at m5
                exact m5.2.2 p.1 (List.mem_map.2 ⟨p, hp, rfl⟩) y.1 (by simp) e
              have ew : wr y ++ rs = quoteS y.1 ++ (w ++ 58 :: (w ++ (writeB w d y.2 ++ rs))) := by rw [← hW]; simp
              obtain ⟨R, e1, e2⟩ := value_written hw hy.2 w rs hw (by unfold isDig; rcases hr1 with q | q <;> (rw [q]; decide))
              have em : member (value d) a (s1 ++ (wr y ++ rs)) = .ok (y, R) := by
                unfold member
                rw [skip_bls _ hb1, skip_id (by rw [hd34]; decide), ew, text_quoted _ hy.1]
                dsimp only
                rw [if_neg hn, skip_bls _ hw, skip_other _ (by decide : isBl 58 = false), if_pos (by rw [has1]; simp), List.drop_succ_cons, List.drop_zero, e1]
              exact ⟨R, em, e2, (member_len (fun s x r e => value_len e) em).1⟩) (x :: l) [] [] (w ++ rest) rfl (by simp) (by intro c hc; cases hc)
            exact this
          · rw [has_getD (by decide), hd]; decide
      rw [if_neg (by show ¬ 123 = 34; decide), if_neg (by show ¬ 123 = 91; decide), if_pos (by rfl), it]
    obtain hm := b5 k5
    subst hm
    have k0 : k = 0 := by omega
    subst k0
    have eW : writeB w (d + 1) (.mk 0 false 0 [] [] []) = [110, 117, 108, 108] := by rw [writeB, if_neg (by decide), if_neg (by decide), if_neg (by decide), if_neg (by decide), if_neg (by decide)]
    rw [eW]
    refine ⟨rest, ?_, rfl⟩
    rw [if_neg (by show ¬ 110 = 34; decide), if_neg (by show ¬ 110 = 91; decide), if_neg (by show ¬ 110 = 123; decide), if_pos (has_app15 (w := [110, 117, 108, 108]) (s := rest))]
    rfl
theorem parse_written {w : List Nat} (hw : Bls w) {v : JV} (h : mayV 16 v = true) (hl : (writeB w 16 v).length ≤ 65000) : parse (32 :: (writeB w 16 v ++ [10])) = .ok v := by
  obtain ⟨R, e1, e2⟩ := value_written hw h [32] [10] (by intro c hc; rw [List.mem_singleton.1 hc]; rfl) rfl
  rw [parse_fin, if_neg (by simp only [List.length_cons, List.length_append, List.length_nil]; omega)]
  have e3 : (32 :: (writeB w 16 v ++ [10])) = [32] ++ (writeB w 16 v ++ [10]) := rfl
  rw [e3, e1]
  show (if skip R = [] then _ else _) = _
  rw [e2]
  rfl
def sepB (c : Nat) : Bool := decide (c = 91 ∨ c = 93 ∨ c = 123 ∨ c = 125 ∨ c = 44 ∨ c = 58 ∨ c = 34)
def nin (inn : Bool) (c : Nat) : Bool := if c = 34 then !inn else inn
def tokB (w : List Nat) (inn : Bool) (c : Nat) : List Nat := c :: (if nin inn c = false ∧ sepB c = true then w else [])
/-- Blanks behind each token; is it within a text? -/
def blankG (w : List Nat) : Bool → List Nat → List Nat
  | _, [] => []
  | inn, [c] => tokB w inn c
  | inn, c :: d :: s => if inn = true ∧ c = 92 then c :: d :: blankG w inn s else tokB w inn c ++ blankG w (nin inn c) (d :: s)
section
variable {w : List Nat}
theorem blankG_step {inn : Bool} {c : Nat} (s : List Nat) (h : ¬ (inn = true ∧ c = 92)) : blankG w inn (c :: s) = tokB w inn c ++ blankG w (nin inn c) s := by
  cases s with
  | nil => simp [blankG]
  | cons d s => rw [blankG, if_neg h]
theorem blankG_esc (d : Nat) (s : List Nat) : blankG w true (92 :: d :: s) = 92 :: d :: blankG w true s := by
  rw [blankG, if_pos ⟨rfl, rfl⟩]
theorem blank_in {c : Nat} (s : List Nat) (h : c ≠ 34) (h2 : c ≠ 92) : blankG w true (c :: s) = c :: blankG w true s := by
  rw [blankG_step _ (by rintro ⟨_, q⟩; exact h2 q)]
  unfold tokB nin
  rw [if_neg h, if_neg (by rintro ⟨q, _⟩; cases q)]
  rfl
theorem blank_out {c : Nat} (s : List Nat) (h : sepB c = false) : blankG w false (c :: s) = c :: blankG w false s := by
  have h34 : c ≠ 34 := fun q => by rw [q] at h; cases h
  rw [blankG_step _ (by rintro ⟨q, _⟩; cases q)]
  unfold tokB nin
  rw [if_neg h34, if_neg (by rintro ⟨_, q⟩; rw [h] at q; cases q)]
  rfl
theorem blank_sep {c : Nat} (s : List Nat) (h : sepB c = true) (h34 : c ≠ 34) : blankG w false (c :: s) = c :: (w ++ blankG w false s) := by
  rw [blankG_step _ (by rintro ⟨q, _⟩; cases q)]
  unfold tokB nin
  rw [if_neg h34, if_pos ⟨rfl, h⟩]
  rfl
theorem blank_shut (s : List Nat) : blankG w true (34 :: s) = 34 :: (w ++ blankG w false s) := by
  rw [blankG_step _ (by rintro ⟨_, q⟩; cases q)]
  rfl
theorem blank_open (s : List Nat) : blankG w false (34 :: s) = 34 :: blankG w true s := by
  rw [blankG_step _ (by rintro ⟨q, _⟩; cases q)]
  rfl
theorem blank_plain : ∀ {l : List Nat} (s : List Nat), (∀ c ∈ l, sepB c = false) → blankG w false (l ++ s) = l ++ blankG w false s
  | [], s, _ => rfl
  | c :: l, s, h => by
    rw [List.cons_append, blank_out _ (h c (by simp)), blank_plain s fun x hx => h x (by simp [hx])]
    rfl
theorem hexc_in (c : Nat) (hc : c < 16) : hexc c ≠ 34 ∧ hexc c ≠ 92 := by
  unfold hexc
  split <;> omega
theorem blank_str : ∀ (t s : List Nat), blankG w true (t.flatMap quoteB ++ 34 :: s) = t.flatMap quoteB ++ 34 :: (w ++ blankG w false s)
  | [], s => blank_shut s
  | c :: t, s => by
    have ih := blank_str t s
    rw [List.flatMap_cons, List.append_assoc, List.append_assoc]
    generalize t.flatMap quoteB ++ 34 :: s = Z at ih ⊢
    rw [← ih]
    unfold quoteB
    by_cases q1 : c = 34 ∨ c = 92
    · rw [if_pos q1]
      exact blankG_esc c Z
    · rw [if_neg q1]
      by_cases q2 : c < 32
      · rw [if_pos q2]
        obtain ⟨a1, a2⟩ := hexc_in (c / 16) (by omega)
        obtain ⟨b1, b2⟩ := hexc_in (c % 16) (by omega)
        show blankG w true (92 :: 117 :: 48 :: 48 :: hexc (c / 16) :: hexc (c % 16) :: Z) = 92 :: 117 :: 48 :: 48 :: hexc (c / 16) :: hexc (c % 16) :: blankG w true Z
        rw [blankG_esc, blank_in _ (by decide) (by decide), blank_in _ (by decide) (by decide), blank_in _ a1 a2, blank_in _ b1 b2]
      · rw [if_neg q2]
        exact blank_in Z (by omega) (by omega)
theorem blank_quote (t s : List Nat) : blankG w false (quoteS t ++ s) = quoteS t ++ (w ++ blankG w false s) := by
  unfold quoteS
  rw [List.append_assoc, List.cons_append, blank_open]
  have := blank_str (w := w) t s
  show 34 :: blankG w true (t.flatMap quoteB ++ 34 :: s) = _
  rw [this]
  simp
theorem blank_join {α : Type} {f g : α → List Nat} : ∀ (l : List α), (∀ x ∈ l, ∀ Z, blankG w false (f x ++ Z) = g x ++ blankG w false Z) → ∀ Z, blankG w false (joinL [44] (l.map f) ++ Z) = joinL (44 :: w) (l.map g) ++ blankG w false Z
  | [], h, Z => rfl
  | [x], h, Z => by
    have e1 : joinL [44] ([x].map f) = f x := by simp [joinL]
    have e2 : joinL (44 :: w) ([x].map g) = g x := by simp [joinL]
    rw [e1, e2]
    exact h x (by simp) Z
  | x :: y :: l, h, Z => by
    have ih := blank_join (y :: l) (fun z hz => h z (by simp at hz ⊢; exact .inr hz)) Z
    rw [List.map_cons, List.map_cons, joinL_two, List.map_cons, List.map_cons, joinL_two, List.append_assoc, h x (by simp), List.append_assoc]
    show g x ++ blankG w false (44 :: (joinL [44] ((y :: l).map f) ++ Z)) = _
    rw [blank_sep _ rfl (by decide), ih]
    simp
theorem decI_plain (n : Int) : ∀ c ∈ decI n, sepB c = false := by
  intro c hc
  have key : c = 45 ∨ isDig c = true := by
    unfold decI at hc
    split at hc
    · rcases List.mem_cons.1 hc with q | q
      · exact .inl q
      · exact .inr (isDig_asc q)
    · exact .inr (isDig_asc hc)
  unfold isDig at key
  rw [decide_eq_true_eq] at key
  unfold sepB
  exact decide_eq_false (by omega)
theorem blank_written : ∀ {d : Nat} {v : JV}, mayV d v = true → ∀ rest, blankG w false (writeV v ++ rest) = writeB w d v ++ blankG w false rest
  | 0, v, h, rest => by cases h
  | d + 1, .mk k o n t l m, h, rest => by
    obtain ⟨m1, m2, m3, m4, m5, m6, m7⟩ := may_parts h
    rw [writeV]
    by_cases k1 : k = 1
    · rw [if_pos k1]
      have eW : writeB w (d + 1) (.mk k o n t l m) = boolL o := by rw [writeB, if_pos k1]
      rw [eW]
      exact blank_plain rest (by cases o <;> decide)
    rw [if_neg k1]
    by_cases k2 : k = 2
    · have eW : writeB w (d + 1) (.mk k o n t l m) = decI n := by rw [writeB, if_neg k1, if_pos k2]
      rw [if_pos k2, eW]
      exact blank_plain rest (decI_plain n)
    rw [if_neg k2]
    by_cases k3 : k = 3
    · have eW : writeB w (d + 1) (.mk k o n t l m) = quoteS t ++ w := by rw [writeB, if_neg k1, if_neg k2, if_pos k3]
      rw [if_pos k3, eW, blank_quote, List.append_assoc]
    rw [if_neg k3]
    by_cases k4 : k = 4
    · have eW : writeB w (d + 1) (.mk k o n t l m) = 91 :: (w ++ (joinL (44 :: w) (l.map (writeB w d)) ++ 93 :: w)) := by rw [writeB, if_neg k1, if_neg k2, if_neg k3, if_pos k4]
      rw [if_pos k4, eW, writeL_map]
      have e : ((91 :: joinL [44] (l.map writeV)) ++ [93]) ++ rest = 91 :: (joinL [44] (l.map writeV) ++ 93 :: rest) := by simp
      rw [e, blank_sep _ rfl (by decide), blank_join (g := writeB w d) l (fun x hx Z => blank_written (m7 x hx) Z), blank_sep _ rfl (by decide)]
      simp
    rw [if_neg k4]
    by_cases k5 : k = 5
    · have eW : writeB w (d + 1) (.mk k o n t l m) = 123 :: (w ++ (joinL (44 :: w) (m.map fun p => (quoteS p.1 ++ w) ++ (58 :: w ++ writeB w d p.2)) ++ 125 :: w)) := by rw [writeB, if_neg k1, if_neg k2, if_neg k3, if_neg k4, if_pos k5]
      rw [if_pos k5, eW, writeM_map]
      have e : ((123 :: joinL [44] (m.map fun p => (quoteS p.1 ++ [58]) ++ writeV p.2)) ++ [125]) ++ rest = 123 :: (joinL [44] (m.map fun p => (quoteS p.1 ++ [58]) ++ writeV p.2) ++ 125 :: rest) := by simp
      rw [e, blank_sep _ rfl (by decide), blank_join (g := fun p => (quoteS p.1 ++ w) ++ (58 :: w ++ writeB w d p.2)) m (fun p hp Z => by
        have e2 : (quoteS p.1 ++ [58]) ++ writeV p.2 ++ Z = quoteS p.1 ++ 58 :: (writeV p.2 ++ Z) := by simp
        rw [e2, blank_quote, blank_sep _ rfl (by decide), blank_written (m6 p hp).2 Z]
        simp), blank_sep _ rfl (by decide)]
      simp
    have eW : writeB w (d + 1) (.mk k o n t l m) = [110, 117, 108, 108] := by rw [writeB, if_neg k1, if_neg k2, if_neg k3, if_neg k4, if_neg k5]
    rw [if_neg k5, eW]
    exact blank_plain rest (by decide)
theorem joinB_len {α : Type} {f : α → List Nat} {z : α → Nat} (hw : w.length ≤ 2) : ∀ (l : List α), (∀ x ∈ l, (f x).length + 3 ≤ z x) → (joinL (44 :: w) (l.map f)).length ≤ (l.map z).sum
  | [], h => by simp [joinL]
  | [x], h => by
    have := h x (by simp)
    simp [joinL]; omega
  | x :: y :: l, h => by
    have ih := joinB_len hw (y :: l) fun z hz => h z (by simp at hz ⊢; exact .inr hz)
    have := h x (by simp)
    rw [List.map_cons, List.map_cons, joinL_two, List.length_append, List.length_append, List.length_cons, List.map_cons, List.sum_cons]
    rw [List.map_cons] at ih
    omega
theorem sizeL_sum : ∀ l, (l.map fun x => 27 * sizeV x).sum = 27 * sizeL l
  | [] => rfl
  | x :: l => by rw [List.map_cons, List.sum_cons, sizeL_sum l, sizeL]; omega
theorem sizeM_sum : ∀ l : List (List Nat × JV), (l.map fun p => 27 * (p.1.length + sizeV p.2)).sum = 27 * sizeM l
  | [] => rfl
  | x :: l => by rw [List.map_cons, List.sum_cons, sizeM_sum l, sizeM]; omega
theorem writeB_len (hw : w.length ≤ 2) : ∀ {d : Nat} {v : JV}, mayV d v = true → (writeB w d v).length + 10 ≤ 27 * sizeV v
  | 0, v, h => by cases h
  | d + 1, .mk k o n t l m, h => by
    obtain ⟨m1, m2, m3, m4, m5, m6, m7⟩ := may_parts h
    rw [sizeV]
    have qs : ∀ t : List Nat, (quoteS t).length ≤ 6 * t.length + 2 := fun t => by
      have := quote_len t
      unfold quoteS
      rw [List.length_append, List.length_cons, List.length_singleton]; omega
    by_cases k1 : k = 1
    · have eW : writeB w (d + 1) (.mk k o n t l m) = boolL o := by rw [writeB, if_pos k1]
      have : (boolL o).length ≤ 5 := by cases o <;> decide
      rw [eW]; omega
    by_cases k2 : k = 2
    · have eW : writeB w (d + 1) (.mk k o n t l m) = decI n := by rw [writeB, if_neg k1, if_pos k2]
      have := decI_len (n := n) (by omega)
      rw [eW]; omega
    by_cases k3 : k = 3
    · have eW : writeB w (d + 1) (.mk k o n t l m) = quoteS t ++ w := by rw [writeB, if_neg k1, if_neg k2, if_pos k3]
      have := qs t
      rw [eW, List.length_append]; omega
    by_cases k4 : k = 4
    · have eW : writeB w (d + 1) (.mk k o n t l m) = 91 :: (w ++ (joinL (44 :: w) (l.map (writeB w d)) ++ 93 :: w)) := by rw [writeB, if_neg k1, if_neg k2, if_neg k3, if_pos k4]
      have := joinB_len (f := writeB w d) (z := fun x => 27 * sizeV x) hw l fun x hx => by have := writeB_len hw (m7 x hx); omega
      rw [sizeL_sum] at this
      rw [eW, List.length_cons, List.length_append, List.length_append, List.length_cons]; omega
    by_cases k5 : k = 5
    · have eW : writeB w (d + 1) (.mk k o n t l m) = 123 :: (w ++ (joinL (44 :: w) (m.map fun p => (quoteS p.1 ++ w) ++ (58 :: w ++ writeB w d p.2)) ++ 125 :: w)) := by rw [writeB, if_neg k1, if_neg k2, if_neg k3, if_neg k4, if_pos k5]
      have := joinB_len (f := fun p : List Nat × JV => (quoteS p.1 ++ w) ++ (58 :: w ++ writeB w d p.2)) (z := fun p => 27 * (p.1.length + sizeV p.2)) hw m fun p hp => by
        have h1 := writeB_len hw (m6 p hp).2
        have h2 := qs p.1
        rw [List.length_append, List.length_append, List.length_append, List.length_cons]; omega
      rw [sizeM_sum] at this
      rw [eW, List.length_cons, List.length_append, List.length_append, List.length_cons]; omega
    have eW : writeB w (d + 1) (.mk k o n t l m) = [110, 117, 108, 108] := by rw [writeB, if_neg k1, if_neg k2, if_neg k3, if_neg k4, if_neg k5]
    rw [eW]
    simp only [List.length_cons, List.length_nil]; omega
theorem writeV_nil {d : Nat} {v : JV} (h : mayV d v = true) : (writeV v).length ≤ (writeB [] d v).length := by
  have key : ∀ s : List Nat, blankG [] false s = s ∧ blankG [] true s = s := by
    intro s
    induction hn : s.length using Nat.strongRecOn generalizing s with
    | _ n ih =>
      have one : ∀ inn : Bool, blankG [] inn s = s := fun inn => by
        match s, hn with
        | [], _ => cases inn <;> rfl
        | [c], _ => cases inn <;> (unfold blankG tokB; simp)
        | c :: e :: s, hn =>
          rw [blankG]
          split
          · have := ih s.length (by rw [← hn]; simp only [List.length_cons]; omega) s rfl
            cases inn
            · rw [this.1]
            · rw [this.2]
          · have := ih (e :: s).length (by rw [← hn]; simp only [List.length_cons]; omega) (e :: s) rfl
            have e1 : blankG [] (nin inn c) (e :: s) = e :: s := by
              cases nin inn c
              · exact this.1
              · exact this.2
            rw [e1]
            unfold tokB
            simp
      exact ⟨one false, one true⟩
  have := blank_written (w := []) h []
  rw [(key _).1, (key _).1, List.append_nil, List.append_nil] at this
  rw [this]
  exact Nat.le_refl _
end
/-- No escape is cut at the end. -/
def endOk : Bool → List Nat → Bool
  | _, [] => true
  | inn, [c] => !(inn && c == 92)
  | inn, c :: d :: s => if inn = true ∧ c = 92 then endOk inn s else endOk (nin inn c) (d :: s)
theorem endOk_step {inn : Bool} {c : Nat} (s : List Nat) (h : ¬ (inn = true ∧ c = 92)) : endOk inn (c :: s) = endOk (nin inn c) s := by
  cases s with
  | nil =>
    show (!(inn && c == 92)) = true
    cases inn
    · rfl
    · have : (c == 92) = false := by rw [beq_eq_false_iff_ne]; exact fun q => h ⟨rfl, q⟩
      rw [this]; rfl
  | cons d s => rw [endOk, if_neg h]
theorem endOk_esc (d : Nat) (s : List Nat) : endOk true (92 :: d :: s) = endOk true s := by
  rw [endOk, if_pos ⟨rfl, rfl⟩]
theorem end_in {c : Nat} (s : List Nat) (h : c ≠ 34) (h2 : c ≠ 92) : endOk true (c :: s) = endOk true s := by
  rw [endOk_step _ (by rintro ⟨_, q⟩; exact h2 q)]
  unfold nin
  rw [if_neg h]
theorem end_out {c : Nat} (s : List Nat) (h : c ≠ 34) : endOk false (c :: s) = endOk false s := by
  rw [endOk_step _ (by rintro ⟨q, _⟩; cases q)]
  unfold nin
  rw [if_neg h]
theorem end_shut (s : List Nat) : endOk true (34 :: s) = endOk false s := by
  rw [endOk_step _ (by rintro ⟨_, q⟩; cases q)]; rfl
theorem end_open (s : List Nat) : endOk false (34 :: s) = endOk true s := by
  rw [endOk_step _ (by rintro ⟨q, _⟩; cases q)]; rfl
theorem end_plain : ∀ {l : List Nat} (s : List Nat), (∀ c ∈ l, sepB c = false) → endOk false (l ++ s) = endOk false s
  | [], s, _ => rfl
  | c :: l, s, h => by
    have h34 : c ≠ 34 := fun q => by have := h c (by simp); rw [q] at this; cases this
    rw [List.cons_append, end_out _ h34, end_plain s fun x hx => h x (by simp [hx])]
theorem end_str : ∀ (t s : List Nat), endOk true (t.flatMap quoteB ++ 34 :: s) = endOk false s
  | [], s => end_shut s
  | c :: t, s => by
    have ih := end_str t s
    rw [List.flatMap_cons, List.append_assoc, ← ih]
    generalize t.flatMap quoteB ++ 34 :: s = Z
    unfold quoteB
    by_cases q1 : c = 34 ∨ c = 92
    · rw [if_pos q1]
      exact endOk_esc c Z
    · rw [if_neg q1]
      by_cases q2 : c < 32
      · rw [if_pos q2]
        obtain ⟨a1, a2⟩ := hexc_in (c / 16) (by omega)
        obtain ⟨b1, b2⟩ := hexc_in (c % 16) (by omega)
        show endOk true (92 :: 117 :: 48 :: 48 :: hexc (c / 16) :: hexc (c % 16) :: Z) = _
        rw [endOk_esc, end_in _ (by decide) (by decide), end_in _ (by decide) (by decide), end_in _ a1 a2, end_in _ b1 b2]
      · rw [if_neg q2]
        exact end_in Z (by omega) (by omega)
theorem end_quote (t s : List Nat) : endOk false (quoteS t ++ s) = endOk false s := by
  unfold quoteS
  rw [List.append_assoc, List.cons_append, end_open]
  exact end_str t s
theorem end_join {α : Type} {f : α → List Nat} : ∀ (l : List α), (∀ x ∈ l, ∀ Z, endOk false (f x ++ Z) = endOk false Z) → ∀ Z, endOk false (joinL [44] (l.map f) ++ Z) = endOk false Z
  | [], h, Z => rfl
  | [x], h, Z => by
    have e1 : joinL [44] ([x].map f) = f x := by simp [joinL]
    rw [e1]
    exact h x (by simp) Z
  | x :: y :: l, h, Z => by
    have ih := end_join (y :: l) (fun z hz => h z (by simp at hz ⊢; exact .inr hz)) Z
    rw [List.map_cons, List.map_cons, joinL_two, List.append_assoc, h x (by simp)]
    show endOk false (44 :: (joinL [44] ((y :: l).map f) ++ Z)) = _
    rw [end_out _ (by decide), ih]
theorem end_written : ∀ {d : Nat} {v : JV}, mayV d v = true → ∀ rest, endOk false (writeV v ++ rest) = endOk false rest
  | 0, v, h, rest => by cases h
  | d + 1, .mk k o n t l m, h, rest => by
    obtain ⟨m1, m2, m3, m4, m5, m6, m7⟩ := may_parts h
    rw [writeV]
    by_cases k1 : k = 1
    · rw [if_pos k1]
      exact end_plain rest (by cases o <;> decide)
    rw [if_neg k1]
    by_cases k2 : k = 2
    · rw [if_pos k2]
      exact end_plain rest (decI_plain n)
    rw [if_neg k2]
    by_cases k3 : k = 3
    · rw [if_pos k3, end_quote]
    rw [if_neg k3]
    by_cases k4 : k = 4
    · rw [if_pos k4, writeL_map]
      have e : ((91 :: joinL [44] (l.map writeV)) ++ [93]) ++ rest = 91 :: (joinL [44] (l.map writeV) ++ 93 :: rest) := by simp
      rw [e, end_out _ (by decide), end_join l (fun x hx Z => end_written (m7 x hx) Z), end_out _ (by decide)]
    rw [if_neg k4]
    by_cases k5 : k = 5
    · rw [if_pos k5, writeM_map]
      have e : ((123 :: joinL [44] (m.map fun p => (quoteS p.1 ++ [58]) ++ writeV p.2)) ++ [125]) ++ rest = 123 :: (joinL [44] (m.map fun p => (quoteS p.1 ++ [58]) ++ writeV p.2) ++ 125 :: rest) := by simp
      rw [e, end_out _ (by decide), end_join m (fun p hp Z => by
        have e2 : (quoteS p.1 ++ [58]) ++ writeV p.2 ++ Z = quoteS p.1 ++ 58 :: (writeV p.2 ++ Z) := by simp
        rw [e2, end_quote, end_out _ (by decide), end_written (m6 p hp).2 Z]), end_out _ (by decide)]
    rw [if_neg k5]
    exact end_plain rest (by decide)
/-- The blanks that a law puts in. -/
def wOf (z : Nat) : List Nat := [[32], [10], [9, 13], []].getD (z % 4) []
theorem wOf_ok (z : Nat) : Bls (wOf z) ∧ (wOf z).length ≤ 2 ∧ Bytes (wOf z) := by
  have : z % 4 = 0 ∨ z % 4 = 1 ∨ z % 4 = 2 ∨ z % 4 = 3 := by omega
  unfold wOf Bls Bytes
  rcases this with q | q | q | q <;> rw [q] <;> decide
section
variable {h : Hp} {K : Value → Hp → Prop}
theorem T_refMayTop {R : Hp} {cs : List Value} {v : JV} (j : JvR R cs v) (rc : Hp.cle R h) (k : ∀ g : Bool, (g = true → mayV 16 v = true) → K (.bool g) h) : Cn P n_orlopref15_May #[.agg cs.toArray] h K := by
  refine Cn_wk (F_orlopref15_May ?_)
  unfold s_orlopref15_May
  refine aw_boxV j fun r2 H hr2 x2 e2 => ?_
  refine q_ldV j e2 ?_
  have := T_refMay15 (d := 16) (Nat.le_refl _) j (rc.trans x2.cle) (K := fun v h' => ∃ h0, Hp.le h0 h' ∧ K v h0) fun g hg => ⟨h, x2.le, k g hg⟩
  have e1 : (17 : Int) - ((16 : Nat) : Int) = 1 := by decide
  rw [e1] at this
  exact this
theorem T_JsonBlanks {cs : List Value} {v : JV} {z : Nat} (T : Tab h) (pw : Pow h) (j : JvR h cs v) (hz : z < 256) (k : ∀ h', K (.bool true) h') : Cn P n_orloplaw15_JsonBlanks #[.agg cs.toArray, .int .u8 (z : Int)] h K := by
  refine F_orloplaw15_JsonBlanks ?_
  unfold s_orloplaw15_JsonBlanks
  refine aw_boxV j fun r2 h1 hr2 x1 e2 => ?_
  refine T_awake15 (T.mono x1.cle) (pw.mono x1.cle) fun h2 x2 => ?_
  have e2 := x2 _ _ e2
  have xx := x1.trans x2
  rw [q_not, cnd_bool, if_neg (by decide)]
  have j2 := j.mono xx.cle
  intro J5
  have hJ5 : sizeV v ≤ 2000 → mayV 16 v = true → J5 h2 := fun hs hm => by
    simp -zeta only [J5]
    obtain ⟨w1, w2, w3⟩ := wOf_ok z
    have hwz : [[32], [10], [9, 13], ([] : List Nat)].getD (z % 4) [] = wOf z := rfl
    have wl := writeB_len w2 hm
    have vl := writeV_nil hm
    have nl := writeB_len (w := []) (by simp) hm
    refine q_ldV j2 e2 ?_
    refine T_refWrite15 j2 hm (by omega) (Hp.ext.refl _).cle ?_
    have bw := writeV_b j2
    have bg := blank_written (w := wOf z) hm []
    have eg := end_written hm []
    rw [List.append_nil] at bg eg
    have eb : blankG (wOf z) false [] = [] := rfl
    rw [eb, List.append_nil] at bg
    have pr := parse_written w1 hm (by omega)
    rw [← bg] at pr wl
    clear bg
    generalize writeV v = s at *
    generalize wOf z = w0 at hwz w1 w2 w3 pr wl ⊢
    have ls : s.length ≤ 60000 := by omega
    refine Lp_mk (fun m vs G => ∃ (i : Nat) (inn : Bool) (t : List Nat), i + m = s.length ∧ Hp.ext h2 G ∧ t ++ blankG w0 inn (s.drop i) = blankG w0 false s ∧ endOk inn (s.drop i) = true ∧ Bytes t ∧ vs = [.string (strL t), .int .i64 (i : Int), .bool inn]) s.length ⟨0, false, [], by omega, .refl _, rfl, eg, (by intro x hx; cases hx), rfl⟩ ?_
    rintro m vs G ⟨i, inn, t, hi, xG, eq, en, bt, rfl⟩
    simp -zeta only [List.getD_cons_succ, List.getD_cons_zero]
    have lt := congrArg List.length eq
    rw [List.length_append] at lt
    rw [q_lenSt u_string, q_lss, ltN, cnd_bool]
    by_cases g : i < s.length
    · rw [decide_eq_true g, if_pos rfl]
      have d := dropAt g
      have gx : s.getD i 0 = s[i] := by rw [List.getD_eq_getElem?_getD, List.getElem?_eq_getElem g]; rfl
      have hb : s.getD i 0 < 256 := by rw [gx]; exact bw _ (List.getElem_mem g)
      have sl : (s.take (i + 1)).drop i = [s.getD i 0] := by
        rw [List.drop_take, Nat.add_sub_cancel_left, d]; rfl
      have u1 := up1 (n := i) (by omega)
      rw [q_idxSt u_string bw g, q_add, u1, q_slSt u_string s (by omega) (by omega), sl, q_addSt _ _ (by rw [List.length_singleton]; omega)]
      rw [d] at eq en
      have bt1 : Bytes (t ++ [s.getD i 0]) := bytes_app bt (by intro x hx; rw [List.mem_singleton.1 hx]; exact hb)
      intro J22
      have hE : inn = true → s.getD i 0 = 92 → J22 (.bool true) G := fun q1 q2 => by
        subst q1
        rw [q2] at eq en
        have g2 : i + 1 < s.length := by
          refine Decidable.byContradiction fun q => ?_
          rw [List.drop_eq_nil_of_le (by omega)] at en
          cases en
        have d2 := dropAt g2
        rw [d2, blankG_esc] at eq
        rw [d2, endOk_esc] at en
        have sl2 : (s.take (i + 1 + 1)).drop (i + 1) = [s.getD (i + 1) 0] := by
          rw [List.drop_take, Nat.add_sub_cancel_left, d2]; rfl
        have gx2 : s.getD (i + 1) 0 = s[i + 1] := by rw [List.getD_eq_getElem?_getD, List.getElem?_eq_getElem g2]; rfl
        have hb2 : s.getD (i + 1) 0 < 256 := by rw [gx2]; exact bw _ (List.getElem_mem g2)
        simp -zeta only [J22]
        rw [cnd_bool, if_pos rfl, q_add, u1, q_add, up1 (n := i + 1) (by omega), q_slSt u_string s (by omega) (by omega), sl2, q_addSt _ _ (by rw [List.length_append, List.length_singleton, List.length_singleton]; omega), q_add, up1 (n := i + 1) (by omega)]
        refine ⟨G, .refl _, m - 2, by omega, i + 1 + 1, true, _, by omega, xG, ?_, en, bytes_app bt1 (by intro x hx; rw [List.mem_singleton.1 hx]; exact hb2), rfl⟩
        rw [← eq, q2]
        simp
      have hN : ¬ (inn = true ∧ s.getD i 0 = 92) → J22 (.bool false) G := fun qn => by
        rw [blankG_step _ qn] at eq
        rw [endOk_step _ qn] at en
        simp -zeta only [J22]
        rw [cnd_bool, if_neg (by decide)]
        clear hE
        clear J22
        intro J25
        have hJ25 : J25 (.bool (nin inn (s.getD i 0))) G := by
          simp -zeta only [J25]
          intro J27
          have hT : nin inn (s.getD i 0) = false → sepB (s.getD i 0) = true → J27 (.bool true) G := fun q1 q2 => by
            simp -zeta only [J27]
            rw [cnd_bool, if_pos rfl]
            refine aw_lit (n := 4) (ps := [(0, .string ⟨#[32]⟩), (1, .string ⟨#[10]⟩), (2, .string ⟨#[9, 13]⟩), (3, .string ⟨#[]⟩)]) u_Sl_string z_string zr_string rfl (by decide) (by decide +kernel) fun wv h3 n3 _ => ?_
            have ef : fillL [(0, Value.string ⟨#[32]⟩), (1, .string ⟨#[10]⟩), (2, .string ⟨#[9, 13]⟩), (3, .string ⟨#[]⟩)] (List.replicate 4 (.string ByteArray.empty)) = strV [[32], [10], [9, 13], []] := by kernel_rfl
            have n3' : New G t_string 1 wv h3 (strV [[32], [10], [9, 13], []]) [[32], [10], [9, 13], ([] : List Nat)].length := by rw [← ef]; exact n3
            obtain ⟨bq, oq, cq, rfl, hcq, hcell⟩ := str_pos n3'.rds (by decide)
            have wz : IntKind.i64.wrap ((z : Nat) : Int) = (z : Int) := wi64 (by omega) (by omega)
            have mz : ((z : Nat) : Int).tmod 4 = ((z % 4 : Nat) : Int) := by rw [Int.tmod_eq_emod_of_nonneg (by omega)]; omega
            have hc := hcell (z % 4) (by show z % 4 < 4; omega)
            have ew : [[32], [10], [9, 13], ([] : List Nat)].getD (z % 4) [] = w0 := hwz
            rw [ew] at hc
            rw [q_conv _ u_uint8 u_int, wz, q_rem _ _ _ _ (by decide), mz, q_idxS u_Sl_string z_string _ _ _ _ _ (by omega) (by show ((z % 4 : Nat) : Int) < ((4 : Nat) : Int); omega), Int.toNat_natCast, add_off, Nat.mul_one, q_ld u_string rfl, hc, withVal_some, q_addSt _ _ (by rw [List.length_append, List.length_singleton]; omega), q_add, u1]
            refine ⟨h3, .refl _, m - 1, by omega, i + 1, nin inn (s.getD i 0), _, by omega, xG.trans n3'.ext, ?_, en, bytes_app bt1 w3, rfl⟩
            rw [← eq]
            unfold tokB
            rw [if_pos ⟨q1, q2⟩]
            simp
          have hF : ¬ (nin inn (s.getD i 0) = false ∧ sepB (s.getD i 0) = true) → J27 (.bool false) G := fun q1 => by
            simp -zeta only [J27]
            rw [cnd_bool, if_neg (by decide), q_add, u1]
            refine ⟨G, .refl _, m - 1, by omega, i + 1, nin inn (s.getD i 0), _, by omega, xG, ?_, en, bt1, rfl⟩
            rw [← eq]
            unfold tokB
            rw [if_neg q1]
            simp
          clear_value J27
          have es : ∀ a : Nat, (((s.getD i 0 : Nat) : Int) == (a : Int)) = decide (s.getD i 0 = a) := fun a => eqb
          rw [q_not]
          cases hn : nin inn (s.getD i 0)
          · rw [hn] at hT hF
            have e91 : (((s.getD i 0 : Nat) : Int) == 91) = decide (s.getD i 0 = 91) := es 91
            have e93 : (((s.getD i 0 : Nat) : Int) == 93) = decide (s.getD i 0 = 93) := es 93
            have e123 : (((s.getD i 0 : Nat) : Int) == 123) = decide (s.getD i 0 = 123) := es 123
            have e125 : (((s.getD i 0 : Nat) : Int) == 125) = decide (s.getD i 0 = 125) := es 125
            have e44 : (((s.getD i 0 : Nat) : Int) == 44) = decide (s.getD i 0 = 44) := es 44
            have e58 : (((s.getD i 0 : Nat) : Int) == 58) = decide (s.getD i 0 = 58) := es 58
            have e34 : (((s.getD i 0 : Nat) : Int) == 34) = decide (s.getD i 0 = 34) := es 34
            have hT' := hT rfl
            have hF' : sepB (s.getD i 0) = false → J27 (.bool false) G := fun q => hF (by rw [q]; rintro ⟨_, q⟩; cases q)
            unfold sepB at hT' hF'
            rw [decide_eq_true_eq] at hT'
            rw [decide_eq_false_iff_not] at hF'
            simp -zeta only [GL, RL, e91, e93, e123, e125, e44, e58, e34, Bool.not_false, if_true]
            by_cases c1 : s.getD i 0 = 91
            · rw [decide_eq_true c1]; simp -zeta only [GL, Bool.true_eq_false, if_false]; exact hT' (by omega)
            by_cases c2 : s.getD i 0 = 93
            · rw [decide_eq_false c1, decide_eq_true c2]; simp -zeta only [GL, Bool.true_eq_false, if_false, if_true]; exact hT' (by omega)
            by_cases c3 : s.getD i 0 = 123
            · rw [decide_eq_false c1, decide_eq_false c2, decide_eq_true c3]; simp -zeta only [GL, Bool.true_eq_false, if_false, if_true]; exact hT' (by omega)
            by_cases c4 : s.getD i 0 = 125
            · rw [decide_eq_false c1, decide_eq_false c2, decide_eq_false c3, decide_eq_true c4]; simp -zeta only [GL, Bool.true_eq_false, if_false, if_true]; exact hT' (by omega)
            by_cases c5 : s.getD i 0 = 44
            · rw [decide_eq_false c1, decide_eq_false c2, decide_eq_false c3, decide_eq_false c4, decide_eq_true c5]; simp -zeta only [GL, Bool.true_eq_false, if_false, if_true]; exact hT' (by omega)
            by_cases c6 : s.getD i 0 = 58
            · rw [decide_eq_false c1, decide_eq_false c2, decide_eq_false c3, decide_eq_false c4, decide_eq_false c5, decide_eq_true c6]; simp -zeta only [GL, Bool.true_eq_false, if_false, if_true]; exact hT' (by omega)
            rw [decide_eq_false c1, decide_eq_false c2, decide_eq_false c3, decide_eq_false c4, decide_eq_false c5, decide_eq_false c6]
            simp -zeta only [GL, if_true]
            by_cases c7 : s.getD i 0 = 34
            · rw [decide_eq_true c7]; exact hT' (by omega)
            · rw [decide_eq_false c7]; exact hF' (by omega)
          · simp -zeta only [GL, Bool.not_true, Bool.false_eq_true, if_false]
            exact hF (by rw [hn]; rintro ⟨q, _⟩; cases q)
        clear_value J25
        have e34 : (((s.getD i 0 : Nat) : Int) == 34) = decide (s.getD i 0 = 34) := eqb
        rw [q_eql, e34, cnd_bool]
        unfold nin at hJ25
        by_cases c : s.getD i 0 = 34
        · rw [if_pos c] at hJ25
          rw [decide_eq_true c, if_pos rfl, q_not]
          exact hJ25
        · rw [if_neg c] at hJ25
          rw [decide_eq_false c, if_neg (by decide)]
          exact hJ25
      clear_value J22
      have e92 : (((s.getD i 0 : Nat) : Int) == 92) = decide (s.getD i 0 = 92) := eqb
      cases inn
      · simp -zeta only [GL, Bool.false_eq_true, if_false]
        exact hN (by rintro ⟨q, _⟩; cases q)
      · simp -zeta only [GL, RL, e92, if_true]
        by_cases c : s.getD i 0 = 92
        · rw [decide_eq_true c]; exact hE rfl c
        · rw [decide_eq_false c]; exact hN (by rintro ⟨_, q⟩; exact c q)
    · rw [decide_eq_false g, if_neg (by decide)]
      rw [List.drop_eq_nil_of_le (by omega)] at eq lt
      have e0 : blankG w0 inn [] = [] := by cases inn <;> rfl
      rw [e0, List.append_nil] at eq
      subst eq
      have t32 : (⟨#[32]⟩ : ByteArray) = strL [32] := by kernel_rfl
      have t10 : (⟨#[10]⟩ : ByteArray) = strL [10] := by kernel_rfl
      rw [t32, q_addSt _ _ (by rw [List.length_singleton]; omega), t10, q_addSt _ _ (by rw [List.length_append, List.length_singleton, List.length_singleton]; omega)]
      have bx : Bytes ([32] ++ blankG w0 false s ++ [10]) := bytes_app (bytes_app (by unfold Bytes; decide) bt) (by unfold Bytes; decide)
      refine aw_stB u_string u_Sl_uint8 u_uint8 bx fun w4 h4 n4 => ?_
      have x4 := xG.trans n4.ext
      have ep : [32] ++ blankG w0 false s ++ [10] = 32 :: (blankG w0 false s ++ [10]) := rfl
      refine T_ParseX (T.mono (xx.trans x4).cle) (show Nn G t_uint8 .u8 w4 h4 _ from n4).rn bx fun cs5 h5 x5 j5 => ?_
      rw [ep, pr] at j5 ⊢
      rw [ext0, ext1]
      refine aw_hold j5 fun r6 h6 hr6 x6 e6 => ?_
      have x6' := x4.trans (x5.trans x6)
      have e2' := x6' _ _ e2
      have J5' := j5.mono x6.cle
      have J2 := j2.mono x6'.cle
      rw [q_eql, show ((resV (Except.ok v)).2 == 0) = true from rfl]
      simp -zeta only [GL, if_true]
      refine q_ldV J5' e6 ?_
      refine q_ldV J2 e2' ?_
      exact T_refSame15 J5' J2 (Hp.ext.refl _).cle (k _)
  clear_value J5
  refine q_ldV j2 e2 ?_
  refine T_Small15 (most := 2000) j2 (Hp.ext.refl _).cle (by decide) fun g hg => ?_
  rw [q_not]
  cases g
  · simp -zeta only [GL, Bool.not_false, Bool.true_eq_false, if_false, if_true]
    exact k _
  · simp -zeta only [GL, Bool.not_true, if_true]
    refine q_ldV j2 e2 ?_
    refine T_refMayTop j2 (Hp.ext.refl _).cle fun g2 hg2 => ?_
    rw [q_not, cnd_bool]
    cases g2
    · rw [if_pos (by decide)]; exact k _
    · rw [if_neg (by decide)]; exact hJ5 (hg rfl) (hg2 rfl)
end
end Go.Proofs.YtolcmaipjpkidaaGreatDoor
namespace Go.Proofs.YtolcmaipjpkidaaGreatDoor
open Go Go.SL Go.Pure
open Go.ChangeShapes Go.WideShapes Go.ChangeAt Go.RowKit
/-- Cells that are a thing of that shape, in which no text and no slice is longer than B. -/
def RdB (R : Hp) (B : Nat) : Ty → List Value → Prop
  | .int k, vs => ∃ n, vs = [.int k n] ∧ (Lit.int k n).wf = true
  | .bool, vs => ∃ b, vs = [.bool b]
  | .str, vs => ∃ s : ByteArray, vs = [.string s] ∧ s.size ≤ B
  | .sl e, vs => ∃ (v : Value) (items : List (List Value)), vs = [v] ∧ SlAt R e.size v items ∧ items.length ≤ B ∧ ∀ x ∈ items, x.length = e.size ∧ RdB R B e x
  | .arr n e, vs => ∃ items : List (List Value), vs = items.flatten ∧ items.length = n ∧ ∀ x ∈ items, x.length = e.size ∧ RdB R B e x
  | .rcd fs, vs => RdB R B fs vs
  | .nil, vs => vs = []
  | .cons a b, vs => ∃ x y, vs = x ++ y ∧ x.length = a.size ∧ RdB R B a x ∧ RdB R B b y
theorem RdB.rd {R : Hp} {B : Nat} (hB : B ≤ 9223372036854775807) : ∀ {ty : Ty} {vs : List Value}, RdB R B ty vs → ty.Rd R vs
  | .int _, _, h => h
  | .bool, _, h => h
  | .str, _, ⟨s, e, l⟩ => ⟨s, e, Nat.le_trans l hB⟩
  | .sl _, _, ⟨v, items, e, a, hl, h⟩ => ⟨v, items, e, a, Nat.le_trans hl hB, fun x hx => ⟨(h x hx).1, RdB.rd hB (h x hx).2⟩⟩
  | .arr _ _, _, ⟨items, e, l, h⟩ => ⟨items, e, l, fun x hx => ⟨(h x hx).1, RdB.rd hB (h x hx).2⟩⟩
  | .rcd fs, _, h => RdB.rd (ty := fs) hB h
  | .nil, _, h => h
  | .cons _ _, _, ⟨x, y, e, l, h1, h2⟩ => ⟨x, y, e, l, RdB.rd hB h1, RdB.rd hB h2⟩
theorem weights_all {H : Type} {P : Program} {e : TypeId} {n : Nat} : ∀ {l : List (DataW H)} {d : DataW H}, d ∈ l → n ∈ d.weights P e → n ∈ DataW.weightsAll P e l
  | x :: l, d, hd, hn => by
    simp only [DataW.weightsAll, List.mem_append]
    rcases List.mem_cons.1 hd with rfl | q
    · exact .inl hn
    · exact .inr (weights_all q hn)
theorem weights_each {H : Type} {P : Program} {n : Nat} : ∀ {ts : List TypeId} {ds : List (DataW H)} {j : Nat} {t : TypeId} {d : DataW H}, ts[j]? = some t → ds[j]? = some d → n ∈ d.weights P t → n ∈ DataW.weightsEach P ts ds
  | t0 :: ts, d0 :: ds, 0, t, d, ht, hd, hn => by
    simp only [List.getElem?_cons_zero, Option.some.injEq] at ht hd
    subst ht; subst hd
    simp only [DataW.weightsEach, List.mem_append]
    exact .inl hn
  | t0 :: ts, d0 :: ds, j + 1, t, d, ht, hd, hn => by
    simp only [List.getElem?_cons_succ] at ht hd
    simp only [DataW.weightsEach, List.mem_append]
    exact .inr (weights_each ht hd hn)
  | [], _, _, _, _, ht, _, _ => by simp at ht
  | _ :: _, [], _, _, _, _, hd, _ => by simp at hd
/-- Each thing's weights are among all weights. -/
theorem weigh {B : Nat} {H : Type} {ts : List TypeId} {ds : List (DataW H)} (h : (DataW.weightsEach P ts ds).all (· ≤ B) = true) (j : Nat) {t : TypeId} {d : DataW H} (ht : ts[j]? = some t) (hd : ds[j]? = some d) : ∀ n ∈ d.weights P t, n ≤ B := fun n hn => by
  simpa using List.all_eq_true.1 h n (weights_each ht hd hn)
end Go.Proofs.YtolcmaipjpkidaaGreatDoor
namespace Go.Proofs.YtolcmaipjpkidaaGreatDoor
open Go Go.SL Go.Pure Go.Js
open Go.ChangeShapes Go.WideShapes Go.ChangeAt Go.RowKit
/-- Cells that a datum tells, with less fuel; nothing in it weighs more than B. -/
def Itm {H : Type} (B : Nat) (enc : TypeId × Value → H) (w : World) (te fuel : Nat) (cs : List Value) : Prop :=
  ∃ (m' : Nat) (y : DataW H × List MemPlace), m' < fuel ∧ DataW.trod enc P w 0 (fun _ => true) true m' te cs = some y ∧ ∀ n ∈ y.1.weights P te, n ≤ B
section
variable {H : Type} {B : Nat} {enc : TypeId × Value → H} {w : World}
theorem openSl {t te c fuel : Nat} {cs : List Value} (hu : P.underlying t = some (.slice te)) (hc : P.cellsOf te = c) (h0 : 0 < c) (h1b : 1 ≤ P.bytesOf te) (I : Itm B enc w t fuel cs) :
    ∃ (v : Value) (items : List (List Value)), cs = [v] ∧ SlAt (readAll w) c v items ∧ items.length ≤ B ∧ ∀ x ∈ items, x.length = c ∧ Itm B enc w te (fuel - 1) x := by
  obtain ⟨fl, x, hfl, h, hw⟩ := I
  rcases DataW.trod_slice hu h with ⟨rfl, _⟩ | ⟨a', len, cap, elems, rest, m, rfl, rfl, rfl, _, hl, hm, hlen, hel, _, _⟩
  · exact ⟨_, [], rfl, ⟨none, 0, rfl, Nat.le_refl _, .inl rfl⟩, by simp, by simp⟩
  · have each : ∀ i, i < len → ∃ cs : List Value, cs.length = c ∧ Itm B enc w te (fuel - 1) cs ∧ ∀ j y, cs[j]? = some y → w.cell? ((a'.add (i * c)).add j) = some y := by
      intro i hi
      have h1 := hel i hi
      rw [hc, List.getElem?_eq_getElem (by omega), Option.bind_eq_some_iff] at h1
      obtain ⟨cs, hcs, htr⟩ := h1
      have hwe : ∀ n ∈ elems[i].1.weights P te, n ≤ B := fun n hn => hw n (by
        simp only [DataW.weights, hu, List.mem_cons, List.mem_append]
        exact .inr (.inl (weights_all (List.mem_map.2 ⟨_, List.getElem_mem _, rfl⟩) hn)))
      obtain ⟨_, hlen, hcell⟩ := World.cells?_some hcs
      refine ⟨cs, hlen, ⟨m, _, by omega, htr, hwe⟩, fun j y ey => ?_⟩
      have hlt := (List.getElem?_eq_some_iff.1 ey).1
      rw [hcell j (by omega)]
      exact ey
    obtain ⟨f, hfn⟩ : ∃ f : Nat → List Value, ∀ i, i < len → (f i).length = c ∧ Itm B enc w te (fuel - 1) (f i) ∧ ∀ j y, (f i)[j]? = some y → w.cell? ((a'.add (i * c)).add j) = some y := by
      refine ⟨fun i => if q : i < len then (each i q).choose else [], fun i hi => ?_⟩
      simp only [hi, dif_pos]
      exact (each i hi).choose_spec
    have hget : ∀ (i : Nat) (x : List Value), ((List.range len).map f)[i]? = some x → i < len ∧ x = f i := by
      intro i x e
      have hi : i < len := by simpa using (List.getElem?_eq_some_iff.1 e).1
      rw [List.getElem?_map, List.getElem?_range hi] at e
      exact ⟨hi, by simpa using e.symm⟩
    have ll : ((List.range len).map f).length = len := by simp
    have hm' : len ≤ B := by
      have h2 := hw ((elems.length + rest.length) * P.bytesOf te) (by
        simp [DataW.weights, hu])
      have h3 : (elems.length + rest.length) * 1 ≤ (elems.length + rest.length) * P.bytesOf te := Nat.mul_le_mul_left _ h1b
      omega
    refine ⟨_, (List.range len).map f, rfl, ⟨some a', cap, by rw [ll], by rw [ll]; exact hl, ?_⟩, by rw [ll]; omega, fun x hx => ?_⟩
    · by_cases hl0 : len = 0
      · left; subst hl0; rfl
      · right
        obtain ⟨l0, _, c0⟩ := hfn 0 (by omega)
        have hc0 := c0 0 _ (List.getElem?_eq_getElem (by omega))
        obtain ⟨b, o, sp⟩ := a'
        have hsp : sp = none := by
          cases sp with
          | none => rfl
          | some s =>
            unfold World.cell? Addr.add at hc0
            dsimp only at hc0
            split at hc0 <;> simp at hc0
        subst hsp
        refine ⟨b, o, rfl, fun i x e j y ey => ?_⟩
        obtain ⟨hi, rfl⟩ := hget i x e
        have := (hfn i hi).2.2 j y ey
        rw [add_off, add_off] at this
        exact readAll_cell this
    · obtain ⟨i, hi, rfl⟩ := List.mem_map.1 hx
      have hi : i < len := by simpa using hi
      exact ⟨(hfn i hi).1, (hfn i hi).2.1⟩
theorem openFld {t fuel : Nat} {fs : Array Field} {cs : List Value} (hu : P.underlying t = some (.struct fs)) (I : Itm B enc w t fuel cs) {i ft off c : Nat} (hf : (fs[i]?).map (fun f => (f.type, f.offset)) = some (ft, off)) (hc : P.cellsOf ft = c) :
    cs.length = P.cellsOf t ∧ Itm B enc w ft (fuel - 1) ((cs.drop off).take c) := by
  obtain ⟨fl, x, hfl, h, hw⟩ := I
  obtain ⟨xs, n, rfl, rfl, hl, hlen, hel⟩ := DataW.trod_struct hu h
  rw [Option.map_eq_some_iff] at hf
  obtain ⟨f, hf, e⟩ := hf
  obtain ⟨rfl, rfl⟩ := Prod.mk.inj e
  have h1 := hel i f hf
  have hlt : i < xs.length := by
    have := (Array.getElem?_eq_some_iff.1 hf).1
    omega
  subst hc
  refine ⟨hl, n, _, by omega, h1.trans (List.getElem?_eq_getElem hlt), fun n hn => hw n ?_⟩
  simp only [DataW.weights, hu]
  have hfl : fs.toList[i]? = some f := by simpa using hf
  exact weights_each (j := i) (by rw [List.getElem?_map, hfl]; rfl) (by rw [List.getElem?_map, List.getElem?_eq_getElem hlt]; rfl) hn
theorem openInt {t fuel : Nat} {k : IntKind} {cs : List Value} (hu : P.underlying t = some (.int k)) (I : Itm B enc w t fuel cs) : ∃ n, cs = [.int k n] := by
  obtain ⟨fl, x, hfl, h, hw⟩ := I
  obtain ⟨n, rfl, _⟩ := DataW.trod_int hu h
  exact ⟨n, rfl⟩
theorem openBool {t fuel : Nat} {cs : List Value} (hu : P.underlying t = some .bool) (I : Itm B enc w t fuel cs) : ∃ n, cs = [.bool n] := by
  obtain ⟨fl, x, hfl, h, hw⟩ := I
  obtain ⟨n, rfl, _⟩ := DataW.trod_bool hu h
  exact ⟨n, rfl⟩
theorem openStr {t fuel : Nat} {cs : List Value} (hu : P.underlying t = some .string) (I : Itm B enc w t fuel cs) : ∃ l : List Nat, cs = [.string (strL l)] ∧ Bytes l ∧ l.length ≤ B := by
  obtain ⟨fl, x, hfl, h, hw⟩ := I
  obtain ⟨s, rfl, rfl, hs⟩ := DataW.trod_string hu h
  refine ⟨sL s, by rw [strL_sL], sL_bytes _, ?_⟩
  have := hw s.data.toList.length (by simp [DataW.weights])
  rw [sL_len]
  simpa using this
end
theorem st_val : ∃ fs, P.underlying t_api_Value = some (.struct fs) ∧ (fs[0]?).map (fun f => (f.type, f.offset)) = some (t_int, 0) ∧ (fs[1]?).map (fun f => (f.type, f.offset)) = some (t_bool, 1) ∧ (fs[2]?).map (fun f => (f.type, f.offset)) = some (t_int64, 2) ∧ (fs[3]?).map (fun f => (f.type, f.offset)) = some (t_string, 3) ∧ (fs[4]?).map (fun f => (f.type, f.offset)) = some (t_Sl_api_Value, 4) ∧ (fs[5]?).map (fun f => (f.type, f.offset)) = some (t_Sl_api_Member, 5) :=
  ⟨match P.underlying t_api_Value with | some (.struct fs) => fs | _ => #[], by kernel_rfl, by kernel_rfl, by kernel_rfl, by kernel_rfl, by kernel_rfl, by kernel_rfl, by kernel_rfl⟩
theorem st_mem : ∃ fs, P.underlying t_api_Member = some (.struct fs) ∧ (fs[0]?).map (fun f => (f.type, f.offset)) = some (t_string, 0) ∧ (fs[1]?).map (fun f => (f.type, f.offset)) = some (t_api_Value, 1) :=
  ⟨match P.underlying t_api_Member with | some (.struct fs) => fs | _ => #[], by kernel_rfl, by kernel_rfl, by kernel_rfl⟩
theorem open_list {α : Type} {Q : List Value → α → Prop} : ∀ (items : List (List Value)), (∀ c ∈ items, ∃ x, Q c x) → ∃ l : List α, items.length = l.length ∧ ∀ (i : Nat) (c : List Value) (x : α), items[i]? = some c → l[i]? = some x → Q c x
  | [], _ => ⟨[], rfl, fun i c x e => by simp at e⟩
  | c :: items, h => by
    obtain ⟨x, hx⟩ := h c (by simp)
    obtain ⟨l, e1, e2⟩ := open_list items fun c hc => h c (by simp [hc])
    refine ⟨x :: l, by simp [e1], fun i c' x' h1 h2 => ?_⟩
    cases i with
    | zero => simp at h1 h2; subst h1; subst h2; exact hx
    | succ i => exact e2 i c' x' (by simpa using h1) (by simpa using h2)
/-- A value that is handed in. -/
theorem jv_open {H : Type} {B : Nat} {enc : TypeId × Value → H} {w : World} (hB : B ≤ 1125899906842624) : ∀ (fuel : Nat) (cs : List Value), Itm B enc w t_api_Value fuel cs → ∃ v, JvR (readAll w) cs v := by
  intro fuel
  induction fuel using Nat.strongRecOn with
  | _ fuel ih =>
    intro cs I
    obtain ⟨fs, hu, f0, f1, f2, f3, f4, f5⟩ := st_val
    obtain ⟨fm, hum, g0, g1⟩ := st_mem
    have pos : 0 < fuel := by obtain ⟨m, y, h1, _⟩ := I; omega
    have cv : P.cellsOf t_api_Value = 6 := by kernel_rfl
    have cm : P.cellsOf t_api_Member = 7 := by kernel_rfl
    have c1 : P.cellsOf t_int = 1 ∧ P.cellsOf t_bool = 1 ∧ P.cellsOf t_int64 = 1 ∧ P.cellsOf t_string = 1 ∧ P.cellsOf t_Sl_api_Value = 1 ∧ P.cellsOf t_Sl_api_Member = 1 := ⟨by kernel_rfl, by kernel_rfl, by kernel_rfl, by kernel_rfl, by kernel_rfl, by kernel_rfl⟩
    obtain ⟨hl, I0⟩ := openFld hu I f0 c1.1
    obtain ⟨_, I1⟩ := openFld hu I f1 c1.2.1
    obtain ⟨_, I2⟩ := openFld hu I f2 c1.2.2.1
    obtain ⟨_, I3⟩ := openFld hu I f3 c1.2.2.2.1
    obtain ⟨_, I4⟩ := openFld hu I f4 c1.2.2.2.2.1
    obtain ⟨_, I5⟩ := openFld hu I f5 c1.2.2.2.2.2
    rw [cv] at hl
    obtain ⟨k, ek⟩ := openInt u_int I0
    obtain ⟨o, eo⟩ := openBool u_bool I1
    obtain ⟨n, en⟩ := openInt u_int64 I2
    obtain ⟨t, et, bt, lt⟩ := openStr u_string I3
    obtain ⟨sl, il, el, Sl, ll, al⟩ := openSl u_Sl_api_Value cv (by omega) (of_decide_eq_true (by kernel_rfl)) I4
    obtain ⟨sm, im, em, Sm, lm, am⟩ := openSl u_Sl_api_Member cm (by omega) (of_decide_eq_true (by kernel_rfl)) I5
    match cs, hl with
    | [a0, a1, a2, a3, a4, a5], _ =>
      simp only [List.drop_succ_cons, List.drop_zero, List.take_succ_cons, List.take_zero, List.cons.injEq, and_true] at ek eo en et el em
      subst ek; subst eo; subst en; subst et; subst el; subst em
      obtain ⟨l, e1, e2⟩ := open_list (Q := fun c x => JvR (readAll w) c x) il fun c hc => ih (fuel - 1 - 1) (by omega) c (al c hc).2
      obtain ⟨m, e3, e4⟩ := open_list (α := List Nat × JV) (Q := fun c x => MeR (readAll w) c x) im fun c hc => by
        obtain ⟨lc, Ic⟩ := am c hc
        obtain ⟨_, J0⟩ := openFld hum Ic g0 c1.2.2.2.1
        obtain ⟨_, J1⟩ := openFld hum Ic g1 cv
        obtain ⟨nm, enm, bn, ln⟩ := openStr u_string J0
        match c, lc with
        | [b0, b1, b2, b3, b4, b5, b6], _ =>
          simp only [List.drop_succ_cons, List.drop_zero, List.take_succ_cons, List.take_zero, List.cons.injEq, and_true] at enm J1
          subst enm
          obtain ⟨x, hx⟩ := ih (fuel - 1 - 1 - 1) (by omega) _ J1
          exact ⟨(nm, x), _, rfl, ⟨bn, by show nm.length ≤ _; omega⟩, hx⟩
      refine ⟨.mk k o n t l m, .mk il im bt (by omega) (by omega) (by omega) Sl e1 e2 Sm e3 (fun i c x h1 h2 => ?_) (fun i c x h1 h2 => ?_)⟩
      · obtain ⟨cs, rfl, _, jx⟩ := e4 i c x h1 h2
        exact jx
      · obtain ⟨cs, rfl, bx, _⟩ := e4 i c x h1 h2
        exact ⟨rfl, bx⟩
end Go.Proofs.YtolcmaipjpkidaaGreatDoor
namespace Go.Proofs.YtolcmaipjpkidaaGreatDoor
open Go Go.SL Go.Pure
open Go.ChangeShapes Go.WideShapes Go.ChangeAt Go.RowKit
namespace jsonBlanks
theorem laid_met (os : Os) (args : Array Value) : laidMetH Tryz.prog Rows.jsonBlanksRow.laid ((World.laidAll Tryz.prog os Rows.jsonBlanksRow.laid).forCall (fun _ _ => 0) ⟨#[], args, []⟩).memory := by
  rw [MakeChecks.laidMetH_plain _ _ _ (by kernel_rfl)]
  exact laidMet_laidAll _ (by kernel_rfl) (by kernel_rfl)
theorem lifted (os : Os) (started : os.Started) (H : Type) (enc : TypeId × Value → H) :
    ReturnsInHanded {} Tryz.checked os n_orloplaw15_JsonBlanks .any (fun w args => (Rows.jsonBlanksSpec.pre enc Tryz.prog Tryz.f4 [] false w args ∧ laidMetH Tryz.prog Rows.jsonBlanksRow.laid w) ∧ sizedMet enc Tryz.prog Tryz.f4 (OpenSpec.ofChange Rows.jsonBlanksSpec) false w args)
      (Rows.jsonBlanksSpec.post enc Tryz.prog Tryz.f4 false true false false) := by
  refine returnsInHanded_of_change_and (C := Tryz.checked) (X := fun w _ => laidMetH Tryz.prog Rows.jsonBlanksRow.laid w) (fun _ _ _ hh h => h.of_heap hh) ownNone started (by kernel_rfl) Tryz.func4
    (ChangeSpec.witness_shaped (enc := enc) (C := Tryz.checked) (os := os) (X := fun w _ => laidMetH Tryz.prog Rows.jsonBlanksRow.laid w) false (World.laidAll Tryz.prog os Rows.jsonBlanksRow.laid) #[.agg #[.int .i64 0, .bool false, .int .i64 0, .string ⟨#[]⟩, .slice none 0 0, .slice none 0 0], .int .u8 0] 8 (World.laidAll_os ..) (World.shaped_of_ZipB (by kernel_rfl) (by kernel_rfl)) (by kernel_rfl) (by kernel_rfl) (by kernel_rfl) (laid_met os _)) ?_
  intro W base args ds gs before hval0 hW _ hsz0 hL _
  have hval : ∀ (j : Nat) t v, Tryz.f4.params[j]? = some t → args[j]? = some v → Value.okWide Tryz.prog W .any base t v := hval0
  have hW' := hW
  obtain ⟨p, q, hA0, hV, rfl, hfz, hnd⟩ := hW
  have hA : DataW.TrodAll enc Tryz.prog W 0 (fun _ => true) true Tryz.f4.params.toList args.toList ds p := hA0
  rw [Tryz.params4] at hA hval
  obtain ⟨v0, vs0, d0, ds0, p0, q0, hargs, rfl, rfl, h0, r0⟩ := trodAll_cons hA
  obtain ⟨v1, vs1, d1, ds1, p1, q1, rfl, rfl, rfl, h1, r1⟩ := trodAll_cons r0
  obtain ⟨rfl, rfl, rfl⟩ := trodAll_nil r1
  obtain rfl : args = #[v0, v1] := by cases args; simp_all
  obtain ⟨rfl, rfl⟩ := trodVars_none hV
  have lt0 : ∀ x ∈ p0, x.block < W.heap.size := by obtain ⟨m, hm⟩ := h0; exact DataW.trod_lt m _ _ _ hm
  obtain ⟨x1, rfl, rfl, rfl, w1⟩ := open_int Tryz.underlying5 (hval 1 5 v1 rfl rfl) h1
  have hw1 : 0 ≤ x1 ∧ x1 < 256 := by
    simp [Lit.wf, IntKind.min, IntKind.max, IntKind.signed, IntKind.bits] at w1
    omega
  obtain ⟨n1, rfl⟩ : ∃ o : Nat, x1 = (o : Int) := ⟨x1.toNat, by omega⟩
  obtain ⟨cs0, rfl, hs0⟩ := okWide_struct Tryz.underlying27 (hval 0 27 v0 rfl rfl)
  have Z0 := weigh hsz0 0 (by rw [Tryz.params4]; rfl) rfl
  obtain ⟨f0, hf0⟩ := h0
  obtain ⟨j0, hj0⟩ := jv_open (B := reachBytes) (by decide) (f0 + 1) cs0.toList ⟨f0, _, by omega, hf0, Z0⟩
  have h0 : DataW.Trod enc Tryz.prog W 0 (fun _ => true) true 27 (.agg cs0) d0 p0 := ⟨f0, hf0⟩
  have T0 := tab_of_laid (W := W) hL
  clear hA0 hval0 hsz0
  refine (tells_true (T_JsonBlanks (K := fun v _ => v = .bool true) T0.1 T0.2 hj0 (by omega) fun _ => rfl)).mono fun e W' ⟨he, bel⟩ => ?_
  subst he
  exact ⟨_, rfl, _, _, _, [], _, [], hW', trodAll_mk1 (shut_bool Tryz.underlying4 _), (trodAll_cons_mk (Below.trod laidOut (by kernel_rfl) (of_decide_eq_true (by kernel_rfl)) h0 bel lt0) (trodAll_cons_mk (shut_int Tryz.underlying5 w1) trodAll_mk0)), rfl, bel.frame _, fun h => by cases h⟩
theorem over : Rows.jsonBlanksRow.holds Tryz.pinned (OpenSpec.ofChange Rows.jsonBlanksSpec) :=
  OpenClaim.holds_of_wide 4 Tryz.f4 rfl rfl rfl rfl rfl rfl rfl ⟨rfl, rfl, rfl, rfl, rfl⟩ rfl rfl rfl rfl rfl (by kernel_rfl) Tryz.func4 (by kernel_rfl)
    (of_decide_eq_true (by kernel_rfl)) (by unfold Func.isWrapper; first | (rw [if_pos (by decide +kernel)]; kernel_rfl) | (rw [if_neg (by decide +kernel)]; exact ⟨rfl, rfl⟩))
    (fun os started H enc _ => lifted os started H enc)
theorem proved : Rows.JsonBlanksCardSaid :=
  Claim7.holds_tied_plain_at .later [] [.data, .data, .data, .data, .sentinel, .sentinel, .pinned, .pinned] true (true, "984915d52a11ad6d43a4841d8998c66ab362931bf101cad0c51e0099ee1e103f") true
    over (fun _ h => by cases h) (by kernel_rfl) (fun _ h => by cases h) jsonBlanks_row_tie rfl ⟨rfl, rfl⟩ (by kernel_rfl) rfl
    (fun f fn hf hfn => by
      obtain rfl : f = 4 := Option.some.inj ((show Tryz.prog.funcNamed "orlop/orloplaw15.JsonBlanks" = some 4 by kernel_rfl).symm.trans hf) |>.symm
      obtain rfl : fn = Tryz.f4 := (Option.some.inj (Tryz.func4.symm.trans hfn)).symm
      exact ⟨by kernel_rfl, fun j t ht => by
        rw [Tryz.params4] at ht
        have hm : t ∈ [27, 5] := by simpa using Array.mem_of_getElem? ht
        have hall : ([27, 5].all fun u => !Tryz.prog.wantsStandIn u) = true := by kernel_rfl
        exact (show Tryz.prog.wantsStandIn t = false by simpa using List.all_eq_true.1 hall t hm)⟩)
    (by kernel_rfl)
end jsonBlanks
/-- The card, under a short name. -/
theorem jsonBlanks_holds : Rows.JsonBlanksCardSaid := jsonBlanks.proved
end Go.Proofs.YtolcmaipjpkidaaGreatDoor
