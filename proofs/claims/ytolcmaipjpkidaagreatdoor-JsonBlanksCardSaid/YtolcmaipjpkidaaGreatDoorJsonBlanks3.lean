/- jsonBlanks_holds jsonBlanks proved lifted over: part 3 of its proof; each part's own remarks stand with its declarations. Conditions: each lemma names its own. -/
import Derived.Test.YtolcmaipjpkidaaGreatDoorJsonBlanks2
set_option linter.unusedSimpArgs false
set_option linter.unusedVariables false
set_option maxRecDepth 100000
set_option maxHeartbeats 1000000
namespace Go.Proofs.YtolcmaipjpkidaaGreatDoor
open Go Go.SL Go.Pure Go.Js
section
variable {h : Hp} {K : Value → Hp → Prop}
theorem T_ToLower {l : List Nat} (F : Fst h) (A : Acc h) (C : Cas h) (bl : Bytes l) (ll : l.length ≤ 1000)
    (k : ∀ t : List Nat, Bytes t → t.length ≤ 20000 → ((∀ x ∈ l, x < 128) → t = l.map lowB) → ((∃ x ∈ l, 128 ≤ x) → ∃ x ∈ t, hxl x = none) → K (.string (strL t)) h) : Cn P n_strings_ToLower #[.string (strL l)] h K := by
  refine Cn_wk (F_strings_ToLower ?_)
  unfold s_strings_ToLower
  intro J3
  have q3n : ∀ u : Bool, (∃ x ∈ l, 128 ≤ x) → J3 (.bool false) (.bool u) h := fun u hx => by
    simp -zeta only [J3]
    clear J3
    simp -zeta only [GL, Bool.false_eq_true, if_false]
    exact T_MapLower F A C bl ll hx fun t bt lt ht => ⟨h, .refl _, k t bt lt (fun q => by obtain ⟨x, hx, e⟩ := hx; have := q x hx; omega) fun _ => ht⟩
  have q3y : ∀ u : Bool, (∀ x ∈ l, x < 128) → (u = false → ∀ x ∈ l, ¬ (65 ≤ x ∧ x ≤ 90)) → J3 (.bool true) (.bool u) h := fun u ha hu => by
    simp -zeta only [J3]
    clear J3 q3n
    simp -zeta only [GL, if_true]
    have no : (∃ x ∈ l, 128 ≤ x) → False := fun ⟨x, hx, e⟩ => by have := ha x hx; omega
    cases u with
    | false =>
      simp -zeta only [Bool.not_false, if_true]
      exact ⟨h, .refl _, k l bl (by omega) (fun _ => (lowB_ascii (hu rfl)).symm) fun q => (no q).elim⟩
    | true =>
      simp -zeta only [Bool.not_true, Bool.false_eq_true, if_false]
      refine aw_newBl fun b hb a0 eb => ?_
      rw [q_lenSt u_string]
      refine T_Grow0 (by omega) a0 fun h1 So1 a1 => ?_
      refine Lp_mk (fun m vs H => ∃ (pos i : Nat) (So : List Nat), i + m = l.length ∧ pos ≤ i ∧ BlA h H b So ((l.take pos).map lowB) (selfB b) ∧ (∀ x ∈ (l.take i).drop pos, ¬ (65 ≤ x ∧ x ≤ 90)) ∧ vs = [.int .i64 (pos : Int), .int .i64 (i : Int)]) l.length
        ⟨0, 0, So1, by omega, by omega, a1, by simp, rfl⟩ ?_
      rintro m vs H ⟨pos, i, So, hm, hp, a, nu, rfl⟩
      have mid : ∀ j, pos ≤ j → (l.take pos).map lowB ++ (((l.take j).drop pos).map lowB) = (l.take j).map lowB := fun j hj => by
        rw [← List.map_append]
        congr 1
        have := List.take_append_drop pos (l.take j)
        rw [List.take_take, Nat.min_eq_left hj] at this
        exact this
      have fin : ∀ (H : Hp) (So : List Nat), BlA h H b So (l.map lowB) (selfB b) → Cn P n_strings_Builder_String #[selfB b] H fun t75 h' => ∃ h0, Hp.le h0 h' ∧ K t75 h0 := fun H So a => by
        refine T_bString a (fun x hx => ?_) (by simp; omega) ⟨h, .refl _, k _ (fun x hx => ?_) (by simp; omega) (fun _ => rfl) fun q => (no q).elim⟩
        · obtain ⟨y, hy, rfl⟩ := List.mem_map.1 hx
          have := ha y hy
          unfold lowB; split <;> omega
        · obtain ⟨y, hy, rfl⟩ := List.mem_map.1 hx
          have := ha y hy
          unfold lowB; split <;> omega
      rw [List.getD_cons_succ, List.getD_cons_zero, List.getD_cons_zero, q_lenSt u_string]
      simp -zeta only [GL, ltN]
      by_cases g : i < l.length
      · rw [if_pos (decide_eq_true g), q_idxSt u_string bl g]
        have c8 := bl _ (getD_memB g)
        have w1 : IntKind.i64.wrap ((i : Int) + 1) = ((i + 1 : Nat) : Int) := by rw [wi64 (by omega) (by omega)]; omega
        have d2 : decide ((65 : Int) ≤ ((l.getD i 0 : Nat) : Int)) = decide (65 ≤ l.getD i 0) := leN 65 _
        have d3 : decide (((l.getD i 0 : Nat) : Int) ≤ 90) = decide (l.getD i 0 ≤ 90) := leN _ 90
        have tk : (l.take (i + 1)).drop pos = (l.take i).drop pos ++ [l.getD i 0] := by
          rw [take_last g, List.drop_append_of_le_length (by simp; omega)]
        intro J28
        have q28 : ∀ u : Bool, (u = true ↔ 65 ≤ l.getD i 0 ∧ l.getD i 0 ≤ 90) → J28 (.bool u) H := fun u eu => by
          simp -zeta only [J28]
          clear J28
          rw [cnd_bool]
          by_cases gu : 65 ≤ l.getD i 0 ∧ l.getD i 0 ≤ 90
          · rw [if_pos (eu.2 gu)]
            have wc : IntKind.u8.wrap (((l.getD i 0 : Nat) : Int) + 32) = ((l.getD i 0 + 32 : Nat) : Int) := by rw [wu8i (by omega) (by omega)]; omega
            have lb : lowB (l.getD i 0) = l.getD i 0 + 32 := by unfold lowB; rw [if_pos gu]
            have last : ∀ (H : Hp) (So : List Nat), BlA h H b So ((l.take i).map lowB) (selfB b) → Cn P n_strings_Builder_WriteByte #[selfB b, .int .u8 ((l.getD i 0 + 32 : Nat) : Int)] H fun t64 h2 => q P h2 (binOp .add 3 (.int .i64 (i : Int)) (.int .i64 1)) fun t66 => q P h2 (binOp .add 3 (.int .i64 (i : Int)) (.int .i64 1)) fun t43 =>
                ∃ h0, Hp.le h0 h2 ∧ ∃ m', m' < m ∧ ∃ (pos i : Nat) (So : List Nat), i + m' = l.length ∧ pos ≤ i ∧ BlA h h0 b So ((l.take pos).map lowB) (selfB b) ∧ (∀ x ∈ (l.take i).drop pos, ¬ (65 ≤ x ∧ x ≤ 90)) ∧ [t66, t43] = [.int .i64 (pos : Int), .int .i64 (i : Int)] := fun H So a => by
              refine T_WriteByte (.inr rfl) a (by simp; omega) fun h2 So2 a2 => ?_
              simp -zeta only [GL, w1]
              refine ⟨h2, .refl _, m - 1, by omega, i + 1, i + 1, So2, by omega, by omega, ?_, ?_, rfl⟩
              · rw [← lb] at a2
                rw [take_last g, List.map_append]
                exact a2
              · intro x hx; rw [List.drop_of_length_le (by rw [List.length_take]; omega)] at hx; cases hx
            simp -zeta only [GL, wc, ltN]
            by_cases gp : pos < i
            · rw [if_pos (decide_eq_true gp), q_slSt u_string l (by omega) (by omega)]
              refine T_WriteString (.inr rfl) a (fun x hx => bl x (List.mem_of_mem_take (List.mem_of_mem_drop hx))) (by simp; omega) fun h2 So2 a2 => ?_
              rw [← lowB_ascii nu, mid i hp] at a2
              exact last h2 So2 a2
            · rw [if_neg (by simpa using gp)]
              obtain rfl : pos = i := by omega
              exact last H So a
          · rw [if_neg (fun q => gu (eu.1 q))]
            simp -zeta only [GL, w1]
            refine ⟨H, .refl _, m - 1, by omega, pos, i + 1, So, by omega, by omega, a, fun x hx => ?_, rfl⟩
            rw [tk] at hx
            rcases List.mem_append.1 hx with q | q
            · exact nu x q
            · rw [List.mem_singleton.1 q]; exact gu
        clear_value J28
        simp -zeta only [GL, d2]
        by_cases g2 : 65 ≤ l.getD i 0
        · simp -zeta only [g2, decide_true, if_true, GL, d3]
          exact q28 _ (by rw [decide_eq_true_eq]; omega)
        · simp -zeta only [g2, decide_false, Bool.false_eq_true, if_false]
          exact q28 _ ⟨fun q => (by cases q), fun q => absurd q.1 g2⟩
      · rw [if_neg (by simpa using g)]
        have ei : l.take i = l := List.take_of_length_le (by omega)
        rw [ei] at nu
        have m2 := mid l.length (by omega)
        rw [List.take_length] at m2
        rw [q_lenSt u_string]
        simp -zeta only [GL, ltN]
        by_cases gp : pos < l.length
        · rw [if_pos (decide_eq_true gp), q_slStL u_string l (by omega)]
          refine T_WriteString (.inr rfl) a (fun x hx => bl x (List.mem_of_mem_drop hx)) (by simp; omega) fun h2 So2 a2 => ?_
          rw [← lowB_ascii nu, m2] at a2
          exact fin h2 So2 a2
        · rw [if_neg (by simpa using gp)]
          rw [List.take_of_length_le (by omega)] at a
          exact fin H So a
  clear_value J3
  refine Lp_mk (fun m vs H => ∃ (i : Nat) (u : Bool), i + m = l.length ∧ H = h ∧ (∀ x ∈ l.take i, x < 128) ∧ (u = false → ∀ x ∈ l.take i, ¬ (65 ≤ x ∧ x ≤ 90)) ∧ vs = [.bool true, .bool u, .int .i64 (i : Int)]) l.length
    ⟨0, false, by omega, rfl, by simp, by simp, rfl⟩ ?_
  rintro m vs H ⟨i, u, hm, rfl, ha, hu, rfl⟩
  rw [List.getD_cons_succ, List.getD_cons_succ, List.getD_cons_zero, List.getD_cons_succ, List.getD_cons_zero, List.getD_cons_zero, q_lenSt u_string]
  simp -zeta only [GL, ltN]
  by_cases g : i < l.length
  · rw [if_pos (decide_eq_true g), q_idxSt u_string bl g]
    have c8 := bl _ (getD_memB g)
    have w1 : IntKind.i64.wrap ((i : Int) + 1) = ((i + 1 : Nat) : Int) := by rw [wi64 (by omega) (by omega)]; omega
    have d1 : decide ((128 : Int) ≤ ((l.getD i 0 : Nat) : Int)) = decide (128 ≤ l.getD i 0) := leN 128 _
    have d2 : decide ((65 : Int) ≤ ((l.getD i 0 : Nat) : Int)) = decide (65 ≤ l.getD i 0) := leN 65 _
    have d3 : decide (((l.getD i 0 : Nat) : Int) ≤ 90) = decide (l.getD i 0 ≤ 90) := leN _ 90
    simp -zeta only [GL, d1]
    by_cases g1 : 128 ≤ l.getD i 0
    · rw [if_pos (decide_eq_true g1)]
      exact q3n u ⟨_, getD_memB g, g1⟩
    · rw [if_neg (by simpa using g1)]
      have nxt : ∀ v : Bool, (v = false → u = false ∧ ¬ (65 ≤ l.getD i 0 ∧ l.getD i 0 ≤ 90)) → ∃ h0, Hp.le h0 H ∧ ∃ m', m' < m ∧ ∃ (j : Nat) (u : Bool), j + m' = l.length ∧ h0 = H ∧ (∀ x ∈ l.take j, x < 128) ∧ (u = false → ∀ x ∈ l.take j, ¬ (65 ≤ x ∧ x ≤ 90)) ∧ [Value.bool true, .bool v, .int .i64 ((i + 1 : Nat) : Int)] = [.bool true, .bool u, .int .i64 (j : Int)] := fun v hv => by
        refine ⟨H, .refl _, m - 1, by omega, i + 1, v, by omega, rfl, fun x hx => ?_, fun e x hx => ?_, rfl⟩
        · rw [take_last g] at hx
          rcases List.mem_append.1 hx with q | q
          · exact ha x q
          · rw [List.mem_singleton.1 q]; omega
        · rw [take_last g] at hx
          rcases List.mem_append.1 hx with q | q
          · exact hu (hv e).1 x q
          · rw [List.mem_singleton.1 q]; exact (hv e).2
      cases u with
      | true =>
        simp -zeta only [GL, Bool.true_eq_false, if_false, w1]
        exact nxt true (by simp)
      | false =>
        simp -zeta only [GL, if_true, d2]
        by_cases g2 : 65 ≤ l.getD i 0
        · simp -zeta only [g2, decide_true, if_true, GL, d3, w1]
          exact nxt _ (by rw [decide_eq_false_iff_not]; exact fun q => ⟨rfl, fun z => q z.2⟩)
        · simp -zeta only [g2, decide_false, Bool.false_eq_true, if_false, GL, w1]
          exact nxt false fun _ => ⟨rfl, fun z => g2 z.1⟩
  · rw [if_neg (by simpa using g)]
    rw [List.take_of_length_le (by omega)] at ha hu
    exact q3y u ha hu
theorem hexd_low : ∀ c, c < 128 → hxl (lowB c) = hexd c := by decide +kernel
theorem hexd_hi {c : Nat} (h : 128 ≤ c) : hexd c = none := by
  unfold hexd
  rw [if_neg (by omega), if_neg (by omega), if_neg (by omega)]
theorem hexd_lt {c x : Nat} (h : hexd c = some x) : x < 16 := by
  unfold hexd at h
  split at h
  · cases h; omega
  · split at h
    · cases h; omega
    · split at h
      · cases h; omega
      · cases h
theorem unhex_bad' : ∀ {t : List Nat}, (∃ x ∈ t, hxl x = none) → unhexL t = none
  | [], h => by obtain ⟨x, hx, _⟩ := h; cases hx
  | [_], _ => rfl
  | a :: b :: r, h => by
    rw [unhexL]
    obtain ⟨x, hx, e⟩ := h
    rcases List.mem_cons.1 hx with rfl | hx
    · rw [e]
    · rcases List.mem_cons.1 hx with rfl | hx
      · rw [e]; cases hxl a <;> rfl
      · rw [unhex_bad' ⟨x, hx, e⟩]
        cases hxl a <;> cases hxl b <;> rfl
/-- Four digits, as two bytes. -/
theorem half_low {s : List Nat} (hs : s.length = 4) {t : List Nat} (h1 : (∀ x ∈ s, x < 128) → t = s.map lowB) (h2 : (∃ x ∈ s, 128 ≤ x) → ∃ x ∈ t, hxl x = none) :
    (hex4 s = none ∧ unhexL t = none) ∨ ∃ x y, x < 256 ∧ y < 256 ∧ hex4 s = some (x * 256 + y) ∧ unhexL t = some [x, y] := by
  match s, hs with
  | [a, b, c, d], _ =>
    by_cases g : ∀ x ∈ [a, b, c, d], x < 128
    · have e := h1 g
      subst e
      have ea := hexd_low a (g a (by simp))
      have eb := hexd_low b (g b (by simp))
      have ec := hexd_low c (g c (by simp))
      have ed := hexd_low d (g d (by simp))
      simp only [List.map_cons, List.map_nil, unhexL, hex4, ea, eb, ec, ed]
      cases qa : hexd a with
      | none => exact .inl ⟨rfl, rfl⟩
      | some w =>
        cases qb : hexd b with
        | none => exact .inl ⟨rfl, rfl⟩
        | some x =>
          cases qc : hexd c with
          | none => exact .inl ⟨rfl, rfl⟩
          | some y =>
            cases qd : hexd d with
            | none => exact .inl ⟨rfl, rfl⟩
            | some z =>
              have := hexd_lt qa; have := hexd_lt qb; have := hexd_lt qc; have := hexd_lt qd
              refine .inr ⟨w * 16 + x, y * 16 + z, by omega, by omega, ?_, rfl⟩
              show some _ = some _
              congr 1
              omega
    · have g' : ∃ x ∈ [a, b, c, d], 128 ≤ x := by
        simp only [List.mem_cons, List.not_mem_nil, or_false] at g ⊢
        refine Classical.byContradiction fun q => g fun x hx => ?_
        exact Classical.byContradiction fun z => q ⟨x, hx, by omega⟩
      refine .inl ⟨?_, unhex_bad' (h2 g')⟩
      obtain ⟨x, hx, q⟩ := g'
      have e := hexd_hi q
      simp only [List.mem_cons, List.not_mem_nil, or_false] at hx
      unfold hex4
      dsimp only
      rcases hx with rfl | rfl | rfl | rfl
      · rw [e]
      · rw [e]; cases hexd a <;> rfl
      · rw [e]; cases hexd a <;> cases hexd b <;> rfl
      · rw [e]; cases hexd a <;> cases hexd b <;> cases hexd c <;> rfl
theorem ior_i32 {a b : Nat} (ha : a < 2147483648) (hb : b < 2147483648) : ior .i32 (a : Int) (b : Int) = ((a ||| b : Nat) : Int) := by
  have h1 : (BitVec.ofInt 32 ((a : Nat) : Int)).toNat = a := bv_toNat 32 (by omega) (by omega)
  have h2 : (BitVec.ofInt 32 ((b : Nat) : Int)).toNat = b := bv_toNat 32 (by omega) (by omega)
  have h3 : a ||| b < 2 ^ 31 := Nat.or_lt_two_pow (by omega) (by omega)
  have h4 : (BitVec.ofInt 32 ((a : Nat) : Int) ||| BitVec.ofInt 32 (b : Int)).toNat = a ||| b := by rw [BitVec.toNat_or, h1, h2]
  show IntKind.i32.wrap (((BitVec.ofInt 32 ((a : Nat) : Int) ||| BitVec.ofInt 32 (b : Int)).toNat : Nat) : Int) = _
  rw [h4]
  exact wi32 (by omega) (by omega)
theorem or256 {x y : Nat} (hx : x < 256) (hy : y < 256) : ior .i32 (IntKind.i32.wrap ((x : Int) * 2 ^ min (8 : Int).toNat IntKind.i32.bits)) (y : Int) = ((x * 256 + y : Nat) : Int) := by
  have e : IntKind.i32.wrap ((x : Int) * 2 ^ min (8 : Int).toNat IntKind.i32.bits) = ((x * 256 : Nat) : Int) := by
    rw [show min (8 : Int).toNat IntKind.i32.bits = 8 from rfl, wi32 (by omega) (by omega)]; omega
  rw [e, ior_i32 (by omega) (by omega)]
  have := Nat.two_pow_add_eq_or_of_lt (i := 8) (b := y) (by omega) x
  have e2 : 2 ^ 8 * x = x * 256 := by omega
  rw [e2] at this
  rw [this]
end
/-- The tables that the parser leans on. -/
structure Tab (h : Hp) : Prop where
  fst : Fst h
  acc : Acc h
  cas : Cas h
theorem Tab.mono {h h' : Hp} (a : Tab h) (x : Hp.cle h h') : Tab h' := ⟨a.fst.mono x, a.acc.mono x, a.cas.mono x⟩
section
variable {Z : Zt} {R h : Hp} {K : Value → Hp → Prop} {p : Nat} {b s : List Nat}
theorem T_jhalf (T : Tab R) (a : PaX R h p b s) (kz : half s = none → Z [pe (wrongV 8)] h)
    (k : ∀ v r, half s = some (v, r) → ∀ h', Stp R h R h' [p] [p] → PaX R h' p b r → K (.int .i32 (v : Int)) h') : CnZ P Z n_json_parser_half #[.pointer (some ⟨p, 0, none⟩)] h K := by
  have wn := a.own
  obtain ⟨i, a, hi, rfl⟩ := a
  refine CnZ_wk (F_json_parser_half ?_)
  unfold s_json_parser_half
  obtain ⟨bv, c0, c1, r, bb, l, _⟩ := a.cells
  have rh := a.own.rn r
  have rh0 := rh
  obtain ⟨av, cv, rfl, hcv⟩ := rh.shape
  have w1 : IntKind.i64.wrap ((i : Int) + 4) = ((i + 4 : Nat) : Int) := by rw [wi64 (by omega) (by omega)]; omega
  simp -zeta only [GL, RL, jpf0, jpf1, c0, c1, w1, leN]
  have bd : Bytes (b.drop i) := fun x hx => bb x (List.mem_of_mem_drop hx)
  have hf : half (b.drop i) = (hex4 ((b.drop i).take 4)).map fun v => (v, (b.drop i).drop 4) := rfl
  refine T_jmust (fun q => ⟨h, .refl _, kz ?_⟩) fun q => ?_
  · have g := of_decide_eq_false q
    rw [hf]
    have : hex4 ((b.drop i).take 4) = none := by
      unfold hex4
      split
      · rename_i e
        have := congrArg List.length e
        simp at this
        omega
      · rfl
    rw [this]; rfl
  have g := of_decide_eq_true q
  simp -zeta only [GL, RL, jpf0, jpf1, c0, c1, w1]
  refine q_slRnLH u_Sl_uint8 z_uint8 rh0 .i64 .i64 i (i + 4) (by omega) (by omega) fun w2 r2 => ?_
  rw [drop_takeE] at r2
  rw [q_str r2]
  have T' := T.mono wn.sub.cle
  have l4 : ((b.drop i).take 4).length = 4 := by simp; omega
  refine CnZ_of (T_ToLower T'.fst T'.acc T'.cas (bd.take _) (by omega) fun t bt lt t1 t2 => ?_)
  have hl := half_low l4 t1 t2
  have bad : hex4 ((b.drop i).take 4) = none → ∃ h0, Hp.le h0 h ∧ Z [pe (wrongV 8)] h0 := fun q => ⟨h, .refl _, kz (by rw [hf, q]; rfl)⟩
  refine CnZ_of (T_Unhex bt (by omega) (fun q => ?_) fun v h' bs q nn => ?_)
  · rw [ext0, ext1]
    refine T_jmust (fun _ => bad ?_) fun z => by cases z
    rcases hl with ⟨e, _⟩ | ⟨x, y, _, _, _, e⟩
    · exact e
    · rw [q] at e; cases e
  · rw [ext0, ext1]
    refine T_jmust (fun z => by cases z) fun _ => ?_
    rcases hl with ⟨_, e⟩ | ⟨x, y, hx, hy, e4, e⟩
    · rw [q] at e; cases e
    rw [q] at e
    cases e
    have xt := nn.ext
    have c1' : h'.cell ⟨p, 1, none⟩ = some (.int .i64 (i : Int)) := xt.cle _ _ c1
    have a' : PaA R h' p b i := PaA.ext a xt (Stp.ext0 wn xt)
    simp -zeta only [GL, RL, jpf1, c1', w1]
    refine pa_put a' (j := i + 4) (by omega) fun h2 st2 a2 => ?_
    have rn : Rn h' .u8 v [x, y] := nn.rn
    have nf := nn.form (Nat.succ_pos 1)
    obtain ⟨b1, cc, f, nb1, hc1, rfl, eh, _⟩ := nf
    have pb : b1 ≠ p := by rintro rfl; obtain ⟨o, ho⟩ := wn.kn _ (List.mem_singleton.2 rfl); rw [nb1] at ho; cases ho
    have row1 : h2 b1 = some (.row t_uint8 (nv .u8 [x, y]) (cc * 1) (some f)) := st2.keep _ _ (by simpa using pb) (by rw [eh, Hp.set_same])
    have x0 : h2.cell ⟨b1, 0, none⟩ = some (.int .u8 (x : Int)) := by rw [cell_row row1]; rfl
    have x1 : h2.cell ⟨b1, 1, none⟩ = some (.int .u8 (y : Int)) := by rw [cell_row row1]; rfl
    have wx : IntKind.i32.wrap (x : Int) = (x : Int) := wi32 (by omega) (by omega)
    have wy : IntKind.i32.wrap (y : Int) = (y : Int) := wi32 (by omega) (by omega)
    rw [show (Value.slice (some ⟨b1, 0, none⟩) [x, y].length cc) = .slice (some ⟨b1, 0, none⟩) 2 cc from rfl]
    simp -zeta (disch := decide) only [GL, RL, show ((0 : Int).toNat) = 0 from rfl, show ((1 : Int).toNat) = 1 from rfl, x0, x1, wx, wy]
    rw [or256 hx hy]
    have st : Stp R h R h2 [p] [p] := (Stp.ext0 wn xt).trans st2
    exact ⟨h2, .refl _, k _ _ (by rw [hf, e4]; rfl) h2 st ⟨i + 4, a2, by omega, by rw [List.drop_drop]⟩⟩
end
def escA : List Nat := [34, 92, 47, 98, 102, 110, 114, 116]
def escB : List Nat := [34, 92, 47, 8, 12, 10, 13, 9]
theorem escA_t : (⟨#[34, 92, 47, 98, 102, 110, 114, 116]⟩ : ByteArray) = strL escA := by kernel_rfl
theorem escB_t : (⟨#[34, 92, 47, 8, 12, 10, 13, 9]⟩ : ByteArray) = strL escB := by kernel_rfl
theorem escA_b : Bytes escA := by unfold Bytes; decide
theorem escB_b : Bytes escB := by unfold Bytes; decide
theorem esc_idx : ∀ c, c < 256 → (match simple c with
    | some v => c ≠ 0 ∧ ∃ i < 8, idxB c escA = ((i : Nat) : Int) ∧ escB.getD i 0 = v ∧ v < 256
    | none => idxB c escA = -1) := by
  have : ∀ c, c < 256 → (match simple c with
    | some v => (c != 0) && ((List.range 8).any fun i => idxB c escA == ((i : Nat) : Int) && escB.getD i 0 == v && decide (v < 256))
    | none => idxB c escA == -1) = true := by decide +kernel
  intro c hc
  have q := this c hc
  cases e : simple c with
  | none => rw [e] at q; simpa using q
  | some v =>
    rw [e] at q
    simp only [Bool.and_eq_true, bne_iff_ne, List.any_eq_true, List.mem_range, beq_iff_eq, decide_eq_true_eq] at q
    obtain ⟨q1, i, q2, ⟨q3, q4⟩, q5⟩ := q
    exact ⟨q1, i, q2, q3, q4, q5⟩
theorem escape_eq (c : Nat) (r : List Nat) : escape (c :: r) = match simple c with
    | some v => some (v, r)
    | none => if c = 117 then
        match half r with
        | none => none
        | some (v, r1) => if v < 55296 ∨ 57343 < v then some (v, r1)
          else if v < 56320 ∧ has [92, 117] r1 = true then
            match half (r1.drop 2) with
            | none => none
            | some (w, r2) => if 56320 ≤ w ∧ w ≤ 57343 then some ((v - 55296) * 1024 + (w - 56320) + 65536, r2) else none
          else none
      else none := rfl
section
variable {Z : Zt} {R h : Hp} {K : Value → Hp → Prop} {p : Nat} {b s : List Nat}
theorem u_t : (⟨#[92, 117]⟩ : ByteArray) = strL [92, 117] := by kernel_rfl
theorem T_jescape (T : Tab R) (a : PaX R h p b s) (kz : escape s = none → ∀ h', Kp [p] h h' → Z [pe (wrongV 8)] h')
    (k : ∀ v r, escape s = some (v, r) → ∀ h', Stp R h R h' [p] [p] → PaX R h' p b r → K (.int .i32 (v : Int)) h') : CnZ P Z n_json_parser_escape #[.pointer (some ⟨p, 0, none⟩)] h K := by
  have wn := a.own
  obtain ⟨bs, ls⟩ := a.bytes
  refine F_json_parser_escape ?_
  unfold s_json_parser_escape
  refine T_jpeekX a ?_
  have a' := a
  obtain ⟨i, a, hi, es⟩ := a
  obtain ⟨bv, c0, c1, r, bb, l, _⟩ := a.cells
  have w1 : IntKind.i64.wrap ((i : Int) + 1) = ((i + 1 : Nat) : Int) := by rw [wi64 (by omega) (by omega)]; omega
  simp -zeta only [GL, RL, jpf1, c1, w1]
  refine pa_put a (j := i + 1) (by omega) fun h1 st1 a1 => ?_
  have kp1 : Kp [p] h h1 := stp_kp st1
  intro J4
  have q4 : (s.getD 0 0 = 117 → escape s = escape (117 :: s.drop 1) ∧ i < b.length) → simple (s.getD 0 0) = none → (s.getD 0 0 ≠ 117 → escape s = none) → J4 h1 := fun g1 g2 g3 => by
    simp -zeta only [J4]
    clear J4
    have d1 : (((s.getD 0 0 : Nat) : Int) == 117) = decide (s.getD 0 0 = 117) := by rw [Bool.eq_iff_iff, beq_iff_eq, decide_eq_true_eq]; omega
    simp -zeta only [GL, d1]
    refine T_jmust (fun q => kz (g3 (of_decide_eq_false q)) h1 kp1) fun q => ?_
    obtain ⟨ee, hil⟩ := g1 (of_decide_eq_true q)
    rw [escape_eq] at ee
    have s117 : simple 117 = none := by decide
    rw [s117, if_pos rfl] at ee
    dsimp only at ee
    have px1 : PaX R h1 p b (s.drop 1) := ⟨i + 1, a1, by omega, by rw [es, List.drop_drop]⟩
    refine T_jhalf T px1 (fun q => kz (by rw [ee, q]) h1 kp1) fun v r1 eh h2 st2 a2 => ?_
    rw [eh] at ee
    dsimp only at ee
    have st12 := st1.trans st2
    have kp2 : Kp [p] h h2 := stp_kp st12
    have hv := (half_len eh).2.2
    have dv1 : decide ((v : Int) < 55296) = decide (v < 55296) := ltN v 55296
    have dv2 : decide ((57343 : Int) < (v : Int)) = decide (57343 < v) := ltN 57343 v
    have dv3 : decide ((v : Int) < 56320) = decide (v < 56320) := ltN v 56320
    intro J12
    have q12 : ¬ (v < 55296 ∨ 57343 < v) → J12 h2 := fun gv => by
      rw [if_neg gv] at ee
      simp -zeta only [J12]
      clear J12
      intro J17
      have q17 : ∀ h3, Stp R h2 R h3 [p] [p] → v < 56320 → has [92, 117] r1 = true → PaX R h3 p b (r1.drop 2) → J17 h3 := fun h3 st3 gv3 gh a3 => by
        rw [if_pos ⟨gv3, gh⟩] at ee
        simp -zeta only [J17]
        clear J17
        have st13 := st12.trans st3
        refine T_jhalf T a3 (fun q => kz (by rw [ee, q]) h3 (stp_kp st13)) fun w r2 eh2 h4 st4 a4 => ?_
        rw [eh2] at ee
        dsimp only at ee
        have st14 := st13.trans st4
        have hw := (half_len eh2).2.2
        have dw1 : decide ((56320 : Int) ≤ (w : Int)) = decide (56320 ≤ w) := leN 56320 w
        have dw2 : decide ((w : Int) ≤ 57343) = decide (w ≤ 57343) := leN w 57343
        intro J19
        have q19 : 56320 ≤ w ∧ w ≤ 57343 → J19 h4 := fun gw => by
          rw [if_pos gw] at ee
          simp -zeta only [J19]
          clear J19
          have e1 : IntKind.i32.wrap ((v : Int) - 55296) = ((v - 55296 : Nat) : Int) := by rw [wi32 (by omega) (by omega)]; omega
          have e2 : IntKind.i32.wrap (((v - 55296 : Nat) : Int) * 2 ^ min (10 : Int).toNat IntKind.i32.bits) = (((v - 55296) * 1024 : Nat) : Int) := by
            rw [show min (10 : Int).toNat IntKind.i32.bits = 10 from rfl, wi32 (by omega) (by omega)]; omega
          have e3 : IntKind.i32.wrap ((w : Int) - 56320) = ((w - 56320 : Nat) : Int) := by rw [wi32 (by omega) (by omega)]; omega
          have e4 : IntKind.i32.wrap ((((v - 55296) * 1024 : Nat) : Int) + ((w - 56320 : Nat) : Int)) = (((v - 55296) * 1024 + (w - 56320) : Nat) : Int) := by rw [wi32 (by omega) (by omega)]; omega
          have e5 : IntKind.i32.wrap ((((v - 55296) * 1024 + (w - 56320) : Nat) : Int) + 65536) = (((v - 55296) * 1024 + (w - 56320) + 65536 : Nat) : Int) := by rw [wi32 (by omega) (by omega)]; omega
          simp -zeta (disch := decide) only [GL, e1, e2, e3, e4, e5]
          exact k _ _ ee h4 st14 a4
        clear_value J19
        have bad : ¬ (56320 ≤ w ∧ w ≤ 57343) → Z [pe (wrongV 8)] h4 := fun q => kz (by rw [ee, if_neg q]) h4 (stp_kp st14)
        simp -zeta only [GL, dw1]
        by_cases gw : 56320 ≤ w
        · simp -zeta only [gw, decide_true, if_true, GL, dw2]
          exact T_jmust (fun q => bad fun z => (of_decide_eq_false q) z.2) fun q => q19 ⟨gw, of_decide_eq_true q⟩
        · simp -zeta only [gw, decide_false, Bool.false_eq_true, if_false, GL]
          exact T_jmust (fun q => bad fun z => gw z.1) fun q => by cases q
      clear_value J17
      simp -zeta only [GL, dv3]
      by_cases gv3 : v < 56320
      · simp -zeta only [gv3, decide_true, if_true]
        refine T_jhas a2 (w := [92, 117]) (by unfold Bytes; decide) (by decide) u_t fun h3 st3 a3 => ?_
        cases gh : has [92, 117] r1 with
        | false => exact T_jmust (fun _ => kz (by rw [ee, if_neg (by rw [gh]; simp)]) h3 (stp_kp (st12.trans st3))) fun q => by cases q
        | true =>
          rw [gh, if_pos rfl] at a3
          exact T_jmust (fun q => by cases q) fun _ => q17 h3 st3 gv3 gh a3
      · simp -zeta only [gv3, decide_false, Bool.false_eq_true, if_false, GL]
        exact T_jmust (fun _ => kz (by rw [ee, if_neg fun z => gv3 z.1]) h2 kp2) fun q => by cases q
    clear_value J12
    simp -zeta only [GL, dv1]
    by_cases gv : v < 55296
    · rw [if_pos (.inl gv)] at ee
      simp -zeta only [gv, decide_true, if_true, GL, Bool.true_eq_false, if_false]
      exact k _ _ ee h2 st12 a2
    · simp -zeta only [gv, decide_false, if_true, GL, dv2]
      by_cases gv2 : 57343 < v
      · rw [if_pos (.inr gv2)] at ee
        simp -zeta only [gv2, decide_true, if_true]
        exact k _ _ ee h2 st12 a2
      · simp -zeta only [gv2, decide_false, Bool.false_eq_true, if_false]
        exact q12 (by omega)
  clear_value J4
  have c8 : s.getD 0 0 < 256 := by
    by_cases g : 0 < s.length
    · exact bs _ (getD_memB g)
    · rw [getD_len g]; omega
  rw [escA_t]
  refine CnZ_of (T_IndexByte escA_b c8 ?_)
  have ei := esc_idx _ c8
  have hform : 0 < s.length → s = s.getD 0 0 :: s.drop 1 := fun g => by have := drop_consD g; simpa using this
  cases esim : simple (s.getD 0 0) with
  | none =>
    rw [esim] at ei
    dsimp only at ei
    rw [ei]
    simp -zeta only [GL, show decide ((0 : Int) ≤ -1) = false from rfl, Bool.false_eq_true, if_false]
    refine q4 (fun g => ?_) esim fun g => ?_
    · have h0 : 0 < s.length := by
        refine Classical.byContradiction fun q => ?_
        rw [getD_len q] at g; cases g
      refine ⟨?_, ?_⟩
      · have := hform h0
        rw [g] at this
        exact congrArg escape this
      · have := congrArg List.length es
        rw [List.length_drop] at this
        omega
    · by_cases h0 : 0 < s.length
      · rw [hform h0, escape_eq, esim]
        dsimp only
        rw [if_neg g]
      · have : s = [] := List.length_eq_zero_iff.1 (by omega)
        rw [this]; rfl
  | some v =>
    rw [esim] at ei
    obtain ⟨c0', j, hj, e1, e2, e3⟩ := ei
    have h0 : 0 < s.length := by
      refine Classical.byContradiction fun q => ?_
      rw [getD_len q] at c0'; exact c0' rfl
    have ee : escape s = some (v, s.drop 1) := by rw [hform h0, escape_eq, esim]; rfl
    have dj : decide ((0 : Int) ≤ (j : Int)) = true := decide_eq_true (by omega)
    have dc : (((s.getD 0 0 : Nat) : Int) != 0) = true := by rw [bne_iff_ne]; omega
    rw [e1]
    simp -zeta only [GL, dj, dc, if_true, escB_t]
    rw [q_idxSt u_string escB_b (by exact hj), e2]
    have wv : IntKind.i32.wrap (v : Int) = (v : Int) := wi32 (by omega) (by omega)
    simp -zeta only [RL, wv]
    refine k v _ ee h1 st1 ⟨i + 1, a1, ?_, by rw [es, List.drop_drop]⟩
    have := congrArg List.length es
    rw [List.length_drop] at this
    omega
end
/-- A row that grows beside the parser. -/
structure TxI (R h H : Hp) (p : Nat) (b s out : List Nat) (v : Value) (So : List Nat) : Prop where
  pa : PaX R H p b s
  out : OutAt t_uint8 1 H v (nv .u8 out) out.length So
  kp : Kp [p] h H
  fr : ∀ x, x ∈ So → h x = none
  np : p ∉ So
section
variable {Z : Zt} {R h H : Hp} {K : Value → Hp → Prop} {p : Nat} {b s out : List Nat} {v : Value} {So : List Nat}
theorem out_some {t sz n : Nat} {h : Hp} {v : Value} {xs : List Value} {So : List Nat} (o : OutAt t sz h v xs n So) {x : Nat} (hx : x ∈ So) : ∃ y, h x = some y := by
  rcases o with ⟨_, _, _, rfl⟩ | ⟨b', c, f, hb', _, _, _, rfl, _⟩
  · cases hx
  · rw [List.mem_singleton.1 hx]; exact ⟨_, hb'⟩
/-- The parser goes on. -/
theorem TxI.go (I : TxI R h H p b s out v So) {H' : Hp} {s' : List Nat} (st : Stp R H R H' [p] [p]) (pa : PaX R H' p b s') : TxI R h H' p b s' out v So := by
  refine ⟨pa, I.out.keep fun x hx => ?_, I.kp.trans (stp_kp st), I.fr, I.np⟩
  obtain ⟨y, hy⟩ := out_some I.out hx
  rw [hy, st.keep x y (by rw [List.mem_singleton]; rintro rfl; exact I.np hx) hy]
/-- The row grows. -/
theorem TxI.grow (I : TxI R h H p b s out v So) (hR : Hp.ext R h) (hp : h p ≠ none) {H' : Hp} {v' : Value} {out' So' : List Nat} (o' : OutAt t_uint8 1 H' v' (nv .u8 out') out'.length So') (kp : ∀ x o, x ∉ So → H x = some o → H' x = some o)
    (fr : ∀ x o, x ∉ So → H x = some o → x ∉ So') : TxI R h H' p b s out' v' So' := by
  have w := I.pa.own
  obtain ⟨op, hop⟩ := w.kn p (List.mem_singleton.2 rfl)
  have w' : Own R H' [p] := ⟨fun x o e => kp x o (fun q => by have := I.fr x q; rw [hR x o e] at this; cases this) (w.sub x o e), w.dis, fun x hx => by rw [List.mem_singleton.1 hx]; exact ⟨op, kp p op I.np hop⟩⟩
  refine ⟨I.pa.same w' (by rw [hop, kp p op I.np hop]), o', fun x o hx e => kp x o (fun q => by rw [I.fr x q] at e; cases e) (I.kp x o hx e), fun x hx => ?_, fr p op I.np hop⟩
  cases e : h x with
  | none => rfl
  | some o =>
    by_cases q : x = p
    · subst q; exact absurd hx (fr x op I.np hop)
    · exact absurd hx (fr x o (fun z => by rw [I.fr x z] at e; cases e) (I.kp x o (by simpa using q) e))
theorem textG_esc (c : Nat) (r out : List Nat) : textG (c :: r) out = if c = 34 then some (out, r) else if c < 32 then none else if c = 92 then (match escape r with
      | none => none
      | some (v, r1) => textG r1 (out ++ enc v)) else if 0 < runeN (c :: r) then textG ((c :: r).drop (runeN (c :: r))) (out ++ (c :: r).take (runeN (c :: r))) else none := by
  rw [textG]
  split
  · rfl
  · split
    · rfl
    · split
      · cases e : escape r with
        | none => rfl
        | some q =>
          obtain ⟨v, r1⟩ := q
          dsimp only
          have := (escape_len e).1
          rw [if_pos (by omega)]
      · rfl
theorem escape_enc {s r : List Nat} {v : Nat} (bs : Bytes s) (h : escape s = some (v, r)) : encR v = enc v ∧ v ≤ 4000000 := by
  have key : v < 55296 ∨ (57343 < v ∧ v ≤ 1114111) := by
    unfold escape at h
    split at h
    · cases h
    · rename_i c t
      split at h
      · rename_i x hs
        cases h
        unfold simple at hs
        have hc := bs c (by simp)
        split at hs
        · cases hs; omega
        · repeat (split at hs; · cases hs; omega)
          cases hs
      · split at h
        · split at h
          · cases h
          · rename_i v1 r1 h1
            have := (half_len h1).2.2
            split at h
            · rename_i hv; cases h; omega
            · rename_i hv
              split at h
              · split at h
                · cases h
                · rename_i v2 r2 h2
                  have := (half_len h2).2.2
                  split at h
                  · cases h; omega
                  · cases h
              · cases h
        · cases h
  refine ⟨?_, by omega⟩
  unfold encR
  rw [if_neg (by omega)]
theorem T_jtext (T : Tab R) (a : PaX R h p b s) (kz : text s = none → ∀ h', Kp [p] h h' → Z [pe (wrongV 8)] h')
    (k : ∀ t r, text s = some (t, r) → Bytes t → ∀ h', Stp R h R h' [p] [p] → PaX R h' p b r → K (.string (strL t)) h') : CnZ P Z n_json_parser_text #[.pointer (some ⟨p, 0, none⟩)] h K := by
  have wn := a.own
  have hR := wn.sub
  have hp : h p ≠ none := by obtain ⟨o, ho⟩ := wn.kn p (List.mem_singleton.2 rfl); rw [ho]; exact fun q => by cases q
  obtain ⟨bs, ls⟩ := a.bytes
  refine CnZ_wk (F_json_parser_text ?_)
  unfold s_json_parser_text
  have t34 : (⟨#[34]⟩ : ByteArray) = strL [34] := by kernel_rfl
  have t92 : (⟨#[92]⟩ : ByteArray) = strL [92] := by kernel_rfl
  refine T_jhas a (w := [34]) (by unfold Bytes; decide) (by decide) t34 fun h1 st1 a1 => ?_
  have tx : text s = if has [34] s then textG (s.drop 1) [] else none := rfl
  cases g : has [34] s with
  | false =>
    rw [g] at tx
    exact T_jmust (fun _ => ⟨h1, .refl _, kz tx h1 (stp_kp st1)⟩) fun q => by cases q
  | true =>
    rw [g, if_pos rfl] at a1 tx
    refine T_jmust (fun q => by cases q) fun _ => ?_
    have sl : (s.drop 1).length ≤ s.length := by simp
    refine Lp_mk (fun m vs H => ∃ (s' out : List Nat) (v : Value) (So : List Nat), s'.length = m ∧ TxI R h H p b s' out v So ∧ Bytes out ∧ out.length + 4 * s'.length ≤ 4 * s.length ∧ text s = textG s' out ∧ vs = [v]) (s.drop 1).length
      ⟨s.drop 1, [], _, [], rfl, ⟨a1, outNil, stp_kp st1, by simp, by simp⟩, (by intro x hx; cases hx), (by simp; omega), tx, rfl⟩ ?_
    clear a1 tx st1
    rintro m vs H ⟨s', out, v, So, rfl, I, bo, lo, tx, rfl⟩
    obtain ⟨bs', ls'⟩ := I.pa.bytes
    have bad : ∀ H', Kp [p] h H' → textG s' out = none → ∃ h0, Hp.le h0 H' ∧ Z [pe (wrongV 8)] h0 := fun H' kp q => ⟨H', .refl _, kz (by rw [tx, q]) H' kp⟩
    refine T_jhas I.pa (w := [34]) (by unfold Bytes; decide) (by decide) t34 fun h2 st2 a2 => ?_
    cases g1 : has [34] s' with
    | true =>
      rw [g1, if_pos rfl] at a2
      simp -zeta only [GL, Bool.not_true, Bool.false_eq_true, if_false]
      have I2 := I.go st2 a2
      rw [q_str (out_rn I2.out)]
      refine ⟨h2, .refl _, k out _ ?_ bo h2 ⟨Hp.ext.refl R, I2.kp, fun x o hx e => hx, fun x o hx e q => q, I2.pa.own⟩ I2.pa⟩
      rw [tx]
      rw [has1, decide_eq_true_eq] at g1
      cases s' with
      | nil => cases g1
      | cons c r =>
        simp only [List.head?_cons, Option.some.injEq] at g1
        subst g1
        rw [textG, if_pos rfl]
        rfl
    | false =>
      rw [g1, if_neg (by simp)] at a2
      simp -zeta only [GL, Bool.not_false, if_true]
      have I2 := I.go st2 a2
      clear I a2 st2
      have n34 : s'.head? ≠ some 34 := by rw [has1] at g1; exact of_decide_eq_false g1
      intro J8
      have q8 : ∀ c r, s' = c :: r → 32 ≤ c → J8 h2 := fun c r es h32 => by
        subst es
        have c34 : c ≠ 34 := by simpa using n34
        have tg := textG_esc c r out
        rw [if_neg c34, if_neg (by omega)] at tg
        simp -zeta only [J8]
        clear J8
        refine T_jhas I2.pa (w := [92]) (by unfold Bytes; decide) (by decide) t92 fun h3 st3 a3 => ?_
        have e92 : has [92] (c :: r) = decide (c = 92) := by rw [has1]; simp
        by_cases g2 : c = 92
        · rw [e92, if_pos (decide_eq_true g2)] at a3
          rw [if_pos g2] at tg
          rw [e92]
          simp -zeta only [g2, decide_true, GL, if_true]
          have I3 := I2.go st3 a3
          refine T_jescape T I3.pa (fun q h4 kp4 => bad h4 (I3.kp.trans kp4) (by rw [tg]; show (match escape r with | none => none | some (v, r1) => textG r1 (out ++ enc v)) = none; rw [show escape r = none from q])) fun x r1 ee h4 st4 a4 => ?_
          have I4 := I3.go st4 a4
          have ee : escape r = some (x, r1) := ee
          rw [ee] at tg
          obtain ⟨en, xl⟩ := escape_enc (fun y hy => bs' y (by simp [hy])) ee
          have el := enc_len x
          have rl := (escape_len ee).1
          have lc : (c :: r).length = r.length + 1 := rfl
          have lc2 : (92 :: r).length = r.length + 1 := rfl
          refine CnZ_of (T_AppendRune I4.out xl (by omega) fun v' h5 S5 o5 kp5 fr5 => ?_)
          have I5 := I4.grow hR hp o5 kp5 fr5
          rw [en] at I5
          refine ⟨h5, .refl _, r1.length, by omega, r1, _, v', S5, rfl, I5, ?_, ?_, by rw [tx, tg], rfl⟩
          · intro y hy
            rcases List.mem_append.1 hy with q | q
            · exact bo y q
            · rw [← en] at q; exact encR_b.1 y q
          · rw [List.length_append]; omega
        · rw [e92, if_neg (by simpa using g2)] at a3
          rw [if_neg g2] at tg
          rw [e92]
          simp -zeta only [g2, decide_false, GL, Bool.false_eq_true, if_false]
          have I3 := I2.go st3 a3
          clear a3
          obtain ⟨i, a3, hi, es⟩ := I3.pa
          obtain ⟨bv, c0, c1, rb, bb, lb, _⟩ := a3.cells
          have rh := a3.own.rn rb
          have rh0 := rh
          obtain ⟨av, cv, rfl, hcv⟩ := rh.shape
          simp -zeta only [GL, RL, jpf0, jpf1, c0, c1]
          refine q_slRn u_Sl_uint8 z_uint8 rh0 .i64 i hi fun w2 r2 => ?_
          rw [← es] at r2
          have T3 : Tab h3 := T.mono a3.own.sub.cle
          have ln := runeN_len (c :: r)
          have l4 := runeN_le (c :: r)
          have lb' := congrArg List.length es
          rw [List.length_drop] at lb'
          have fin : ∀ J13 : Hp → Prop, (0 < runeN (c :: r) → J13 h3) → ∀ x : Int, ((0 < runeN (c :: r)) ∨ (runeN (c :: r) = 0 ∧ x = 65533)) → (runeN (c :: r) = 1 → x < 128) → ∀ n : Nat, n = (if 0 < runeN (c :: r) then runeN (c :: r) else 1) →
              gd (.bool (x != 65533)) false (q P h3 (binOp .gtr 3 (.int .i64 (n : Int)) (.int .i64 1)) fun t62 => CnZ P (fun c h' => ∃ h0, Hp.le h0 h' ∧ Z c h0) n_json_parser_must #[.pointer (some ⟨p, 0, none⟩), t62] h3 fun t64 h => J13 h) (CnZ P (fun c h' => ∃ h0, Hp.le h0 h' ∧ Z c h0) n_json_parser_must #[.pointer (some ⟨p, 0, none⟩), .bool true] h3 fun t64 h => J13 h) := fun J13 q13 x hx hx1 n en => by
            by_cases gx : x = 65533
            · have : (x != 65533) = false := by rw [gx]; rfl
              have dn : decide ((1 : Int) < (n : Int)) = decide (1 < n) := ltN 1 n
              simp -zeta only [this, GL, if_true, dn]
              refine T_jmust (fun q => bad h3 I3.kp ?_) fun q => q13 ?_
              · have q := of_decide_eq_false q
                rw [tg, if_neg]
                intro z
                rw [if_pos z] at en
                have := hx1 (by omega)
                omega
              · have q := of_decide_eq_true q
                refine Classical.byContradiction fun z => ?_
                rw [if_neg z] at en
                omega
            · have : (x != 65533) = true := by rw [bne_iff_ne]; exact gx
              simp -zeta only [this, GL, Bool.true_eq_false, if_false]
              exact T_jmust (fun q => by cases q) fun _ => q13 (hx.resolve_right fun z => gx z.2)
          refine CnZ_of (T_DecodeRune T3.fst T3.acc r2 bs' (by simp at ls' ⊢; omega) (by simp) (fun q0 => ?_) fun x q0 q1 => ?_)
          · rw [ext0, ext1]
            intro J13
            have := fin J13 (fun q => by omega) 65533 (.inr ⟨q0, rfl⟩) (fun q => by omega) 1 (by rw [if_neg (by omega)])
            simp -zeta only [GL] at this ⊢
            exact this
          · rw [ext0, ext1]
            intro J13
            have q13 : J13 h3 := by
              simp -zeta only [J13]
              clear J13
              rw [if_pos q0] at tg
              have w1 : IntKind.i64.wrap ((i : Int) + ((runeN (c :: r) : Nat) : Int)) = ((i + runeN (c :: r) : Nat) : Int) := by rw [wi64 (by omega) (by omega)]; omega
              simp -zeta only [GL, RL, jpf0, jpf1, c0, c1, w1]
              refine q_slRnLH u_Sl_uint8 z_uint8 rh0 .i64 .i64 i (i + runeN (c :: r)) (by omega) (by omega) fun w3 r3 => ?_
              rw [drop_takeE, ← es] at r3
              refine aw_appO I3.out r3 (by rw [List.length_take]; omega) fun v' h5 S5 o5 kp5 fr5 => ?_
              have I5 := I3.grow hR hp o5 kp5 fr5
              obtain ⟨i5, a5, hi5, es5⟩ := I5.pa
              obtain ⟨bv5, c50, c51, _, _, _, _⟩ := a5.cells
              have row3 := a3
              have ei : (i5 : Int) = (i : Int) := by
                have e5 := congrArg List.length es5
                rw [List.length_drop] at e5
                omega
              rw [ei] at c51
              simp -zeta only [GL, RL, jpf1, c51, w1]
              refine pa_put a5 (j := i + runeN (c :: r)) (by omega) fun h6 st6 a6 => ?_
              have I6 := I5.go st6 ⟨i + runeN (c :: r), a6, by omega, rfl⟩
              have ed : b.drop (i + runeN (c :: r)) = (c :: r).drop (runeN (c :: r)) := by rw [es, List.drop_drop]
              rw [ed] at I6
              refine ⟨h6, .refl _, ((c :: r).drop (runeN (c :: r))).length, by rw [List.length_drop]; omega, _, _, v', S5, rfl, I6, ?_, ?_, by rw [tx, tg], rfl⟩
              · intro y hy
                rcases List.mem_append.1 hy with q | q
                · exact bo y q
                · exact bs' y (List.mem_of_mem_take q)
              · rw [List.length_append, List.length_take, List.length_drop]; omega
            clear_value J13
            have := fin J13 (fun _ => q13) x (.inl q0) q1 (runeN (c :: r)) (by rw [if_pos q0])
            simp -zeta only [GL] at this ⊢
            exact this
      clear_value J8
      obtain ⟨i, a3, hi, es⟩ := I2.pa
      obtain ⟨bv, c0, c1, rb, bb, lb, _⟩ := a3.cells
      have rh := a3.own.rn rb
      obtain ⟨av, cv, rfl, hcv⟩ := rh.shape
      simp -zeta only [GL, RL, jpf0, jpf1, c0, c1, ltN]
      by_cases gl : i < b.length
      · obtain ⟨bb1, o, rfl, hy⟩ := rh.pos (by omega)
        have hx := hy i gl
        have d32 : decide ((32 : Int) ≤ ((b.getD i 0 : Nat) : Int)) = decide (32 ≤ b.getD i 0) := leN 32 _
        simp -zeta (disch := omega) only [gl, decide_true, if_true, GL, RL, jpf0, jpf1, c0, c1, Int.toNat_natCast, hx, d32]
        have ef : s' = b.getD i 0 :: b.drop (i + 1) := by rw [es]; exact drop_consD gl
        refine T_jmust (fun q => bad h2 I2.kp ?_) fun q => q8 _ _ ef (of_decide_eq_true q)
        rw [ef, textG_esc, if_neg (by rw [ef] at n34; simpa using n34), if_pos (by have := of_decide_eq_false q; omega)]
      · simp -zeta only [gl, decide_false, Bool.false_eq_true, if_false, GL]
        refine T_jmust (fun _ => bad h2 I2.kp ?_) fun q => by cases q
        have : s' = [] := by rw [es]; exact List.drop_of_length_le (by omega)
        rw [this, textG]
end
section
variable {Z : Zt} {R h : Hp} {K : Value → Hp → Prop} {p : Nat} {b s : List Nat}
/-- A step of the parser's, beside what else is owned. -/
theorem stp_wideP {R' h' : Hp} {X : List Nat} (st : Stp R h R' h' [p] [p]) (w : Own R h X) (n : p ∉ X) : Stp R h R' h' (p :: X) (p :: X) :=
  st.wide w fun x hx q => n (by rw [← List.mem_singleton.1 q]; exact hx)
theorem T_jitems {α : Type} {one : List α → List Nat → Except Int (α × List Nat)} {shut : Nat} {f : Value} {X : List Nat} {sv : ByteArray} (St : List α → Hp → Hp → List Nat → Prop)
    (sOwn : ∀ {acc : List α} {R h : Hp} {X : List Nat}, St acc R h X → Own R h X ∧ p ∉ X)
    (sGo : ∀ {acc : List α} {R h R' h' : Hp} {X : List Nat}, St acc R h X → Stp R h R' h' [p] [p] → St acc R' h' X)
    (h1 : ∀ acc s x r, one acc s = .ok (x, r) → r.length < s.length ∧ r <:+ s)
    (hone : ∀ {Z : Zt} {K : Value → Hp → Prop} {acc : List α} {R h : Hp} {X s : List Nat}, Tab R → St acc R h X → PaX R h p b s → acc.length ≤ 100000 → (∀ c, one acc s = .error c → ∀ h', Kp (p :: X) h h' → Z [pe (wrongV c)] h') →
      (∀ x r, one acc s = .ok (x, r) → ∀ R' h' X', Stp R h R' h' (p :: X) (p :: X') → PaX R' h' p b r → St (acc ++ [x]) R' h' X' → K (.tuple #[]) h') → callZ P Z f [] h K)
    (T : Tab R) (st : St [] R h X) (a : PaX R h p b s) (hs : s ≠ []) (hsh : shut < 256) (esv : sv = strL [shut])
    (kz : ∀ c, items one shut s = .error c → ∀ h', Kp (p :: X) h h' → Z [pe (wrongV c)] h')
    (k : ∀ l r, items one shut s = .ok (l, r) → l.length ≤ 100000 → ∀ R' h' X', Stp R h R' h' (p :: X) (p :: X') → PaX R' h' p b r → St l R' h' X' → K (.tuple #[]) h') :
    CnZ P Z n_json_parser_items #[.pointer (some ⟨p, 0, none⟩), .string sv, f] h K := by
  have bsh : Bytes [shut] := by intro x hx; rw [List.mem_singleton.1 hx]; exact hsh
  have t44 : (⟨#[44]⟩ : ByteArray) = strL [44] := by kernel_rfl
  refine CnZ_wk (F_json_parser_items ?_)
  unfold s_json_parser_items
  obtain ⟨ow, pX⟩ := sOwn st
  have hl := List.length_pos_iff.2 hs
  obtain ⟨bs0, ls0⟩ := a.bytes
  obtain ⟨i, a, hi, es⟩ := a
  obtain ⟨bv, c0, c1, rb, bb, lb, _⟩ := a.cells
  have el := congrArg List.length es
  rw [List.length_drop] at el
  have w1 : IntKind.i64.wrap ((i : Int) + 1) = ((i + 1 : Nat) : Int) := by rw [wi64 (by omega) (by omega)]; omega
  simp -zeta only [GL, RL, jpf1, c1, w1]
  refine pa_put a (j := i + 1) (by omega) fun h1' st1 a1 => ?_
  have px1 : PaX R h1' p b (s.drop 1) := ⟨i + 1, a1, by omega, by rw [es, List.drop_drop]⟩
  refine T_jskip px1 fun h2 st2 a2 => ?_
  have st12 := st1.trans st2
  refine T_jhas a2 (w := [shut]) bsh (by simp) esv fun h3 st3 a3 => ?_
  have st13 := st12.trans st3
  have S3 := sGo st st13
  have W3 := stp_wideP st13 ow pX
  have ei : items one shut s = if has [shut] (skip (s.drop 1)) then .ok ([], (skip (s.drop 1)).drop 1) else itemsG one shut [] (skip (s.drop 1)) := rfl
  cases g : has [shut] (skip (s.drop 1)) with
  | true =>
    rw [g, if_pos rfl] at a3
    rw [g, if_pos rfl] at ei
    simp -zeta only [GL, if_true]
    exact ⟨h3, .refl _, k _ _ ei (by simp) R h3 X W3 a3 S3⟩
  | false =>
    rw [g, if_neg (by simp)] at a3
    rw [g, if_neg (by simp)] at ei
    simp -zeta only [GL, Bool.false_eq_true, if_false]
    have ls := skip_len (s.drop 1)
    rw [List.length_drop] at ls
    refine Lp_mk (fun m vs H => ∃ (acc : List α) (R1 : Hp) (X1 s1 : List Nat), s1.length = m ∧ Stp R h R1 H (p :: X) (p :: X1) ∧ PaX R1 H p b s1 ∧ St acc R1 H X1 ∧ items one shut s = itemsG one shut acc s1 ∧ acc.length + s1.length ≤ s.length ∧ vs = []) (skip (s.drop 1)).length
      ⟨[], R, X, _, rfl, W3, a3, S3, ei, by rw [List.length_nil]; omega, rfl⟩ ?_
    clear ei a3 W3 S3 st13 st12 a2 st2 px1 a1 st1
    rintro m vs H ⟨acc, R1, X1, s1, rfl, W, pa, S, ei, la, rfl⟩
    have T1 : Tab R1 := T.mono W.ext.cle
    have bad : ∀ c H', Kp (p :: X1) H H' → itemsG one shut acc s1 = .error c → ∃ h0, Hp.le h0 H' ∧ Z [pe (wrongV c)] h0 := fun c H' kp q => ⟨H', .refl _, kz c (by rw [ei, q]) H' (stp_kpt W kp)⟩
    refine hone T1 S pa (by omega) (fun c e H' kp => bad c H' kp (by rw [itemsG, e])) fun x r e R2 H2 X2 W2 pa2 S2 => ?_
    have eg : itemsG one shut acc s1 = if has [shut] (skip r) then .ok (acc ++ [x], (skip r).drop 1)
        else if has [44] (skip r) then (if ((skip r).drop 1).length < s1.length then itemsG one shut (acc ++ [x]) ((skip r).drop 1) else .error 8) else .error 8 := by rw [itemsG, e]
    obtain ⟨ow2, pX2⟩ := sOwn S2
    refine T_jskip pa2 fun h4 st4 a4 => ?_
    refine T_jhas a4 (w := [shut]) bsh (by simp) esv fun h5 st5 a5 => ?_
    have st45 := st4.trans st5
    have S5 := sGo S2 st45
    have W5 := W2.trans (stp_wideP st45 ow2 pX2)
    cases g2 : has [shut] (skip r) with
    | true =>
      rw [g2, if_pos rfl] at a5
      rw [g2, if_pos rfl] at eg
      simp -zeta only [GL, if_true]
      exact ⟨h5, .refl _, k _ _ (by rw [ei, eg]; rfl) (by rw [List.length_append, List.length_singleton]; have := (h1 _ _ _ _ e).1; omega) R2 h5 X2 (W.trans W5) a5 S5⟩
    | false =>
      rw [g2, if_neg (by simp)] at a5
      rw [g2, if_neg (by simp)] at eg
      simp -zeta only [GL, Bool.false_eq_true, if_false]
      refine T_jhas a5 (w := [44]) (by unfold Bytes; decide) (by decide) t44 fun h6 st6 a6 => ?_
      obtain ⟨ow5, pX5⟩ := sOwn S5
      have S6 := sGo S5 st6
      have W6 := W5.trans (stp_wideP st6 ow5 pX5)
      cases g3 : has [44] (skip r) with
      | false =>
        rw [g3, if_neg (by simp)] at eg
        exact T_jmust (fun _ => bad 8 h6 (stp_kp W6) eg) fun q => by cases q
      | true =>
        rw [g3, if_pos rfl] at a6
        have l1 := (h1 _ _ _ _ e).1
        have l2 := skip_len r
        have l3 : ((skip r).drop 1).length < s1.length := by rw [List.length_drop]; omega
        rw [g3, if_pos rfl, if_pos l3] at eg
        refine T_jmust (fun q => by cases q) fun _ => ?_
        exact ⟨h6, .refl _, _, l3, acc ++ [x], R2, X2, _, rfl, W.trans W6, a6, S6, by rw [ei, eg], by rw [List.length_append, List.length_singleton]; omega, trivial⟩
end
/-- A thing is appended to a row that stands in a struct: its room, its cells and the struct's part, in either order. -/
theorem push_tail {T E sE B off n : Nat} {zs cs row xs : List Value} {H : Hp} {r : Nat} {sv w : Value} {So : List Nat} {K : Value → Hp → Prop} (uT : P.underlying T = some (.slice E)) (zE : sz P E = some sE) (zT : sz P T = some 1)
    (nfo : (P.info? E).map (fun i => (i.zero, i.size, i.bytes)) = some (some (.agg zs.toArray), sE, B)) (hB1 : 1 ≤ B) (hB2 : B ≤ 1000) (lz : zs.length = sE) (fz : ∀ y ∈ zs, flat y = true)
    (hr : H r = some (.row t_api_Value row 6 (some (0, 0)))) (lr : row.length = 6) (ho : off < 6) (fld : ∀ {h : Hp} {K : Value → Prop}, q P h (Instr.fieldAt t_api_Value (.pointer (some ⟨r, 0, none⟩)) off) K = K (.pointer (some ⟨r, off, none⟩)))
    (o : OutAt E sE H sv xs n So) (np : r ∉ So) (rw' : Rds H sE w zs 1) (lc : cs.length = sE) (fc : ∀ y ∈ cs, flat y = true) (ln : n ≤ 100001)
    (k : ∀ v' h' So', OutAt E sE h' v' (xs ++ cs) (n + 1) So' → h' r = some (.row t_api_Value (row.set off v') 6 (some (0, 0))) → (∀ x o, x ∉ r :: So → H x = some o → h' x = some o) → (∀ x o, x ∉ So → H x = some o → x ∉ So') → K (.tuple #[]) h') :
    aw P (Builtin.append_ #[T, T] T #[sv, w]) (fun t11 h => q P emp (Instr.indexAt T t11 (.int .i64 (n : Int))) fun t12 => q P h (Instr.fieldAt t_api_Value (.pointer (some ⟨r, 0, none⟩)) off) fun t13 =>
      (aw P (Instr.storeAt E t12 (.agg cs.toArray)) (fun _ h => peek P h (Instr.fieldAt t_api_Value (.pointer (some ⟨r, 0, none⟩)) off) = some t13 ∧ aw P (Instr.storeAt T t13 t11) (fun _ h => K (.tuple #[]) h) h) h) ∧
      (aw P (Instr.storeAt T t13 t11) (fun _ h => aw P (Instr.storeAt E t12 (.agg cs.toArray)) (fun _ h => K (.tuple #[]) h) h) h)) H := by
  have lx : xs.length = n * sE := by
    rcases o with ⟨_, rfl, rfl, _⟩ | ⟨_, _, _, _, _, _, _, _, l⟩
    · simp
    · exact l
  refine aw_appendO uT uT nfo (by show zs.toArray.size = sE; simpa using lz) hB1 o rw' fz ?_ fun v' h1 So1 o1 kp fr => ?_
  · have : (2 * (n + 1) + 768) * B ≤ 201000 * 1000 := Nat.mul_le_mul (by omega) hB2
    omega
  have row1 := kp r _ np hr
  have nr1 := fr r _ np hr
  rcases o1 with ⟨_, q, _⟩ | ⟨b1, c1, f1, hb1, rfl, hc1, hf1, rfl, l1⟩
  · omega
  have hrb : r ≠ b1 := fun q => nr1 (by rw [q]; simp)
  have lxz : (xs ++ zs).length = (n + 1) * sE := by rw [List.length_append, lx, lz, Nat.succ_mul]
  have le : (n + 1) * sE ≤ c1 * sE := Nat.mul_le_mul_right _ hc1
  rw [q_idxS uT zE _ _ _ _ _ (by omega) (by omega), Int.toNat_natCast, add_off, Nat.zero_add, fld]
  have pe : putL (xs ++ zs) (n * sE) cs = xs ++ cs := by
    rw [putL_eq _ _ _ (by rw [lxz, lc, Nat.succ_mul]; omega), lc, ← lx, List.take_left' rfl]
    rw [List.drop_of_length_le (by rw [List.length_append, lz]; omega), List.append_nil]
  have fin : ∀ G : Hp, G = (h1.set b1 (.row E (xs ++ cs) (c1 * sE) (some f1))).set r (.row t_api_Value (row.set off (.slice (some ⟨b1, 0, none⟩) (n + 1) c1)) 6 (some (0, 0))) → K (.tuple #[]) G := fun G eG => by
    subst eG
    refine k _ _ [b1] (.inr ⟨b1, c1, f1, by rw [Hp.set_ne _ _ (Ne.symm hrb)]; exact Hp.set_same .., rfl, hc1, hf1, rfl, by rw [List.length_append, lx, lc, Nat.succ_mul]⟩) (Hp.set_same ..) (fun x o hx e => ?_) fun x o hx e => fr x o hx e
    have hx1 : x ≠ r := fun q => hx (by rw [q]; simp)
    have hx2 : x ∉ So := fun q => hx (List.mem_cons_of_mem _ q)
    have hx3 : x ≠ b1 := fun q => fr x o hx2 e (by rw [q]; simp)
    rw [Hp.set_ne _ _ hx1, Hp.set_ne _ _ hx3]
    exact kp x o hx2 e
  refine ⟨?_, ?_⟩
  · refine aw_storePart (o := n * sE) (by rw [lc]; exact zE) hb1 (by rw [lxz, lc, Nat.succ_mul]; omega) fc (fun i hi => hf1 i (by omega)) ?_
    rw [pe]
    refine ⟨pk_q fun K => fld, ?_⟩
    exact aw_store zT rfl (put_row (by rw [Hp.set_ne _ _ hrb]; exact row1) (by omega) (by omega) _) (fin _ rfl)
  · refine aw_store zT rfl (put_row row1 (by omega) (by omega) _) ?_
    refine aw_storePart (o := n * sE) (by rw [lc]; exact zE) (by rw [Hp.set_ne _ _ (Ne.symm hrb)]; exact hb1) (by rw [lxz, lc, Nat.succ_mul]; omega) fc (fun i hi => hf1 i (by omega)) ?_
    rw [pe]
    exact fin _ (Hp.set_comm _ _ _ hrb)
abbrev row0 (k : Int) : List Value := [.int .i64 k, .bool false, .int .i64 0, .string ⟨#[]⟩, .slice none 0 0, .slice none 0 0]
/-- A list's or a map's variable, that grows; the parser's and the depth's boxes. -/
structure VarI (E sE off : Nat) (kd : Int) (p r b2 b3 : Nat) (dp : Int) (css : List (List Value)) (sv : Value) (So : List Nat) (R h : Hp) : Prop where
  own : Own R h (r :: So)
  np : p ∉ r :: So
  nr : r ∉ So
  n2 : b2 ∉ p :: r :: So
  n3 : b3 ∉ p :: r :: So
  h2 : h b2 = some (.row t_Pt_json_parser [.pointer (some ⟨p, 0, none⟩)] 1 (some (0, 0)))
  h3 : h b3 = some (.row t_int [.int .i64 dp] 1 (some (0, 0)))
  row : h r = some (.row t_api_Value ((row0 kd).set off sv) 6 (some (0, 0)))
  out : OutAt E sE h sv css.flatten css.length So
section
variable {Z : Zt} {R h : Hp} {K : Value → Hp → Prop} {p : Nat} {b s : List Nat} {E sE off r b2 b3 : Nat} {kd dp : Int} {css : List (List Value)} {sv : Value} {So : List Nat}
theorem VarI.go {R' h' : Hp} (I : VarI E sE off kd p r b2 b3 dp css sv So R h) (st : Stp R h R' h' [p] [p]) : VarI E sE off kd p r b2 b3 dp css sv So R' h' := by
  have np : ∀ x, x ∈ r :: So → x ∉ [p] := fun x hx q => I.np (by rw [← List.mem_singleton.1 q]; exact hx)
  obtain ⟨ow, _, eq⟩ := st.frame I.own np
  have n2 : b2 ∉ [p] := fun q => I.n2 (by rw [List.mem_singleton.1 q]; simp)
  have n3 : b3 ∉ [p] := fun q => I.n3 (by rw [List.mem_singleton.1 q]; simp)
  exact ⟨ow, I.np, I.nr, I.n2, I.n3, st.keep _ _ n2 I.h2, st.keep _ _ n3 I.h3, st.keep _ _ (np r (by simp)) I.row, I.out.keep fun x hx => eq x (List.mem_cons_of_mem _ hx)⟩
/-- It has grown. -/
theorem VarI.grown {h' : Hp} (I : VarI E sE off kd p r b2 b3 dp css sv So R h) (a : PaX R h p b s) {v' : Value} {So' : List Nat} {cs : List Value} (hof : off < 6)
    (o' : OutAt E sE h' v' (css.flatten ++ cs) (css.length + 1) So') (hr' : h' r = some (.row t_api_Value (((row0 kd).set off sv).set off v') 6 (some (0, 0)))) (kp : ∀ x o, x ∉ r :: So → h x = some o → h' x = some o) (fr : ∀ x o, x ∉ So → h x = some o → x ∉ So') :
    VarI E sE off kd p r b2 b3 dp (css ++ [cs]) v' So' R h' ∧ Stp R h R h' (p :: r :: So) (p :: r :: So') ∧ PaX R h' p b s := by
  obtain ⟨op, hop⟩ := a.own.kn p (by simp)
  have hp' := kp p op I.np hop
  have npS : p ∉ So' := fr p op (fun q => I.np (List.mem_cons_of_mem _ q)) hop
  have nrS : r ∉ So' := fr r _ I.nr I.row
  have hRs : ∀ x o, R x = some o → x ∉ r :: So := fun x o e q => by rw [I.own.dis x q] at e; cases e
  have sub : Hp.ext R h' := fun x o e => kp x o (hRs x o e) (I.own.sub x o e)
  have ow' : Own R h' (r :: So') := ⟨sub, fun x hx => by
    rcases List.mem_cons.1 hx with rfl | hx
    · exact I.own.dis _ (by simp)
    · cases e : R x with
      | none => rfl
      | some o => exact absurd hx (fr x o (fun q => hRs x o e (List.mem_cons_of_mem _ q)) (I.own.sub x o e)), fun x hx => by
    rcases List.mem_cons.1 hx with rfl | hx
    · exact ⟨_, hr'⟩
    · exact out_some o' hx⟩
  have owp : Own R h' [p] := ⟨sub, a.own.dis, fun x hx => by rw [List.mem_singleton.1 hx]; exact ⟨op, hp'⟩⟩
  have n2 : b2 ∉ So' := fr _ _ (fun q => I.n2 (by simp [q])) I.h2
  have n3 : b3 ∉ So' := fr _ _ (fun q => I.n3 (by simp [q])) I.h3
  have m2 : b2 ≠ p ∧ b2 ≠ r := ⟨fun q => I.n2 (by simp [q]), fun q => I.n2 (by simp [q])⟩
  have m3 : b3 ≠ p ∧ b3 ≠ r := ⟨fun q => I.n3 (by simp [q]), fun q => I.n3 (by simp [q])⟩
  have pr : p ≠ r := fun q => I.np (by simp [q])
  refine ⟨⟨ow', by simp [pr, npS], nrS, by simp [m2, n2], by simp [m3, n3], kp _ _ (fun q => I.n2 (List.mem_cons_of_mem _ q)) I.h2, kp _ _ (fun q => I.n3 (List.mem_cons_of_mem _ q)) I.h3, ?_, ?_⟩, ⟨.refl _, fun x o hx e => kp x o (fun q => hx (List.mem_cons_of_mem _ q)) e, fun x o hx e => ?_, fun x o hx e q => q, ?_⟩, a.same owp (by rw [hop, hp'])⟩
  · rw [hr', List.set_set]
  · rw [List.flatten_append, List.length_append]
    simpa using o'
  · have := fr x o (fun q => hx (by simp [q])) e
    simp only [List.mem_cons, not_or] at hx ⊢
    exact ⟨hx.1, hx.2.1, this⟩
  · exact owp.app ow'
end
theorem nfo_Va : (P.info? t_api_Value).map (fun i => (i.zero, i.size, i.bytes)) = some (some (.agg (row0 0).toArray), 6, 88) := by kernel_rfl
theorem nfo_Me : (P.info? t_api_Member).map (fun i => (i.zero, i.size, i.bytes)) = some (some (.agg (Value.string ⟨#[]⟩ :: row0 0).toArray), 7, 104) := by kernel_rfl
theorem vaf4 {h : Hp} {K : Value → Prop} (b : Nat) : q P h (Instr.fieldAt t_api_Value (.pointer (some ⟨b, 0, none⟩)) 4) K = K (.pointer (some ⟨b, 4, none⟩)) := q_of (by kernel_rfl) K
theorem vaf5 {h : Hp} {K : Value → Prop} (b : Nat) : q P h (Instr.fieldAt t_api_Value (.pointer (some ⟨b, 0, none⟩)) 5) K = K (.pointer (some ⟨b, 5, none⟩)) := q_of (by kernel_rfl) K
theorem row0_flat (k : Int) : ∀ y ∈ row0 k, flat y = true := by
  intro y hy
  simp only [List.mem_cons, List.not_mem_nil, or_false] at hy
  rcases hy with rfl | rfl | rfl | rfl | rfl | rfl <;> rfl
/-- Values are read, so deep. -/
def ValueOk (p : Nat) (b : List Nat) (d : Nat) : Prop := ∀ {Z : Zt} {K : Value → Hp → Prop} {R h : Hp} {s : List Nat}, Tab R → PaX R h p b s → (∀ c, value d s = .error c → ∀ h', Kp [p] h h' → Z [pe (wrongV c)] h') →
  (∀ v r, value d s = .ok (v, r) → ∀ cs R' h', Stp R h R' h' [p] [p] → PaX R' h' p b r → JvR R' cs v → K (.agg cs.toArray) h') → CnZ P Z n_json_parser_value #[.pointer (some ⟨p, 0, none⟩), .int .i64 (17 - (d : Int))] h K
/-- The cells of a member. -/
def MeR (R : Hp) (c : List Value) (x : List Nat × JV) : Prop := ∃ cs, c = .string (strL x.1) :: cs ∧ (Bytes x.1 ∧ x.1.length ≤ 1125899906842624) ∧ JvR R cs x.2
theorem MeR.mono {R R' : Hp} (c : Hp.cle R R') {l : List Value} {x : List Nat × JV} (a : MeR R l x) : MeR R' l x := let ⟨cs, e, bt, j⟩ := a; ⟨cs, e, bt, j.mono c⟩
theorem MeR.len {R : Hp} {l : List Value} {x : List Nat × JV} (a : MeR R l x) : l.length = 7 := by obtain ⟨cs, rfl, _, j⟩ := a; simp [j.len]
theorem MeR.flat {R : Hp} {l : List Value} {x : List Nat × JV} (a : MeR R l x) : ∀ y ∈ l, SL.flat y = true := by
  obtain ⟨cs, rfl, _, j⟩ := a
  intro y hy
  rcases List.mem_cons.1 hy with rfl | hy
  · rfl
  · exact j.flat y hy
theorem callZ_cn {Z : Zt} {h : Hp} {g : FuncId} {x y : Array Value} {args : List Value} {K : Value → Hp → Prop} (e : extB P g = false) (c : CnZ P Z g (x.toList ++ args ++ y.toList).toArray h K) : callZ P Z (.func (.func g) x y) args h K := by
  unfold callZ
  dsimp only
  rw [if_neg (by simp [e])]
  exact c
theorem extB_v1 : extB P n_json_parser_value_1 = false := by kernel_rfl
theorem extB_v2 : extB P n_json_parser_value_2 = false := by kernel_rfl
/-- What a growing list has. -/
def LstI (p r b2 b3 : Nat) (dp : Int) (acc : List JV) (R h : Hp) (X : List Nat) : Prop := ∃ css sv So, X = r :: So ∧ VarI t_api_Value 6 4 4 p r b2 b3 dp css sv So R h ∧ css.length = acc.length ∧ ∀ (i : Nat) (c : List Value) (x : JV), css[i]? = some c → acc[i]? = some x → JvR R c x
/-- What a growing map has. -/
def MapI (p r b2 b3 : Nat) (dp : Int) (acc : List (List Nat × JV)) (R h : Hp) (X : List Nat) : Prop := ∃ css sv So, X = r :: So ∧ VarI t_api_Member 7 5 5 p r b2 b3 dp css sv So R h ∧ css.length = acc.length ∧ ∀ (i : Nat) (c : List Value) (x : List Nat × JV), css[i]? = some c → acc[i]? = some x → MeR R c x
section
variable {Z : Zt} {R h : Hp} {K : Value → Hp → Prop} {p : Nat} {b s : List Nat} {r b2 b3 : Nat} {dp : Int} {X : List Nat}
theorem snoc_all {α β : Type} {Q : α → β → Prop} {l : List α} {m : List β} {x : α} {y : β} (el : l.length = m.length) (h : ∀ (i : Nat) (c : α) (z : β), l[i]? = some c → m[i]? = some z → Q c z) (q : Q x y) :
    ∀ (i : Nat) (c : α) (z : β), (l ++ [x])[i]? = some c → (m ++ [y])[i]? = some z → Q c z := by
  intro i c z e1 e2
  rcases Nat.lt_trichotomy i l.length with g | g | g
  · rw [List.getElem?_append_left g] at e1
    rw [List.getElem?_append_left (by omega)] at e2
    exact h i c z e1 e2
  · rw [List.getElem?_append_right (by omega), show i - l.length = 0 by omega] at e1
    rw [List.getElem?_append_right (by omega), show i - m.length = 0 by omega] at e2
    cases e1; cases e2
    exact q
  · rw [List.getElem?_append_right (by omega), List.getElem?_eq_none (by simp; omega)] at e1
    cases e1
theorem LstI.own {acc : List JV} (I : LstI p r b2 b3 dp acc R h X) : Own R h X ∧ p ∉ X := by obtain ⟨css, sv, So, rfl, I, _⟩ := I; exact ⟨I.own, I.np⟩
theorem MapI.own {acc : List (List Nat × JV)} (I : MapI p r b2 b3 dp acc R h X) : Own R h X ∧ p ∉ X := by obtain ⟨css, sv, So, rfl, I, _⟩ := I; exact ⟨I.own, I.np⟩
theorem LstI.go {acc : List JV} {R' h' : Hp} (I : LstI p r b2 b3 dp acc R h X) (st : Stp R h R' h' [p] [p]) : LstI p r b2 b3 dp acc R' h' X := by
  obtain ⟨css, sv, So, rfl, I, l, q⟩ := I
  exact ⟨css, sv, So, rfl, I.go st, l, fun i c x e1 e2 => (q i c x e1 e2).mono st.ext.cle⟩
theorem MapI.go {acc : List (List Nat × JV)} {R' h' : Hp} (I : MapI p r b2 b3 dp acc R h X) (st : Stp R h R' h' [p] [p]) : MapI p r b2 b3 dp acc R' h' X := by
  obtain ⟨css, sv, So, rfl, I, l, q⟩ := I
  exact ⟨css, sv, So, rfl, I.go st, l, fun i c x e1 e2 => (q i c x e1 e2).mono st.ext.cle⟩
theorem T_one1 {d : Nat} (hd : d ≤ 16) (V : ValueOk p b d) {acc : List JV} (T : Tab R) (I : LstI p r b2 b3 (16 - (d : Int)) acc R h X) (a : PaX R h p b s) (la : acc.length ≤ 100000)
    (kz : ∀ c, value d s = .error c → ∀ h', Kp (p :: X) h h' → Z [pe (wrongV c)] h')
    (k : ∀ x t, value d s = .ok (x, t) → ∀ R' h' X', Stp R h R' h' (p :: X) (p :: X') → PaX R' h' p b t → LstI p r b2 b3 (16 - (d : Int)) (acc ++ [x]) R' h' X' → K (.tuple #[]) h') :
    callZ P Z (.func (.func n_json_parser_value_1) #[] #[.pointer (some ⟨r, 0, none⟩), .pointer (some ⟨b2, 0, none⟩), .pointer (some ⟨b3, 0, none⟩)]) [] h K := by
  refine callZ_cn extB_v1 (F_json_parser_value_1 ?_)
  unfold s_json_parser_value_1
  have own := I.own
  obtain ⟨css, sv, So, rfl, I, lc, cq⟩ := I
  have cs4 : ∀ {R h : Hp}, VarI t_api_Value 6 4 4 p r b2 b3 (16 - (d : Int)) css sv So R h → h.cell ⟨r, 4, none⟩ = some sv ∧ h.cell ⟨b2, 0, none⟩ = some (.pointer (some ⟨p, 0, none⟩)) ∧ h.cell ⟨b3, 0, none⟩ = some (.int .i64 (16 - (d : Int))) := fun I =>
    ⟨by rw [cell_row I.row]; rfl, by rw [cell_row I.h2]; rfl, by rw [cell_row I.h3]; rfl⟩
  obtain ⟨c4, c2, c3⟩ := cs4 I
  obtain ⟨_, av, cv, rfl, _⟩ := I.out.rds
  have w1 : IntKind.i64.wrap ((16 - (d : Int)) + 1) = 17 - (d : Int) := by rw [wi64 (by omega) (by omega)]; omega
  have ld3t : ∀ {h : Hp}, h.cell ⟨r, 4, none⟩ = some (.slice av css.length cv) → peek P h (Builtin.len_ #[t_Sl_api_Value] t_int #[.slice av css.length cv]) = some (.int .i64 (css.length : Nat)) ∧ peek P h (Instr.loadAt t_Sl_api_Value (.pointer (some ⟨r, 4, none⟩))) = some (.slice av css.length cv) ∧ peek P h (Instr.fieldAt t_api_Value (.pointer (some ⟨r, 0, none⟩)) 4) = some (.pointer (some ⟨r, 4, none⟩)) := fun {h} e =>
    ⟨pk_q fun K => by simp only [RL], pk_q fun K => by simp only [RL, e, withVal_some], pk_q fun K => vaf4 r⟩
  simp -zeta only [GL, RL, vaf4, c4, c2, c3, w1]
  have tail : ∀ (R2 h2 : Hp) (x : JV) (t : List Nat) (cs : List Value) (w : Value), value d s = .ok (x, t) → Stp R h R2 h2 (p :: r :: So) (p :: r :: So) → PaX R2 h2 p b t → JvR R2 cs x → VarI t_api_Value 6 4 4 p r b2 b3 (16 - (d : Int)) css (.slice av css.length cv) So R2 h2 → Rds h2 6 w (row0 0) 1 →
      aw P (Builtin.append_ #[t_Sl_api_Value, t_Sl_api_Value] t_Sl_api_Value #[.slice av css.length cv, w]) (fun t11 h => q P emp (Instr.indexAt t_Sl_api_Value t11 (.int .i64 (css.length : Nat))) fun t12 => q P h (Instr.fieldAt t_api_Value (.pointer (some ⟨r, 0, none⟩)) 4) fun t13 =>
      (aw P (Instr.storeAt t_api_Value t12 (.agg cs.toArray)) (fun _ h => peek P h (Instr.fieldAt t_api_Value (.pointer (some ⟨r, 0, none⟩)) 4) = some t13 ∧ aw P (Instr.storeAt t_Sl_api_Value t13 t11) (fun _ h => K (.tuple #[]) h) h) h) ∧
      (aw P (Instr.storeAt t_Sl_api_Value t13 t11) (fun _ h => aw P (Instr.storeAt t_api_Value t12 (.agg cs.toArray)) (fun _ h => K (.tuple #[]) h) h) h)) h2 := fun R2 h2 x t cs w e st a2 j I2 rw' => by
    refine push_tail (zs := row0 0) (cs := cs) u_Sl_api_Value z_api_Value z_Sl_api_Value nfo_Va (by decide) (by decide) rfl (row0_flat 0) I2.row (by simp) (by decide) (vaf4 r) I2.out I2.nr rw' j.len j.flat (by omega) fun v' h' So' o' hr' kp fr => ?_
    obtain ⟨I3, st3, a3⟩ := I2.grown a2 (by decide) o' hr' kp fr
    refine k x t e R2 h' (r :: So') (st.trans st3) a3 ⟨css ++ [cs], v', So', rfl, I3, by simp [lc], snoc_all lc (fun i c y e1 e2 => (cq i c y e1 e2).mono st.ext.cle) j⟩
  have kzP : ∀ {h1 : Hp}, Kp [p] h h1 → ∀ c, value d s = .error c → ∀ h', Kp [p] h1 h' → Z [pe (wrongV c)] h' := fun kp c e h' kp' => kz c e h' ((kp.trans kp').mono fun x hx => by rw [List.mem_singleton.1 hx]; simp)
  refine ⟨?_, ?_⟩
  · refine V T a (kzP (Kp.refl _ _)) fun x t e cs R1 h1 st1 a1 j1 => ?_
    have I1 := I.go st1
    obtain ⟨c4, c2, c3⟩ := cs4 I1
    obtain ⟨e1, e2, e3⟩ := ld3t c4
    refine ⟨e1, e2, e3, ?_⟩
    refine aw_litA (ys := row0 0) u_Sl_api_Value z_api_Value (z := .agg (row0 0).toArray) zr_Jv rfl rfl (by decide) (by decide) fun w h2 nw => ?_
    have st2 := Stp.ext0 a1.own nw.ext
    have I2 := I1.go st2
    obtain ⟨c4, c2, c3⟩ := cs4 I2
    obtain ⟨e1, e2, e3⟩ := ld3t c4
    refine ⟨e1, e2, e3, ?_⟩
    exact tail R1 h2 x t cs w e (stp_wideP (st1.trans st2) own.1 own.2) (a1.ext nw.ext st2) j1 I2 nw.rds
  · refine aw_litA (ys := row0 0) u_Sl_api_Value z_api_Value (z := .agg (row0 0).toArray) zr_Jv rfl rfl (by decide) (by decide) fun w h1 nw => ?_
    have st1 := Stp.ext0 a.own nw.ext
    have I1 := I.go st1
    obtain ⟨c4, c2, c3⟩ := cs4 I1
    obtain ⟨e1, e2, e3⟩ := ld3t c4
    refine ⟨e1, pk_q fun K => by simp only [RL, c3, withVal_some], pk_q fun K => by simp only [RL, c2, withVal_some], e2, e3, ?_⟩
    have a1 := a.ext nw.ext st1
    refine V T a1 (kzP (stp_kp st1)) fun x t e cs R2 h2 st2 a2 j2 => ?_
    have I2 := I1.go st2
    obtain ⟨c4, c2, c3⟩ := cs4 I2
    obtain ⟨e1, e2, e3⟩ := ld3t c4
    refine ⟨e1, e2, e3, ?_⟩
    have rw' : Rds h2 6 w (row0 0) 1 := by
      obtain ⟨b1, cc, f, nb1, hc1, rfl, eh, _⟩ := nw.form (by decide)
      have n1 : b1 ∉ [p] := fun z => by
        obtain ⟨o, ho⟩ := a.own.kn p (by simp)
        rw [List.mem_singleton.1 z, ho] at nb1; cases nb1
      have hb : h2 b1 = some (.row t_api_Value (row0 0) (cc * 6) (some f)) := st2.keep _ _ n1 (by rw [eh]; exact Hp.set_same ..)
      exact ⟨rfl, _, cc, rfl, hc1, .inr ⟨b1, 0, rfl, fun i x e => by rw [cell_row hb, Nat.zero_add]; exact e⟩⟩
    exact tail R2 h2 x t cs w e (stp_wideP (st1.trans st2) own.1 own.2) a2 j2 I2 rw'
end
/-- Where the first such one stands; -1: there is none. -/
def fIdx {α : Type} (f : α → Bool) (l : List α) : Int := if l.any f then (((l.takeWhile fun x => !f x).length : Nat) : Int) else -1
theorem fIdx_none {α : Type} {f : α → Bool} {l : List α} (h : ∀ x ∈ l, f x = false) : fIdx f l = -1 := by
  unfold fIdx
  rw [if_neg]
  simp only [List.any_eq_true, not_exists, not_and]
  intro x hx q
  rw [h x hx] at q; cases q
theorem fIdx_at {α : Type} {f : α → Bool} : ∀ {l : List α} {i : Nat} {x : α}, (∀ y ∈ l.take i, f y = false) → l[i]? = some x → f x = true → fIdx f l = (i : Int)
  | [], i, x, _, e, _ => by simp at e
  | a :: l, 0, x, _, e, q => by
    simp at e; subst e
    unfold fIdx
    simp [q]
  | a :: l, i + 1, x, h, e, q => by
    have ha := h a (by simp)
    have ih := fIdx_at (l := l) (i := i) (x := x) (fun y hy => h y (by simp [hy])) (by simpa using e) q
    have hl : l.any f = true := by
      rw [List.any_eq_true]
      exact ⟨x, List.mem_of_getElem? (by simpa using e), q⟩
    unfold fIdx at ih ⊢
    rw [if_pos hl] at ih
    rw [if_pos (by simp [hl]), List.takeWhile_cons, if_pos (by simp [ha])]
    simp only [List.length_cons]
    omega
theorem fIdx_ge {α : Type} (f : α → Bool) (l : List α) : decide (0 ≤ fIdx f l) = l.any f := by
  unfold fIdx
  split
  · rename_i h; rw [h]; exact decide_eq_true (by omega)
  · rename_i h; rw [Bool.not_eq_true] at h; rw [h]; rfl
theorem flat_get {α : Type} {s : Nat} : ∀ {css : List (List α)}, (∀ c ∈ css, c.length = s) → ∀ (i : Nat) (x : List α), css[i]? = some x → ∀ (j : Nat) (y : α), x[j]? = some y → css.flatten[i * s + j]? = some y
  | [], _, i, x, e, _, _, _ => by simp at e
  | c :: css, h, 0, x, e, j, y, ey => by
    simp at e; subst e
    rw [List.flatten_cons, Nat.zero_mul, Nat.zero_add, List.getElem?_append_left (List.getElem?_eq_some_iff.1 ey).1]
    exact ey
  | c :: css, h, i + 1, x, e, j, y, ey => by
    have hc := h c (by simp)
    rw [List.flatten_cons, List.getElem?_append_right (by rw [hc, Nat.succ_mul]; omega), hc, show (i + 1) * s + j - s = i * s + j by rw [Nat.succ_mul]; omega]
    exact flat_get (fun c hc => h c (by simp [hc])) i x (by simpa using e) j y ey
/-- A row that grows, read. -/
theorem out_sl {t s : Nat} {h : Hp} {v : Value} {css : List (List Value)} {So : List Nat} (o : OutAt t s h v css.flatten css.length So) (hl : ∀ c ∈ css, c.length = s) : SlAt h s v css := by
  rcases o with ⟨rfl, q, _, _⟩ | ⟨b, c, f, hb, rfl, hc, _, _, _⟩
  · have : css = [] := List.length_eq_zero_iff.1 q
    subst this
    exact ⟨none, 0, rfl, Nat.le_refl _, .inl rfl⟩
  · exact ⟨_, c, rfl, hc, .inr ⟨b, 0, rfl, fun i x e j y ey => by rw [cell_row hb, Nat.zero_add]; exact flat_get hl i x e j y ey⟩⟩
section
variable {h : Hp}
/-- A thing out of a row, loaded. -/
theorem q_itemAt {t e s : Nat} {v : Value} {items : List (List Value)} {i : Nat} {x : List Value} {d : TypeDesc} {F : Value → Prop} (ht : P.underlying t = some (.slice e)) (hs : sz P e = some s) (hd : P.underlying e = some d) (hg : aggB d = true)
    (A : SlAt h s v items) (hi : items[i]? = some x) (lx : x.length = s) (k : F (.agg x.toArray)) :
    q P h (Instr.indexAt t v (.int .i64 (i : Int))) fun t31 => q P h (Instr.loadAt e t31) F := by
  have hlt := (List.getElem?_eq_some_iff.1 hi).1
  obtain ⟨a, c, rfl, hc, hr⟩ := A
  rcases hr with rfl | ⟨b, o, rfl, hy⟩
  · simp at hlt
  rw [q_idxS ht hs _ _ _ _ _ (by omega) (by omega), Int.toNat_natCast, add_off, q_ldAgg (ys := x) hd hg (by rw [lx]; exact hs) (hy i x hi)]
  exact k
end
section
variable {R h : Hp} {K : Value → Hp → Prop}
theorem T_IndexM {v f : Value} {css : List (List Value)} {ms : List (List Nat × JV)} {pr : List Nat × JV → Bool} (sl : SlAt h 7 v css) (lc : css.length = ms.length) (ln : ms.length ≤ 9223372036854775807) (hm : ∀ (i : Nat) (c : List Value) (x : List Nat × JV), css[i]? = some c → ms[i]? = some x → MeR h c x)
    (hf : ∀ {K : Value → Hp → Prop} (c : List Value) (x : List Nat × JV), MeR h c x → K (.bool (pr x)) h → callP P f [.agg c.toArray] h K) (k : K (.int .i64 (fIdx pr ms)) h) : Cn P n_slices_IndexFunc_api_Member_api_Member #[v, f] h K := by
  refine F_slices_IndexFunc_api_Member_api_Member ?_
  unfold s_slices_IndexFunc_api_Member_api_Member
  obtain ⟨a, c, rfl, hc⟩ := sl.shape
  rw [lc] at sl hc ⊢
  simp -zeta only [RL]
  refine Lp_mk (fun m vs H => ∃ i : Nat, i + m = ms.length ∧ H = h ∧ (∀ x ∈ ms.take i, pr x = false) ∧ vs = [.int .i64 0, .int .i64 (i : Int)]) ms.length ⟨0, by omega, rfl, by simp, rfl⟩ ?_
  rintro m vs H ⟨i, hi, rfl, ha, rfl⟩
  simp -zeta only [GL, ltN]
  by_cases g : i < ms.length
  · rw [if_pos (decide_eq_true g)]
    have ec : css[i]? = some (css[i]'(by omega)) := List.getElem?_eq_getElem _
    have em : ms[i]? = some ms[i] := List.getElem?_eq_getElem _
    have me := hm i _ _ ec em
    have w1 : IntKind.i64.wrap ((i : Int) + 1) = ((i + 1 : Nat) : Int) := by rw [wi64 (by omega) (by omega)]; omega
    refine q_itemAt u_Sl_api_Member z_api_Member u_api_Member rfl sl ec me.len (hf _ _ me ?_)
    rw [cnd_bool]
    by_cases gp : pr ms[i] = true
    · rw [if_pos gp]
      rw [fIdx_at ha em gp] at k
      exact k
    · rw [if_neg gp, w1]
      refine ⟨H, .refl _, m - 1, by omega, i + 1, by omega, rfl, fun x hx => ?_, rfl⟩
      rw [List.take_add_one, em] at hx
      rcases List.mem_append.1 hx with z | z
      · exact ha x z
      · simp at z; subst z; simpa using gp
  · rw [if_neg (by simpa using g)]
    rw [List.take_of_length_le (by omega)] at ha
    rw [fIdx_none ha] at k
    exact k
theorem T_ContainsM {v f : Value} {css : List (List Value)} {ms : List (List Nat × JV)} {pr : List Nat × JV → Bool} (sl : SlAt h 7 v css) (lc : css.length = ms.length) (ln : ms.length ≤ 9223372036854775807) (hm : ∀ (i : Nat) (c : List Value) (x : List Nat × JV), css[i]? = some c → ms[i]? = some x → MeR h c x)
    (hf : ∀ {K : Value → Hp → Prop} (c : List Value) (x : List Nat × JV), MeR h c x → K (.bool (pr x)) h → callP P f [.agg c.toArray] h K) (k : K (.bool (ms.any pr)) h) : Cn P n_slices_ContainsFunc_api_Member_api_Member #[v, f] h K := by
  refine F_slices_ContainsFunc_api_Member_api_Member ?_
  unfold s_slices_ContainsFunc_api_Member_api_Member
  refine T_IndexM sl lc ln hm hf ?_
  rw [q_geq, fIdx_ge]
  exact k
theorem mef0 {h : Hp} {K : Value → Prop} (b : Nat) : q P h (Instr.fieldAt t_api_Member (.pointer (some ⟨b, 0, none⟩)) 0) K = K (.pointer (some ⟨b, 0, none⟩)) := q_of (by kernel_rfl) K
/-- A closure that holds a name against a member's. -/
theorem nameIs {b7 : Nat} {name : List Nat} (bn : Bytes name) (h7 : h.cell ⟨b7, 0, none⟩ = some (.string (strL name))) {K : Value → Hp → Prop} (c : List Value) (x : List Nat × JV) (me : MeR h c x) (k : K (.bool (decide (x.1 = name))) h) :
    aw P (Instr.box t_api_Member (.agg c.toArray)) (fun t2 h => q P h (Instr.fieldAt t_api_Member t2 0) fun t4 => q P h (Instr.loadAt t_string t4) fun t5 => q P h (Instr.loadAt t_string (.pointer (some ⟨b7, 0, none⟩))) fun t6 => q P h (eqop .eql t_string (.tmp 5) (.tmp 6) t5 t6) fun t7 => ∃ h0, Hp.le h0 h ∧ K t7 h0) h := by
  obtain ⟨cs, rfl, ⟨bx, _⟩, j⟩ := me
  refine aw_box fun r hr => ?_
  have xt : Hp.ext h (h.set r (.row t_api_Member (Value.agg (.string (strL x.1) :: cs).toArray).cells.toList (Value.agg (.string (strL x.1) :: cs).toArray).cells.size (some (0, 0)))) := ext_set _ hr
  have c0 : (h.set r (.row t_api_Member (Value.agg (.string (strL x.1) :: cs).toArray).cells.toList (Value.agg (.string (strL x.1) :: cs).toArray).cells.size (some (0, 0)))).cell ⟨r, 0, none⟩ = some (.string (strL x.1)) := by rw [cell_row (Hp.set_same ..)]; rfl
  have c7 := xt.cle _ _ h7
  simp -zeta only [GL, RL, mef0, c0, c7]
  rw [q_eqlSt _ _ bx bn]
  exact ⟨h, xt.le, k⟩
theorem Cn_of_Z {f : FuncId} {args : Array Value} {K : Value → Hp → Prop} (c : CnZ P (fun _ _ => False) f args h K) : Cn P f args h K :=
  ⟨c.1, fun w s => (c.2 w s).mono fun e w' q => q.elim id fun ⟨_, _, _, _, _, z⟩ => z.elim⟩
theorem extB_m1 : extB P n_json_parser_member_1 = false := by kernel_rfl
theorem extB_g1 : extB P n_json_Get_1 = false := by kernel_rfl
theorem T_member_1 {b7 : Nat} {name : List Nat} (bn : Bytes name) (h7 : h.cell ⟨b7, 0, none⟩ = some (.string (strL name))) {K : Value → Hp → Prop} (c : List Value) (x : List Nat × JV) (me : MeR h c x) (k : K (.bool (decide (x.1 = name))) h) :
    callP P (.func (.func n_json_parser_member_1) #[] #[.pointer (some ⟨b7, 0, none⟩)]) [.agg c.toArray] h K :=
  callP_cn extB_m1 (Cn_wk (Cn_of_Z (F_json_parser_member_1 (nameIs bn h7 c x me k))))
theorem T_Get_1 {b7 : Nat} {name : List Nat} (bn : Bytes name) (h7 : h.cell ⟨b7, 0, none⟩ = some (.string (strL name))) {K : Value → Hp → Prop} (c : List Value) (x : List Nat × JV) (me : MeR h c x) (k : K (.bool (decide (x.1 = name))) h) :
    callP P (.func (.func n_json_Get_1) #[] #[.pointer (some ⟨b7, 0, none⟩)]) [.agg c.toArray] h K :=
  callP_cn extB_g1 (Cn_wk (F_json_Get_1 (nameIs bn h7 c x me k)))
end
theorem bldMem {h : Hp} {K : Value → Prop} (s : ByteArray) {cs : List Value} (l : cs.length = 6) : q P h (Instr.build t_api_Member #[(0, .string s), (1, .agg cs.toArray)]) K = K (.agg (.string s :: cs).toArray) := by
  match cs, l with
  | [c1, c2, c3, c4, c5, c6], _ => exact q_of (by kernel_rfl) K
theorem zr_Me : zr P t_api_Member = some (.agg (Value.string ⟨#[]⟩ :: row0 0).toArray) := by kernel_rfl
section
variable {Z : Zt} {R h : Hp} {K : Value → Hp → Prop} {p : Nat} {b s : List Nat} {r b2 b3 : Nat} {dp : Int} {X : List Nat}
theorem PaX.ext0 {h' : Hp} (a : PaX R h p b s) (x : Hp.ext h h') : PaX R h' p b s := a.ext x (Stp.ext0 a.own x)
theorem T_jmember {d : Nat} (hd : d ≤ 16) (V : ValueOk p b d) {acc : List (List Nat × JV)} {css : List (List Value)} {v : Value} (T : Tab R) (a : PaX R h p b s) (hl : ∀ {R' h' : Hp}, Stp R h R' h' [p] [p] → SlAt h' 7 v css) (lc : css.length = acc.length) (la : acc.length ≤ 100000)
    (hm : ∀ (i : Nat) (c : List Value) (x : List Nat × JV), css[i]? = some c → acc[i]? = some x → MeR R c x)
    (kz : ∀ c, member (value d) acc s = .error c → ∀ h', Kp [p] h h' → Z [pe (wrongV c)] h')
    (k : ∀ x t, member (value d) acc s = .ok (x, t) → ∀ c R' h', Stp R h R' h' [p] [p] → PaX R' h' p b t → MeR R' c x → K (.agg c.toArray) h') :
    CnZ P Z n_json_parser_member #[.pointer (some ⟨p, 0, none⟩), v, .int .i64 (16 - (d : Int))] h K := by
  have wn := a.own
  refine F_json_parser_member ?_
  unfold s_json_parser_member
  refine aw_allocL (.string ⟨#[]⟩ :: row0 0) zr_Me rfl fun r6 hr6 => ?_
  have x1 := ext_set (.row t_api_Member (Value.string ⟨#[]⟩ :: row0 0) (Value.string ⟨#[]⟩ :: row0 0).length (some (0, 0))) hr6
  have a1 := a.ext0 x1
  have st1 := Stp.ext0 wn x1
  generalize eh1 : h.set r6 (.row t_api_Member (Value.string ⟨#[]⟩ :: row0 0) (Value.string ⟨#[]⟩ :: row0 0).length (some (0, 0))) = h1 at a1 st1 x1 ⊢
  have em : member (value d) acc s = (match text (skip s) with
    | none => .error 8
    | some (name, r) => if acc.any (fun m => decide (m.1 = name)) then .error 8
      else if has [58] (skip r) then
        match value d ((skip r).drop 1) with
        | .error c => .error c
        | .ok (v, r2) => .ok ((name, v), r2)
      else .error 8) := rfl
  refine T_jskip a1 fun h2 st2 a2 => ?_
  have st12 := st1.trans st2
  refine T_jtext T a2 (fun e h' kp => kz 8 (by rw [em, e]) h' ((stp_kp st12).trans kp)) fun name t e bn h3 st3 a3 => ?_
  have e' := e
  obtain ⟨_, ls0⟩ := a.bytes
  rw [e] at em
  dsimp only at em
  have st13 := st12.trans st3
  refine aw_allocL [.string ByteArray.empty] zr_string rfl fun r7 hr7 => ?_
  refine aw_store z_string rfl (put_row (Hp.set_same ..) (by simp) (by omega) _) ?_
  rw [Hp.set_set]
  have x4 := ext_set (.row t_string ([Value.string ByteArray.empty].set 0 (.string (strL name))) [Value.string ByteArray.empty].length (some (0, 0))) hr7
  have a4 := a3.ext0 x4
  have st4 := Stp.ext0 a3.own x4
  have row7 : (h3.set r7 (.row t_string ([Value.string ByteArray.empty].set 0 (.string (strL name))) [Value.string ByteArray.empty].length (some (0, 0)))) r7 = some (.row t_string [.string (strL name)] 1 (some (0, 0))) := Hp.set_same ..
  generalize h3.set r7 (.row t_string ([Value.string ByteArray.empty].set 0 (.string (strL name))) [Value.string ByteArray.empty].length (some (0, 0))) = h4 at a4 st4 x4 row7 ⊢
  have st14 := st13.trans st4
  have n7 : r7 ∉ [p] := fun q => by
    obtain ⟨o, ho⟩ := a3.own.kn p (by simp)
    rw [List.mem_singleton.1 q, ho] at hr7; cases hr7
  have c7 : h4.cell ⟨r7, 0, none⟩ = some (.string (strL name)) := by rw [cell_row row7]; rfl
  have sl := hl st14
  refine CnZ_of (T_ContainsM (pr := fun m => decide (m.1 = name)) sl lc (by omega) (fun i c x e1 e2 => (hm i c x e1 e2).mono (st14.ext.trans a4.own.sub).cle) (fun c x me k => T_member_1 bn c7 c x me k) ?_)
  cases g : acc.any (fun m => decide (m.1 = name)) with
  | true =>
    rw [g, if_pos rfl] at em
    simp -zeta only [GL, Bool.not_true]
    exact T_jmust (fun _ => kz 8 em h4 (stp_kp st14)) fun q => by cases q
  | false =>
    rw [g, if_neg (by simp)] at em
    simp -zeta only [GL, Bool.not_false]
    refine T_jmust (fun q => by cases q) fun _ => ?_
    refine T_jskip a4 fun h5 st5 a5 => ?_
    have t58 : (⟨#[58]⟩ : ByteArray) = strL [58] := by kernel_rfl
    refine T_jhas a5 (w := [58]) (by unfold Bytes; decide) (by decide) t58 fun h6 st6 a6 => ?_
    have st46 := st5.trans st6
    have st16 := st14.trans st46
    cases g2 : has [58] (skip t) with
    | false =>
      rw [g2, if_neg (by simp)] at em
      exact T_jmust (fun _ => kz 8 em h6 (stp_kp st16)) fun q => by cases q
    | true =>
      rw [g2, if_pos rfl] at em a6
      refine T_jmust (fun q => by cases q) fun _ => ?_
      have row6 := st46.keep _ _ n7 row7
      have c6 : h6.cell ⟨r7, 0, none⟩ = some (.string (strL name)) := by rw [cell_row row6]; rfl
      have w1 : IntKind.i64.wrap ((16 - (d : Int)) + 1) = 17 - (d : Int) := by rw [wi64 (by omega) (by omega)]; omega
      simp -zeta only [GL, RL, c6, w1]
      have T6 : Tab R := T
      refine V T a6 (fun c e h' kp => kz c (by rw [em]; rw [show (skip t).drop 1 = (skip t).drop [58].length from rfl, e]) h' ((stp_kp st16).trans kp)) fun x t2 e cs R7 h7 st7 a7 j7 => ?_
      have em2 : member (value d) acc s = .ok ((name, x), t2) := by rw [em, show (skip t).drop 1 = (skip t).drop [58].length from rfl, e]
      have row77 := st7.keep _ _ n7 row6
      have c77 : h7.cell ⟨r7, 0, none⟩ = some (.string (strL name)) := by rw [cell_row row77]; rfl
      refine ⟨pk_q fun K => by simp only [RL, c77, withVal_some], ?_⟩
      rw [bldMem _ j7.len]
      have st27 : Stp R h1 R7 h7 [p] [p] := ((((st2.trans st3).trans st4).trans st46).trans st7)
      rw [← eh1] at st27
      obtain ⟨e6, sv, n6, _⟩ := stp_var (o2 := .row t_api_Member (.string (strL name) :: cs) 7 (some (0, 0))) hr6 wn st27
      have lcs : (Value.string (strL name) :: cs).length = 7 := by simp [j7.len]
      refine aw_storeRow (ys := .string (strL name) :: cs) (by rw [lcs]; exact z_api_Member) e6 (by rw [lcs]; rfl) (fun y hy => ?_) (fun i _ q => Nat.not_lt_zero _ q.2) ?_
      · rcases List.mem_cons.1 hy with rfl | hy
        · rfl
        · exact j7.flat y hy
      rw [q_resRow (ys := .string (strL name) :: cs) u_api_Member rfl (by rw [lcs]; exact z_api_Member) (Hp.set_same ..)]
      have hp6 : p ≠ r6 := fun q => n6 (by rw [q]; simp)
      exact k _ _ em2 _ R7 _ sv (a7.same sv.own (Hp.set_ne _ _ hp6)) ⟨cs, rfl, ⟨bn, by have := (text_len e').2.2; have := skip_len s; show name.length ≤ _; omega⟩, j7⟩
theorem T_one2 {d : Nat} (hd : d ≤ 16) (V : ValueOk p b d) {acc : List (List Nat × JV)} (T : Tab R) (I : MapI p r b2 b3 (16 - (d : Int)) acc R h X) (a : PaX R h p b s) (la : acc.length ≤ 100000)
    (kz : ∀ c, member (value d) acc s = .error c → ∀ h', Kp (p :: X) h h' → Z [pe (wrongV c)] h')
    (k : ∀ x t, member (value d) acc s = .ok (x, t) → ∀ R' h' X', Stp R h R' h' (p :: X) (p :: X') → PaX R' h' p b t → MapI p r b2 b3 (16 - (d : Int)) (acc ++ [x]) R' h' X' → K (.tuple #[]) h') :
    callZ P Z (.func (.func n_json_parser_value_2) #[] #[.pointer (some ⟨r, 0, none⟩), .pointer (some ⟨b2, 0, none⟩), .pointer (some ⟨b3, 0, none⟩)]) [] h K := by
  refine callZ_cn extB_v2 (F_json_parser_value_2 ?_)
  unfold s_json_parser_value_2
  have own := I.own
  obtain ⟨css, sv, So, rfl, I, lc, cq⟩ := I
  have cs4 : ∀ {R h : Hp}, VarI t_api_Member 7 5 5 p r b2 b3 (16 - (d : Int)) css sv So R h → h.cell ⟨r, 5, none⟩ = some sv ∧ h.cell ⟨b2, 0, none⟩ = some (.pointer (some ⟨p, 0, none⟩)) ∧ h.cell ⟨b3, 0, none⟩ = some (.int .i64 (16 - (d : Int))) := fun I =>
    ⟨by rw [cell_row I.row]; rfl, by rw [cell_row I.h2]; rfl, by rw [cell_row I.h3]; rfl⟩
  obtain ⟨c4, c2, c3⟩ := cs4 I
  obtain ⟨_, av, cv, rfl, _⟩ := I.out.rds
  have ld3t : ∀ {h : Hp}, h.cell ⟨r, 5, none⟩ = some (.slice av css.length cv) → peek P h (Builtin.len_ #[t_Sl_api_Member] t_int #[.slice av css.length cv]) = some (.int .i64 (css.length : Nat)) ∧ peek P h (Instr.loadAt t_Sl_api_Member (.pointer (some ⟨r, 5, none⟩))) = some (.slice av css.length cv) ∧ peek P h (Instr.fieldAt t_api_Value (.pointer (some ⟨r, 0, none⟩)) 5) = some (.pointer (some ⟨r, 5, none⟩)) := fun {h} e =>
    ⟨pk_q fun K => by simp only [RL], pk_q fun K => by simp only [RL, e, withVal_some], pk_q fun K => vaf5 r⟩
  simp -zeta only [GL, RL, vaf5, c4, c2, c3]
  have len7 : ∀ c ∈ css, c.length = 7 := fun c hc => by
    obtain ⟨i, hi, e⟩ := List.getElem_of_mem hc
    exact (cq i c _ (by rw [← e]; exact List.getElem?_eq_getElem hi) (List.getElem?_eq_getElem (by omega))).len
  have f7 : ∀ y ∈ (Value.string ⟨#[]⟩ :: row0 0), flat y = true := fun y hy => by
    rcases List.mem_cons.1 hy with rfl | hy
    · rfl
    · exact row0_flat 0 y hy
  have tail : ∀ (R2 h2 : Hp) (x : List Nat × JV) (t : List Nat) (cs : List Value) (w : Value), member (value d) acc s = .ok (x, t) → Stp R h R2 h2 (p :: r :: So) (p :: r :: So) → PaX R2 h2 p b t → MeR R2 cs x → VarI t_api_Member 7 5 5 p r b2 b3 (16 - (d : Int)) css (.slice av css.length cv) So R2 h2 → Rds h2 7 w (.string ⟨#[]⟩ :: row0 0) 1 →
      aw P (Builtin.append_ #[t_Sl_api_Member, t_Sl_api_Member] t_Sl_api_Member #[.slice av css.length cv, w]) (fun t11 h => q P emp (Instr.indexAt t_Sl_api_Member t11 (.int .i64 (css.length : Nat))) fun t12 => q P h (Instr.fieldAt t_api_Value (.pointer (some ⟨r, 0, none⟩)) 5) fun t13 =>
      (aw P (Instr.storeAt t_api_Member t12 (.agg cs.toArray)) (fun _ h => peek P h (Instr.fieldAt t_api_Value (.pointer (some ⟨r, 0, none⟩)) 5) = some t13 ∧ aw P (Instr.storeAt t_Sl_api_Member t13 t11) (fun _ h => K (.tuple #[]) h) h) h) ∧
      (aw P (Instr.storeAt t_Sl_api_Member t13 t11) (fun _ h => aw P (Instr.storeAt t_api_Member t12 (.agg cs.toArray)) (fun _ h => K (.tuple #[]) h) h) h)) h2 := fun R2 h2 x t cs w e st a2 j I2 rw' => by
    refine push_tail (zs := .string ⟨#[]⟩ :: row0 0) (cs := cs) u_Sl_api_Member z_api_Member z_Sl_api_Member nfo_Me (by decide) (by decide) rfl f7 I2.row (by simp) (by decide) (vaf5 r) I2.out I2.nr rw' j.len j.flat (by omega) fun v' h' So' o' hr' kp fr => ?_
    obtain ⟨I3, st3, a3⟩ := I2.grown a2 (by decide) o' hr' kp fr
    refine k x t e R2 h' (r :: So') (st.trans st3) a3 ⟨css ++ [cs], v', So', rfl, I3, by simp [lc], snoc_all lc (fun i c y e1 e2 => (cq i c y e1 e2).mono st.ext.cle) j⟩
  have kzP : ∀ {h1 : Hp}, Kp [p] h h1 → ∀ c, member (value d) acc s = .error c → ∀ h', Kp [p] h1 h' → Z [pe (wrongV c)] h' := fun kp c e h' kp' => kz c e h' ((kp.trans kp').mono fun x hx => by rw [List.mem_singleton.1 hx]; simp)
  have slOf : ∀ {R1 h1 : Hp}, VarI t_api_Member 7 5 5 p r b2 b3 (16 - (d : Int)) css (.slice av css.length cv) So R1 h1 → SlAt h1 7 (.slice av css.length cv) css := fun I => out_sl I.out len7
  refine ⟨?_, ?_⟩
  · refine T_jmember hd V T a (fun st => slOf (I.go st)) lc la cq (kzP (Kp.refl _ _)) fun x t e cs R1 h1 st1 a1 j1 => ?_
    have I1 := I.go st1
    obtain ⟨c4, c2, c3⟩ := cs4 I1
    obtain ⟨e1, e2, e3⟩ := ld3t c4
    refine ⟨e1, e2, e3, ?_⟩
    refine aw_litA (ys := .string ⟨#[]⟩ :: row0 0) u_Sl_api_Member z_api_Member (z := .agg (Value.string ⟨#[]⟩ :: row0 0).toArray) zr_Me rfl rfl (by decide) (by decide) fun w h2 nw => ?_
    have st2 := Stp.ext0 a1.own nw.ext
    have I2 := I1.go st2
    obtain ⟨c4, c2, c3⟩ := cs4 I2
    obtain ⟨e1, e2, e3⟩ := ld3t c4
    refine ⟨e1, e2, e3, ?_⟩
    exact tail R1 h2 x t cs w e (stp_wideP (st1.trans st2) own.1 own.2) (a1.ext nw.ext st2) j1 I2 nw.rds
  · refine aw_litA (ys := .string ⟨#[]⟩ :: row0 0) u_Sl_api_Member z_api_Member (z := .agg (Value.string ⟨#[]⟩ :: row0 0).toArray) zr_Me rfl rfl (by decide) (by decide) fun w h1 nw => ?_
    have st1 := Stp.ext0 a.own nw.ext
    have I1 := I.go st1
    obtain ⟨c4, c2, c3⟩ := cs4 I1
    obtain ⟨e1, e2, e3⟩ := ld3t c4
    refine ⟨e1, pk_q fun K => by simp only [RL, c3, withVal_some], e2, e3, pk_q fun K => by simp only [RL, c2, withVal_some], e2, e3, ?_⟩
    have a1 := a.ext nw.ext st1
    refine T_jmember hd V T a1 (fun st => slOf (I1.go st)) lc la cq (kzP (stp_kp st1)) fun x t e cs R2 h2 st2 a2 j2 => ?_
    have I2 := I1.go st2
    obtain ⟨c4, c2, c3⟩ := cs4 I2
    obtain ⟨e1, e2, e3⟩ := ld3t c4
    refine ⟨e1, e2, e3, ?_⟩
    have rw' : Rds h2 7 w (.string ⟨#[]⟩ :: row0 0) 1 := by
      obtain ⟨b1, cc, f, nb1, hc1, rfl, eh, _⟩ := nw.form (by decide)
      have n1 : b1 ∉ [p] := fun z => by
        obtain ⟨o, ho⟩ := a.own.kn p (by simp)
        rw [List.mem_singleton.1 z, ho] at nb1; cases nb1
      have hb : h2 b1 = some (.row t_api_Member (.string ⟨#[]⟩ :: row0 0) (cc * 7) (some f)) := st2.keep _ _ n1 (by rw [eh]; exact Hp.set_same ..)
      exact ⟨rfl, _, cc, rfl, hc1, .inr ⟨b1, 0, rfl, fun i x e => by rw [cell_row hb, Nat.zero_add]; exact e⟩⟩
    exact tail R2 h2 x t cs w e (stp_wideP (st1.trans st2) own.1 own.2) a2 j2 I2 rw'
end
theorem rds_sl {s : Nat} {h : Hp} {v : Value} {css : List (List Value)} (o : Rds h s v css.flatten css.length) (hl : ∀ c ∈ css, c.length = s) : SlAt h s v css := by
  obtain ⟨_, a, c, rfl, hc, q⟩ := o
  refine ⟨a, c, rfl, hc, ?_⟩
  rcases q with q | ⟨b, o, rfl, hy⟩
  · exact .inl (List.length_eq_zero_iff.1 q)
  · exact .inr ⟨b, o, rfl, fun i x e j y ey => by rw [Nat.add_assoc]; exact hy _ _ (flat_get hl i x e j y ey)⟩
theorem bldV0 {h : Hp} {K : Value → Prop} : q P h (Instr.build t_api_Value #[]) K = K (.agg (row0 0).toArray) := q_of (by kernel_rfl) K
theorem bldV1 {h : Hp} {K : Value → Prop} (k : Int) : q P h (Instr.build t_api_Value #[(0, .int .i64 k)]) K = K (.agg (row0 k).toArray) := q_of (by kernel_rfl) K
theorem bldVb {h : Hp} {K : Value → Prop} (o : Bool) : q P h (Instr.build t_api_Value #[(0, .int .i64 1), (1, .bool o)]) K = K (.agg #[.int .i64 1, .bool o, .int .i64 0, .string ⟨#[]⟩, .slice none 0 0, .slice none 0 0]) := q_of (by kernel_rfl) K
theorem bldVt {h : Hp} {K : Value → Prop} (s : ByteArray) : q P h (Instr.build t_api_Value #[(0, .int .i64 3), (3, .string s)]) K = K (.agg #[.int .i64 3, .bool false, .int .i64 0, .string s, .slice none 0 0, .slice none 0 0]) := q_of (by kernel_rfl) K
theorem jv_row0 {R : Hp} (k : Int) : JvR R (row0 k) (.mk k false 0 [] [] []) := jv_leaf k false 0 (by intro x hx; cases hx) rfl
section
variable {Z : Zt} {R h : Hp} {K : Value → Hp → Prop} {p : Nat} {b s : List Nat}
/-- A variable that grows is begun. -/
theorem VarI.start {E sE off : Nat} {kd dp : Int} {r b2 b3 : Nat} (a : PaX R h p b s) (hr : h r = none) (h2 : h b2 = some (.row t_Pt_json_parser [.pointer (some ⟨p, 0, none⟩)] 1 (some (0, 0)))) (h3 : h b3 = some (.row t_int [.int .i64 dp] 1 (some (0, 0)))) (n2 : b2 ≠ p) (n3 : b3 ≠ p) (ho : off = 4 ∨ off = 5) :
    VarI E sE off kd p r b2 b3 dp [] (.slice none 0 0) [] R (h.set r (.row t_api_Value (row0 kd) 6 (some (0, 0)))) ∧ Stp R h R (h.set r (.row t_api_Value (row0 kd) 6 (some (0, 0)))) [p] [p, r] ∧ PaX R (h.set r (.row t_api_Value (row0 kd) 6 (some (0, 0)))) p b s := by
  have wn := a.own
  have x := ext_set (.row t_api_Value (row0 kd) 6 (some (0, 0))) hr
  obtain ⟨w1, w2, dj, _⟩ := Own.mk1 (.row t_api_Value (row0 kd) 6 (some (0, 0))) wn hr
  have np : p ≠ r := fun q => by
    obtain ⟨o, ho⟩ := wn.kn p (by simp)
    rw [q, hr] at ho; cases ho
  have m2 : b2 ≠ r := fun q => by rw [q, hr] at h2; cases h2
  have m3 : b3 ≠ r := fun q => by rw [q, hr] at h3; cases h3
  refine ⟨⟨w1, by simp [np], by simp, by simp [n2, m2], by simp [n3, m3], x _ _ h2, x _ _ h3, ?_, .inl ⟨rfl, rfl, rfl, rfl⟩⟩, (Stp.ext0 wn x).gain w1 fun y hy => by rw [List.mem_singleton.1 hy]; exact hr, a.ext0 x⟩
  rcases ho with rfl | rfl <;> exact Hp.set_same ..
/-- What has grown is only read from now on. -/
theorem VarI.stop {E sE off : Nat} {kd dp : Int} {r b2 b3 : Nat} {css : List (List Value)} {sv : Value} {So t : List Nat} {R0 h0 : Hp} (I : VarI E sE off kd p r b2 b3 dp css sv So R h) (a : PaX R h p b t) (st : Stp R0 h0 R h [p] (p :: r :: So)) (hl : ∀ c ∈ css, c.length = sE) :
    ∃ R', Stp R0 h0 R' h [p] [p] ∧ PaX R' h p b t ∧ Hp.ext R R' ∧ SlAt R' sE sv css := by
  have g : Stp R0 h0 R h [p] ([p] ++ So) := st.drop fun x hx => by
    rcases List.mem_append.1 hx with q | q
    · rw [List.mem_singleton.1 q]; simp
    · simp [q]
  obtain ⟨R', st', x, r⟩ := fixO g (fun x hx q => I.np (by rw [← List.mem_singleton.1 hx]; simp [q])) I.out
  exact ⟨R', st', a.up x st'.own, x, rds_sl r hl⟩
theorem has1_head {c : Nat} {s : List Nat} (h : s.getD 0 0 = c) (h0 : c ≠ 0) : s ≠ [] := fun q => by rw [q] at h; simp at h; omega
theorem T_value : ∀ {d : Nat}, d ≤ 16 → ∀ {p : Nat} {b : List Nat}, ValueOk p b d
  | d, hd, p, b, Z, K, R, h, s, T, a, kz, k => by
    have wn := a.own
    refine CnZ_wk (F_json_parser_value ?_)
    unfold s_json_parser_value
    refine aw_box fun r2 hr2 => ?_
    have x2 := ext_set (.row t_Pt_json_parser (Value.pointer (some ⟨p, 0, none⟩)).cells.toList (Value.pointer (some ⟨p, 0, none⟩)).cells.size (some (0, 0))) hr2
    have row2 : (h.set r2 (.row t_Pt_json_parser (Value.pointer (some ⟨p, 0, none⟩)).cells.toList (Value.pointer (some ⟨p, 0, none⟩)).cells.size (some (0, 0)))) r2 = some (.row t_Pt_json_parser [.pointer (some ⟨p, 0, none⟩)] 1 (some (0, 0))) := Hp.set_same ..
    have np2 : r2 ≠ p := fun q => by
      obtain ⟨o, ho⟩ := wn.kn p (by simp)
      rw [q, ho] at hr2; cases hr2
    generalize h.set r2 (.row t_Pt_json_parser (Value.pointer (some ⟨p, 0, none⟩)).cells.toList (Value.pointer (some ⟨p, 0, none⟩)).cells.size (some (0, 0))) = h1 at x2 row2 ⊢
    refine aw_box fun r3 hr3 => ?_
    have x3 := ext_set (.row t_int (Value.int .i64 (17 - (d : Int))).cells.toList (Value.int .i64 (17 - (d : Int))).cells.size (some (0, 0))) hr3
    have row3 : (h1.set r3 (.row t_int (Value.int .i64 (17 - (d : Int))).cells.toList (Value.int .i64 (17 - (d : Int))).cells.size (some (0, 0)))) r3 = some (.row t_int [.int .i64 (17 - (d : Int))] 1 (some (0, 0))) := Hp.set_same ..
    have row2 := x3 _ _ row2
    have xh := x2.trans x3
    have np3 : r3 ≠ p := fun q => by
      obtain ⟨o, ho⟩ := wn.kn p (by simp)
      rw [q, x2 _ _ ho] at hr3; cases hr3
    generalize h1.set r3 (.row t_int (Value.int .i64 (17 - (d : Int))).cells.toList (Value.int .i64 (17 - (d : Int))).cells.size (some (0, 0))) = h2 at x3 row3 row2 xh ⊢
    have a2 := a.ext0 xh
    have st2 := Stp.ext0 wn xh
    refine aw_allocL (row0 0) zr_Jv rfl fun r4 hr4 => ?_
    have x4 := ext_set (.row t_api_Value (row0 0) (row0 0).length (some (0, 0))) hr4
    have a3 := a2.ext0 x4
    have row2 := x4 _ _ row2
    have row3 := x4 _ _ row3
    have n2 : r2 ∉ [p] := by simpa using np2
    have n3 : r3 ∉ [p] := by simpa using np3
    -- what follows goes on from here
    have fin : ∀ (R' h' : Hp) (v : JV) (t : List Nat) (cs : List Value), value d s = .ok (v, t) → Stp R (h2.set r4 (.row t_api_Value (row0 0) (row0 0).length (some (0, 0)))) R' h' [p] [p] → PaX R' h' p b t → JvR R' cs v →
        aw P (Instr.storeAt t_api_Value (.pointer (some ⟨r4, 0, none⟩)) (.agg cs.toArray)) (fun _ h => q P h ((asAddr (.pointer (some ⟨r4, 0, none⟩))).bind (loadVar t_api_Value)) fun r0 => (∃ h0, Hp.le h0 h ∧ K r0 h0)) h' := fun R' h' v t cs e st a' j => by
      obtain ⟨e4, sv, n4, _⟩ := stp_var (o2 := .row t_api_Value cs 6 (some (0, 0))) hr4 a2.own st
      refine aw_storeRow (ys := cs) (by rw [j.len]; exact z_api_Value) e4 (by rw [j.len]; rfl) j.flat (fun i _ q => Nat.not_lt_zero _ q.2) ?_
      rw [q_resRow (ys := cs) u_api_Value rfl (by rw [j.len]; exact z_api_Value) (Hp.set_same ..)]
      have hp4 : p ≠ r4 := fun q => n4 (by rw [q]; simp)
      exact ⟨_, .refl _, k v t e cs R' _ (st2.trans sv) (a'.same sv.own (Hp.set_ne _ _ hp4)) j⟩
    have bad : ∀ (R' h' : Hp) (c : Int), value d s = .error c → ∀ S, Stp R (h2.set r4 (.row t_api_Value (row0 0) (row0 0).length (some (0, 0)))) R' h' [p] S → Z [pe (wrongV c)] h' := fun R' h' c e S st => kz c e h' (Kp.ext (xh.trans x4) (stp_kp st))
    have lp : ∀ {R' h' : Hp} {S : List Nat}, Stp R (h2.set r4 (.row t_api_Value (row0 0) (row0 0).length (some (0, 0)))) R' h' [p] S → h'.cell ⟨r2, 0, none⟩ = some (.pointer (some ⟨p, 0, none⟩)) ∧ h' r2 = some (.row t_Pt_json_parser [.pointer (some ⟨p, 0, none⟩)] 1 (some (0, 0))) ∧ h' r3 = some (.row t_int [.int .i64 (17 - (d : Int))] 1 (some (0, 0))) := fun {R' h' S} st => by
      have e2 := st.keep _ _ n2 row2
      exact ⟨by rw [cell_row e2]; rfl, e2, st.keep _ _ n3 row3⟩
    generalize hh3 : h2.set r4 (.row t_api_Value (row0 0) (row0 0).length (some (0, 0))) = h3 at a3 row2 row3 x4 fin bad lp ⊢
    have c2 : h3.cell ⟨r2, 0, none⟩ = some (.pointer (some ⟨p, 0, none⟩)) := by rw [cell_row row2]; rfl
    simp -zeta only [RL, c2, GL]
    refine T_jskip a3 fun h4 st4 a4 => ?_
    obtain ⟨c2, e2, e3⟩ := lp st4
    have c3 : h4.cell ⟨r3, 0, none⟩ = some (.int .i64 (17 - (d : Int))) := by rw [cell_row e3]; rfl
    intro J3
    match d, hd with
    | 0, _ =>
      clear_value J3
      have dd : decide ((16 : Int) < 17 - ((0 : Nat) : Int)) = true := by decide
      simp -zeta only [RL, c3, GL, dd, if_true, c2]
      exact T_jfail ⟨h4, .refl _, bad R h4 3 (by rw [value]) _ st4⟩
    | d + 1, hd =>
      have dd : decide ((16 : Int) < 17 - ((d + 1 : Nat) : Int)) = false := decide_eq_false (by omega)
      have d16 : (17 : Int) - ((d + 1 : Nat) : Int) = 16 - (d : Int) := by omega
      have ev : value (d + 1) s = (if (skip s).getD 0 0 = 34 then match text (skip s) with
          | none => .error 8
          | some (t, r) => .ok (textV t, r)
        else if (skip s).getD 0 0 = 91 then match items (fun _ x => value d x) 93 (skip s) with
          | .error c => .error c
          | .ok (l, r) => .ok (listV l, r)
        else if (skip s).getD 0 0 = 123 then match items (member (value d)) 125 (skip s) with
          | .error c => .error c
          | .ok (l, r) => .ok (mapV l, r)
        else if has [110, 117, 108, 108] (skip s) then .ok (nulV, (skip s).drop 4)
        else if has [116, 114, 117, 101] (skip s) then .ok (boolV true, (skip s).drop 4)
        else if has [102, 97, 108, 115, 101] (skip s) then .ok (boolV false, (skip s).drop 5)
        else number (skip s)) := rfl
      have q3 : J3 h4 := by
        simp -zeta only [J3]
        clear J3
        generalize es : skip s = s1 at *
        simp -zeta only [RL, c2, GL]
        refine T_jpeekX a4 ?_
        have b34 : (((s1.getD 0 0 : Nat) : Int) == 34) = decide (s1.getD 0 0 = 34) := by rw [Bool.eq_iff_iff, beq_iff_eq, decide_eq_true_eq]; omega
        have b91 : (((s1.getD 0 0 : Nat) : Int) == 91) = decide (s1.getD 0 0 = 91) := by rw [Bool.eq_iff_iff, beq_iff_eq, decide_eq_true_eq]; omega
        have b123 : (((s1.getD 0 0 : Nat) : Int) == 123) = decide (s1.getD 0 0 = 123) := by rw [Bool.eq_iff_iff, beq_iff_eq, decide_eq_true_eq]; omega
        simp -zeta only [GL, b34]
        by_cases g1 : s1.getD 0 0 = 34
        · rw [if_pos g1] at ev
          rw [if_pos (decide_eq_true g1)]
          simp -zeta only [RL, c2, GL]
          refine T_jtext T a4 (fun e h' kp => ⟨h', .refl _, kz 8 (by rw [ev, e]) h' ((Kp.ext (xh.trans x4) (stp_kp st4)).trans kp)⟩) fun t r e bt h5 st5 a5 => ?_
          have e' := e
          rw [e] at ev
          rw [bldVt]
          exact fin R h5 _ _ _ ev (st4.trans st5) a5 (jv_leaf 3 false 0 bt rfl (by have := (text_len e').2.2; have := a4.bytes.2; omega))
        rw [if_neg g1] at ev
        rw [if_neg (by simpa using g1)]
        simp -zeta only [GL, b91]
        by_cases g2 : s1.getD 0 0 = 91
        · rw [if_pos g2] at ev
          rw [if_pos (decide_eq_true g2), bldV1]
          refine aw_allocL (row0 0) zr_Jv rfl fun r6 hr6 => ?_
          refine aw_storeRow (ys := row0 4) z_api_Value (Hp.set_same ..) rfl (row0_flat 4) (fun i _ q => Nat.not_lt_zero _ q.2) ?_
          rw [Hp.set_set]
          have e3' := e3
          rw [d16] at e3'
          obtain ⟨I5, st5, a5⟩ := VarI.start (E := t_api_Value) (sE := 6) (off := 4) (kd := 4) a4 hr6 e2 e3' np2 np3 (.inl rfl)
          have st45 := st4.trans st5
          have c25 := (lp st45).1
          have c25' : (h4.set r6 (.row t_api_Value (row0 4) (row0 0).length (some (0, 0)))).cell ⟨r2, 0, none⟩ = some (.pointer (some ⟨p, 0, none⟩)) := c25
          simp -zeta only [RL, c25', GL]
          have t93 : (⟨#[93]⟩ : ByteArray) = strL [93] := by kernel_rfl
          refine T_jitems (one := fun _ x => value d x) (shut := 93) (X := [r6]) (LstI p r6 r2 r3 (16 - (d : Int))) (fun I => I.own) (fun I st => I.go st) (fun acc s x r e => value_len e) (fun T I a la kz k => T_one1 (by omega) (T_value (by omega)) T I a la kz k)
            T ⟨[], _, [], rfl, I5, rfl, by simp⟩ a5 (has1_head g2 (by decide)) (by decide) t93 (fun c e h' kp => ⟨h', .refl _, kz c (by rw [ev, e]) h' (Kp.ext (xh.trans x4) (stp_kpt st45 kp))⟩) fun l t e lle R6 h6 X6 st6 a6 I6 => ?_
          rw [e] at ev
          obtain ⟨css, sv, So, rfl, I6, lc, cq⟩ := I6
          have len6 : ∀ c ∈ css, c.length = 6 := fun c hc => by
            obtain ⟨i, hi, e⟩ := List.getElem_of_mem hc
            exact (cq i c _ (by rw [← e]; exact List.getElem?_eq_getElem hi) (List.getElem?_eq_getElem (by omega))).len
          obtain ⟨R7, st7, a7, x7, sl⟩ := I6.stop a6 (st45.trans st6) len6
          rw [q_ldRow (ys := (row0 4).set 4 sv) u_api_Value rfl z_api_Value I6.row]
          refine fin R7 h6 _ _ _ ev st7 a7 ?_
          exact .mk css [] (t := []) (by intro x hx; cases hx) (by simp) (by omega) (by simp) sl lc (fun i c x e1 e2 => (cq i c x e1 e2).mono x7.cle) (SlAt.nilV R7 7) rfl (fun i c x e => by simp at e) (fun i c x e => by simp at e)
        rw [if_neg g2] at ev
        rw [if_neg (by simpa using g2)]
        simp -zeta only [GL, b123]
        by_cases g3 : s1.getD 0 0 = 123
        · rw [if_pos g3] at ev
          rw [if_pos (decide_eq_true g3), bldV1]
          refine aw_allocL (row0 0) zr_Jv rfl fun r6 hr6 => ?_
          refine aw_storeRow (ys := row0 5) z_api_Value (Hp.set_same ..) rfl (row0_flat 5) (fun i _ q => Nat.not_lt_zero _ q.2) ?_
          rw [Hp.set_set]
          have e3' := e3
          rw [d16] at e3'
          obtain ⟨I5, st5, a5⟩ := VarI.start (E := t_api_Member) (sE := 7) (off := 5) (kd := 5) a4 hr6 e2 e3' np2 np3 (.inr rfl)
          have st45 := st4.trans st5
          have c25 := (lp st45).1
          have c25' : (h4.set r6 (.row t_api_Value (row0 5) (row0 0).length (some (0, 0)))).cell ⟨r2, 0, none⟩ = some (.pointer (some ⟨p, 0, none⟩)) := c25
          simp -zeta only [RL, c25', GL]
          have t125 : (⟨#[125]⟩ : ByteArray) = strL [125] := by kernel_rfl
          refine T_jitems (one := member (value d)) (shut := 125) (X := [r6]) (MapI p r6 r2 r3 (16 - (d : Int))) (fun I => I.own) (fun I st => I.go st) (fun acc s x r e => member_len (fun s x r e => value_len e) e) (fun T I a la kz k => T_one2 (by omega) (T_value (by omega)) T I a la kz k)
            T ⟨[], _, [], rfl, I5, rfl, by simp⟩ a5 (has1_head g3 (by decide)) (by decide) t125 (fun c e h' kp => ⟨h', .refl _, kz c (by rw [ev, e]) h' (Kp.ext (xh.trans x4) (stp_kpt st45 kp))⟩) fun l t e lle R6 h6 X6 st6 a6 I6 => ?_
          rw [e] at ev
          obtain ⟨css, sv, So, rfl, I6, lc, cq⟩ := I6
          have len7 : ∀ c ∈ css, c.length = 7 := fun c hc => by
            obtain ⟨i, hi, e⟩ := List.getElem_of_mem hc
            exact (cq i c _ (by rw [← e]; exact List.getElem?_eq_getElem hi) (List.getElem?_eq_getElem (by omega))).len
          obtain ⟨R7, st7, a7, x7, sl⟩ := I6.stop a6 (st45.trans st6) len7
          rw [q_ldRow (ys := (row0 5).set 5 sv) u_api_Value rfl z_api_Value I6.row]
          refine fin R7 h6 _ _ _ ev st7 a7 ?_
          exact .mk [] css (t := []) (by intro x hx; cases hx) (by simp) (by simp) (by omega) (SlAt.nilV R7 6) rfl (fun i c x e => by simp at e) sl lc (fun i c x e1 e2 => by obtain ⟨cs, rfl, _, j⟩ := cq i c x e1 e2; exact j.mono x7.cle) (fun i c x e1 e2 => by obtain ⟨cs, rfl, bt, _⟩ := cq i c x e1 e2; exact ⟨rfl, bt⟩)
        rw [if_neg g3] at ev
        rw [if_neg (by simpa using g3)]
        simp -zeta only [RL, c2, GL]
        have tn : (⟨#[110, 117, 108, 108]⟩ : ByteArray) = strL [110, 117, 108, 108] := by kernel_rfl
        have tt : (⟨#[116, 114, 117, 101]⟩ : ByteArray) = strL [116, 114, 117, 101] := by kernel_rfl
        have tf : (⟨#[102, 97, 108, 115, 101]⟩ : ByteArray) = strL [102, 97, 108, 115, 101] := by kernel_rfl
        refine T_jhas a4 (w := [110, 117, 108, 108]) (by unfold Bytes; decide) (by decide) tn fun h5 st5 a5 => ?_
        have st45 := st4.trans st5
        cases g4 : has [110, 117, 108, 108] s1 with
        | true =>
          rw [g4, if_pos rfl] at ev a5
          simp -zeta only [GL, if_true]
          rw [bldV0]
          exact fin R h5 _ _ _ ev st45 a5 (jv_row0 0)
        | false =>
          rw [g4, if_neg (by simp)] at ev a5
          simp -zeta only [GL, Bool.false_eq_true, if_false, RL, (lp st45).1]
          refine T_jhas a5 (w := [116, 114, 117, 101]) (by unfold Bytes; decide) (by decide) tt fun h6 st6 a6 => ?_
          have st46 := st45.trans st6
          cases g5 : has [116, 114, 117, 101] s1 with
          | true =>
            rw [g5, if_pos rfl] at ev a6
            simp -zeta only [GL, if_true]
            rw [bldVb]
            exact fin R h6 _ _ _ ev st46 a6 (jv_leaf 1 true 0 (t := []) (by intro x hx; cases hx) rfl)
          | false =>
            rw [g5, if_neg (by simp)] at ev a6
            simp -zeta only [GL, Bool.false_eq_true, if_false, RL, (lp st46).1]
            refine T_jhas a6 (w := [102, 97, 108, 115, 101]) (by unfold Bytes; decide) (by decide) tf fun h7 st7 a7 => ?_
            have st47 := st46.trans st7
            cases g6 : has [102, 97, 108, 115, 101] s1 with
            | true =>
              rw [g6, if_pos rfl] at ev a7
              simp -zeta only [GL, if_true]
              rw [bldV1]
              exact fin R h7 _ _ _ ev st47 a7 (jv_row0 1)
            | false =>
              rw [g6, if_neg (by simp)] at ev a7
              simp -zeta only [GL, Bool.false_eq_true, if_false, RL, (lp st47).1]
              refine T_jnumber a7 (fun c e h' kp => ⟨h', .refl _, kz c (by rw [ev, e]) h' ((Kp.ext (xh.trans x4) (stp_kp st47)).trans kp)⟩) fun v t e cs R8 h8 st8 a8 j8 => ?_
              rw [e] at ev
              exact fin R8 h8 _ _ _ ev (st47.trans st8) a8 j8
      clear_value J3
      simp -zeta only [RL, c3, GL, dd, Bool.false_eq_true, if_false]
      exact q3
end
end Go.Proofs.YtolcmaipjpkidaaGreatDoor
namespace Go.SL
open Go
/-- Two variables that are kept, and how many there are. -/
def PinT (x y N : Nat) (vx vy : Value) (t : Array Value) : Prop := t[x]? = some vx ∧ t[y]? = some vy ∧ t.size = N
theorem PinT.put {x y N : Nat} {vx vy : Value} {a : Act} (k : PinT x y N vx vy a.tmps) {d : Option Nat} (hx : d ≠ some x) (hy : d ≠ some y) (v : Value) : PinT x y N vx vy (a.put d v).tmps := by
  cases d with
  | none => exact k
  | some d =>
    have e : ∀ t, d ≠ t → (a.put (some d) v).tmps[t]? = a.tmps[t]? := fun t ht => by
      show (a.tmps.setIfInBounds d v)[t]? = _
      rw [Array.getElem?_setIfInBounds_ne ht]
    exact ⟨by rw [e x (fun q => hx (by rw [q]))]; exact k.1, by rw [e y (fun q => hy (by rw [q]))]; exact k.2.1, by show (a.tmps.setIfInBounds d v).size = N; simpa using k.2.2⟩
section
variable {x y N : Nat} {vx vy : Value} {P : Program} {ops : Array Oper} {Q : Exit → Act → World → Prop}
/-- What is to be shown where the variables are known to be kept. -/
def pinQ (x y N : Nat) (vx vy : Value) (Q : Exit → Act → World → Prop) : Exit → Act → World → Prop
  | .panic c, a, w => ∀ t, PinT x y N vx vy t → Q (.panic c) { a with tmps := t } w
  | .outgrown, a, w => Q .outgrown a w
  | e, a, w => PinT x y N vx vy a.tmps → Q e a w
theorem pin_op {F : Fence} {n i : Nat} {K K' : Act → World → Prop} {a : Act} {w : World} (hd : ∀ o ∈ ops.toList, o.dst ≠ some x ∧ o.dst ≠ some y) (pn : PinT x y N vx vy a.tmps)
    (m : ∀ a w, PinT x y N vx vy a.tmps → K' a w → K a w) (q : wpOpIn F n P ops (pinQ x y N vx vy Q) i K' a w) : wpOpIn F n P ops Q i K a w := by
  have pq : ∀ c w, pinQ x y N vx vy Q (.panic c) a w → Q (.panic c) a w := fun c w z => z a.tmps pn
  unfold wpOpIn at *
  cases ho : ops[i]? with
  | none => rw [ho] at q; exact m _ _ pn q
  | some o =>
    rw [ho] at q
    have hmem : o ∈ ops.toList := by
      have := (Array.getElem?_eq_some_iff.1 ho)
      obtain ⟨hi, e⟩ := this
      rw [← e]
      simp
    obtain ⟨hx, hy⟩ := hd o hmem
    dsimp only at q ⊢
    split
    · rename_i hw
      rw [if_pos hw] at q
      refine ⟨q.1, ?_⟩
      have q := q.2
      generalize (o.semAt F.round a.eval).run P w = r at *
      cases r with
      | ok x w' =>
        cases x <;> simp only [Oper.uponIn] at q ⊢
        case defer d => exact m _ _ (PinT.put (a := { a with defers := d :: a.defers }) pn hx hy undef) q
        all_goals
          first
            | exact m _ _ (pn.put hx hy _) q
            | exact ⟨q.1, CallsIn.mono q.2 (fun e w'' he => by cases e <;> first | exact m _ _ (pn.put hx hy _) he | exact pq _ _ he | exact he)⟩
            | exact ⟨q.1, RowsIn.mono q.2 (fun _ _ he => m _ _ (pn.put hx hy _) he)⟩
            | exact ⟨q.1, RoundIn.mono q.2 (fun e w'' he => by cases e <;> first | exact m _ _ (pn.put hx hy _) he | exact pq _ _ he | exact he)⟩
            | exact q
      | halt x w' => cases x <;> simp only [Oper.uponIn] at q ⊢ <;> first | exact q | exact pq _ _ q
    · rename_i hw
      rw [if_neg hw] at q
      exact ⟨q.1, m _ _ (pn.put hx hy _) q.2⟩
theorem pin_any {F : Fence} {n : Nat} {md : Region.Mode} (hd : ∀ o ∈ ops.toList, o.dst ≠ some x ∧ o.dst ≠ some y) : ∀ (fuel : Nat) (listed : Array Bool) (a : Act) (w : World), PinT x y N vx vy a.tmps → wpAnyIn F n P md ops (pinQ x y N vx vy Q) fuel listed a w → wpAnyIn F n P md ops Q fuel listed a w
  | 0, listed, a, w, pn, q => ⟨q.1, q.2 pn⟩
  | fuel + 1, listed, a, w, pn, q => ⟨fun e => q.1 e pn, fun j hj => pin_op hd pn (fun a w pn q => pin_any hd fuel _ a w pn q) (q.2 j hj)⟩
end
/-- Straight code that keeps two variables. -/
def strt (x y : Nat) : Code → Bool
  | .skip => true
  | .ret => true
  | .region _ ops _ => ops.toList.all fun o => !(o.dst == some x) && !(o.dst == some y)
  | .seq a b => strt x y a && strt x y b
  | _ => false
theorem strt_ops {x y : Nat} {ops : Array Oper} (h : (ops.toList.all fun o => !(o.dst == some x) && !(o.dst == some y)) = true) : ∀ o ∈ ops.toList, o.dst ≠ some x ∧ o.dst ≠ some y := fun o ho => by
  have := List.all_eq_true.1 h o ho
  simpa using this
theorem vcZ_pin {x y : Nat} {vx vy : Value} {P : Program} {Z : Zt} {N : Nat} {ds : List Deferred} (hm : P.follows .mixedOrders = true) (c : Code) : strt x y c = true → ∀ (Q : Ex → Env → Hp → Prop) (env : Env) (h : Hp) (a : Act) (w : World) (R : Exit → Act → World → Prop),
    h.sat w → Env.ok env N ds a → PinT x y N vx vy a.tmps → vcZ P Z N c Q env h → (∀ c h' a' w', a'.defers = ds → PinT x y N vx vy a'.tmps → h'.sat w' → Fr h h' w w' → Z c h' → R (.panic c) a' w') →
    (∀ e env' h' a' w', h'.sat w' → Env.ok env' N ds a' → PinT x y N vx vy a'.tmps → Fr h h' w w' → Q e env' h' → R e.to a' w') → c.wpIn (Fz none) 0 P R a w := by
  induction c with
  | skip => exact fun _ Q env h a w R s k pn q _ m => wpIn_skip (m .normal env h a w s k pn (Fr.refl _ _) q)
  | ret => exact fun _ Q env h a w R s k pn q _ m => wpIn_ret (m .ret env h a w s k pn (Fr.refl _ _) q)
  | region id ops draw =>
    intro hs Q env h a w R s k pn q hR m
    have hd := strt_ops hs
    cases draw with
    | false =>
      refine wpIn_region_list (vcOpsZ_soundP (x := x) (y := y) (vx := vx) (vy := vy) (ds := ds) (h0 := h) (w0 := w) (fun env' h' a' w' k' pn' s' f' q' => m .normal env' h' a' w' s' k' ⟨pn'.1, pn'.2, k'.1⟩ f' q') (fun env' h' c a' w' k' pn' s' f' z => hR c h' a' w' k'.2.1 ⟨pn'.1, pn'.2, k'.1⟩ s' f' z) _ hd env h a w k ⟨pn.1, pn.2.1⟩ s (Fr.refl _ _) q)
    | true =>
      simp only [vcZ, vcRZ] at q
      split at q
      · rename_i hc
        simp only [Bool.and_eq_true] at hc
        refine wpIn_region_any hm (pin_any hd _ _ _ _ pn ?_)
        refine wpJ_any (B := clos ops.toList) _ [] _ _ _ ?_
        refine vcDZ_sound (ds := ds) hc.1.1.1 hc.1.1.2 hc.1.2 (noDef_spec hc.2) rfl ?_ (fun c env' h' a' w' k' s' f' z t pt => hR c h' { a' with tmps := t } w' k'.2.1 pt s' f' z) (fun c a d v w z => by cases d <;> exact z) (fun env' h' a' w' k' s' f' q' pn' => m .normal env' h' a' w' s' k' pn' f' q') ops.size 0 [] [] _ env h a { w with drawn := w.drawn + 1 } (mrel_nil ops) (clo_nil _ _) k s (Fr.drew _) (fun e he => by cases he) (fun e he => by cases he) q
        intro i hi
        obtain ⟨p, hp, e⟩ := List.mem_filterMap.1 hi
        split at e
        · rename_i hq
          cases e
          have := List.mem_zipIdx_iff_getElem?.1 hp
          simp only [quietI]
          rw [show ops[p.2]? = some p.1 by simpa using this]
          exact hq
        · cases e
      · exact q.elim
  | seq x1 y1 ihx ihy =>
    intro hs Q env h a w R s k pn q hR m
    simp only [strt, Bool.and_eq_true] at hs
    refine wpIn_seq (ihx hs.1 _ env h a w _ s k pn q (fun c h' a' w' k' pn' s' f' z => hR c h' a' w' k' pn' s' f' z) (fun e env' h' a' w' s' k' pn' f' q' => ?_))
    cases e with
    | normal => exact ihy hs.2 Q env' h' a' w' R s' k' pn' q' (fun c h2 a2 w2 k2 pn2 s2 f2 z => hR c h2 a2 w2 k2 pn2 s2 (f'.trans f2) z) (fun e env2 h2 a2 w2 s2 k2 pn2 f2 q2 => m e env2 h2 a2 w2 s2 k2 pn2 (f'.trans f2) q2)
    | exit id => exact m _ _ _ _ _ s' k' pn' f' q'
    | ret => exact m _ _ _ _ _ s' k' pn' f' q'
  | _ => intro hs; cases hs
/-- A call of a function that first makes variables, then defers a closure over two of them, then goes straight on, and may panic anywhere. -/
theorem Cn_deferP {P : Program} {f : FuncId} {fn : Func} {args : List Value} {h : Hp} {K : Value → Hp → Prop} {A C : Code} {rD : Nat} {g : FuncId} {z x y : Nat} {t : TypeId} {p p' : String} {af : Array Edge} (hm : P.follows .mixedOrders = true) (hf : P.funcs[f]? = some fn)
    (hb : fn.body = some (A.seq ((Code.region rD #[mkOp g z x y t p, dfOp z p' af] false).seq C))) (hn : (fn.name == "runtime.NumGoroutine") = false) (hs : args.length ≤ fn.ntmps) (hz : z < fn.ntmps) (hzx : z ≠ x) (hzy : z ≠ y)
    (hg : ∃ gn, P.funcs[g]? = some gn ∧ gn.body.isNone = false ∧ (gn.name == "runtime.NumGoroutine") = false) (hC : strt x y C = true)
    (q : vcZ P (fun _ _ => False) fn.ntmps A (fun e env h1 => match e with
      | .normal => env.lookup z = none ∧ ∃ vx vy, env.lookup x = some (.val vx) ∧ env.lookup y = some (.val vy) ∧
          vcZ P (fun c hp => CnD P g #[vx, vy] (.panicking c) hp fun u' h3 => settle u' = .returning ∧ retL P fn.results.toList (fun v => K v h3) [(x, .val vx), (y, .val vy)] h3) fn.ntmps C
            (fun e env3 hp => match e with
              | .exit _ => False
              | _ => CnD P g #[vx, vy] .returning hp fun u' h3 => settle u' = .returning ∧ retL P fn.results.toList (fun v => K v h3) env3 h3) env h1
      | _ => False) (env0 args) h) : Cn P f args.toArray h K := by
  refine ⟨⟨fn, hf, by simp [hb], hn⟩, fun w s => (callsIn_wide (n := 0)).1 (callsIn_of_wp_marks (F := Fz none) hf hb trivial ?_)⟩
  have hok := env0_ok args (fn.ntmps - args.length)
  rw [Nat.add_sub_cancel' hs] at hok
  have hsz : args.toArray.size = args.length := by simp
  rw [hsz]
  refine wpIn_seq (wpIn_mono (Q := fun e a w' => match e with
      | .panic _ => False
      | e => Exit.then _ _ e a w') ?_ (fun e a w z => by cases e <;> first | exact z | exact z.elim))
  refine vcZ_sound hm A _ _ h _ w _ s hok q (fun c env' h' a' w' k' s' f' z => z) (fun c a d v w z => z) ?_
  intro e env1 h1 a1 w1 s1 k1 f1 q1
  cases e with
  | exit id => exact q1.elim
  | ret => exact q1.elim
  | normal =>
    obtain ⟨hz0, vx, vy, ex, ey, q1⟩ := q1
    have tx : a1.tmps[x]? = some vx := k1.2.2 x _ ex
    have ty : a1.tmps[y]? = some vy := k1.2.2 y _ ey
    refine wpIn_seq ?_
    refine defer_region tx ty (by rw [k1.1]; exact hz) ?_
    have k2 : Env.ok env1 fn.ntmps [{ target := .fn (.func g) #[vx, vy], args := #[] }] { tmps := a1.tmps.set! z (.func (.func g) #[] #[vx, vy]), defers := { target := .fn (.func g) #[vx, vy], args := #[] } :: a1.defers } := by
      refine ⟨by simp [k1.1], by rw [k1.2.1], fun t v ht => ?_⟩
      have hne : z ≠ t := by rintro rfl; rw [hz0] at ht; cases ht
      show (a1.tmps.setIfInBounds z _)[t]? = _
      rw [Array.getElem?_setIfInBounds_ne hne]
      exact k1.2.2 t v ht
    have pn : PinT x y fn.ntmps vx vy (Act.tmps { tmps := a1.tmps.set! z (.func (.func g) #[] #[vx, vy]), defers := { target := .fn (.func g) #[vx, vy], args := #[] } :: a1.defers }) := ⟨k2.2.2 x _ ex, k2.2.2 y _ ey, k2.1⟩
    generalize ({ tmps := a1.tmps.set! z (.func (.func g) #[] #[vx, vy]), defers := { target := .fn (.func g) #[vx, vy], args := #[] } :: a1.defers } : Act) = a2 at *
    show C.wpIn (Fz none) 0 P _ a2 w1
    refine vcZ_pin (x := x) (y := y) (vx := vx) (vy := vy) hm C hC _ env1 h1 a2 w1 _ s1 k2 pn q1 (fun c h' a' w' ds' pn' s' f' z => ?_) (fun e env3 h3 a4 w4 s4 k4 pn4 f4 q4 => ?_)
    · show LeavesInM _ _ _ _ _ _ a'.defers _ _
      refine leave_defer (env := [(x, .val vx), (y, .val vy)]) (N := fn.ntmps) (by simp) hg ⟨pn'.2.2, ds', fun t v ht => ?_⟩ s' (f1.trans f') z
      simp only [List.lookup_cons, List.lookup_nil] at ht
      split at ht
      · rename_i e
        cases ht
        rw [beq_iff_eq] at e
        subst e
        exact pn'.1
      · split at ht
        · rename_i e
          cases ht
          rw [beq_iff_eq] at e
          subst e
          exact pn'.2.1
        · cases ht
    · cases e with
      | exit id => exact q4.elim
      | normal => exact leave_defer (by simp) hg k4 s4 (f1.trans f4) q4
      | ret => exact leave_defer (by simp) hg k4 s4 (f1.trans f4) q4
end Go.SL
namespace Go.Proofs.YtolcmaipjpkidaaGreatDoor
open Go Go.SL Go.Pure Go.Js
/-- What the parser's frame does at its end. -/
theorem CnD_all1 {u : FrameMode} {h : Hp} {R : FrameMode → Hp → Prop} {t0 t1 t5 : Value} {u2 : FrameMode} (e : recM u = (t5, u2)) (ht : t5 = .nilIface ∨ ∃ c, t5 = wrongV c)
    (s : q P h (eqop .eql 20 (.tmp 5) (.const Value.nilIface) t5 Value.nilIface) fun t7 => cnd t7 (R u2 h) (q P h (Instr.typeAssert t5 20 t_json_wrong true) fun t8 => q P h (Instr.extract t8 1) fun t9 => q P h (Instr.extract t8 0) fun t10 => cnd t9 (aw P (Instr.alloc t_json_wrong true (.tuple #[])) (fun t3 h => aw P (Instr.storeAt t_json_wrong t3 t10) (fun _ h => q P emp (Instr.build t_api_Value #[]) fun t11 => q P h (Instr.fieldAt t_json_wrong t3 0) fun t12 => q P h (Instr.loadAt t_api_Code t12) fun t13 => aw P (Instr.storeAt t_api_Value t0 t11) (fun _ h => peek P h (Instr.loadAt t_api_Code t12) = some t13 ∧ peek P h (Instr.fieldAt t_json_wrong t3 0) = some t12 ∧ aw P (Instr.storeAt t_api_Code t1 t13) (fun _ h => R u2 h) h) h) h) h) False)) :
    CnD P n_json_parser_all_1 #[t0, t1] u h R := by
  refine CnD_of (args := [t0, t1]) (d := 5) mixed Tryz.func87 rfl (show 2 ≤ Tryz.f87.ntmps by decide) (by decide) rfl ?_
  have key : vcZ P (fun _ _ => False) Tryz.f87.ntmps (match Tryz.f87.body with
      | some (.seq _ c) => c
      | _ => .skip) (fun e env h' => match e with
      | .exit _ => False
      | _ => R u2 h') (Env.put (env0 [t0, t1]) (some 5) t5) h = (q P h (eqop .eql 20 (.tmp 5) (.const Value.nilIface) t5 Value.nilIface) fun t7 => cnd t7 (R u2 h) (q P h (Instr.typeAssert t5 20 t_json_wrong true) fun t8 => q P h (Instr.extract t8 1) fun t9 => q P h (Instr.extract t8 0) fun t10 => cnd t9 (aw P (Instr.alloc t_json_wrong true (.tuple #[])) (fun t3 h => aw P (Instr.storeAt t_json_wrong t3 t10) (fun _ h => q P emp (Instr.build t_api_Value #[]) fun t11 => q P h (Instr.fieldAt t_json_wrong t3 0) fun t12 => q P h (Instr.loadAt t_api_Code t12) fun t13 => aw P (Instr.storeAt t_api_Value t0 t11) (fun _ h => peek P h (Instr.loadAt t_api_Code t12) = some t13 ∧ peek P h (Instr.fieldAt t_json_wrong t3 0) = some t12 ∧ aw P (Instr.storeAt t_api_Code t1 t13) (fun _ h => R u2 h) h) h) h) h) False)) := by
    rcases ht with rfl | ⟨c, rfl⟩ <;> kernel_rfl
  rw [e]
  exact key.mpr s
theorem nil_nil {h : Hp} {K : Value → Prop} : q P h (eqop .eql 20 (.tmp 5) (.const .nilIface) .nilIface .nilIface) K = K (.bool true) := q_of (by kernel_rfl) K
theorem wr_nil {h : Hp} {K : Value → Prop} (c : Int) : q P h (eqop .eql 20 (.tmp 5) (.const .nilIface) (wrongV c) .nilIface) K = K (.bool false) := q_of (by kernel_rfl) K
theorem wr_as {h : Hp} {K : Value → Prop} (c : Int) : q P h (Instr.typeAssert (wrongV c) 20 t_json_wrong true) K = K (.tuple #[.agg #[.int .i64 c], .bool true]) := q_of (by kernel_rfl) K
theorem wrf0 {h : Hp} {K : Value → Prop} (b : Nat) : q P h (Instr.fieldAt t_json_wrong (.pointer (some ⟨b, 0, none⟩)) 0) K = K (.pointer (some ⟨b, 0, none⟩)) := q_of (by kernel_rfl) K
theorem zr_wrong : zr P t_json_wrong = some (.agg #[.int .i64 0]) := by kernel_rfl
theorem zw_wrong : sz P t_json_wrong = some 1 := by kernel_rfl
/-- Nothing was wrong. -/
theorem T_all1_ok {h : Hp} {R : FrameMode → Hp → Prop} {t0 t1 : Value} (k : R .returning h) : CnD P n_json_parser_all_1 #[t0, t1] .returning h R := by
  refine CnD_all1 (t5 := .nilIface) rfl (.inl rfl) ?_
  rw [nil_nil, cnd_bool, if_pos rfl]
  exact k
/-- What was wrong leaves its code. -/
theorem T_all1_bad {h : Hp} {R : FrameMode → Hp → Prop} {r2 r3 : Nat} {c z : Int} {cs : List Value} (lc : cs.length = 6) (h2 : h r2 = some (.row t_api_Value cs 6 (some (0, 0)))) (h3 : h r3 = some (.row t_api_Code [.int .i64 z] 1 (some (0, 0)))) (n : r2 ≠ r3)
    (k : ∀ h', (∀ x o, x ≠ r2 → x ≠ r3 → h x = some o → h' x = some o) → h' r2 = some (.row t_api_Value (row0 0) 6 (some (0, 0))) → h' r3 = some (.row t_api_Code [.int .i64 c] 1 (some (0, 0))) → R (.panicking [{ v := wrongV c, recovered := true }]) h') :
    CnD P n_json_parser_all_1 #[.pointer (some ⟨r2, 0, none⟩), .pointer (some ⟨r3, 0, none⟩)] (.panicking [pe (wrongV c)]) h R := by
  refine CnD_all1 (t5 := wrongV c) (u2 := .panicking [{ v := wrongV c, recovered := true }]) rfl (.inr ⟨c, rfl⟩) ?_
  rw [wr_nil, cnd_bool, if_neg (by decide), wr_as, ext1, ext0, cnd_bool, if_pos rfl]
  refine aw_allocL [.int .i64 0] zr_wrong rfl fun r5 hr5 => ?_
  refine aw_storeRow (ys := [.int .i64 c]) zw_wrong (Hp.set_same ..) rfl (by intro y hy; rw [List.mem_singleton.1 hy]; rfl) (fun i _ q => Nat.not_lt_zero _ q.2) ?_
  rw [Hp.set_set, bldV0]
  have e5 : (h.set r5 (.row t_json_wrong [.int .i64 c] [Value.int .i64 0].length (some (0, 0)))) r5 = some (.row t_json_wrong [.int .i64 c] 1 (some (0, 0))) := Hp.set_same ..
  have n25 : r2 ≠ r5 := fun q => by rw [q, hr5] at h2; cases h2
  have n35 : r3 ≠ r5 := fun q => by rw [q, hr5] at h3; cases h3
  have e2 : (h.set r5 (.row t_json_wrong [.int .i64 c] [Value.int .i64 0].length (some (0, 0)))) r2 = some (.row t_api_Value cs 6 (some (0, 0))) := by rw [Hp.set_ne _ _ n25]; exact h2
  have e3 : (h.set r5 (.row t_json_wrong [.int .i64 c] [Value.int .i64 0].length (some (0, 0)))) r3 = some (.row t_api_Code [.int .i64 z] 1 (some (0, 0))) := by rw [Hp.set_ne _ _ n35]; exact h3
  have keep : ∀ x o, h x = some o → (h.set r5 (.row t_json_wrong [.int .i64 c] [Value.int .i64 0].length (some (0, 0)))) x = some o := fun x o e => ext_set _ hr5 x o e
  generalize h.set r5 (.row t_json_wrong [.int .i64 c] [Value.int .i64 0].length (some (0, 0))) = H at e5 e2 e3 keep ⊢
  have c5 : H.cell ⟨r5, 0, none⟩ = some (.int .i64 c) := by rw [cell_row e5]; rfl
  rw [wrf0]
  simp -zeta only [RL, c5, GL]
  refine aw_storeRow (ys := row0 0) z_api_Value e2 (by rw [lc]; rfl) (row0_flat 0) (fun i _ q => Nat.not_lt_zero _ q.2) ?_
  have c5' : (H.set r2 (.row t_api_Value (row0 0) 6 (some (0, 0)))).cell ⟨r5, 0, none⟩ = some (.int .i64 c) := by rw [cell_row (by rw [Hp.set_ne _ _ (Ne.symm n25)]; exact e5)]; rfl
  refine ⟨pk_q fun K => by simp only [RL, c5', withVal_some], pk_q fun K => wrf0 r5, ?_⟩
  refine aw_store z_api_Code rfl (put_row (by rw [Hp.set_ne _ _ (Ne.symm n)]; exact e3) (by simp) (by omega) _) ?_
  refine k _ (fun x o a1 a2 e => ?_) ?_ (Hp.set_same ..)
  · rw [Hp.set_ne _ _ a2, Hp.set_ne _ _ a1]; exact keep x o e
  · rw [Hp.set_ne _ _ n]; exact Hp.set_same ..
section
variable {R h : Hp} {K : Value → Hp → Prop} {p : Nat} {b s : List Nat}
theorem strt_all : strt 2 3 (match Tryz.f37.body with
    | some (.seq _ (.seq _ c)) => c
    | _ => .skip) = true := by kernel_rfl
/-- What a text's reading tells: a value, and a code. -/
def resV : Except Int JV → JV × Int
  | .error c => (nulV, c)
  | .ok v => (v, 0)
def parseX (b : List Nat) : Except Int JV := match value 16 b with
  | .error c => .error c
  | .ok (v, r) => if skip r = [] then .ok v else .error 8
theorem T_jall (T : Tab R) (a : PaX R h p b b)
    (k : ∀ cs R' h', Hp.ext R R' → Hp.ext R' h' → Kp [p] h h' → (∀ x o, x ≠ p → h x = some o → R x = none → R' x = none) → JvR R' cs (resV (parseX b)).1 → K (.tuple #[.agg cs.toArray, .int .i64 (resV (parseX b)).2]) h') :
    Cn P n_json_parser_all #[.pointer (some ⟨p, 0, none⟩)] h K := by
  have wn := a.own
  refine Cn_deferP (args := [.pointer (some ⟨p, 0, none⟩)]) (z := 4) (x := 2) (y := 3) (g := n_json_parser_all_1) mixed Tryz.func37 rfl (by decide +kernel) (show 1 ≤ Tryz.f37.ntmps by decide) (by decide) (by decide) (by decide) ⟨Tryz.f87, Tryz.func87, rfl, by decide +kernel⟩ strt_all ?_
  have keyA : ∀ QA : Ex → Env → Hp → Prop, vcZ P (fun _ _ => False) Tryz.f37.ntmps (match Tryz.f37.body with
      | some (.seq a _) => a
      | _ => .skip) QA (env0 [.pointer (some ⟨p, 0, none⟩)]) h = aw P (Instr.alloc t_api_Value true (.tuple #[])) (fun t2 h => aw P (Instr.alloc t_api_Code true (.tuple #[])) (fun t3 h => QA .normal [(3, .val t3), (2, .val t2), (0, .val (.pointer (some ⟨p, 0, none⟩)))] h) h) h := fun QA => by kernel_rfl
  refine (keyA _).mpr ?_
  clear keyA
  refine aw_allocL (row0 0) zr_Jv rfl fun r2 hr2 => ?_
  have x2 := ext_set (.row t_api_Value (row0 0) (row0 0).length (some (0, 0))) hr2
  have row2 : (h.set r2 (.row t_api_Value (row0 0) (row0 0).length (some (0, 0)))) r2 = some (.row t_api_Value (row0 0) 6 (some (0, 0))) := Hp.set_same ..
  generalize h.set r2 (.row t_api_Value (row0 0) (row0 0).length (some (0, 0))) = h1 at x2 row2 ⊢
  refine aw_allocL [.int .i64 0] zr_api_Code rfl fun r3 hr3 => ?_
  have x3 := ext_set (.row t_api_Code [.int .i64 0] [Value.int .i64 0].length (some (0, 0))) hr3
  have row3 : (h1.set r3 (.row t_api_Code [.int .i64 0] [Value.int .i64 0].length (some (0, 0)))) r3 = some (.row t_api_Code [.int .i64 0] 1 (some (0, 0))) := Hp.set_same ..
  have n23 : r2 ≠ r3 := fun q => by rw [q, hr3] at row2; cases row2
  have row2 := x3 _ _ row2
  have nr3 : h r3 = none := x2.none hr3
  have xh := x2.trans x3
  generalize h1.set r3 (.row t_api_Code [.int .i64 0] [Value.int .i64 0].length (some (0, 0))) = H at x3 row3 row2 xh ⊢
  have a2 := a.ext0 xh
  refine ⟨rfl, _, _, rfl, rfl, ?_⟩
  have keyC : ∀ (Z : Zt) (t2 t3 : Value), vcZ P Z Tryz.f37.ntmps (match Tryz.f37.body with
      | some (.seq _ (.seq _ c)) => c
      | _ => .skip) (fun e env3 hp => match e with
        | .exit _ => False
        | _ => CnD P n_json_parser_all_1 #[t2, t3] .returning hp fun u' h3 => settle u' = .returning ∧ retL P Tryz.f37.results.toList (fun v => K v h3) env3 h3) [(3, .val t3), (2, .val t2), (0, .val (.pointer (some ⟨p, 0, none⟩)))] H =
    CnZ P Z n_json_parser_value #[.pointer (some ⟨p, 0, none⟩), .int .i64 1] H fun t6 h => aw P (Instr.storeAt t_api_Value t2 t6) (fun _ h => CnZ P Z n_json_parser_skip #[.pointer (some ⟨p, 0, none⟩)] h fun t8 h => q P emp (nilCk (.pointer (some ⟨p, 0, none⟩))) fun t11 => q P h (Instr.fieldAt t_json_parser t11 1) fun t12 => q P h (Instr.loadAt t_int t12) fun t13 => q P emp (nilCk (.pointer (some ⟨p, 0, none⟩))) fun t15 => q P h (Instr.fieldAt t_json_parser t15 0) fun t16 => q P h (Instr.loadAt t_Sl_uint8 t16) fun t17 => q P h (Builtin.len_ #[t_Sl_uint8] t_int #[t17]) fun t18 => q P h (eqop .eql t_int (.tmp 13) (.tmp 18) t13 t18) fun t19 => CnZ P Z n_json_parser_must #[.pointer (some ⟨p, 0, none⟩), t19] h fun t20 h => q P h (Instr.loadAt t_api_Value t2) fun t21 => aw P (Instr.storeAt t_api_Value t2 t21) (fun _ h => aw P (Instr.storeAt t_api_Code t3 (.int .i64 0)) (fun _ h => CnD P n_json_parser_all_1 #[t2, t3] .returning h fun u' h3 => settle u' = .returning ∧ (q P h3 ((asAddr t2).bind (loadVar t_api_Value)) fun r0 => q P h3 ((asAddr t3).bind (loadVar t_api_Code)) fun r1 => K (.tuple #[r0, r1]) h3)) h) h) h := fun Z t2 t3 => by kernel_rfl
  refine (keyC _ _ _).mpr ?_
  clear keyC
  have n2 : r2 ∉ [p] := fun q => by
    obtain ⟨o, ho⟩ := wn.kn p (by simp)
    rw [List.mem_singleton.1 q, ho] at hr2; cases hr2
  have n3 : r3 ∉ [p] := fun q => by
    obtain ⟨o, ho⟩ := wn.kn p (by simp)
    rw [List.mem_singleton.1 q, ho] at nr3; cases nr3
  have cd : ∀ {h : Hp} {z : Int} {F : Value → Prop}, h r3 = some (.row t_api_Code [.int .i64 z] 1 (some (0, 0))) → F (.int .i64 z) → q P h ((asAddr (.pointer (some ⟨r3, 0, none⟩))).bind (loadVar t_api_Code)) F := fun {h z F} e f => by
    show q P h (Instr.loadAt t_api_Code (.pointer (some ⟨r3, 0, none⟩))) F
    rw [q_ld u_api_Code rfl, cell_row e]
    exact f
  have bad : ∀ (c : Int) (h' : Hp) (cs : List Value), resV (parseX b) = (nulV, c) → cs.length = 6 → h' r2 = some (.row t_api_Value cs 6 (some (0, 0))) → h' r3 = some (.row t_api_Code [.int .i64 0] 1 (some (0, 0))) → Kp [p] h h' →
      CnD P n_json_parser_all_1 #[.pointer (some ⟨r2, 0, none⟩), .pointer (some ⟨r3, 0, none⟩)] (.panicking [pe (wrongV c)]) h' fun u' h3 => settle u' = .returning ∧ retL P Tryz.f37.results.toList (fun v => K v h3) [(2, .val (.pointer (some ⟨r2, 0, none⟩))), (3, .val (.pointer (some ⟨r3, 0, none⟩)))] h3 := fun c h' cs er lc e2 e3 kp => by
    refine T_all1_bad lc e2 e3 n23 fun h'' keep e2' e3' => ⟨rfl, ?_⟩
    have key : retL P Tryz.f37.results.toList (fun v => K v h'') [(2, .val (.pointer (some ⟨r2, 0, none⟩))), (3, .val (.pointer (some ⟨r3, 0, none⟩)))] h'' = (q P h'' ((asAddr (.pointer (some ⟨r2, 0, none⟩))).bind (loadVar t_api_Value)) fun r0 => q P h'' ((asAddr (.pointer (some ⟨r3, 0, none⟩))).bind (loadVar t_api_Code)) fun r1 => K (.tuple #[r0, r1]) h'') := by kernel_rfl
    rw [key, q_resRow (ys := row0 0) u_api_Value rfl z_api_Value e2']
    refine cd e3' ?_
    have kp' : Kp [p] h h'' := fun x o hx e => keep x o (fun q => by rw [q, hr2] at e; cases e) (fun q => by rw [q, nr3] at e; cases e) (kp x o hx e)
    have := k (row0 0) R h'' (.refl _) (fun x o e => kp' x o (fun q => by rw [List.mem_singleton.1 q, wn.dis p (by simp)] at e; cases e) (wn.sub x o e)) kp' (fun x o _ _ e => e) (by rw [er]; exact jv_row0 0)
    rw [er] at this
    exact this
  have V : ValueOk p b 16 := @T_value 16 (Nat.le_refl _) p b
  have hpx : parseX b = (match value 16 b with
    | .error c => .error c
    | .ok (v, r) => if skip r = [] then .ok v else .error 8) := rfl
  have kpH : ∀ {h' : Hp}, Kp [p] H h' → Kp [p] h h' := fun kp => Kp.ext xh kp
  rw [show (1 : Int) = 17 - ((16 : Nat) : Int) from rfl]
  refine V T a2 (fun c e h' kp => bad c h' (row0 0) (by rw [hpx, e]; rfl) rfl (kp _ _ n2 row2) (kp _ _ n3 row3) (kpH kp)) fun v r e cs R' h3 st3 a3 j3 => ?_
  rw [e] at hpx
  dsimp only at hpx
  have e32 := st3.keep _ _ n2 row2
  have e33 := st3.keep _ _ n3 row3
  refine aw_storeRow (ys := cs) (by rw [j3.len]; exact z_api_Value) e32 (by rw [j3.len]; rfl) j3.flat (fun i _ q => Nat.not_lt_zero _ q.2) ?_
  have Rr2 : R' r2 = none := st3.frR r2 _ n2 row2 (wn.sub.none hr2)
  have hp2 : p ≠ r2 := fun q => n2 (by rw [q]; simp)
  obtain ⟨op, hop⟩ := a3.own.kn p (by simp)
  have ow4 : Own R' (h3.set r2 (.row t_api_Value cs 6 (some (0, 0)))) [p] := ⟨fun x o e => by rw [Hp.set_ne _ _ (by rintro rfl; rw [Rr2] at e; cases e)]; exact a3.own.sub x o e, a3.own.dis, fun x hx => by rw [List.mem_singleton.1 hx, Hp.set_ne _ _ hp2]; exact ⟨op, hop⟩⟩
  have a4 : PaX R' (h3.set r2 (.row t_api_Value cs 6 (some (0, 0)))) p b r := a3.same ow4 (Hp.set_ne _ _ hp2)
  have e42 : (h3.set r2 (.row t_api_Value cs 6 (some (0, 0)))) r2 = some (.row t_api_Value cs 6 (some (0, 0))) := Hp.set_same ..
  have e43 : (h3.set r2 (.row t_api_Value cs 6 (some (0, 0)))) r3 = some (.row t_api_Code [.int .i64 0] 1 (some (0, 0))) := by rw [Hp.set_ne _ _ (Ne.symm n23)]; exact e33
  have kp4 : Kp [p] h (h3.set r2 (.row t_api_Value cs 6 (some (0, 0)))) := fun x o hx e => by
    rw [Hp.set_ne _ _ (by rintro rfl; rw [hr2] at e; cases e)]
    exact st3.keep x o hx (xh x o e)
  generalize h3.set r2 (.row t_api_Value cs 6 (some (0, 0))) = h4 at ow4 a4 e42 e43 kp4 ⊢
  refine T_jskip a4 fun h5 st5 a5 => ?_
  have e52 := st5.keep _ _ n2 e42
  have e53 := st5.keep _ _ n3 e43
  have kp5 := kp4.trans (stp_kp st5)
  obtain ⟨i, pa, hi, es⟩ := a5
  obtain ⟨bv, c0, c1, rb, bb, lb, _⟩ := pa.cells
  have rh := pa.own.rn rb
  obtain ⟨av, cv, rfl, hcv⟩ := rh.shape
  have ei : (((i : Nat) : Int) == ((b.length : Nat) : Int)) = decide (skip r = []) := by
    rw [beqN, es, Bool.eq_iff_iff, beq_iff_eq, decide_eq_true_eq, List.drop_eq_nil_iff]
    omega
  simp -zeta only [GL, RL, jpf0, jpf1, c0, c1, ei]
  refine T_jmust (fun q => bad 8 h5 cs ?_ j3.len e52 e53 kp5) fun q => ?_
  · rw [hpx, if_neg (of_decide_eq_false q)]; rfl
  rw [if_pos (of_decide_eq_true q)] at hpx
  rw [q_ldRow (ys := cs) u_api_Value rfl (by rw [j3.len]; exact z_api_Value) e52]
  refine aw_storeRow (ys := cs) (by rw [j3.len]; exact z_api_Value) e52 rfl j3.flat (fun i _ q => Nat.not_lt_zero _ q.2) ?_
  rw [Hp.set_id e52]
  refine aw_store z_api_Code rfl (put_row e53 (by simp) (by omega) _) ?_
  rw [show ([Value.int .i64 0].set 0 (.int .i64 0)) = [.int .i64 0] from rfl, Hp.set_id e53]
  refine T_all1_ok ⟨rfl, ?_⟩
  rw [q_resRow (ys := cs) u_api_Value rfl (by rw [j3.len]; exact z_api_Value) e52]
  refine cd e53 ?_
  have := k cs R' h5 st3.ext pa.own.sub kp5 (fun x o hx e e2 => st3.frR x o (by simpa using hx) (xh x o e) e2) (by rw [hpx]; exact j3)
  rw [hpx] at this
  exact this
/-- A text is read. -/
theorem T_Parse {S : List Nat} {v : Value} {l : List Nat} (T : Tab R) (w : Own R h S) (r : Rn R .u8 v l) (bl : Bytes l)
    (k : ∀ cs R' h', Stp R h R' h' S S → JvR R' cs (resV (parse l)).1 → K (.tuple #[.agg cs.toArray, .int .i64 (resV (parse l)).2]) h') : Cn P n_json_Parse #[v] h K := by
  refine Cn_wk (F_json_Parse ?_)
  unfold s_json_Parse
  refine aw_allocL (row0 0) zr_Jv rfl fun r2 hr2 => ?_
  have x2 := ext_set (.row t_api_Value (row0 0) (row0 0).length (some (0, 0))) hr2
  have row2 : (h.set r2 (.row t_api_Value (row0 0) (row0 0).length (some (0, 0)))) r2 = some (.row t_api_Value (row0 0) 6 (some (0, 0))) := Hp.set_same ..
  have hset : ∀ o, (h.set r2 (.row t_api_Value (row0 0) (row0 0).length (some (0, 0)))).set r2 o = h.set r2 o := fun o => Hp.set_set ..
  obtain ⟨av, cv, rfl, hcv⟩ := r.shape
  have d1 : decide ((65536 : Int) < ((l.length : Nat) : Int)) = decide (65536 < l.length) := ltN 65536 _
  simp -zeta only [RL, GL, d1]
  have hp : parse l = if 65536 < l.length then .error 3 else parseX l := rfl
  by_cases g : 65536 < l.length
  · rw [if_pos g] at hp
    rw [if_pos (decide_eq_true g), bldV0]
    refine aw_storeRow (ys := row0 0) z_api_Value row2 rfl (row0_flat 0) (fun i _ q => Nat.not_lt_zero _ q.2) ?_
    rw [hset, q_resRow (ys := row0 0) u_api_Value rfl z_api_Value (Hp.set_same ..)]
    have := k (row0 0) R _ (Stp.ext0 w x2) (by rw [hp]; exact jv_row0 0)
    rw [hp] at this
    exact ⟨_, .refl _, this⟩
  · rw [if_neg g] at hp
    rw [if_neg (by simpa using g)]
    have bld : ∀ {h : Hp} {F : Value → Prop} (a : Option Addr) (n c : Nat), q P h (Instr.build t_json_parser #[(0, .slice a n c)]) F = F (.agg #[.slice a n c, .int .i64 0]) := fun {h F} a n c => q_of (by kernel_rfl) F
    rw [bld]
    refine aw_box fun p hp1 => ?_
    have np : h p = none := x2.none hp1
    have xp := ext_set (.row t_json_parser (Value.agg #[.slice av l.length cv, .int .i64 0]).cells.toList (Value.agg #[.slice av l.length cv, .int .i64 0]).cells.size (some (0, 0))) hp1
    have rowp : ((h.set r2 (.row t_api_Value (row0 0) (row0 0).length (some (0, 0)))).set p (.row t_json_parser (Value.agg #[.slice av l.length cv, .int .i64 0]).cells.toList (Value.agg #[.slice av l.length cv, .int .i64 0]).cells.size (some (0, 0)))) p = some (.row t_json_parser [.slice av l.length cv, .int .i64 ((0 : Nat) : Int)] 2 (some (0, 0))) := Hp.set_same ..
    have n2p : r2 ≠ p := fun q => by have z := hp1; rw [← q, Hp.set_same] at z; cases z
    have rowx := xp _ _ row2
    have xa := x2.trans xp
    generalize (h.set r2 (.row t_api_Value (row0 0) (row0 0).length (some (0, 0)))).set p (.row t_json_parser (Value.agg #[.slice av l.length cv, .int .i64 0]).cells.toList (Value.agg #[.slice av l.length cv, .int .i64 0]).cells.size (some (0, 0))) = h1 at xp rowp rowx xa ⊢
    have pa : PaX R h1 p l l := ⟨0, ⟨_, ⟨w.sub.trans xa, fun x hx => by rw [List.mem_singleton.1 hx]; exact w.sub.none np, fun x hx => by rw [List.mem_singleton.1 hx]; exact ⟨_, rowp⟩⟩, rowp, r, bl, by omega, by omega⟩, by omega, rfl⟩
    refine T_jall T pa fun cs R' h2 xR sub kp fr j => ?_
    rw [ext0, ext1]
    have e2 := kp r2 _ (by simpa using n2p) rowx
    refine aw_storeRow (ys := cs) (by rw [j.len]; exact z_api_Value) e2 (by rw [j.len]; rfl) j.flat (fun i _ q => Nat.not_lt_zero _ q.2) ?_
    rw [q_resRow (ys := cs) u_api_Value rfl (by rw [j.len]; exact z_api_Value) (Hp.set_same ..)]
    have Rr2 : R' r2 = none := fr r2 _ n2p rowx (w.sub.none hr2)
    have kpx : ∀ x o, h x = some o → (h2.set r2 (.row t_api_Value cs 6 (some (0, 0)))) x = some o := fun x o e => by
      rw [Hp.set_ne _ _ (by rintro rfl; rw [hr2] at e; cases e)]
      exact kp x o (fun q => by rw [List.mem_singleton.1 q, np] at e; cases e) (xa x o e)
    have frx : ∀ x o, h x = some o → R x = none → R' x = none := fun x o e e2 => fr x o (fun q => by rw [q, np] at e; cases e) (xa x o e) e2
    have := k cs R' (h2.set r2 (.row t_api_Value cs 6 (some (0, 0)))) ⟨xR, fun x o _ e => kpx x o e, fun x o hx _ q => hx q, fun x o _ e e2 => frx x o e e2, fun x o e => by
      rw [Hp.set_ne _ _ (by rintro rfl; rw [Rr2] at e; cases e)]
      exact sub x o e, fun x hx => by
      obtain ⟨o, ho⟩ := w.kn x hx
      exact frx x o ho (w.dis x hx), fun x hx => by
      obtain ⟨o, ho⟩ := w.kn x hx
      exact ⟨o, kpx x o ho⟩⟩ (by rw [hp]; exact j)
    rw [hp] at this
    exact ⟨_, .refl _, this⟩
end
end Go.Proofs.YtolcmaipjpkidaaGreatDoor
namespace Go.Proofs.YtolcmaipjpkidaaGreatDoor
open Go Go.SL Go.Pure Go.Tar
/-- An entry that is told: its bytes lie in memory. -/
structure EntR (R : Hp) (e : Ent) (dv : Value) : Prop where
  rd : Rn R .u8 dv e.data
  bn : Bytes e.name
  bl : Bytes e.link
  bd : Bytes e.data
  ln : e.name.length ≤ 9223372036854775807
  ll : e.link.length ≤ 9223372036854775807
  ld : e.data.length ≤ 9223372036854775807
theorem EntR.mono {R R' : Hp} {e : Ent} {dv : Value} (a : EntR R e dv) (x : Hp.cle R R') : EntR R' e dv := ⟨a.rd.mono x, a.bn, a.bl, a.bd, a.ln, a.ll, a.ld⟩
section
variable {h : Hp} {K : Value → Hp → Prop}
end
end Go.Proofs.YtolcmaipjpkidaaGreatDoor
namespace Go.Tar
open Go.Pure
/-- So many digits of base ten. -/
def digs : Nat → Nat → List Nat
  | 0, _ => []
  | L + 1, n => digs L (n / 10) ++ [n % 10]
theorem digs_len : ∀ L n, (digs L n).length = L
  | 0, _ => rfl
  | L + 1, n => by rw [digs, List.length_append, digs_len]; rfl
theorem digs_dig : ∀ L n, n < 10 ^ (L + 1) → (L = 0 ∨ 10 ^ L ≤ n) → dig 10 n = digs (L + 1) n
  | 0, n, h, _ => by
    rw [dig_one (by simpa using h)]
    simp [digs]
    omega
  | L + 1, n, h, h2 => by
    have h2 : 10 ^ (L + 1) ≤ n := h2.resolve_left (by omega)
    have p : 10 ≤ n := Nat.le_trans (by rw [Nat.pow_succ]; have := Nat.pow_pos (n := L) (show 0 < 10 by decide); omega) h2
    rw [dig_step (by decide) p, digs, digs_dig L (n / 10) (by rw [Nat.div_lt_iff_lt_mul (by decide), ← Nat.pow_succ]; exact h) (.inr (by rw [Nat.le_div_iff_mul_le (by decide), ← Nat.pow_succ]; exact h2))]
theorem digs_get : ∀ L n i, i < L → (digs L n)[i]? = some (n / 10 ^ (L - 1 - i) % 10)
  | 0, n, i, h => by omega
  | L + 1, n, i, h => by
    rw [digs]
    rcases Nat.lt_or_ge i L with q | q
    · rw [List.getElem?_append_left (by rw [digs_len]; exact q), digs_get L (n / 10) i q, Nat.div_div_eq_div_mul, Nat.mul_comm, ← Nat.pow_succ]
      congr 4
      omega
    · obtain rfl : i = L := by omega
      rw [List.getElem?_append_right (by rw [digs_len]; omega), digs_len, Nat.sub_self]
      simp
/-- How many bits a byte has. -/
def b8 (x : Nat) : Nat := if x < 1 then 0 else if x < 2 then 1 else if x < 4 then 2 else if x < 8 then 3 else if x < 16 then 4 else if x < 32 then 5 else if x < 64 then 6 else if x < 128 then 7 else 8
theorem b8_ok {x : Nat} (h1 : 1 ≤ x) (h2 : x < 256) : 1 ≤ b8 x ∧ b8 x ≤ 8 ∧ x < 2 ^ b8 x ∧ 2 ^ (b8 x - 1) ≤ x := by
  unfold b8
  repeat' split
  all_goals first | omega | (refine ⟨by decide, by decide, ?_, ?_⟩ <;> simp <;> omega)
def len8 : List Nat := (List.range 256).map b8
theorem len8_get {x : Nat} (h : x < 256) : len8.getD x 0 = b8 x := by
  rw [len8, List.getD_eq_getElem?_getD, List.getElem?_map, List.getElem?_range h]; rfl
/-- Two digits of each number below 100. -/
def tab2 : List Nat := (List.range 100).flatMap fun x => [48 + x / 10, 48 + x % 10]
theorem tab2_len : tab2.length = 200 := by decide +kernel
theorem tab2_get : ∀ x, x < 100 → tab2.getD (2 * x) 0 = 48 + x / 10 ∧ tab2.getD (2 * x + 1) 0 = 48 + x % 10 := by decide +kernel
theorem tab2_b : Bytes tab2 := by unfold Bytes; decide +kernel
def d36 : List Nat := [48, 49, 50, 51, 52, 53, 54, 55, 56, 57, 97, 98, 99, 100, 101, 102, 103, 104, 105, 106, 107, 108, 109, 110, 111, 112, 113, 114, 115, 116, 117, 118, 119, 120, 121, 122]
theorem small1 : ∀ n, n < 10 → (d36.take (n + 1)).drop n = asc (dig 10 n) := by decide +kernel
theorem small2 : ∀ n, n < 100 → 10 ≤ n → (tab2.take (n * 2 + 2)).drop (n * 2) = asc (dig 10 n) := by decide +kernel
end Go.Tar
namespace Go.Proofs.YtolcmaipjpkidaaGreatDoor
open Go Go.SL Go.Pure Go.Tar
theorem txd : tx_617ef5 = strL d36 := by kernel_rfl
theorem tx2 : tx_0db94c = strL tab2 := by kernel_rfl
theorem tx8 : tx_97c9fe = strL len8 := by kernel_rfl
theorem len8_b : Bytes len8 := by unfold Bytes; decide +kernel
theorem len8_len : len8.length = 256 := by decide +kernel
/-- The powers of ten in memory. -/
def Pow (h : Hp) : Prop := ∀ i : Nat, i < 20 → h.cell ⟨gl_internal_strconv_uint64pow10, i, none⟩ = some (.int .u64 ((10 ^ i : Nat) : Int))
theorem Pow.mono {h h' : Hp} (a : Pow h) (x : Hp.cle h h') : Pow h' := fun i hi => x _ _ (a i hi)
theorem tm100 (a : Nat) : (a : Int).tmod 100 = ((a % 100 : Nat) : Int) := by rw [Int.tmod_eq_emod_of_nonneg (by omega)]; omega
theorem tm10k (a : Nat) : (a : Int).tmod 10000 = ((a % 10000 : Nat) : Int) := by rw [Int.tmod_eq_emod_of_nonneg (by omega)]; omega
theorem td100 (a : Nat) : (a : Int).tdiv 100 = ((a / 100 : Nat) : Int) := by rw [Int.tdiv_eq_ediv_of_nonneg (by omega)]; omega
theorem td10k (a : Nat) : (a : Int).tdiv 10000 = ((a / 10000 : Nat) : Int) := by rw [Int.tdiv_eq_ediv_of_nonneg (by omega)]; omega
/-- A part of an array. -/
theorem pk_boundsALH {h : Hp} (n : Nat) (k k' : IntKind) (lo hi : Nat) (h1 : lo ≤ hi) (h2 : hi ≤ n) : peek P h (Instr.sliceBounds false n n (some (.int k lo)) (some (.int k' hi)) none) = some (lo, hi, n) := by
  have e1 : peek P h (Instr.sliceBound (.int k' (hi : Int)) n .sliceAlen) = some hi := pk_bound k' hi n h2 _
  have e2 : peek P h (Instr.sliceBound (.int k (lo : Int)) hi .sliceB) = some lo := pk_bound k lo hi h1 _
  unfold Instr.sliceBounds
  simp only [if_true, Option.isSome_none, Bool.false_eq_true, if_false, pure_bind, pk_bind e1, pk_bind e2]
  rfl
theorem q_slArrLH {h : Hp} {t e s n : Nat} {K : Value → Prop} (ht : P.underlying t = some (.array n e)) (hs : sz P e = some s) (a : Addr) (k k' : IntKind) (lo hi : Nat) (h1 : lo ≤ hi) (h2 : hi ≤ n) (h3 : lo < n) :
    q P h (Instr.sliceAt t (.pointer (some a)) (some (.int k lo)) (some (.int k' hi)) none) K = K (.slice (some (a.add (lo * s))) (hi - lo) (n - lo)) := q_of (by
  show peek P h (Sem.bind (underlying t) _) = _
  rw [peek_bind, pk_und ht, Option.bind_some]
  show peek P h (Sem.bind (Instr.sliceBounds false n n _ _ none) _) = _
  rw [peek_bind, pk_boundsALH n k k' lo hi h1 h2, Option.bind_some]
  show peek P h (Sem.bind (sizeOf e) _) = _
  rw [peek_bind, pk_size hs]
  show some (Value.slice (some (if n = lo then a else a.add (lo * s))) (hi - lo) (n - lo)) = _
  rw [if_neg (by omega)]) K
/-- Digits of a number, from a place on. -/
def Inv10 (n L t u : Nat) (cs : List Value) : Prop := cs.length = 24 ∧ u = n / 10 ^ (L - t) ∧ t ≤ L ∧ ∀ i, t ≤ i → i < L → cs[1 + i]? = some (.int .u8 ((48 + n / 10 ^ (L - 1 - i) % 10 : Nat) : Int))
theorem Inv10.step {n L t u : Nat} {cs : List Value} (a : Inv10 n L (t + 1) u cs) (hL : L ≤ 20) : Inv10 n L t (u / 10) (cs.set (1 + t) (.int .u8 ((48 + u % 10 : Nat) : Int))) := by
  obtain ⟨a1, a2, a3, a4⟩ := a
  refine ⟨by rw [List.length_set]; exact a1, ?_, by omega, fun i h1 h2 => ?_⟩
  · rw [a2, Nat.div_div_eq_div_mul, ← Nat.pow_succ]
    congr 2
    omega
  · rw [List.getElem?_set]
    by_cases q : i = t
    · subst q
      rw [if_pos rfl, if_pos (by omega), a2]
      have : L - 1 - i = L - (i + 1) := by omega
      rw [this]
    · rw [if_neg (by omega)]
      exact a4 i (by omega) h2
theorem Inv10.step2 {n L t u : Nat} {cs : List Value} (a : Inv10 n L (t + 2) u cs) (hL : L ≤ 20) : Inv10 n L t (u / 100) ((cs.set (1 + (t + 1)) (.int .u8 ((48 + u % 100 % 10 : Nat) : Int))).set (1 + t) (.int .u8 ((48 + u % 100 / 10 : Nat) : Int))) := by
  have := Inv10.step (Inv10.step (t := t + 1) a hL) hL
  have e1 : u / 10 / 10 = u / 100 := by omega
  have e2 : u % 10 = u % 100 % 10 := by omega
  have e3 : u / 10 % 10 = u % 100 / 10 := by omega
  rwa [e1, e2, e3] at this
section
variable {h : Hp} {K : Value → Hp → Prop}
end
theorem set_id {h : Hp} {b : Nat} {o : AObj} (e : h b = some o) : h.set b o = h := by
  funext x
  by_cases q : x = b
  · subst q; rw [Hp.set_same, e]
  · rw [Hp.set_ne _ _ q]
section
variable {h : Hp} {K : Value → Hp → Prop}
theorem T_small {n : Nat} (hn : n < 100) (k : K (.string (strL (asc (dig 10 n)))) h) : Cn P n_strconv_small #[.int .i64 (n : Int)] h K := by
  refine F_strconv_small ?_
  unfold s_strconv_small
  have d1 : decide ((n : Int) < 10) = decide (n < 10) := by rw [decide_eq_decide]; omega
  have w1 : IntKind.i64.wrap ((n : Int) + 1) = ((n + 1 : Nat) : Int) := by rw [wi64 (by omega) (by omega)]; omega
  have w2 : IntKind.i64.wrap ((n : Int) * 2) = ((n * 2 : Nat) : Int) := by rw [wi64 (by omega) (by omega)]; omega
  have w3 : IntKind.i64.wrap (((n * 2 : Nat) : Int) + 2) = ((n * 2 + 2 : Nat) : Int) := by rw [wi64 (by omega) (by omega)]; omega
  simp -zeta only [GL, d1, w1, w2, w3, txd, tx2]
  by_cases g : n < 10
  · rw [if_pos (decide_eq_true g), q_slSt u_string d36 (by omega) (by show n + 1 ≤ 36; omega), small1 n g]
    exact k
  · rw [if_neg (by simpa using g), q_slSt u_string tab2 (by omega) (by rw [tab2_len]; omega), small2 n hn (by omega)]
    exact k
theorem zr_24 : zr P t_24_uint8 = some (.agg (List.replicate 24 (Value.int .u8 0)).toArray) := by kernel_rfl
theorem u_24 : P.underlying t_24_uint8 = some (.array 24 t_uint8) := by kernel_rfl
end
theorem log_okW : ∀ m, m < 57 → 1 ≤ m → m * 78913 / 262144 ≤ 16 ∧ 2 ^ m ≤ 10 ^ (m * 78913 / 262144 + 1) ∧ 10 ^ (m * 78913 / 262144 - 1) ≤ 2 ^ (m - 1) := by decide +kernel
section
variable {h : Hp} {K : Value → Hp → Prop}
theorem T_Len64W {n : Nat} (h1 : 1 ≤ n) (h2 : n < 72057594037927936) (k : ∀ m : Nat, 1 ≤ m → m ≤ 56 → n < 2 ^ m → 2 ^ (m - 1) ≤ n → K (.int .i64 (m : Int)) h) : Cn P n_bits_Len64 #[.int .u64 (n : Int)] h K := by
  refine F_bits_Len64 ?_
  unfold s_bits_Len64
  intro J2
  have q2 : ∀ x0 s0 : Nat, 1 ≤ x0 → x0 < 4294967296 → s0 ≤ 32 → n / 2 ^ s0 = x0 → J2 (.int .u64 (x0 : Int)) (.int .i64 (s0 : Int)) h := by
    intro x0 s0 hx0 hx02 hs0 hn0
    simp -zeta only [J2]
    clear J2
    intro J5
    have q5 : ∀ x s : Nat, 1 ≤ x → x < 65536 → s ≤ 48 → n / 2 ^ s = x → J5 (.int .u64 (x : Int)) (.int .i64 (s : Int)) h := by
      intro x s hx hx2 hs hn
      simp -zeta only [J5]
      clear J5
      intro J8
      have q8 : ∀ y t : Nat, 1 ≤ y → y < 256 → t ≤ 56 → n / 2 ^ t = y → J8 (.int .u64 (y : Int)) (.int .i64 (t : Int)) h := by
        intro y t hy hy2 ht hn
        simp -zeta only [J8]
        clear J8
        obtain ⟨b1, b2, b3, b4⟩ := b8_ok hy hy2
        have w1 : IntKind.u8.wrap (y : Int) = (y : Int) := wu8i (by omega) (by omega)
        simp -zeta only [GL, RL, w1, tx8]
        rw [q_idxSt u_string len8_b (by rw [len8_len]; exact hy2), len8_get hy2]
        have w2 : IntKind.i64.wrap ((b8 y : Nat) : Int) = ((b8 y : Nat) : Int) := wi64 (by omega) (by omega)
        have w3 : IntKind.i64.wrap ((t : Int) + ((b8 y : Nat) : Int)) = ((t + b8 y : Nat) : Int) := by rw [wi64 (by omega) (by omega)]; omega
        simp -zeta only [GL, RL, w2, w3]
        have n1 : n < 2 ^ (t + b8 y) := by
          rw [Nat.pow_add, Nat.mul_comm]
          exact (Nat.div_lt_iff_lt_mul (Nat.pow_pos (by decide))).1 (by rw [hn]; exact b3)
        have n2 : 2 ^ (t + b8 y - 1) ≤ n := by
          have e : t + b8 y - 1 = (b8 y - 1) + t := by omega
          rw [e, Nat.pow_add]
          exact (Nat.le_div_iff_mul_le (Nat.pow_pos (by decide))).1 (by rw [hn]; exact b4)
        refine k _ (by omega) ?_ n1 n2
        have : 2 ^ (t + b8 y - 1) < 2 ^ 56 := Nat.lt_of_le_of_lt n2 h2
        have := (Nat.pow_lt_pow_iff_right (by decide)).1 this
        omega
      clear_value J8
      have d1 : decide ((256 : Int) ≤ (x : Int)) = decide (256 ≤ x) := by rw [decide_eq_decide]; omega
      have e8 : (x : Int).fdiv (2 ^ min (8 : Int).toNat IntKind.u64.bits) = ((x / 256 : Nat) : Int) := by
        have : (2 : Int) ^ min (8 : Int).toNat IntKind.u64.bits = 256 := by decide
        rw [this, Int.fdiv_eq_ediv_of_nonneg _ (by decide)]
        omega
      have w4 : IntKind.i64.wrap ((s : Int) + 8) = ((s + 8 : Nat) : Int) := by rw [wi64 (by omega) (by omega)]; omega
      simp -zeta (disch := decide) only [GL, RL, d1, e8, w4]
      by_cases g : 256 ≤ x
      · rw [if_pos (decide_eq_true g)]
        refine q8 (x / 256) (s + 8) (by omega) (by omega) (by omega) ?_
        rw [Nat.pow_add, ← Nat.div_div_eq_div_mul, hn]
      · rw [if_neg (by simp; omega)]
        exact q8 x s hx (by omega) (by omega) hn
    clear_value J5
    have d1 : decide ((65536 : Int) ≤ (x0 : Int)) = decide (65536 ≤ x0) := by rw [decide_eq_decide]; omega
    have e8 : (x0 : Int).fdiv (2 ^ min (16 : Int).toNat IntKind.u64.bits) = ((x0 / 65536 : Nat) : Int) := by
      have : (2 : Int) ^ min (16 : Int).toNat IntKind.u64.bits = 65536 := by decide
      rw [this, Int.fdiv_eq_ediv_of_nonneg _ (by decide)]
      omega
    have w4 : IntKind.i64.wrap ((s0 : Int) + 16) = ((s0 + 16 : Nat) : Int) := by rw [wi64 (by omega) (by omega)]; omega
    simp -zeta (disch := decide) only [GL, RL, d1, e8, w4]
    by_cases g : 65536 ≤ x0
    · rw [if_pos (decide_eq_true g)]
      refine q5 (x0 / 65536) (s0 + 16) (by omega) (by omega) (by omega) ?_
      rw [Nat.pow_add, ← Nat.div_div_eq_div_mul, hn0]
    · rw [if_neg (by simp; omega)]
      exact q5 x0 s0 hx0 (by omega) (by omega) hn0
  clear_value J2
  have d1 : decide ((4294967296 : Int) ≤ (n : Int)) = decide (4294967296 ≤ n) := by rw [decide_eq_decide]; omega
  have e8 : (n : Int).fdiv (2 ^ min (32 : Int).toNat IntKind.u64.bits) = ((n / 4294967296 : Nat) : Int) := by
    have : (2 : Int) ^ min (32 : Int).toNat IntKind.u64.bits = 4294967296 := by decide
    rw [this, Int.fdiv_eq_ediv_of_nonneg _ (by decide)]
    omega
  simp -zeta (disch := decide) only [GL, d1, e8]
  by_cases g : 4294967296 ≤ n
  · rw [if_pos (decide_eq_true g)]
    exact q2 (n / 4294967296) 32 (by omega) (by omega) (by omega) rfl
  · rw [if_neg (by simpa using g)]
    exact q2 n 0 h1 (by omega) (by omega) (by simp)
theorem T_numDigitsW {n : Nat} (hp : Pow h) (h1 : 1 ≤ n) (h2 : n < 10000000000000000) (k : ∀ L : Nat, 1 ≤ L → L ≤ 16 → n < 10 ^ L → 10 ^ (L - 1) ≤ n → K (.int .i64 (L : Int)) h) : Cn P n_strconv_numDigits #[.int .u64 (n : Int)] h K := by
  refine F_strconv_numDigits ?_
  unfold s_strconv_numDigits
  refine T_Len64W h1 (by omega) fun m m1 m2 m3 m4 => ?_
  refine F_strconv_log10Pow2 ?_
  unfold s_strconv_log10Pow2
  obtain ⟨l1, l2, l3⟩ := log_okW m (by omega) m1
  have w1 : IntKind.i64.wrap ((m : Int) * 78913) = ((m * 78913 : Nat) : Int) := by rw [wi64 (by omega) (by omega)]; omega
  have e8 : ((m * 78913 : Nat) : Int).fdiv (2 ^ min (18 : Int).toNat IntKind.i64.bits) = ((m * 78913 / 262144 : Nat) : Int) := by
    have : (2 : Int) ^ min (18 : Int).toNat IntKind.i64.bits = 262144 := by decide
    rw [this, Int.fdiv_eq_ediv_of_nonneg _ (by decide)]
    omega
  simp -zeta (disch := decide) only [GL, RL, w1, e8]
  generalize m * 78913 / 262144 = l at *
  have hx := hp l (by omega)
  have d1 : decide (((10 ^ l : Nat) : Int) ≤ (n : Int)) = decide (10 ^ l ≤ n) := by rw [decide_eq_decide, Int.ofNat_le]
  simp -zeta (disch := omega) only [GL, RL, Int.toNat_natCast, Nat.zero_add, hx, d1]
  refine F_strconv_bool2_int ?_
  unfold s_strconv_bool2_int
  have fin : ∀ L : Nat, 1 ≤ L → n < 10 ^ L → 10 ^ (L - 1) ≤ n → K (.int .i64 (L : Int)) h := fun L a b c => by
    refine k L a ?_ b c
    have : 10 ^ (L - 1) < 10 ^ 16 := Nat.lt_of_le_of_lt c h2
    have := (Nat.pow_lt_pow_iff_right (by decide)).1 this
    omega
  by_cases g : 10 ^ l ≤ n
  · have w2 : IntKind.i64.wrap ((l : Int) + 1) = ((l + 1 : Nat) : Int) := by rw [wi64 (by omega) (by omega)]; omega
    simp -zeta only [g, decide_true, GL, if_true, w2]
    exact fin _ (by omega) (by omega) (by rw [Nat.add_sub_cancel]; exact g)
  · have hl : 1 ≤ l := by
      rcases Nat.eq_zero_or_pos l with rfl | q
      · exact absurd (by simpa using h1) g
      · exact q
    have w2 : IntKind.i64.wrap ((l : Int) + 0) = ((l : Nat) : Int) := by rw [wi64 (by omega) (by omega)]; omega
    simp -zeta only [g, decide_false, GL, Bool.false_eq_true, if_false, w2]
    exact fin _ hl (by omega) (by omega)
theorem T_fmt10W {n L rb cc t : Nat} {xs : List Value} (hL : L ≤ 16) (hL1 : 1 ≤ L) (hn : n < 10 ^ L) (hr : h rb = some (.row t xs 24 (some (0, 0)))) (hx : xs.length = 24)
    (k : ∀ ys : List Value, Inv10 n L 0 0 ys → K (.tuple #[]) (h.set rb (.row t ys 24 (some (0, 0))))) : Cn P n_strconv_formatBase10 #[.slice (some ⟨rb, 1, none⟩) L cc, .int .u64 (n : Int)] h K := by
  refine Cn_wk (F_strconv_formatBase10 ?_)
  unfold s_strconv_formatBase10
  have h107 : n < 10000000000000000 := Nat.lt_of_lt_of_le hn (Nat.pow_le_pow_right (by decide) hL)
  simp -zeta only [RL]
  have tab : ∀ {K : Value → Prop} (x : Nat), x < 100 → (∀ G : Hp, q P G (Instr.index 9 (.string (strL tab2)) (.int .u32 ((x * 2 : Nat) : Int))) K = K (.int .u8 ((48 + x / 10 : Nat) : Int))) ∧ (∀ G : Hp, q P G (Instr.index 9 (.string (strL tab2)) (.int .u32 ((x * 2 + 1 : Nat) : Int))) K = K (.int .u8 ((48 + x % 10 : Nat) : Int))) := fun {K} x hx => by
    obtain ⟨t1, t2⟩ := tab2_get x hx
    have e : x * 2 = 2 * x := Nat.mul_comm ..
    exact ⟨fun G => by rw [q_idxSt u_string tab2_b (by rw [tab2_len]; omega), e, t1], fun G => by rw [q_idxSt u_string tab2_b (by rw [tab2_len]; omega), e, t2]⟩
  refine Lp_mk (fun m vs H => ∃ (w u : Nat) (cs : List Value), m = w ∧ w ≤ L ∧ u < 10 ^ w ∧ Inv10 n L w u cs ∧ H = h.set rb (.row t cs 24 (some (0, 0))) ∧ vs = [.int .u64 (u : Int), .int .i64 (w : Int)]) L
    ⟨L, n, xs, rfl, Nat.le_refl _, hn, ⟨hx, by simp, Nat.le_refl _, fun i h1 h2 => by omega⟩, (set_id hr).symm, rfl⟩ ?_
  rintro m vs H ⟨w, u, cs, rfl, hw, hu, hi, rfl, rfl⟩
  have hu16 : u < 10000000000000000 := Nat.lt_of_lt_of_le hu (show 10 ^ m ≤ 10 ^ 16 from Nat.pow_le_pow_right (by decide) (by omega))
  have g8 : decide ((8 : Int) ≤ (m : Int)) = decide (8 ≤ m) := leN 8 m
  have lcs := hi.1
  simp -zeta only [GL, RL, List.getD_cons_zero, List.getD_cons_succ, g8]
  by_cases gg : 8 ≤ m
  · rw [if_pos (decide_eq_true gg)]
    obtain ⟨s, rfl⟩ : ∃ s, m = s + 8 := ⟨m - 8, by omega⟩
    have r1 : ((u : Int)).tmod 100000000 = ((u % 100000000 : Nat) : Int) := by rw [Int.tmod_eq_emod_of_nonneg (by omega)]; omega
    have r2 : IntKind.u64.wrap (((u : Int)).tdiv 100000000) = ((u / 100000000 : Nat) : Int) := by
      rw [Int.tdiv_eq_ediv_of_nonneg (by omega), wu64i (by omega) (by omega)]; omega
    have r3 : IntKind.u32.wrap ((u % 100000000 : Nat) : Int) = ((u % 100000000 : Nat) : Int) := wu32i (by omega) (by omega)
    obtain ⟨lo, hlo⟩ : ∃ lo, u % 100000000 = lo := ⟨_, rfl⟩
    have lo8 : lo < 100000000 := by omega
    rw [hlo] at r1 r3
    have y1 : lo % 10000 / 100 < 100 := by omega
    have y2 : lo % 10000 % 100 < 100 := by omega
    have y3 : lo / 10000 / 100 < 100 := by omega
    have y4 : lo / 10000 % 100 < 100 := by omega
    have a1 : IntKind.u32.wrap ((lo / 10000 : Nat) : Int) = ((lo / 10000 : Nat) : Int) := wu32i (by omega) (by omega)
    have a2 : IntKind.u32.wrap ((lo % 10000 / 100 : Nat) : Int) = ((lo % 10000 / 100 : Nat) : Int) := wu32i (by omega) (by omega)
    have a3 : IntKind.u32.wrap (((lo % 10000 / 100 : Nat) : Int) * 2) = ((lo % 10000 / 100 * 2 : Nat) : Int) := by rw [wu32i (by omega) (by omega)]; omega
    have a4 : IntKind.u32.wrap (((lo % 10000 % 100 : Nat) : Int) * 2) = ((lo % 10000 % 100 * 2 : Nat) : Int) := by rw [wu32i (by omega) (by omega)]; omega
    have a5 : IntKind.u32.wrap ((lo / 10000 / 100 : Nat) : Int) = ((lo / 10000 / 100 : Nat) : Int) := wu32i (by omega) (by omega)
    have a6 : IntKind.u32.wrap (((lo / 10000 / 100 : Nat) : Int) * 2) = ((lo / 10000 / 100 * 2 : Nat) : Int) := by rw [wu32i (by omega) (by omega)]; omega
    have a7 : IntKind.u32.wrap (((lo / 10000 % 100 : Nat) : Int) * 2) = ((lo / 10000 % 100 * 2 : Nat) : Int) := by rw [wu32i (by omega) (by omega)]; omega
    have b1 : IntKind.u32.wrap (((lo % 10000 / 100 * 2 : Nat) : Int) + 1) = ((lo % 10000 / 100 * 2 + 1 : Nat) : Int) := by rw [wu32i (by omega) (by omega)]; omega
    have b2 : IntKind.u32.wrap (((lo % 10000 % 100 * 2 : Nat) : Int) + 1) = ((lo % 10000 % 100 * 2 + 1 : Nat) : Int) := by rw [wu32i (by omega) (by omega)]; omega
    have b3 : IntKind.u32.wrap (((lo / 10000 / 100 * 2 : Nat) : Int) + 1) = ((lo / 10000 / 100 * 2 + 1 : Nat) : Int) := by rw [wu32i (by omega) (by omega)]; omega
    have b4 : IntKind.u32.wrap (((lo / 10000 % 100 * 2 : Nat) : Int) + 1) = ((lo / 10000 % 100 * 2 + 1 : Nat) : Int) := by rw [wu32i (by omega) (by omega)]; omega
    have v1 : IntKind.i64.wrap (((s + 8 : Nat) : Int) - 1) = ((s + 7 : Nat) : Int) := by rw [wi64 (by omega) (by omega)]; omega
    have v2 : IntKind.i64.wrap (((s + 8 : Nat) : Int) - 2) = ((s + 6 : Nat) : Int) := by rw [wi64 (by omega) (by omega)]; omega
    have v3 : IntKind.i64.wrap (((s + 8 : Nat) : Int) - 3) = ((s + 5 : Nat) : Int) := by rw [wi64 (by omega) (by omega)]; omega
    have v4 : IntKind.i64.wrap (((s + 8 : Nat) : Int) - 4) = ((s + 4 : Nat) : Int) := by rw [wi64 (by omega) (by omega)]; omega
    have v5 : IntKind.i64.wrap (((s + 8 : Nat) : Int) - 5) = ((s + 3 : Nat) : Int) := by rw [wi64 (by omega) (by omega)]; omega
    have v6 : IntKind.i64.wrap (((s + 8 : Nat) : Int) - 6) = ((s + 2 : Nat) : Int) := by rw [wi64 (by omega) (by omega)]; omega
    have v7 : IntKind.i64.wrap (((s + 8 : Nat) : Int) - 7) = ((s + 1 : Nat) : Int) := by rw [wi64 (by omega) (by omega)]; omega
    have v8 : IntKind.i64.wrap (((s + 8 : Nat) : Int) - 8) = ((s : Nat) : Int) := by rw [wi64 (by omega) (by omega)]; omega
    have hi1 : Inv10 n L (s + 6 + 2) u cs := hi
    have s1 := hi1.step2 (by omega)
    have s2 := Inv10.step2 (t := s + 4) s1 (by omega)
    have s3 := Inv10.step2 (t := s + 2) s2 (by omega)
    have s4 := Inv10.step2 (t := s) s3 (by omega)
    have e1 : u / 100 / 100 / 100 / 100 = u / 100000000 := by omega
    have e2 : u % 100 = lo % 10000 % 100 := by omega
    have e3 : u / 100 % 100 = lo % 10000 / 100 := by omega
    have e4 : u / 100 / 100 % 100 = lo / 10000 % 100 := by omega
    have e5 : u / 100 / 100 / 100 % 100 = lo / 10000 / 100 := by omega
    rw [e1, e2, e3, e4, e5] at s4
    simp -zeta (disch := first | decide | omega) only [GL, RL, r1, r2, r3, tm100, td100, tm10k, td10k, a1, a2, a3, a4, a5, a6, a7, b1, b2, b3, b4, tx2, (tab _ y1).1, (tab _ y1).2, (tab _ y2).1, (tab _ y2).2, (tab _ y3).1, (tab _ y3).2, (tab _ y4).1, (tab _ y4).2, v1, v2, v3, v4, v5, v6, v7, v8, Int.toNat_natCast]
    refine aw_store z_uint8 rfl (put_row (Hp.set_same ..) (by rw [lcs]; omega) (by omega) _) ?_
    rw [Hp.set_set]
    refine aw_store z_uint8 rfl (put_row (Hp.set_same ..) (by rw [List.length_set, lcs]; omega) (by omega) _) ?_
    rw [Hp.set_set]
    refine aw_store z_uint8 rfl (put_row (Hp.set_same ..) (by rw [List.length_set, List.length_set, lcs]; omega) (by omega) _) ?_
    rw [Hp.set_set]
    refine aw_store z_uint8 rfl (put_row (Hp.set_same ..) (by rw [List.length_set, List.length_set, List.length_set, lcs]; omega) (by omega) _) ?_
    rw [Hp.set_set]
    refine aw_store z_uint8 rfl (put_row (Hp.set_same ..) (by rw [List.length_set, List.length_set, List.length_set, List.length_set, lcs]; omega) (by omega) _) ?_
    rw [Hp.set_set]
    refine aw_store z_uint8 rfl (put_row (Hp.set_same ..) (by rw [List.length_set, List.length_set, List.length_set, List.length_set, List.length_set, lcs]; omega) (by omega) _) ?_
    rw [Hp.set_set]
    refine aw_store z_uint8 rfl (put_row (Hp.set_same ..) (by rw [List.length_set, List.length_set, List.length_set, List.length_set, List.length_set, List.length_set, lcs]; omega) (by omega) _) ?_
    rw [Hp.set_set]
    refine aw_store z_uint8 rfl (put_row (Hp.set_same ..) (by rw [List.length_set, List.length_set, List.length_set, List.length_set, List.length_set, List.length_set, List.length_set, lcs]; omega) (by omega) _) ?_
    rw [Hp.set_set]
    refine ⟨_, .refl _, s, by omega, s, u / 100000000, _, rfl, by omega, ?_, s4, rfl, rfl⟩
    rw [Nat.div_lt_iff_lt_mul (by decide)]
    rw [Nat.pow_add] at hu
    exact hu
  rw [if_neg (by simpa using gg)]
  have u8 : u < 10000000 := Nat.lt_of_lt_of_le hu (show 10 ^ m ≤ 10 ^ 7 from Nat.pow_le_pow_right (by decide) (by omega))
  have wn : IntKind.u32.wrap (u : Int) = (u : Int) := wu32i (by omega) (by omega)
  simp -zeta only [GL, RL, wn]
  intro J16
  have q16 : ∀ (t4 u : Nat) (cs : List Value), t4 < 4 → u < 10 ^ t4 → Inv10 n L t4 u cs → J16 (.int .i64 (t4 : Int)) (.int .u32 (u : Int)) (h.set rb (.row t cs 24 (some (0, 0)))) := by
    intro t4 u cs h4 hu hi
    have hu3 : u < 1000 := Nat.lt_of_lt_of_le hu (show 10 ^ t4 ≤ 10 ^ 3 from Nat.pow_le_pow_right (by decide) (by omega))
    have h4L := hi.2.2.1
    simp -zeta only [J16]
    clear J16
    intro J23
    have q23 : ∀ (s v : Nat) (cs : List Value), s ≤ 1 → v < 10 ^ s → Inv10 n L s v cs → J23 (.int .i64 (s : Int)) (.int .u32 (v : Int)) (h.set rb (.row t cs 24 (some (0, 0)))) := by
      intro s v cs hs hv hi
      have hv3 : v < 10 := Nat.lt_of_lt_of_le hv (show 10 ^ s ≤ 10 ^ 1 from Nat.pow_le_pow_right (by decide) hs)
      have hsL := hi.2.2.1
      simp -zeta only [J23]
      clear J23
      simp -zeta only [GL, RL, gt0]
      by_cases g : 0 < s
      · obtain rfl : s = 1 := by omega
        have w1 : IntKind.u32.wrap (48 + (v : Int)) = ((48 + v : Nat) : Int) := by rw [wu32i (by omega) (by omega)]; omega
        have w2 : IntKind.u8.wrap ((48 + v : Nat) : Int) = ((48 + v : Nat) : Int) := wu8i (by omega) (by omega)
        have h0L : (0 : Int) < (L : Int) := by omega
        have z0 : (0 : Int).toNat = 0 := rfl
        simp -zeta (disch := first | exact h0L | omega) only [g, decide_true, if_true, GL, RL, w1, w2, z0, Nat.add_zero]
        refine aw_store z_uint8 rfl (put_row (Hp.set_same ..) (by rw [hi.1]; omega) (by omega) _) ?_
        rw [Hp.set_set]
        have st := Inv10.step (t := 0) hi (by omega)
        have e1 : v % 10 = v := Nat.mod_eq_of_lt hv3
        have e2 : v / 10 = 0 := by omega
        rw [e1, e2] at st
        exact ⟨_, .refl _, k _ st⟩
      · obtain rfl : s = 0 := by omega
        have : v = 0 := by simpa using hv
        subst this
        simp -zeta only [Nat.lt_irrefl, decide_false, Bool.false_eq_true, if_false]
        exact ⟨_, .refl _, k _ hi⟩
    clear_value J23
    have g2 : decide ((2 : Int) ≤ (t4 : Int)) = decide (2 ≤ t4) := by rw [decide_eq_decide]; omega
    have hx : u % 100 < 100 := Nat.mod_lt _ (by decide)
    have w0 : IntKind.u32.wrap (((u % 100 : Nat) : Int) * 2) = ((u % 100 * 2 : Nat) : Int) := by rw [wu32i (by omega) (by omega)]; omega
    have w1 : IntKind.u32.wrap ((u / 100 : Nat) : Int) = ((u / 100 : Nat) : Int) := wu32i (by omega) (by omega)
    have w2 : IntKind.u32.wrap (((u % 100 * 2 : Nat) : Int) + 1) = ((u % 100 * 2 + 1 : Nat) : Int) := by rw [wu32i (by omega) (by omega)]; omega
    simp -zeta (disch := decide) only [GL, RL, g2, tm100, td100, w0, w1, w2, tx2, (tab (u % 100) hx).1, (tab (u % 100) hx).2]
    by_cases g : 2 ≤ t4
    · obtain ⟨s, rfl⟩ : ∃ s, t4 = s + 2 := ⟨t4 - 2, by omega⟩
      have w3 : IntKind.i64.wrap (((s + 2 : Nat) : Int) - 1) = ((s + 1 : Nat) : Int) := by rw [wi64 (by omega) (by omega)]; omega
      have w4 : IntKind.i64.wrap (((s + 2 : Nat) : Int) - 2) = ((s : Nat) : Int) := by rw [wi64 (by omega) (by omega)]; omega
      have st := hi.step2 (by omega)
      have hl := hi.1
      simp -zeta (disch := omega) only [g, decide_true, if_true, GL, RL, w3, w4, Int.toNat_natCast]
      refine aw_store z_uint8 rfl (put_row (Hp.set_same ..) (by rw [hl]; omega) (by omega) _) ?_
      rw [Hp.set_set]
      refine aw_store z_uint8 rfl (put_row (Hp.set_same ..) (by rw [List.length_set, hl]; omega) (by omega) _) ?_
      rw [Hp.set_set]
      refine q23 s (u / 100) _ (by omega) ?_ st
      rw [Nat.div_lt_iff_lt_mul (by decide)]
      rw [Nat.pow_succ, Nat.pow_succ] at hu
      omega
    · simp -zeta only [g, decide_false, Bool.false_eq_true, if_false]
      exact q23 t4 u cs (by omega) hu hi
  clear_value J16
  have g4 : decide ((4 : Int) ≤ (m : Int)) = decide (4 ≤ m) := by rw [decide_eq_decide]; omega
  have x1 : u % 10000 / 100 < 100 := by omega
  have x2 : u % 10000 % 100 < 100 := by omega
  have w0 : IntKind.u32.wrap (((u % 10000 / 100 : Nat) : Int) * 2) = ((u % 10000 / 100 * 2 : Nat) : Int) := by rw [wu32i (by omega) (by omega)]; omega
  have w1 : IntKind.u32.wrap (((u % 10000 % 100 : Nat) : Int) * 2) = ((u % 10000 % 100 * 2 : Nat) : Int) := by rw [wu32i (by omega) (by omega)]; omega
  have w2 : IntKind.u32.wrap (((u % 10000 / 100 * 2 : Nat) : Int) + 1) = ((u % 10000 / 100 * 2 + 1 : Nat) : Int) := by rw [wu32i (by omega) (by omega)]; omega
  have w3 : IntKind.u32.wrap (((u % 10000 % 100 * 2 : Nat) : Int) + 1) = ((u % 10000 % 100 * 2 + 1 : Nat) : Int) := by rw [wu32i (by omega) (by omega)]; omega
  have w4 : IntKind.u32.wrap ((u / 10000 : Nat) : Int) = ((u / 10000 : Nat) : Int) := wu32i (by omega) (by omega)
  have w5 : IntKind.u32.wrap ((u % 10000 / 100 : Nat) : Int) = ((u % 10000 / 100 : Nat) : Int) := wu32i (by omega) (by omega)
  simp -zeta (disch := decide) only [GL, RL, g4, tm100, td100, tm10k, td10k, w0, w1, w2, w3, w4, w5, tx2, (tab _ x1).1, (tab _ x1).2, (tab _ x2).1, (tab _ x2).2]
  by_cases g : 4 ≤ m
  · obtain ⟨s, hs⟩ : ∃ s, m = s + 4 := ⟨m - 4, by omega⟩
    have v1 : IntKind.i64.wrap ((m : Int) - 1) = ((s + 3 : Nat) : Int) := by rw [wi64 (by omega) (by omega)]; omega
    have v2 : IntKind.i64.wrap ((m : Int) - 2) = ((s + 2 : Nat) : Int) := by rw [wi64 (by omega) (by omega)]; omega
    have v3 : IntKind.i64.wrap ((m : Int) - 3) = ((s + 1 : Nat) : Int) := by rw [wi64 (by omega) (by omega)]; omega
    have v4 : IntKind.i64.wrap ((m : Int) - 4) = ((s : Nat) : Int) := by rw [wi64 (by omega) (by omega)]; omega
    have hi1 : Inv10 n L (s + 2 + 2) u cs := by have := hi; rw [hs] at this; exact this
    have st := hi1.step2 (by omega)
    have st2 := Inv10.step2 (t := s) st (by omega)
    have e1 : u / 100 / 100 = u / 10000 := by omega
    have e2 : u % 100 = u % 10000 % 100 := by omega
    have e3 : u / 100 % 100 = u % 10000 / 100 := by omega
    rw [e1, e2, e3] at st2
    simp -zeta (disch := omega) only [g, decide_true, if_true, GL, RL, v1, v2, v3, v4, Int.toNat_natCast]
    refine aw_store z_uint8 rfl (put_row (Hp.set_same ..) (by rw [lcs]; omega) (by omega) _) ?_
    rw [Hp.set_set]
    refine aw_store z_uint8 rfl (put_row (Hp.set_same ..) (by rw [List.length_set, lcs]; omega) (by omega) _) ?_
    rw [Hp.set_set]
    refine aw_store z_uint8 rfl (put_row (Hp.set_same ..) (by rw [List.length_set, List.length_set, lcs]; omega) (by omega) _) ?_
    rw [Hp.set_set]
    refine aw_store z_uint8 rfl (put_row (Hp.set_same ..) (by rw [List.length_set, List.length_set, List.length_set, lcs]; omega) (by omega) _) ?_
    rw [Hp.set_set]
    refine q16 s (u / 10000) _ (by omega) ?_ st2
    rw [Nat.div_lt_iff_lt_mul (by decide)]
    rw [hs, Nat.pow_add] at hu
    exact hu
  · simp -zeta only [g, decide_false, Bool.false_eq_true, if_false]
    exact q16 m u cs (by omega) hu hi
end
theorem pk_boundsAH {h : Hp} (n : Nat) (k' : IntKind) (hi : Nat) (h2 : hi ≤ n) : peek P h (Instr.sliceBounds false n n none (some (.int k' hi)) none) = some (0, hi, n) := by
  have e1 : peek P h (Instr.sliceBound (.int k' (hi : Int)) n .sliceAlen) = some hi := pk_bound k' hi n h2 _
  unfold Instr.sliceBounds
  simp only [if_true, Option.isSome_none, Bool.false_eq_true, if_false, pure_bind, pk_bind e1]
  rfl
theorem q_slArrH {h : Hp} {t e s n : Nat} {K : Value → Prop} (ht : P.underlying t = some (.array n e)) (hs : sz P e = some s) (a : Addr) (k' : IntKind) (hi : Nat) (h2 : hi ≤ n) (h3 : 0 < n) :
    q P h (Instr.sliceAt t (.pointer (some a)) none (some (.int k' hi)) none) K = K (.slice (some (a.add (0 * s))) (hi - 0) (n - 0)) := q_of (by
  show peek P h (Sem.bind (underlying t) _) = _
  rw [peek_bind, pk_und ht, Option.bind_some]
  show peek P h (Sem.bind (Instr.sliceBounds false n n _ _ none) _) = _
  rw [peek_bind, pk_boundsAH n k' hi h2, Option.bind_some]
  show peek P h (Sem.bind (sizeOf e) _) = _
  rw [peek_bind, pk_size hs]
  show some (Value.slice (some (if n = 0 then a else a.add (0 * s))) (hi - 0) (n - 0)) = _
  rw [if_neg (by omega)]) K
/-- A whole number's text. -/
def decI (n : Int) : List Nat := if n < 0 then 45 :: asc (dig 10 n.natAbs) else asc (dig 10 n.natAbs)
section
variable {h : Hp} {K : Value → Hp → Prop}
theorem T_FormatInt10 {n : Int} (hp : Pow h) (hn : n.natAbs < 10000000000000000) (k : K (.string (strL (decI n))) h) : Cn P n_strconv_FormatInt_102 #[.int .i64 n, .int .i64 10] h K := by
  refine Cn_wk (F_strconv_FormatInt_102 ?_)
  unfold s_strconv_FormatInt_102
  refine F_strconv_FormatInt_145 ?_
  unfold s_strconv_FormatInt_145
  have d1 : decide (n < 100) = decide (n < 100) := rfl
  simp -zeta only [GL, show ((10 : Int) == 10) = true from rfl, if_true]
  intro J4
  have q4 : (n < 0 ∨ 100 ≤ n) → J4 h := by
    intro hn2
    simp -zeta only [J4]
    clear J4
    refine aw_allocL (List.replicate 24 (Value.int .u8 0)) zr_24 rfl fun r hr => ?_
    have l24 : (List.replicate 24 (Value.int .u8 0)).length = 24 := List.length_replicate ..
    rw [l24]
    have le0 := le_fresh (o := AObj.row t_24_uint8 (List.replicate 24 (Value.int .u8 0)) 24 (some (0, 0))) hr
    have xt := ext_set (AObj.row t_24_uint8 (List.replicate 24 (Value.int .u8 0)) 24 (some (0, 0))) hr
    simp -zeta only [GL, RL]
    intro J11
    have q11 : ∀ N : Nat, n.natAbs = N → J11 (.int .u64 (N : Int)) (h.set r (.row t_24_uint8 (List.replicate 24 (Value.int .u8 0)) 24 (some (0, 0)))) := fun N eN => by
      simp -zeta only [J11]
      clear J11
      refine T_numDigitsW (hp.mono xt.cle) (by omega) (by omega) fun L L1 L2 L3 L4 => ?_
      have w1 : IntKind.i64.wrap (1 + (L : Int)) = ((1 + L : Nat) : Int) := by rw [wi64 (by omega) (by omega)]; omega
      have i1 : (1 : Int) = ((1 : Nat) : Int) := rfl
      simp -zeta only [GL, w1]
      rw [i1, q_slArrLH u_24 z_uint8 _ _ _ 1 (1 + L) (by omega) (by omega) (by omega)]
      have e1 : (⟨r, 0, none⟩ : Addr).add (1 * 1) = ⟨r, 1, none⟩ := rfl
      have e0 : (⟨r, 0, none⟩ : Addr).add (0 * 1) = ⟨r, 0, none⟩ := rfl
      rw [e1, show 1 + L - 1 = L by omega]
      refine T_fmt10W (t := t_24_uint8) L2 L1 L3 (Hp.set_same ..) l24 fun ys iv => ?_
      rw [Hp.set_set]
      have ds : dig 10 N = digs L N := by
        obtain ⟨M, rfl⟩ : ∃ M, L = M + 1 := ⟨L - 1, by omega⟩
        exact digs_dig M N L3 (.inr L4)
      have hl : (asc (digs L N)).length = L := by rw [asc_len, digs_len]
      have cellAt : ∀ (i : Nat) (x : Value), (nv .u8 (asc (digs L N)))[i]? = some x → ys[1 + i]? = some x := fun i x e => by
        have hi : i < L := by
          have := (List.getElem?_eq_some_iff.1 e).1
          rw [nv_len, hl] at this
          exact this
        rw [iv.2.2.2 i (by omega) hi, ← e]
        unfold nv asc
        rw [List.getElem?_map, List.getElem?_map, digs_get L N i hi]
        simp only [Option.map_some]
        congr 3
        omega
      by_cases g : n < 0
      · have ek : decI n = 45 :: asc (digs L N) := by unfold decI; rw [if_pos g, eN, ds]
        rw [ek] at k
        simp -zeta only [GL, g, decide_true, if_true]
        rw [show (0 : Int) = ((0 : Nat) : Int) from rfl, q_idxA u_24 z_uint8 _ _ _ (by omega) (by omega), Int.toNat_natCast, e0]
        refine aw_store z_uint8 rfl (put_row (Hp.set_same ..) (by rw [iv.1]; omega) (by omega) _) ?_
        rw [Hp.set_set]
        rw [q_slArrH u_24 z_uint8 _ _ (1 + L) (by omega) (by omega), e0]
        have hl1 : (45 :: asc (digs L N)).length = 1 + L := by rw [List.length_cons, hl]; omega
        have rn : Rn (h.set r (.row t_24_uint8 (ys.set 0 (.int .u8 45)) 24 (some (0, 0)))) .u8 (.slice (some ⟨r, 0, none⟩) (1 + L - 0) (24 - 0)) (45 :: asc (digs L N)) := by
          refine ⟨by rw [nv_len, Nat.mul_one], _, _, by rw [hl1]; rfl, by rw [hl1]; omega, .inr ⟨r, 0, rfl, fun i x e => ?_⟩⟩
          rw [cell_row (Hp.set_same ..), Nat.zero_add]
          cases i with
          | zero =>
            rw [List.getElem?_set_self (by rw [iv.1]; omega)]
            rw [← e]; rfl
          | succ i =>
            rw [List.getElem?_set_ne (by omega), show i + 1 = 1 + i by omega]
            exact cellAt i x (by simpa [nv] using e)
        rw [q_str rn]
        exact ⟨h, le_fresh hr, k⟩
      · have ek : decI n = asc (digs L N) := by unfold decI; rw [if_neg g, eN, ds]
        rw [ek] at k
        simp -zeta only [GL, g, decide_false, Bool.false_eq_true, if_false, w1]
        rw [q_slArrLH u_24 z_uint8 _ _ _ 1 (1 + L) (by omega) (by omega) (by omega), e1, show 1 + L - 1 = L by omega]
        have rn : Rn (h.set r (.row t_24_uint8 ys 24 (some (0, 0)))) .u8 (.slice (some ⟨r, 1, none⟩) L (24 - 1)) (asc (digs L N)) := by
          refine ⟨by rw [nv_len, Nat.mul_one], _, _, by rw [hl], by rw [hl]; omega, .inr ⟨r, 1, rfl, fun i x e => ?_⟩⟩
          rw [cell_row (Hp.set_same ..)]
          exact cellAt i x e
        rw [q_str rn]
        exact ⟨h, le_fresh hr, k⟩
    clear_value J11
    by_cases g : n < 0
    · have w : IntKind.u64.wrap (0 - IntKind.u64.wrap n) = ((n.natAbs : Nat) : Int) := by
        have : IntKind.u64.wrap n = n + 18446744073709551616 := by
          unfold IntKind.wrap; simp [IntKind.bits, IntKind.signed]; omega
        rw [this]
        unfold IntKind.wrap; simp [IntKind.bits, IntKind.signed]; omega
      rw [if_pos (decide_eq_true g), q_neg, w]
      exact q11 _ rfl
    · rw [if_neg (by simpa using g)]
      have w : IntKind.u64.wrap n = ((n.natAbs : Nat) : Int) := by rw [wu64i (by omega) (by omega)]; omega
      rw [w]
      exact q11 _ rfl
  clear_value J4
  by_cases g0 : 0 ≤ n
  · rw [if_pos (decide_eq_true g0)]
    by_cases g : n < 100
    · rw [if_pos (decide_eq_true g)]
      obtain ⟨N, rfl⟩ : ∃ N : Nat, n = (N : Int) := ⟨n.toNat, by omega⟩
      refine T_small (by omega) ?_
      have : decI (N : Int) = asc (dig 10 N) := by unfold decI; rw [if_neg (by omega)]; rfl
      rw [this] at k
      exact ⟨h, .refl _, k⟩
    · rw [if_neg (by simpa using g)]
      exact q4 (by omega)
  · rw [if_neg (by simpa using g0), if_neg (by decide)]
    exact q4 (by omega)
def boolL (o : Bool) : List Nat := if o then [116, 114, 117, 101] else [102, 97, 108, 115, 101]
theorem T_FormatBool {o : Bool} (k : K (.string (strL (boolL o))) h) : Cn P n_strconv_FormatBool_101 #[.bool o] h K := by
  refine F_strconv_FormatBool_101 ?_
  unfold s_strconv_FormatBool_101
  refine F_strconv_FormatBool_144 ?_
  unfold s_strconv_FormatBool_144
  have t1 : (⟨#[116, 114, 117, 101]⟩ : ByteArray) = strL (boolL true) := by kernel_rfl
  have t2 : (⟨#[102, 97, 108, 115, 101]⟩ : ByteArray) = strL (boolL false) := by kernel_rfl
  rw [t1, t2, cnd_bool]
  cases o
  · exact k
  · exact k
end
end Go.Proofs.YtolcmaipjpkidaaGreatDoor
namespace Go.Js
open Go.Pure
/-- Is a text in UTF-8? -/
def validU (s : List Nat) : Bool := if h : s = [] then true else if h2 : 0 < runeN s then validU (s.drop (runeN s)) else false
termination_by s.length
decreasing_by
  have := List.length_pos_iff.2 h
  rw [List.length_drop]; omega
theorem validU_nil : validU [] = true := by rw [validU]; rfl
theorem validU_cons {s : List Nat} (h : s ≠ []) : validU s = if 0 < runeN s then validU (s.drop (runeN s)) else false := by
  rw [validU, dif_neg h]
  split <;> rfl
theorem runeN_ascii {c : Nat} (r : List Nat) (h : c < 128) : runeN (c :: r) = 1 := by
  show (if c < 128 then 1 else _) = 1
  rw [if_pos h]
theorem validU_ascii {c : Nat} (r : List Nat) (h : c < 128) : validU (c :: r) = validU r := by
  rw [validU_cons (by simp), runeN_ascii r h]
  rfl
theorem validU_skip : ∀ (n : Nat) {l : List Nat}, n ≤ l.length → (∀ x ∈ l.take n, x < 128) → validU l = validU (l.drop n)
  | 0, l, _, _ => rfl
  | n + 1, [], h, _ => by simp at h
  | n + 1, c :: l, h, ha => by
    rw [validU_ascii l (ha c (by simp)), List.drop_succ_cons]
    exact validU_skip n (by simpa using h) fun x hx => ha x (by simp [hx])
theorem b7 : ∀ b, b < 256 → b.testBit 7 = false → b < 128 := by decide +kernel
theorem tb_mul {b i j : Nat} : (b * 2 ^ i).testBit (i + j) = b.testBit j := by
  rw [Nat.mul_comm, Nat.testBit_two_pow_mul]
  simp
/-- Eight bytes in a word. -/
def word8 (b : Nat → Nat) : Nat := b 0 ||| b 1 * 2 ^ 8 ||| b 2 * 2 ^ 16 ||| b 3 * 2 ^ 24 ||| b 4 * 2 ^ 32 ||| b 5 * 2 ^ 40 ||| b 6 * 2 ^ 48 ||| b 7 * 2 ^ 56
abbrev M8 : Nat := 9259542123273814144
theorem word8_lt {b : Nat → Nat} (hb : ∀ i, b i < 256) : word8 b < 2 ^ 64 := by
  have h := hb
  have lt : ∀ i k, k ≤ 56 → b i * 2 ^ k < 2 ^ 64 := fun i k hk => by
    have h1 : b i * 2 ^ k < 256 * 2 ^ k := Nat.mul_lt_mul_of_pos_right (hb i) (Nat.pow_pos (by decide))
    have h2 : 256 * 2 ^ k ≤ 256 * 2 ^ 56 := Nat.mul_le_mul_left _ (Nat.pow_le_pow_right (by decide) hk)
    exact Nat.lt_of_lt_of_le h1 (Nat.le_trans h2 (by decide))
  unfold word8
  have h0 : b 0 < 2 ^ 64 := Nat.lt_trans (hb 0) (by decide)
  exact Nat.or_lt_two_pow (Nat.or_lt_two_pow (Nat.or_lt_two_pow (Nat.or_lt_two_pow (Nat.or_lt_two_pow (Nat.or_lt_two_pow (Nat.or_lt_two_pow h0 (lt 1 8 (by decide))) (lt 2 16 (by decide))) (lt 3 24 (by decide))) (lt 4 32 (by decide))) (lt 5 40 (by decide))) (lt 6 48 (by decide))) (lt 7 56 (by decide))
theorem word8_ascii {b : Nat → Nat} (hb : ∀ i, b i < 256) (h : word8 b &&& M8 = 0) : ∀ i, i < 8 → b i < 128 := by
  have key : ∀ j, M8.testBit j = true → (word8 b).testBit j = false := fun j hj => by
    have := congrArg (fun n => n.testBit j) h
    simp only [Nat.testBit_and, hj, Bool.and_true, Nat.zero_testBit] at this
    exact this
  have t0 := key 7 (by decide)
  have t1 := key (8 + 7) (by decide)
  have t2 := key (16 + 7) (by decide)
  have t3 := key (24 + 7) (by decide)
  have t4 := key (32 + 7) (by decide)
  have t5 := key (40 + 7) (by decide)
  have t6 := key (48 + 7) (by decide)
  have t7 := key (56 + 7) (by decide)
  simp only [word8, Nat.testBit_or, Bool.or_eq_false_iff] at t0 t1 t2 t3 t4 t5 t6 t7
  have e1 := t1.1.1.1.1.1.1.2
  have e2 := t2.1.1.1.1.1.2
  have e3 := t3.1.1.1.1.2
  have e4 := t4.1.1.1.2
  have e5 := t5.1.1.2
  have e6 := t6.1.2
  have e7 := t7.2
  rw [tb_mul] at e1 e2 e3 e4 e5 e6 e7
  intro i hi
  match i, hi with
  | 0, _ => exact b7 _ (hb 0) t0.1.1.1.1.1.1.1
  | 1, _ => exact b7 _ (hb 1) e1
  | 2, _ => exact b7 _ (hb 2) e2
  | 3, _ => exact b7 _ (hb 3) e3
  | 4, _ => exact b7 _ (hb 4) e4
  | 5, _ => exact b7 _ (hb 5) e5
  | 6, _ => exact b7 _ (hb 6) e6
  | 7, _ => exact b7 _ (hb 7) e7
/-- What a word of a text tells. -/
def W8 (w : Nat) (l : List Nat) : Prop := w < 2 ^ 64 ∧ (w &&& M8 = 0 → ∀ x ∈ l.take 8, x < 128)
theorem and_or0 {a b : Nat} (h : (a ||| b) &&& M8 = 0) : a &&& M8 = 0 ∧ b &&& M8 = 0 := by
  rw [Nat.and_or_distrib_right, Nat.or_eq_zero_iff] at h
  exact h
theorem W8_of {l : List Nat} (bl : Bytes l) (h8 : 8 ≤ l.length) : W8 (word8 fun i => l.getD i 0) l := by
  have hb : ∀ i, l.getD i 0 < 256 := fun i => by
    by_cases g : i < l.length
    · rw [List.getD_eq_getElem?_getD, List.getElem?_eq_getElem g]; exact bl _ (List.getElem_mem g)
    · rw [List.getD_eq_getElem?_getD, List.getElem?_eq_none (by omega)]; decide
  refine ⟨word8_lt hb, fun h x hx => ?_⟩
  obtain ⟨i, hi, e⟩ := List.getElem_of_mem hx
  rw [List.length_take] at hi
  have := word8_ascii hb h i (by omega)
  rw [List.getElem_take] at e
  rw [List.getD_eq_getElem?_getD, List.getElem?_eq_getElem (by omega), Option.getD_some, e] at this
  exact this
end Go.Js
namespace Go.Proofs.YtolcmaipjpkidaaGreatDoor
open Go Go.SL Go.Pure Go.Js
section
variable {h : Hp} {K : Value → Hp → Prop}
theorem shlw {b : Nat} (hb : b < 256) (i : Int) (n : Nat) (hn : min i.toNat IntKind.u64.bits = n) (h56 : n ≤ 56) : IntKind.u64.wrap ((b : Int) * 2 ^ min i.toNat IntKind.u64.bits) = ((b * 2 ^ n : Nat) : Int) := by
  rw [hn]
  have h1 : b * 2 ^ n < 256 * 2 ^ n := Nat.mul_lt_mul_of_pos_right hb (Nat.pow_pos (by decide))
  have h2 : 256 * 2 ^ n ≤ 256 * 2 ^ 56 := Nat.mul_le_mul_left _ (Nat.pow_le_pow_right (by decide) h56)
  have h3 : 256 * 2 ^ 56 = 18446744073709551616 := by decide
  have e : ((b : Int) * 2 ^ n) = ((b * 2 ^ n : Nat) : Int) := by simp
  rw [e]
  exact wu64i (by omega) (by omega)
theorem orw {a b : Nat} (ha : a < 2 ^ 64) (hb : b < 2 ^ 64) : ior .u64 (a : Int) (b : Int) = ((a ||| b : Nat) : Int) := by
  have : (2 : Nat) ^ 64 = 18446744073709551616 := by decide
  rw [or64 (by omega) (by omega) (by omega) (by omega), Int.toNat_natCast, Int.toNat_natCast]
theorem andw {a : Nat} (ha : a < 2 ^ 64) : iand .u64 (a : Int) 9259542123273814144 = ((a &&& M8 : Nat) : Int) := by
  have : (2 : Nat) ^ 64 = 18446744073709551616 := by decide
  rw [and64 (by omega) (by omega) (by omega) (by omega), Int.toNat_natCast]
  rfl
theorem T_word {l : List Nat} (bl : Bytes l) (h8 : 8 ≤ l.length) (k : ∀ w : Nat, W8 w l → K (.int .u64 (w : Int)) h) : Cn P n_utf8_word_string #[.string (strL l)] h K := by
  refine F_utf8_word_string ?_
  unfold s_utf8_word_string
  rw [cnd_bool, if_neg (by decide)]
  have hb : ∀ i, i < 8 → l.getD i 0 < 256 := fun i hi => bl _ (getD_memB (by omega))
  have ix : ∀ (i : Nat) {K : Value → Prop}, i < 8 → q P emp (Instr.index t_string (.string (strL l)) (.int .i64 (i : Int))) K = K (.int .u8 ((l.getD i 0 : Nat) : Int)) := fun i {K} hi => q_idxSt u_string bl (by omega)
  have cv : ∀ i, i < 8 → IntKind.u64.wrap ((l.getD i 0 : Nat) : Int) = ((l.getD i 0 : Nat) : Int) := fun i hi => by have := hb i hi; exact wu64i (by omega) (by omega)
  have fin := k _ (W8_of bl h8)
  have ix0 : ∀ {K : Value → Prop}, q P emp (Instr.index t_string (.string (strL l)) (.int .i64 0)) K = K (.int .u8 ((l.getD 0 0 : Nat) : Int)) := fun {K} => ix 0 (by decide)
  have cv0 := cv 0 (by decide)
  have hb0 := hb 0 (by decide)
  have ix1 : ∀ {K : Value → Prop}, q P emp (Instr.index t_string (.string (strL l)) (.int .i64 1)) K = K (.int .u8 ((l.getD 1 0 : Nat) : Int)) := fun {K} => ix 1 (by decide)
  have cv1 := cv 1 (by decide)
  have hb1 := hb 1 (by decide)
  have ix2 : ∀ {K : Value → Prop}, q P emp (Instr.index t_string (.string (strL l)) (.int .i64 2)) K = K (.int .u8 ((l.getD 2 0 : Nat) : Int)) := fun {K} => ix 2 (by decide)
  have cv2 := cv 2 (by decide)
  have hb2 := hb 2 (by decide)
  have ix3 : ∀ {K : Value → Prop}, q P emp (Instr.index t_string (.string (strL l)) (.int .i64 3)) K = K (.int .u8 ((l.getD 3 0 : Nat) : Int)) := fun {K} => ix 3 (by decide)
  have cv3 := cv 3 (by decide)
  have hb3 := hb 3 (by decide)
  have ix4 : ∀ {K : Value → Prop}, q P emp (Instr.index t_string (.string (strL l)) (.int .i64 4)) K = K (.int .u8 ((l.getD 4 0 : Nat) : Int)) := fun {K} => ix 4 (by decide)
  have cv4 := cv 4 (by decide)
  have hb4 := hb 4 (by decide)
  have ix5 : ∀ {K : Value → Prop}, q P emp (Instr.index t_string (.string (strL l)) (.int .i64 5)) K = K (.int .u8 ((l.getD 5 0 : Nat) : Int)) := fun {K} => ix 5 (by decide)
  have cv5 := cv 5 (by decide)
  have hb5 := hb 5 (by decide)
  have ix6 : ∀ {K : Value → Prop}, q P emp (Instr.index t_string (.string (strL l)) (.int .i64 6)) K = K (.int .u8 ((l.getD 6 0 : Nat) : Int)) := fun {K} => ix 6 (by decide)
  have cv6 := cv 6 (by decide)
  have hb6 := hb 6 (by decide)
  have ix7 : ∀ {K : Value → Prop}, q P emp (Instr.index t_string (.string (strL l)) (.int .i64 7)) K = K (.int .u8 ((l.getD 7 0 : Nat) : Int)) := fun {K} => ix 7 (by decide)
  have cv7 := cv 7 (by decide)
  have hb7 := hb 7 (by decide)
  have sh1 : IntKind.u64.wrap (((l.getD 1 0 : Nat) : Int) * 2 ^ min (8 : Int).toNat IntKind.u64.bits) = ((l.getD 1 0 * 256 : Nat) : Int) := shlw hb1 8 8 rfl (by decide)
  have sh2 : IntKind.u64.wrap (((l.getD 2 0 : Nat) : Int) * 2 ^ min (16 : Int).toNat IntKind.u64.bits) = ((l.getD 2 0 * 65536 : Nat) : Int) := shlw hb2 16 16 rfl (by decide)
  have sh3 : IntKind.u64.wrap (((l.getD 3 0 : Nat) : Int) * 2 ^ min (24 : Int).toNat IntKind.u64.bits) = ((l.getD 3 0 * 16777216 : Nat) : Int) := shlw hb3 24 24 rfl (by decide)
  have sh4 : IntKind.u64.wrap (((l.getD 4 0 : Nat) : Int) * 2 ^ min (32 : Int).toNat IntKind.u64.bits) = ((l.getD 4 0 * 4294967296 : Nat) : Int) := shlw hb4 32 32 rfl (by decide)
  have sh5 : IntKind.u64.wrap (((l.getD 5 0 : Nat) : Int) * 2 ^ min (40 : Int).toNat IntKind.u64.bits) = ((l.getD 5 0 * 1099511627776 : Nat) : Int) := shlw hb5 40 40 rfl (by decide)
  have sh6 : IntKind.u64.wrap (((l.getD 6 0 : Nat) : Int) * 2 ^ min (48 : Int).toNat IntKind.u64.bits) = ((l.getD 6 0 * 281474976710656 : Nat) : Int) := shlw hb6 48 48 rfl (by decide)
  have sh7 : IntKind.u64.wrap (((l.getD 7 0 : Nat) : Int) * 2 ^ min (56 : Int).toNat IntKind.u64.bits) = ((l.getD 7 0 * 72057594037927936 : Nat) : Int) := shlw hb7 56 56 rfl (by decide)
  generalize e0 : l.getD 0 0 = x0 at *
  generalize e1 : l.getD 1 0 = x1 at *
  generalize e2 : l.getD 2 0 = x2 at *
  generalize e3 : l.getD 3 0 = x3 at *
  generalize e4 : l.getD 4 0 = x4 at *
  generalize e5 : l.getD 5 0 = x5 at *
  generalize e6 : l.getD 6 0 = x6 at *
  generalize e7 : l.getD 7 0 = x7 at *
  have L0 : x0 < 2 ^ 64 := Nat.lt_trans hb0 (by decide)
  have M1 : x1 * 256 < 2 ^ 64 := Nat.lt_of_lt_of_le (Nat.mul_lt_mul_of_pos_right hb1 (by decide)) (by decide)
  have o1 : ior .u64 ((x0 : Nat) : Int) ((x1 * 256 : Nat) : Int) = (((x0 ||| x1 * 256) : Nat) : Int) := orw L0 M1
  have L1 : (x0 ||| x1 * 256) < 2 ^ 64 := Nat.or_lt_two_pow L0 M1
  have M2 : x2 * 65536 < 2 ^ 64 := Nat.lt_of_lt_of_le (Nat.mul_lt_mul_of_pos_right hb2 (by decide)) (by decide)
  have o2 : ior .u64 (((x0 ||| x1 * 256) : Nat) : Int) ((x2 * 65536 : Nat) : Int) = ((((x0 ||| x1 * 256) ||| x2 * 65536) : Nat) : Int) := orw L1 M2
  have L2 : ((x0 ||| x1 * 256) ||| x2 * 65536) < 2 ^ 64 := Nat.or_lt_two_pow L1 M2
  have M3 : x3 * 16777216 < 2 ^ 64 := Nat.lt_of_lt_of_le (Nat.mul_lt_mul_of_pos_right hb3 (by decide)) (by decide)
  have o3 : ior .u64 ((((x0 ||| x1 * 256) ||| x2 * 65536) : Nat) : Int) ((x3 * 16777216 : Nat) : Int) = (((((x0 ||| x1 * 256) ||| x2 * 65536) ||| x3 * 16777216) : Nat) : Int) := orw L2 M3
  have L3 : (((x0 ||| x1 * 256) ||| x2 * 65536) ||| x3 * 16777216) < 2 ^ 64 := Nat.or_lt_two_pow L2 M3
  have M4 : x4 * 4294967296 < 2 ^ 64 := Nat.lt_of_lt_of_le (Nat.mul_lt_mul_of_pos_right hb4 (by decide)) (by decide)
  have o4 : ior .u64 (((((x0 ||| x1 * 256) ||| x2 * 65536) ||| x3 * 16777216) : Nat) : Int) ((x4 * 4294967296 : Nat) : Int) = ((((((x0 ||| x1 * 256) ||| x2 * 65536) ||| x3 * 16777216) ||| x4 * 4294967296) : Nat) : Int) := orw L3 M4
  have L4 : ((((x0 ||| x1 * 256) ||| x2 * 65536) ||| x3 * 16777216) ||| x4 * 4294967296) < 2 ^ 64 := Nat.or_lt_two_pow L3 M4
  have M5 : x5 * 1099511627776 < 2 ^ 64 := Nat.lt_of_lt_of_le (Nat.mul_lt_mul_of_pos_right hb5 (by decide)) (by decide)
  have o5 : ior .u64 ((((((x0 ||| x1 * 256) ||| x2 * 65536) ||| x3 * 16777216) ||| x4 * 4294967296) : Nat) : Int) ((x5 * 1099511627776 : Nat) : Int) = (((((((x0 ||| x1 * 256) ||| x2 * 65536) ||| x3 * 16777216) ||| x4 * 4294967296) ||| x5 * 1099511627776) : Nat) : Int) := orw L4 M5
  have L5 : (((((x0 ||| x1 * 256) ||| x2 * 65536) ||| x3 * 16777216) ||| x4 * 4294967296) ||| x5 * 1099511627776) < 2 ^ 64 := Nat.or_lt_two_pow L4 M5
  have M6 : x6 * 281474976710656 < 2 ^ 64 := Nat.lt_of_lt_of_le (Nat.mul_lt_mul_of_pos_right hb6 (by decide)) (by decide)
  have o6 : ior .u64 (((((((x0 ||| x1 * 256) ||| x2 * 65536) ||| x3 * 16777216) ||| x4 * 4294967296) ||| x5 * 1099511627776) : Nat) : Int) ((x6 * 281474976710656 : Nat) : Int) = ((((((((x0 ||| x1 * 256) ||| x2 * 65536) ||| x3 * 16777216) ||| x4 * 4294967296) ||| x5 * 1099511627776) ||| x6 * 281474976710656) : Nat) : Int) := orw L5 M6
  have L6 : ((((((x0 ||| x1 * 256) ||| x2 * 65536) ||| x3 * 16777216) ||| x4 * 4294967296) ||| x5 * 1099511627776) ||| x6 * 281474976710656) < 2 ^ 64 := Nat.or_lt_two_pow L5 M6
  have M7 : x7 * 72057594037927936 < 2 ^ 64 := Nat.lt_of_lt_of_le (Nat.mul_lt_mul_of_pos_right hb7 (by decide)) (by decide)
  have o7 : ior .u64 ((((((((x0 ||| x1 * 256) ||| x2 * 65536) ||| x3 * 16777216) ||| x4 * 4294967296) ||| x5 * 1099511627776) ||| x6 * 281474976710656) : Nat) : Int) ((x7 * 72057594037927936 : Nat) : Int) = (((((((((x0 ||| x1 * 256) ||| x2 * 65536) ||| x3 * 16777216) ||| x4 * 4294967296) ||| x5 * 1099511627776) ||| x6 * 281474976710656) ||| x7 * 72057594037927936) : Nat) : Int) := orw L6 M7
  have L7 : (((((((x0 ||| x1 * 256) ||| x2 * 65536) ||| x3 * 16777216) ||| x4 * 4294967296) ||| x5 * 1099511627776) ||| x6 * 281474976710656) ||| x7 * 72057594037927936) < 2 ^ 64 := Nat.or_lt_two_pow L6 M7
  have fin2 : K (.int .u64 (((((((((x0 ||| x1 * 256) ||| x2 * 65536) ||| x3 * 16777216) ||| x4 * 4294967296) ||| x5 * 1099511627776) ||| x6 * 281474976710656) ||| x7 * 72057594037927936) : Nat) : Int)) h := by
    rw [show (word8 fun i => l.getD i 0) = (((((((x0 ||| x1 * 256) ||| x2 * 65536) ||| x3 * 16777216) ||| x4 * 4294967296) ||| x5 * 1099511627776) ||| x6 * 281474976710656) ||| x7 * 72057594037927936) from by unfold word8; dsimp only; rw [e0, e1, e2, e3, e4, e5, e6, e7]] at fin
    exact fin
  clear fin k
  simp -zeta (disch := decide) only [GL, RL, ix0, cv0, ix1, cv1, ix2, cv2, ix3, cv3, ix4, cv4, ix5, cv5, ix6, cv6, ix7, cv7, sh1, o1, sh2, o2, sh3, o3, sh4, o4, sh5, o5, sh6, o6, sh7, o7]
  exact fin2
theorem gtLit (n m : Nat) (i : Int) (e : i = (m : Int)) : decide (i < (n : Int)) = decide (m < n) := by rw [e]; exact ltN m n
theorem eq0N (n : Nat) : (((n : Nat) : Int) == 0) = (n == 0) := beqN n 0
theorem T_ValidString {l : List Nat} (F : Fst h) (A : Acc h) (bl : Bytes l) (ll : l.length ≤ 9223372036854775807) (k : K (.bool (validU l)) h) : Cn P n_utf8_ValidString #[.string (strL l)] h K := by
  refine Cn_wk (F_utf8_ValidString ?_)
  unfold s_utf8_ValidString
  refine Lp_mk (fun m vs H => ∃ s : List Nat, s.length = m ∧ Bytes s ∧ s.length ≤ l.length ∧ H = h ∧ validU l = validU s ∧ vs = [.string (strL s), .bool false]) l.length ⟨l, rfl, bl, Nat.le_refl _, rfl, rfl, rfl⟩ ?_
  rintro m vs H ⟨s, rfl, bs, ls, rfl, ev, rfl⟩
  have sl : ∀ (n : Nat) {u : List Nat} {K : Value → Prop} {G : Hp}, n ≤ u.length → q P G (Instr.sliceAt t_string (.string (strL u)) (some (.int .i64 (n : Int))) none none) K = K (.string (strL (u.drop n))) := fun n {u K G} hn => q_slStL u_string u hn
  have sl1 : ∀ {u : List Nat} {K : Value → Prop} {G : Hp}, 1 ≤ u.length → q P G (Instr.sliceAt t_string (.string (strL u)) (some (.int .i64 1)) none none) K = K (.string (strL (u.drop 1))) := fun hn => sl 1 hn
  have sl2 : ∀ {u : List Nat} {K : Value → Prop} {G : Hp}, 2 ≤ u.length → q P G (Instr.sliceAt t_string (.string (strL u)) (some (.int .i64 2)) none none) K = K (.string (strL (u.drop 2))) := fun hn => sl 2 hn
  have sl3 : ∀ {u : List Nat} {K : Value → Prop} {G : Hp}, 3 ≤ u.length → q P G (Instr.sliceAt t_string (.string (strL u)) (some (.int .i64 3)) none none) K = K (.string (strL (u.drop 3))) := fun hn => sl 3 hn
  have sl4 : ∀ {u : List Nat} {K : Value → Prop} {G : Hp}, 4 ≤ u.length → q P G (Instr.sliceAt t_string (.string (strL u)) (some (.int .i64 4)) none none) K = K (.string (strL (u.drop 4))) := fun hn => sl 4 hn
  have sl8 : ∀ {u : List Nat} {K : Value → Prop} {G : Hp}, 8 ≤ u.length → q P G (Instr.sliceAt t_string (.string (strL u)) (some (.int .i64 8)) none none) K = K (.string (strL (u.drop 8))) := fun hn => sl 8 hn
  have sl16 : ∀ {u : List Nat} {K : Value → Prop} {G : Hp}, 16 ≤ u.length → q P G (Instr.sliceAt t_string (.string (strL u)) (some (.int .i64 16)) none none) K = K (.string (strL (u.drop 16))) := fun hn => sl 16 hn
  have sl24 : ∀ {u : List Nat} {K : Value → Prop} {G : Hp}, 24 ≤ u.length → q P G (Instr.sliceAt t_string (.string (strL u)) (some (.int .i64 24)) none none) K = K (.string (strL (u.drop 24))) := fun hn => sl 24 hn
  have sl32 : ∀ {u : List Nat} {K : Value → Prop} {G : Hp}, 32 ≤ u.length → q P G (Instr.sliceAt t_string (.string (strL u)) (some (.int .i64 32)) none none) K = K (.string (strL (u.drop 32))) := fun hn => sl 32 hn
  have drB : ∀ (n : Nat) {u : List Nat}, Bytes u → Bytes (u.drop n) := fun n {u} hu x hx => hu x (List.mem_of_mem_drop hx)
  rw [List.getD_cons_zero, List.getD_cons_succ, List.getD_cons_zero, q_lenSt u_string, q_gtr, gtLit _ 0 0 rfl]
  by_cases g0 : 0 < s.length
  · have ix0 : ∀ {K : Value → Prop}, q P H (Instr.index t_string (.string (strL s)) (.int .i64 0)) K = K (.int .u8 ((s.getD 0 0 : Nat) : Int)) := fun {K} => q_idxSt u_string bs g0
    rw [cnd_bool, if_pos (decide_eq_true g0), ix0]
    have c0 := bs _ (getD_memB g0)
    have sne := List.length_pos_iff.1 g0
    have hd : decide (((s.getD 0 0 : Nat) : Int) < 128) = decide (s.getD 0 0 < 128) := ltN _ 128
    have ef : s = s.getD 0 0 :: s.drop 1 := by have := drop_consD g0; simpa using this
    rw [q_lss, hd]
    have nxt : ∀ (H' : Hp) (u : List Nat), Hp.le H H' → u.length < s.length → Bytes u → validU s = validU u → ∃ h0 : Hp, Hp.le h0 H' ∧ ∃ m', m' < s.length ∧ ∃ s1 : List Nat, s1.length = m' ∧ Bytes s1 ∧ s1.length ≤ l.length ∧ h0 = H ∧ validU l = validU s1 ∧ [Value.string (strL u), .bool false] = [.string (strL s1), .bool false] :=
      fun H' u le lu bu e => ⟨H, le, u.length, lu, u, rfl, bu, by omega, rfl, by rw [ev, e], rfl⟩
    by_cases g1 : s.getD 0 0 < 128
    · rw [cnd_bool, if_pos (decide_eq_true g1), sl1 g0]
      have e1 : validU s = validU (s.drop 1) := by
        have := validU_ascii (s.drop 1) g1
        rw [← ef] at this
        exact this
      have l1 : (s.drop 1).length < s.length := by rw [List.length_drop]; omega
      generalize s.drop 1 = s1 at *
      have b1 : Bytes s1 := by
        intro x hx
        exact bs x (by rw [ef]; simp [hx])
      intro J11
      have q11t : 8 ≤ s1.length → (∀ x ∈ s1.take 8, x < 128) → J11 (.bool true) H := fun h8 ha => by
        simp -zeta only [J11]
        clear J11
        rw [cnd_bool, if_pos rfl, sl8 h8]
        have e2 : validU s = validU (s1.drop 8) := by rw [e1]; exact validU_skip 8 h8 ha
        have l2 : (s1.drop 8).length < s.length := by rw [List.length_drop]; omega
        have b2 := drB 8 b1
        generalize s1.drop 8 = s2 at *
        intro J13
        have q13t : 16 ≤ s2.length → (∀ x ∈ s2.take 16, x < 128) → J13 (.bool true) H := fun h16 ha => by
          simp -zeta only [J13]
          clear J13
          rw [cnd_bool, if_pos rfl, sl16 h16]
          have e3 : validU s = validU (s2.drop 16) := by rw [e2]; exact validU_skip 16 h16 ha
          have l3 : (s2.drop 16).length < s.length := by rw [List.length_drop]; omega
          have b3 := drB 16 b2
          generalize s2.drop 16 = s3 at *
          refine Lp_mk (fun m vs G => ∃ u : List Nat, u.length = m ∧ Bytes u ∧ u.length < s.length ∧ G = H ∧ validU s = validU u ∧ vs = [.string (strL u)]) s3.length ⟨s3, rfl, b3, l3, rfl, e3, rfl⟩ ?_
          rintro m vs G ⟨u, rfl, bu, lu, rfl, eu, rfl⟩
          rw [List.getD_cons_zero, q_lenSt u_string, q_gtr, gtLit _ 32 32 rfl]
          by_cases g32 : 32 < u.length
          · rw [gd_bool, if_pos (decide_eq_true g32), sl8 (by omega), sl16 (by omega), sl24 (by omega)]
            have p8 : ∀ {G : Hp}, peek P G (Instr.sliceAt t_string (.string (strL u)) (some (.int .i64 8)) none none) = some (.string (strL (u.drop 8))) := fun {G} => pk_q fun K => sl8 (by omega)
            have p16 : ∀ {G : Hp}, peek P G (Instr.sliceAt t_string (.string (strL u)) (some (.int .i64 16)) none none) = some (.string (strL (u.drop 16))) := fun {G} => pk_q fun K => sl16 (by omega)
            have p24 : ∀ {G : Hp}, peek P G (Instr.sliceAt t_string (.string (strL u)) (some (.int .i64 24)) none none) = some (.string (strL (u.drop 24))) := fun {G} => pk_q fun K => sl24 (by omega)
            refine T_word bu (by omega) fun w1 W1 => ⟨p24, p16, p8, ?_⟩
            refine T_word (drB 8 bu) (by rw [List.length_drop]; omega) fun w2 W2 => ⟨p24, p16, ?_⟩
            rw [q_or, orw W1.1 W2.1]
            refine T_word (drB 16 bu) (by rw [List.length_drop]; omega) fun w3 W3 => ⟨p24, ?_⟩
            refine T_word (drB 24 bu) (by rw [List.length_drop]; omega) fun w4 W4 => ?_
            have o12 := Nat.or_lt_two_pow W1.1 W2.1
            have o34 := Nat.or_lt_two_pow W3.1 W4.1
            rw [q_or, orw W3.1 W4.1, q_or, orw o12 o34, q_and, andw (Nat.or_lt_two_pow o12 o34), q_eql, eq0N, cnd_bool]
            by_cases gz : ((w1 ||| w2) ||| (w3 ||| w4)) &&& M8 = 0
            · rw [if_pos (by simpa using gz), sl32 (by omega)]
              obtain ⟨z1, z2⟩ := and_or0 gz
              obtain ⟨z1, z1'⟩ := and_or0 z1
              obtain ⟨z2, z2'⟩ := and_or0 z2
              have a1 := W1.2 z1
              have a2 := W2.2 z1'
              have a3 := W3.2 z2
              have a4 := W4.2 z2'
              have ea : validU u = validU (u.drop 32) := by
                rw [validU_skip 8 (by omega) a1, validU_skip 8 (by rw [List.length_drop]; omega) a2, List.drop_drop, validU_skip 8 (by rw [List.length_drop]; omega) a3, List.drop_drop, validU_skip 8 (by rw [List.length_drop]; omega) a4, List.drop_drop]
              exact ⟨G, .refl _, (u.drop 32).length, by rw [List.length_drop]; omega, u.drop 32, rfl, drB 32 bu, by rw [List.length_drop]; omega, rfl, by rw [eu, ea], rfl⟩
            · rw [if_neg (by simpa using gz)]
              exact nxt G u (.refl _) lu bu eu
          · rw [gd_bool, if_neg (by simpa using g32), cnd_bool, if_neg (by decide)]
            exact nxt G u (.refl _) lu bu eu
        have q13f : J13 (.bool false) H := by
          simp -zeta only [J13]
          clear J13 q13t
          rw [cnd_bool, if_neg (by decide)]
          exact nxt H s2 (.refl _) l2 b2 e2
        clear_value J13
        rw [q_lenSt u_string, q_gtr, gtLit _ 16 16 rfl]
        by_cases g16 : 16 < s2.length
        · rw [gd_bool, if_pos (decide_eq_true g16), sl8 (by omega)]
          have p8 : ∀ {G : Hp}, peek P G (Instr.sliceAt t_string (.string (strL s2)) (some (.int .i64 8)) none none) = some (.string (strL (s2.drop 8))) := fun {G} => pk_q fun K => sl8 (by omega)
          refine T_word b2 (by omega) fun w1 W1 => ⟨p8, ?_⟩
          refine T_word (drB 8 b2) (by rw [List.length_drop]; omega) fun w2 W2 => ?_
          rw [q_or, orw W1.1 W2.1, q_and, andw (Nat.or_lt_two_pow W1.1 W2.1), q_eql, eq0N]
          by_cases gz : (w1 ||| w2) &&& M8 = 0
          · rw [show ((w1 ||| w2) &&& M8 == 0) = true by simpa using gz]
            obtain ⟨z1, z2⟩ := and_or0 gz
            refine q13t (by omega) fun x hx => ?_
            have a1 := W1.2 z1
            have a2 := W2.2 z2
            have : s2.take 16 = s2.take 8 ++ (s2.drop 8).take 8 := by rw [show (16 : Nat) = 8 + 8 from rfl, List.take_add]
            rw [this] at hx
            exact (List.mem_append.1 hx).elim (a1 x) (a2 x)
          · rw [show ((w1 ||| w2) &&& M8 == 0) = false by simpa using gz]
            exact q13f
        · rw [gd_bool, if_neg (by simpa using g16)]
          exact q13f
      have q11f : J11 (.bool false) H := by
        simp -zeta only [J11]
        clear J11 q11t
        rw [cnd_bool, if_neg (by decide)]
        exact nxt H s1 (.refl _) l1 b1 e1
      clear_value J11
      rw [q_lenSt u_string, q_gtr, gtLit _ 8 8 rfl]
      by_cases g8 : 8 < s1.length
      · rw [gd_bool, if_pos (decide_eq_true g8)]
        refine T_word b1 (by omega) fun w1 W1 => ?_
        rw [q_and, andw W1.1, q_eql, eq0N]
        by_cases gz : w1 &&& M8 = 0
        · rw [show (w1 &&& M8 == 0) = true by simpa using gz]
          exact q11t (by omega) (W1.2 gz)
        · rw [show (w1 &&& M8 == 0) = false by simpa using gz]
          exact q11f
      · rw [gd_bool, if_neg (by simpa using g8)]
        exact q11f
    · rw [cnd_bool, if_neg (by simpa using g1)]
      have en := runeN_eq s sne
      have sp := fst_spec _ c0 (by omega)
      have f0 := F _ c0
      rw [if_neg g1] at en
      have vs0 := validU_cons sne
      generalize ec : s.getD 0 0 = c at *
      have fl : fstT c < 256 := by
        by_cases g : c < 194 ∨ 245 ≤ c
        · rw [if_pos g] at sp; omega
        · rw [if_neg g] at sp; omega
      have ixg : ∀ {K : Value → Prop}, q P H (Instr.indexAt t_256_uint8 (.pointer (some ⟨gl_unicode_utf8_first, 0, none⟩)) (.int .u8 (c : Int))) K = K (.pointer (some ⟨gl_unicode_utf8_first, c, none⟩)) := fun {K} => by
        rw [q_idxA u_256_uint8 z_uint8 _ _ _ (by omega) (by omega), Int.toNat_natCast, add_off, Nat.zero_add, Nat.mul_one]
      have wsz : IntKind.i64.wrap ((fstT c % 8 : Nat) : Int) = ((fstT c % 8 : Nat) : Int) := wi64 (by omega) (by omega)
      rw [ixg]
      simp -zeta only [RL, f0, GL, and7 _ fl, wsz]
      rw [q_shr _ _ _ _ _ (by decide), shr4 _ fl]
      obtain ⟨a0, a1⟩ := A (fstT c / 16) (by omega)
      generalize el : accT.getD (fstT c / 16) (0, 0) = lh at *
      obtain ⟨lo, hi⟩ := lh
      have lo8 : lo < 256 ∧ hi < 256 := by
        have : ∀ i, i < 16 → (accT.getD i (0, 0)).1 < 256 ∧ (accT.getD i (0, 0)).2 < 256 := by decide
        have := this (fstT c / 16) (by omega)
        rw [el] at this; exact this
      rw [q_idxA u_16_utf8_acceptRange z_utf8_acceptRange _ _ _ (by omega) (by omega), Int.toNat_natCast, add_off, Nat.zero_add]
      rw [q_ldAgg (ys := [.int .u8 (lo : Int), .int .u8 (hi : Int)]) u_utf8_acceptRange rfl z_utf8_acceptRange (fun j x e => by
        match j, e with
        | 0, e => cases e; exact a0
        | 1, e => cases e; exact a1
        | n + 2, e => simp at e)]
      refine aw_allocL [.int .u8 0, .int .u8 0] zr_acc rfl fun r0 hr0 => ?_
      refine aw_storeRow (ys := [.int .u8 (lo : Int), .int .u8 (hi : Int)]) z_utf8_acceptRange (Hp.set_same ..) rfl (by intro y hy; simp at hy; rcases hy with rfl | rfl <;> rfl) (fun i _ q => Nat.not_lt_zero _ q.2) ?_
      rw [Hp.set_set]
      generalize hH : H.set r0 (.row t_utf8_acceptRange [.int .u8 (lo : Int), .int .u8 (hi : Int)] [Value.int .u8 0, .int .u8 0].length (some (0, 0))) = G
      have xt : Hp.ext H G := by rw [← hH]; exact ext_set _ hr0
      have b0 : G.cell ⟨r0, 0, none⟩ = some (.int .u8 (lo : Int)) := by rw [← hH, cell_row (Hp.set_same ..)]; rfl
      have b1 : G.cell ⟨r0, 1, none⟩ = some (.int .u8 (hi : Int)) := by rw [← hH, cell_row (Hp.set_same ..)]; rfl
      clear hH
      have bad : validU s = false → ∃ h0, Hp.le h0 G ∧ K (.bool false) h0 := fun q => ⟨H, xt.le, by rw [ev, q] at k; exact k⟩
      have good : ∀ u, validU s = validU u → u.length < s.length → Bytes u → _ := fun u e l1 bu => nxt G u xt.le l1 bu e
      have ix1 : ∀ {K : Value → Prop}, 1 < s.length → q P emp (Instr.index t_string (.string (strL s)) (.int .i64 1)) K = K (.int .u8 ((s.getD 1 0 : Nat) : Int)) := fun {K} g => q_idxSt u_string bs g
      have ix2 : ∀ {K : Value → Prop}, 2 < s.length → q P emp (Instr.index t_string (.string (strL s)) (.int .i64 2)) K = K (.int .u8 ((s.getD 2 0 : Nat) : Int)) := fun {K} g => q_idxSt u_string bs g
      have ix3 : ∀ {K : Value → Prop}, 3 < s.length → q P emp (Instr.index t_string (.string (strL s)) (.int .i64 3)) K = K (.int .u8 ((s.getD 3 0 : Nat) : Int)) := fun {K} g => q_idxSt u_string bs g
      have dc : ∀ i, decide (((s.getD i 0 : Nat) : Int) < 128) = decide (s.getD i 0 < 128) := fun i => ltN _ 128
      have dh : ∀ i, decide ((191 : Int) < ((s.getD i 0 : Nat) : Int)) = decide (191 < s.getD i 0) := fun i => ltN 191 _
      have dl : ∀ n : Nat, decide (((s.length : Nat) : Int) < (n : Int)) = decide (s.length < n) := fun n => ltN _ n
      have dl2 : decide (((s.length : Nat) : Int) < 2) = decide (s.length < 2) := dl 2
      have dl3 : decide (((s.length : Nat) : Int) < 3) = decide (s.length < 3) := dl 3
      have dl4 : decide (((s.length : Nat) : Int) < 4) = decide (s.length < 4) := dl 4
      have e2 : ((((fstT c % 8 : Nat) : Int)) == 2) = decide (fstT c % 8 = 2) := by rw [show ((2 : Int)) = ((2 : Nat) : Int) from rfl, beqN]; rfl
      have e3 : ((((fstT c % 8 : Nat) : Int)) == 3) = decide (fstT c % 8 = 3) := by rw [show ((3 : Int)) = ((3 : Nat) : Int) from rfl, beqN]; rfl
      have e4 : ((((fstT c % 8 : Nat) : Int)) == 4) = decide (fstT c % 8 = 4) := by rw [show ((4 : Int)) = ((4 : Nat) : Int) from rfl, beqN]; rfl
      simp -zeta only [GL, e2]
      by_cases g2 : c < 194 ∨ 245 ≤ c
      · rw [if_pos g2] at en sp
        rw [en] at vs0
        rw [sp]
        simp -zeta only [show decide (241 % 8 = 2) = false from rfl, show decide (241 % 8 = 3) = false from rfl, show decide (241 % 8 = 4) = false from rfl, GL, show ((((241 % 8 : Nat) : Int)) == 3) = false from rfl, show ((((241 % 8 : Nat) : Int)) == 4) = false from rfl, Bool.false_eq_true, if_false]
        exact bad vs0
      rw [if_neg g2] at en sp
      obtain ⟨s1, s2, s3, s4⟩ := sp
      have elo : lo = (acc2 c).1 ∧ hi = (acc2 c).2 := by
        have := s3
        exact ⟨congrArg Prod.fst this, congrArg Prod.snd this⟩
      have acp := acc2_pos c
      rw [s4] at e3 e4 ⊢
      by_cases gA : c < 224
      · simp -zeta only [gA, if_true] at en ⊢
        simp -zeta only [decide_true, if_true, GL, RL, strL_size, dl2]
        by_cases gl : s.length < 2
        · simp -zeta only [gl, decide_true, Bool.true_eq_false, if_false, GL, if_true]
          refine bad ?_
          rw [vs0, en, if_neg]
          intro q
          rw [if_neg (fun z => by have := getD_pos z.1 (by omega); omega)] at q
          omega
        simp -zeta only [gl, decide_false, if_true, GL]
        rw [ix1 (by omega)]
        simp -zeta only [acf0, acf1, RL, b0, b1, GL, ltN]
        by_cases g3 : s.getD 1 0 < lo
        · simp -zeta only [g3, decide_true, Bool.true_eq_false, if_false, if_true]
          refine bad ?_
          rw [vs0, en, if_neg]
          intro q; rw [if_neg (fun z => by omega)] at q; omega
        simp -zeta only [g3, decide_false, if_true, GL, RL, acf1, b1]
        rw [ix1 (by omega)]
        try simp -zeta only [GL, ltN]
        by_cases g4 : hi < s.getD 1 0
        · rw [if_pos (decide_eq_true g4)]
          refine bad ?_
          rw [vs0, en, if_neg]
          intro q; rw [if_neg (fun z => by omega)] at q; omega
        rw [if_neg (by simpa using g4), sl2 (by omega)]
        rw [if_pos (by omega)] at en
        exact good _ (by rw [vs0, en]; rfl) (by rw [List.length_drop]; omega) (drB 2 bs)
      simp -zeta only [gA, if_false] at en e3 e4 ⊢
      by_cases gB : c < 240
      · simp -zeta only [gB, if_true] at en e3 ⊢
        simp -zeta only [show decide (3 = 2) = false from rfl, decide_false, decide_true, Bool.false_eq_true, if_false, e3, if_true, GL, RL, strL_size, dl3]
        by_cases gl : s.length < 3
        · simp -zeta only [gl, decide_true, Bool.true_eq_false, if_false, GL, if_true]
          refine bad ?_
          rw [vs0, en, if_neg]
          intro q
          by_cases z : (acc2 c).1 ≤ s.getD 1 0 ∧ s.getD 1 0 ≤ (acc2 c).2
          · rw [if_pos z, if_neg] at q
            · omega
            · intro y; simp only [cont, decide_eq_true_eq] at y; have := getD_pos y.1 (by omega); omega
          · rw [if_neg z] at q; omega
        simp -zeta only [gl, decide_false, if_true, GL]
        rw [ix1 (by omega)]
        simp -zeta only [acf0, acf1, RL, b0, b1, GL, ltN]
        by_cases g3 : s.getD 1 0 < lo
        · simp -zeta only [g3, decide_true, Bool.true_eq_false, if_false, if_true]
          refine bad ?_
          rw [vs0, en, if_neg]
          intro q; rw [if_neg (fun z => by omega)] at q; omega
        simp -zeta only [g3, decide_false, if_true, GL, RL, acf1, b1]
        rw [ix1 (by omega)]
        try simp -zeta only [GL, ltN]
        by_cases g4 : hi < s.getD 1 0
        · simp -zeta only [g4, decide_true, Bool.true_eq_false, if_false, GL, if_true]
          refine bad ?_
          rw [vs0, en, if_neg]
          intro q; rw [if_neg (fun z => by omega)] at q; omega
        simp -zeta only [g4, decide_false, if_true, GL]
        rw [if_pos (by omega)] at en
        have ct : ∀ x, ¬ (128 ≤ x ∧ x < 192) → cont x = false := fun x q => decide_eq_false q
        rw [ix2 (by omega), q_lss, dc 2]
        by_cases g5 : s.getD 2 0 < 128
        · simp -zeta only [g5, decide_true, Bool.true_eq_false, if_false, GL, if_true]
          refine bad ?_
          rw [vs0, en, ct _ (by omega)]; rfl
        simp -zeta only [g5, decide_false, if_true, GL]
        rw [ix2 (by omega), q_lss, dh 2]
        by_cases g6 : 191 < s.getD 2 0
        · simp -zeta only [g6, decide_true, GL, if_true]
          refine bad ?_
          rw [vs0, en, ct _ (by omega)]; rfl
        simp -zeta only [g6, decide_false, Bool.false_eq_true, if_false, GL]
        rw [sl3 (by omega)]
        have : cont (s.getD 2 0) = true := decide_eq_true ⟨by omega, by omega⟩
        rw [this] at en
        exact good _ (by rw [vs0, en]; rfl) (by rw [List.length_drop]; omega) (drB 3 bs)
      simp -zeta only [gB, if_false] at en e3 e4 ⊢
      simp -zeta only [show decide (4 = 2) = false from rfl, decide_false, decide_true, Bool.false_eq_true, if_false, e3, e4, show decide (4 = 3) = false from rfl, if_true, GL, RL, strL_size, dl4]
      by_cases gl : s.length < 4
      · simp -zeta only [gl, decide_true, Bool.true_eq_false, if_false, GL, if_true]
        refine bad ?_
        rw [vs0, en, if_neg]
        intro q
        by_cases z : (acc2 c).1 ≤ s.getD 1 0 ∧ s.getD 1 0 ≤ (acc2 c).2
        · rw [if_pos z] at q
          by_cases y : cont (s.getD 2 0) = true
          · rw [if_pos y, if_neg] at q
            · omega
            · intro x; simp only [cont, decide_eq_true_eq] at x; have := getD_pos x.1 (by omega); omega
          · rw [if_neg y] at q; omega
        · rw [if_neg z] at q; omega
      simp -zeta only [gl, decide_false, if_true, GL]
      rw [ix1 (by omega)]
      simp -zeta only [acf0, acf1, RL, b0, b1, GL, ltN]
      by_cases g3 : s.getD 1 0 < lo
      · simp -zeta only [g3, decide_true, Bool.true_eq_false, if_false, if_true]
        refine bad ?_
        rw [vs0, en, if_neg]
        intro q; rw [if_neg (fun z => by omega)] at q; omega
      simp -zeta only [g3, decide_false, if_true, GL, RL, acf1, b1]
      rw [ix1 (by omega)]
      try simp -zeta only [GL, ltN]
      by_cases g4 : hi < s.getD 1 0
      · simp -zeta only [g4, decide_true, Bool.true_eq_false, if_false, GL, if_true]
        refine bad ?_
        rw [vs0, en, if_neg]
        intro q; rw [if_neg (fun z => by omega)] at q; omega
      simp -zeta only [g4, decide_false, if_true, GL]
      rw [if_pos (by omega)] at en
      have ct : ∀ x, ¬ (128 ≤ x ∧ x < 192) → cont x = false := fun x q => decide_eq_false q
      rw [ix2 (by omega), q_lss, dc 2]
      by_cases g5 : s.getD 2 0 < 128
      · simp -zeta only [g5, decide_true, Bool.true_eq_false, if_false, GL, if_true]
        refine bad ?_
        rw [vs0, en, ct _ (by omega)]; rfl
      simp -zeta only [g5, decide_false, if_true, GL]
      rw [ix2 (by omega), q_lss, dh 2]
      by_cases g6 : 191 < s.getD 2 0
      · simp -zeta only [g6, decide_true, Bool.true_eq_false, if_false, GL, if_true]
        refine bad ?_
        rw [vs0, en, ct _ (by omega)]; rfl
      simp -zeta only [g6, decide_false, if_true, GL]
      have c2t : cont (s.getD 2 0) = true := decide_eq_true ⟨by omega, by omega⟩
      rw [c2t, if_pos rfl] at en
      rw [ix3 (by omega), q_lss, dc 3]
      by_cases g7 : s.getD 3 0 < 128
      · simp -zeta only [g7, decide_true, Bool.true_eq_false, if_false, GL, if_true]
        refine bad ?_
        rw [vs0, en, ct _ (by omega)]; rfl
      simp -zeta only [g7, decide_false, if_true, GL]
      rw [ix3 (by omega), q_lss, dh 3]
      by_cases g8 : 191 < s.getD 3 0
      · simp -zeta only [g8, decide_true, GL, if_true]
        refine bad ?_
        rw [vs0, en, ct _ (by omega)]; rfl
      simp -zeta only [g8, decide_false, Bool.false_eq_true, if_false, GL]
      rw [sl4 (by omega)]
      have c3t : cont (s.getD 3 0) = true := decide_eq_true ⟨by omega, by omega⟩
      rw [c3t, if_pos rfl] at en
      exact good _ (by rw [vs0, en]; rfl) (by rw [List.length_drop]; omega) (drB 4 bs)
  · rw [cnd_bool, if_neg (by simpa using g0)]
    have : s = [] := List.length_eq_zero_iff.1 (by omega)
    rw [this, validU_nil] at ev
    rw [ev] at k
    exact ⟨H, .refl _, k⟩
end
section
variable {h : Hp} {K : Value → Hp → Prop}
theorem T_EqFV {v w f : Value} {cs ds : List (List Value)} {ls ms : List JV} (sl : SlAt h 6 v cs) (sm : SlAt h 6 w ds) (lc : cs.length = ls.length) (ld : ds.length = ms.length) (bl : ls.length ≤ 1125899906842624)
    (fc : ∀ c ∈ cs, c.length = 6 ∧ ∀ y ∈ c, SL.flat y = true) (fd : ∀ c ∈ ds, c.length = 6 ∧ ∀ y ∈ c, SL.flat y = true)
    (hf : ∀ (i : Nat) (c d : List Value) (x y : JV), cs[i]? = some c → ds[i]? = some d → ls[i]? = some x → ms[i]? = some y → ∀ {H : Hp} {K : Value → Hp → Prop}, Hp.ext h H → (∀ g : Bool, (g = true ↔ x = y) → K (.bool g) H) → callP P f [.agg c.toArray, .agg d.toArray] H K)
    (k : ∀ g : Bool, (g = true ↔ ls = ms) → K (.bool g) h) : Cn P n_slices_EqualFunc_api_Value_api_Value_api_Value_api_Value #[v, w, f] h K := by
  refine Cn_wk (F_slices_EqualFunc_api_Value_api_Value_api_Value_api_Value ?_)
  unfold s_slices_EqualFunc_api_Value_api_Value_api_Value_api_Value
  obtain ⟨va, vc, rfl, hvc⟩ := sl.shape
  obtain ⟨wa, wc, rfl, hwc⟩ := sm.shape
  rw [lc] at sl ⊢
  rw [ld] at sm ⊢
  have dn : (((ls.length : Nat) : Int) != ((ms.length : Nat) : Int)) = decide (ls.length ≠ ms.length) := by rw [Bool.eq_iff_iff, bne_iff_ne, decide_eq_true_eq]; omega
  simp -zeta only [RL, GL, dn]
  by_cases gl : ls.length ≠ ms.length
  · rw [if_pos (decide_eq_true gl)]
    exact ⟨h, .refl _, k false ⟨fun q => (by cases q), fun q => absurd (by rw [q]) gl⟩⟩
  rw [if_neg (by simpa using gl)]
  have gl : ls.length = ms.length := by omega
  refine Lp_mk (fun m vs H => ∃ i : Nat, i + m = ls.length ∧ H = h ∧ ls.take i = ms.take i ∧ vs = [.bool false, .int .i64 (i : Int)]) ls.length ⟨0, by omega, rfl, by simp, rfl⟩ ?_
  rintro m vs H ⟨i, hi, rfl, ha, rfl⟩
  simp -zeta only [GL, ltN]
  by_cases g : i < ls.length
  · rw [if_pos (decide_eq_true g)]
    have ec : cs[i]? = some (cs[i]'(by omega)) := List.getElem?_eq_getElem _
    have ed : ds[i]? = some (ds[i]'(by omega)) := List.getElem?_eq_getElem _
    have el : ls[i]? = some ls[i] := List.getElem?_eq_getElem _
    have em : ms[i]? = some (ms[i]'(by omega)) := List.getElem?_eq_getElem _
    obtain ⟨lc6, fc6⟩ := fc _ (List.getElem_mem (show i < cs.length by omega))
    obtain ⟨ld6, fd6⟩ := fd _ (List.getElem_mem (show i < ds.length by omega))
    have w1 : IntKind.i64.wrap ((i : Int) + 1) = ((i + 1 : Nat) : Int) := by rw [wi64 (by omega) (by omega)]; omega
    refine aw_itemAt (zs := row0 0) u_Sl_api_Value z_api_Value u_api_Value rfl zr_Jv rfl sl (fun _ _ e => e) ec lc6 fc6 fun r8 hr8 => ?_
    have x8 := ext_set (.row t_api_Value (cs[i]'(by omega)) 6 (some (0, 0))) hr8
    have e8 : (H.set r8 (.row t_api_Value (cs[i]'(by omega)) 6 (some (0, 0)))) r8 = some (.row t_api_Value (cs[i]'(by omega)) 6 (some (0, 0))) := Hp.set_same ..
    refine aw_itemAt (zs := row0 0) u_Sl_api_Value z_api_Value u_api_Value rfl zr_Jv rfl sm x8.cle ed ld6 fd6 fun r9 hr9 => ?_
    have x9 := ext_set (.row t_api_Value (ds[i]'(by omega)) 6 (some (0, 0))) hr9
    have e9 : ((H.set r8 (.row t_api_Value (cs[i]'(by omega)) 6 (some (0, 0)))).set r9 (.row t_api_Value (ds[i]'(by omega)) 6 (some (0, 0)))) r9 = some (.row t_api_Value (ds[i]'(by omega)) 6 (some (0, 0))) := Hp.set_same ..
    have e8' := x9 _ _ e8
    rw [q_ldRow (ys := cs[i]'(by omega)) u_api_Value rfl (by rw [lc6]; exact z_api_Value) e8', q_ldRow (ys := ds[i]'(by omega)) u_api_Value rfl (by rw [ld6]; exact z_api_Value) e9]
    refine hf i _ _ _ _ ec ed el em (x8.trans x9) fun g hg => ?_
    cases g with
    | false =>
      simp -zeta only [GL, Bool.not_false, if_true]
      refine ⟨H, (x8.trans x9).le, k false ⟨fun q => (by cases q), fun q => ?_⟩⟩
      have := hg.2 (by
        have e1 : ls[i]? = ms[i]? := congrArg (fun l => l[i]?) q
        rw [el, em] at e1
        exact Option.some.inj e1)
      cases this
    | true =>
      simp -zeta only [GL, Bool.not_true, Bool.false_eq_true, if_false, w1]
      refine ⟨H, (x8.trans x9).le, m - 1, by omega, i + 1, by omega, rfl, ?_, rfl⟩
      rw [List.take_add_one, List.take_add_one, ha, el, em, hg.1 rfl]
  · rw [if_neg (by simpa using g)]
    refine ⟨H, .refl _, k true ⟨fun _ => ?_, fun _ => rfl⟩⟩
    rw [List.take_of_length_le (by omega), List.take_of_length_le (by omega)] at ha
    exact ha
theorem T_EqFM {v w f : Value} {cs ds : List (List Value)} {ls ms : List (List Nat × JV)} (sl : SlAt h 7 v cs) (sm : SlAt h 7 w ds) (lc : cs.length = ls.length) (ld : ds.length = ms.length) (bl : ls.length ≤ 1125899906842624)
    (fc : ∀ c ∈ cs, c.length = 7 ∧ ∀ y ∈ c, SL.flat y = true) (fd : ∀ c ∈ ds, c.length = 7 ∧ ∀ y ∈ c, SL.flat y = true)
    (hf : ∀ (i : Nat) (c d : List Value) (x y : (List Nat × JV)), cs[i]? = some c → ds[i]? = some d → ls[i]? = some x → ms[i]? = some y → ∀ {H : Hp} {K : Value → Hp → Prop}, Hp.ext h H → (∀ g : Bool, (g = true ↔ x = y) → K (.bool g) H) → callP P f [.agg c.toArray, .agg d.toArray] H K)
    (k : ∀ g : Bool, (g = true ↔ ls = ms) → K (.bool g) h) : Cn P n_slices_EqualFunc_api_Member_api_Member_api_Member_api_Member #[v, w, f] h K := by
  refine Cn_wk (F_slices_EqualFunc_api_Member_api_Member_api_Member_api_Member ?_)
  unfold s_slices_EqualFunc_api_Member_api_Member_api_Member_api_Member
  obtain ⟨va, vc, rfl, hvc⟩ := sl.shape
  obtain ⟨wa, wc, rfl, hwc⟩ := sm.shape
  rw [lc] at sl ⊢
  rw [ld] at sm ⊢
  have dn : (((ls.length : Nat) : Int) != ((ms.length : Nat) : Int)) = decide (ls.length ≠ ms.length) := by rw [Bool.eq_iff_iff, bne_iff_ne, decide_eq_true_eq]; omega
  simp -zeta only [RL, GL, dn]
  by_cases gl : ls.length ≠ ms.length
  · rw [if_pos (decide_eq_true gl)]
    exact ⟨h, .refl _, k false ⟨fun q => (by cases q), fun q => absurd (by rw [q]) gl⟩⟩
  rw [if_neg (by simpa using gl)]
  have gl : ls.length = ms.length := by omega
  refine Lp_mk (fun m vs H => ∃ i : Nat, i + m = ls.length ∧ H = h ∧ ls.take i = ms.take i ∧ vs = [.bool false, .int .i64 (i : Int)]) ls.length ⟨0, by omega, rfl, by simp, rfl⟩ ?_
  rintro m vs H ⟨i, hi, rfl, ha, rfl⟩
  simp -zeta only [GL, ltN]
  by_cases g : i < ls.length
  · rw [if_pos (decide_eq_true g)]
    have ec : cs[i]? = some (cs[i]'(by omega)) := List.getElem?_eq_getElem _
    have ed : ds[i]? = some (ds[i]'(by omega)) := List.getElem?_eq_getElem _
    have el : ls[i]? = some ls[i] := List.getElem?_eq_getElem _
    have em : ms[i]? = some (ms[i]'(by omega)) := List.getElem?_eq_getElem _
    obtain ⟨lc6, fc6⟩ := fc _ (List.getElem_mem (show i < cs.length by omega))
    obtain ⟨ld6, fd6⟩ := fd _ (List.getElem_mem (show i < ds.length by omega))
    have w1 : IntKind.i64.wrap ((i : Int) + 1) = ((i + 1 : Nat) : Int) := by rw [wi64 (by omega) (by omega)]; omega
    refine aw_itemAt (zs := .string ⟨#[]⟩ :: row0 0) u_Sl_api_Member z_api_Member u_api_Member rfl zr_Me rfl sl (fun _ _ e => e) ec lc6 fc6 fun r8 hr8 => ?_
    have x8 := ext_set (.row t_api_Member (cs[i]'(by omega)) 7 (some (0, 0))) hr8
    have e8 : (H.set r8 (.row t_api_Member (cs[i]'(by omega)) 7 (some (0, 0)))) r8 = some (.row t_api_Member (cs[i]'(by omega)) 7 (some (0, 0))) := Hp.set_same ..
    refine aw_itemAt (zs := .string ⟨#[]⟩ :: row0 0) u_Sl_api_Member z_api_Member u_api_Member rfl zr_Me rfl sm x8.cle ed ld6 fd6 fun r9 hr9 => ?_
    have x9 := ext_set (.row t_api_Member (ds[i]'(by omega)) 7 (some (0, 0))) hr9
    have e9 : ((H.set r8 (.row t_api_Member (cs[i]'(by omega)) 7 (some (0, 0)))).set r9 (.row t_api_Member (ds[i]'(by omega)) 7 (some (0, 0)))) r9 = some (.row t_api_Member (ds[i]'(by omega)) 7 (some (0, 0))) := Hp.set_same ..
    have e8' := x9 _ _ e8
    rw [q_ldRow (ys := cs[i]'(by omega)) u_api_Member rfl (by rw [lc6]; exact z_api_Member) e8', q_ldRow (ys := ds[i]'(by omega)) u_api_Member rfl (by rw [ld6]; exact z_api_Member) e9]
    refine hf i _ _ _ _ ec ed el em (x8.trans x9) fun g hg => ?_
    cases g with
    | false =>
      simp -zeta only [GL, Bool.not_false, if_true]
      refine ⟨H, (x8.trans x9).le, k false ⟨fun q => (by cases q), fun q => ?_⟩⟩
      have := hg.2 (by
        have e1 : ls[i]? = ms[i]? := congrArg (fun l => l[i]?) q
        rw [el, em] at e1
        exact Option.some.inj e1)
      cases this
    | true =>
      simp -zeta only [GL, Bool.not_true, Bool.false_eq_true, if_false, w1]
      refine ⟨H, (x8.trans x9).le, m - 1, by omega, i + 1, by omega, rfl, ?_, rfl⟩
      rw [List.take_add_one, List.take_add_one, ha, el, em, hg.1 rfl]
  · rw [if_neg (by simpa using g)]
    refine ⟨H, .refl _, k true ⟨fun _ => ?_, fun _ => rfl⟩⟩
    rw [List.take_of_length_le (by omega), List.take_of_length_le (by omega)] at ha
    exact ha
theorem vaf0 {h : Hp} {K : Value → Prop} (b : Nat) : q P h (Instr.fieldAt t_api_Value (.pointer (some ⟨b, 0, none⟩)) 0) K = K (.pointer (some ⟨b, 0, none⟩)) := q_of (by kernel_rfl) K
theorem vaf1 {h : Hp} {K : Value → Prop} (b : Nat) : q P h (Instr.fieldAt t_api_Value (.pointer (some ⟨b, 0, none⟩)) 1) K = K (.pointer (some ⟨b, 1, none⟩)) := q_of (by kernel_rfl) K
theorem vaf2 {h : Hp} {K : Value → Prop} (b : Nat) : q P h (Instr.fieldAt t_api_Value (.pointer (some ⟨b, 0, none⟩)) 2) K = K (.pointer (some ⟨b, 2, none⟩)) := q_of (by kernel_rfl) K
theorem vaf3 {h : Hp} {K : Value → Prop} (b : Nat) : q P h (Instr.fieldAt t_api_Value (.pointer (some ⟨b, 0, none⟩)) 3) K = K (.pointer (some ⟨b, 3, none⟩)) := q_of (by kernel_rfl) K
theorem mef1 {h : Hp} {K : Value → Prop} (b : Nat) : q P h (Instr.fieldAt t_api_Member (.pointer (some ⟨b, 0, none⟩)) 1) K = K (.pointer (some ⟨b, 1, none⟩)) := q_of (by kernel_rfl) K
/-- A row of six cells, one by one. -/
theorem row6 {h : Hp} {r e : Nat} {a b c d x y : Value} {n : Nat} {f : Option (Nat × Nat)} (hr : h r = some (.row e [a, b, c, d, x, y] n f)) : h.cell ⟨r, 0, none⟩ = some a ∧ h.cell ⟨r, 1, none⟩ = some b ∧ h.cell ⟨r, 2, none⟩ = some c ∧ h.cell ⟨r, 3, none⟩ = some d ∧ h.cell ⟨r, 4, none⟩ = some x ∧ h.cell ⟨r, 5, none⟩ = some y :=
  ⟨by rw [cell_row hr]; rfl, by rw [cell_row hr]; rfl, by rw [cell_row hr]; rfl, by rw [cell_row hr]; rfl, by rw [cell_row hr]; rfl, by rw [cell_row hr]; rfl⟩
theorem extB_same : extB P n_json_Same = false := by kernel_rfl
theorem extB_sameM : extB P n_json_sameMember = false := by kernel_rfl
/-- Members' cells, out of a value's. -/
theorem meR_of {R : Hp} {im : List (List Value)} {m : List (List Nat × JV)} (em : ∀ (i : Nat) (c : List Value) (x : List Nat × JV), im[i]? = some c → m[i]? = some x → JvR R c.tail x.2) (hd : ∀ (i : Nat) (c : List Value) (x : List Nat × JV), im[i]? = some c → m[i]? = some x → c.head? = some (.string (strL x.1)) ∧ Bytes x.1 ∧ x.1.length ≤ 1125899906842624)
    {i : Nat} {c : List Value} {x : List Nat × JV} (e1 : im[i]? = some c) (e2 : m[i]? = some x) : MeR R c x := by
  have h1 := em i c x e1 e2
  obtain ⟨h2, b2⟩ := hd i c x e1 e2
  cases c with
  | nil => simp at h2
  | cons y c =>
    simp only [List.head?_cons, Option.some.injEq] at h2
    subst h2
    exact ⟨c, rfl, b2, h1⟩
theorem T_Same {R : Hp} {ca : List Value} {a : JV} (ja : JvR R ca a) : ∀ {cb : List Value} {b : JV}, JvR R cb b → ∀ {h : Hp}, Hp.cle R h → ∀ {K : Value → Hp → Prop}, (∀ g : Bool, (g = true ↔ a = b) → K (.bool g) h) → Cn P n_json_Same #[.agg ca.toArray, .agg cb.toArray] h K := by
  induction ja with
  | @mk ka oa na ta la ma sla sma ila ima bta lta lla lma hla nla ela hma nma ema hda ihl ihm =>
    intro cb b jb h rc K k
    have jb' := jb
    have ja' : JvR R _ (.mk ka oa na ta la ma) := .mk ila ima bta lta lla lma hla nla ela hma nma ema hda
    cases jb with
    | @mk kb ob nb tb lb mb slb smb ilb imb btb ltb llb lmb hlb nlb elb hmb nmb emb hdb =>
      refine Cn_wk (F_json_Same ?_)
      unfold s_json_Same
      refine aw_box fun r2 hr2 => ?_
      have x2 := ext_set (.row t_api_Value (Value.agg [.int .i64 ka, .bool oa, .int .i64 na, .string (strL ta), sla, sma].toArray).cells.toList (Value.agg [.int .i64 ka, .bool oa, .int .i64 na, .string (strL ta), sla, sma].toArray).cells.size (some (0, 0))) hr2
      have e2 : (h.set r2 (.row t_api_Value (Value.agg [.int .i64 ka, .bool oa, .int .i64 na, .string (strL ta), sla, sma].toArray).cells.toList (Value.agg [.int .i64 ka, .bool oa, .int .i64 na, .string (strL ta), sla, sma].toArray).cells.size (some (0, 0)))) r2 = some (.row t_api_Value [.int .i64 ka, .bool oa, .int .i64 na, .string (strL ta), sla, sma] 6 (some (0, 0))) := Hp.set_same ..
      generalize h.set r2 (.row t_api_Value (Value.agg [.int .i64 ka, .bool oa, .int .i64 na, .string (strL ta), sla, sma].toArray).cells.toList (Value.agg [.int .i64 ka, .bool oa, .int .i64 na, .string (strL ta), sla, sma].toArray).cells.size (some (0, 0))) = h1 at x2 e2 ⊢
      refine aw_box fun r3 hr3 => ?_
      have x3 := ext_set (.row t_api_Value (Value.agg [.int .i64 kb, .bool ob, .int .i64 nb, .string (strL tb), slb, smb].toArray).cells.toList (Value.agg [.int .i64 kb, .bool ob, .int .i64 nb, .string (strL tb), slb, smb].toArray).cells.size (some (0, 0))) hr3
      have e3 : (h1.set r3 (.row t_api_Value (Value.agg [.int .i64 kb, .bool ob, .int .i64 nb, .string (strL tb), slb, smb].toArray).cells.toList (Value.agg [.int .i64 kb, .bool ob, .int .i64 nb, .string (strL tb), slb, smb].toArray).cells.size (some (0, 0)))) r3 = some (.row t_api_Value [.int .i64 kb, .bool ob, .int .i64 nb, .string (strL tb), slb, smb] 6 (some (0, 0))) := Hp.set_same ..
      generalize h1.set r3 (.row t_api_Value (Value.agg [.int .i64 kb, .bool ob, .int .i64 nb, .string (strL tb), slb, smb].toArray).cells.toList (Value.agg [.int .i64 kb, .bool ob, .int .i64 nb, .string (strL tb), slb, smb].toArray).cells.size (some (0, 0))) = H at x3 e3 ⊢
      have xH := x2.trans x3
      have rH : Hp.cle R H := rc.trans xH.cle
      obtain ⟨a0, a1, a2, a3, a4, a5⟩ := row6 (x3 _ _ e2)
      obtain ⟨b0, b1, b2, b3, b4, b5⟩ := row6 e3
      have no : (JV.mk ka oa na ta la ma ≠ .mk kb ob nb tb lb mb) → ∃ h0, Hp.le h0 H ∧ K (.bool false) h0 := fun q => ⟨h, xH.le, k false ⟨fun z => (by cases z), fun z => absurd z q⟩⟩
      simp -zeta only [RL, GL, vaf0, vaf1, vaf2, vaf3, vaf4, vaf5, a0, a1, a2, a3, a4, a5, b0, b1, b2, b3, b4, b5]
      by_cases g0 : ka = kb
      · rw [if_pos (by simpa using g0)]
        by_cases g1 : oa = ob
        · rw [if_pos (by simpa using g1)]
          by_cases g2 : na = nb
          · rw [if_pos (by simpa using g2)]
            rw [q_eqlSt _ _ bta btb]
            by_cases g3 : ta = tb
            · rw [gd_bool, if_pos (by simpa using g3)]
              refine T_EqFV (hla.mono rH) (hlb.mono rH) nla nlb lla (fun c hc => ?_) (fun c hc => ?_) (fun i c d x y e1 e2 e3 e4 {H'} {K'} x' k' => ?_) fun g4 hg4 => ?_
              · obtain ⟨i, hi, e⟩ := List.getElem_of_mem hc
                have := ela i c _ (by rw [← e]; exact List.getElem?_eq_getElem hi) (List.getElem?_eq_getElem (by omega))
                exact ⟨this.len, this.flat⟩
              · obtain ⟨i, hi, e⟩ := List.getElem_of_mem hc
                have := elb i c _ (by rw [← e]; exact List.getElem?_eq_getElem hi) (List.getElem?_eq_getElem (by omega))
                exact ⟨this.len, this.flat⟩
              · exact callP_cn extB_same (ihl i c x e1 e3 (elb i d y e2 e4) (rH.trans x'.cle) k')
              · cases g4 with
                | false =>
                  simp -zeta only [GL, Bool.false_eq_true, if_false]
                  exact no fun z => by
                    simp only [JV.mk.injEq] at z
                    have := hg4.2 z.2.2.2.2.1
                    cases this
                | true =>
                  simp -zeta only [GL, if_true]
                  try simp -zeta only [RL, GL, vaf5, a5, b5]
                  refine T_EqFM (hma.mono rH) (hmb.mono rH) nma nmb lma (fun c hc => ?_) (fun c hc => ?_) (fun i c d x y e1 e2 e3 e4 {H'} {K'} x' k' => ?_) fun g5 hg5 => ?_
                  · obtain ⟨i, hi, e⟩ := List.getElem_of_mem hc
                    have := meR_of ema hda (i := i) (c := c) (by rw [← e]; exact List.getElem?_eq_getElem hi) (List.getElem?_eq_getElem (by omega))
                    exact ⟨this.len, this.flat⟩
                  · obtain ⟨i, hi, e⟩ := List.getElem_of_mem hc
                    have := meR_of emb hdb (i := i) (c := c) (by rw [← e]; exact List.getElem?_eq_getElem hi) (List.getElem?_eq_getElem (by omega))
                    exact ⟨this.len, this.flat⟩
                  · refine callP_cn extB_sameM (Cn_wk (F_json_sameMember ?_))
                    unfold s_json_sameMember
                    obtain ⟨c1, ec1, bx, jx⟩ := meR_of ema hda e1 e3
                    obtain ⟨d1, ed1, by', jy⟩ := meR_of emb hdb e2 e4
                    subst ec1 ed1
                    have ih := fun {H : Hp} (rc : Hp.cle R H) {K : Value → Hp → Prop} => ihm i _ x e1 e3 (cb := d1) (b := y.2) jy (h := H) rc (K := K)
                    refine aw_box fun s2 hs2 => ?_
                    have y2 := ext_set (.row t_api_Member (Value.agg (.string (strL x.1) :: c1).toArray).cells.toList (Value.agg (.string (strL x.1) :: c1).toArray).cells.size (some (0, 0))) hs2
                    have f2 : (H'.set s2 (.row t_api_Member (Value.agg (.string (strL x.1) :: c1).toArray).cells.toList (Value.agg (.string (strL x.1) :: c1).toArray).cells.size (some (0, 0)))) s2 = some (.row t_api_Member (.string (strL x.1) :: c1) (c1.length + 1) (some (0, 0))) := by rw [Hp.set_same]; rfl
                    generalize H'.set s2 (.row t_api_Member (Value.agg (.string (strL x.1) :: c1).toArray).cells.toList (Value.agg (.string (strL x.1) :: c1).toArray).cells.size (some (0, 0))) = H1 at y2 f2 ⊢
                    refine aw_box fun s3 hs3 => ?_
                    have y3 := ext_set (.row t_api_Member (Value.agg (.string (strL y.1) :: d1).toArray).cells.toList (Value.agg (.string (strL y.1) :: d1).toArray).cells.size (some (0, 0))) hs3
                    have f3 : (H1.set s3 (.row t_api_Member (Value.agg (.string (strL y.1) :: d1).toArray).cells.toList (Value.agg (.string (strL y.1) :: d1).toArray).cells.size (some (0, 0)))) s3 = some (.row t_api_Member (.string (strL y.1) :: d1) (d1.length + 1) (some (0, 0))) := by rw [Hp.set_same]; rfl
                    generalize H1.set s3 (.row t_api_Member (Value.agg (.string (strL y.1) :: d1).toArray).cells.toList (Value.agg (.string (strL y.1) :: d1).toArray).cells.size (some (0, 0))) = H2 at y3 f3 ⊢
                    have f2' := y3 _ _ f2
                    have yy := y2.trans y3
                    have p0 : H2.cell ⟨s2, 0, none⟩ = some (.string (strL x.1)) := by rw [cell_row f2']; rfl
                    have p1 : H2.cell ⟨s3, 0, none⟩ = some (.string (strL y.1)) := by rw [cell_row f3]; rfl
                    simp -zeta only [RL, GL, mef0, mef1, p0, p1]
                    rw [q_eqlSt _ _ bx.1 by'.1]
                    by_cases gn : x.1 = y.1
                    · rw [gd_bool, if_pos (by simpa using gn)]
                      rw [q_ldAgg (ys := c1) (b := s2) (o := 1) u_api_Value rfl (by rw [jx.len]; exact z_api_Value) (fun j z ez => by rw [cell_row f2', Nat.add_comm]; simpa using ez),
                        q_ldAgg (ys := d1) (b := s3) (o := 1) u_api_Value rfl (by rw [jy.len]; exact z_api_Value) (fun j z ez => by rw [cell_row f3, Nat.add_comm]; simpa using ez)]
                      refine ih (rH.trans (x'.trans yy).cle) fun g hg => ⟨H', yy.le, k' g ?_⟩
                      rw [hg, Prod.ext_iff]
                      exact ⟨fun z => ⟨gn, z⟩, fun z => z.2⟩
                    · rw [gd_bool, if_neg (by simpa using gn)]
                      exact ⟨H', yy.le, k' false ⟨fun z => (by cases z), fun z => absurd (by rw [z]) gn⟩⟩
                  · refine ⟨h, xH.le, k g5 ?_⟩
                    rw [hg5, JV.mk.injEq]
                    exact ⟨fun z => ⟨g0, g1, g2, g3, hg4.1 rfl, z⟩, fun z => z.2.2.2.2.2⟩
            · rw [gd_bool, if_neg (by simpa using g3)]
              exact no fun z => g3 (by simp only [JV.mk.injEq] at z; exact z.2.2.2.1)
          · rw [if_neg (by simpa using g2)]
            exact no fun z => g2 (by simp only [JV.mk.injEq] at z; exact z.2.2.1)
        · rw [if_neg (by simpa using g1)]
          exact no fun z => g1 (by simp only [JV.mk.injEq] at z; exact z.2.1)
      · rw [if_neg (by simpa using g0)]
        exact no fun z => g0 (by simp only [JV.mk.injEq] at z; exact z.1)
end
end Go.Proofs.YtolcmaipjpkidaaGreatDoor
namespace Go.Js
open Go.Pure
/-- With just what its kind needs. -/
def bareV : JV → JV
  | .mk k o n t l m => .mk k (if k = 1 then o else false) (if k = 2 then n else 0) (if k = 3 then t else []) (if k = 4 then l else []) (if k = 5 then m else [])
def bareOk : JV → Bool
  | .mk k o n t l m => decide ((k ≠ 1 → o = false) ∧ (k ≠ 2 → n = 0) ∧ (k ≠ 3 → t = []) ∧ (k ≠ 4 → l.length = 0) ∧ (k ≠ 5 → m.length = 0))
theorem bare_iff (v : JV) : v = bareV v ↔ bareOk v = true := by
  cases v with
  | mk k o n t l m =>
    simp only [bareV, bareOk, JV.mk.injEq, true_and, decide_eq_true_eq, List.length_eq_zero_iff]
    constructor
    · rintro ⟨h1, h2, h3, h4, h5⟩
      exact ⟨fun q => by rwa [if_neg q] at h1, fun q => by rwa [if_neg q] at h2, fun q => by rwa [if_neg q] at h3, fun q => by rwa [if_neg q] at h4, fun q => by rwa [if_neg q] at h5⟩
    · rintro ⟨h1, h2, h3, h4, h5⟩
      refine ⟨?_, ?_, ?_, ?_, ?_⟩ <;> split <;> first | rfl | (rename_i q; first | exact h1 q | exact h2 q | exact h3 q | exact h4 q | exact h5 q)
/-- May a value be, with so many more levels allowed? -/
def mayV : Nat → JV → Bool
  | 0, _ => false
  | d + 1, .mk k o n t l m => decide (0 ≤ k ∧ k ≤ 5) && bareOk (.mk k o n t l m) && decide (-9007199254740991 ≤ n ∧ n ≤ 9007199254740991) && validU t && decide ((m.map Prod.fst).Nodup) && (m.all fun p => validU p.1 && mayV d p.2) && l.all fun x => mayV d x
def hexc (n : Nat) : Nat := if n < 10 then 48 + n else 87 + n
/-- A character, as it stands in a written text. -/
def quoteB (c : Nat) : List Nat := if c = 34 ∨ c = 92 then [92, c] else if c < 32 then [92, 117, 48, 48, hexc (c / 16), hexc (c % 16)] else [c]
def quoteS (t : List Nat) : List Nat := 34 :: t.flatMap quoteB ++ [34]
end Go.Js
namespace Go.SL
open Go
theorem q_lookup1 {P : Program} {h : Hp} {t kt e : TypeId} {r c : Nat} {es : Array MapEntry} {z : Value} {K : Value → Prop} (ht : P.underlying t = some (.map kt e)) (hk : P.underlying kt = some .string) (hz : zr P e = some z) (hr : h r = some (.obj (.map es c))) (hs : strKeys es.toList) (k : ByteArray) :
    q P h (Instr.lookup t (.map (some r)) (.string k) false) K = K ((mval es.toList k).getD z) := q_of (by
  show peek P h (Sem.bind (underlying t) _) = _
  rw [peek_bind, pk_und ht, Option.bind_some]
  show peek P h (Sem.bind (getObj r) _) = _
  have : peek P h (getObj r) = some (.map es c) := by
    unfold getObj
    simp only [peek, hr]
  rw [peek_bind, this, Option.bind_some]
  show peek P h (Sem.bind (Instr.checkKey es.isEmpty 10000 kt (.string k)) _) = _
  rw [peek_bind, pk_checkKey hk, Option.bind_some]
  show peek P h (Sem.bind (Instr.findKey kt (.string k) es.toList) _) = _
  rw [peek_bind, pk_findKey hk hs, Option.bind_some]
  unfold mval
  cases mget es.toList k with
  | none =>
    show peek P h (Sem.bind (zeroValue e) _) = _
    rw [peek_bind, pk_zero hz]
    rfl
  | some p => rfl) K
theorem mget_key : ∀ {es : List MapEntry} {k : ByteArray} {i : Nat} {v : Value}, mget es k = some (i, v) → ∃ e, es[i]? = some e ∧ e.key = .string k
  | [], k, i, v, h => by cases h
  | e :: es, k, i, v, h => by
    unfold mget at h
    split at h
    · rename_i s hs
      split at h
      · rename_i q
        cases h
        rw [ba_beq, decide_eq_true_eq] at q
        exact ⟨e, rfl, by rw [hs, q]⟩
      · rw [Option.map_eq_some_iff] at h
        obtain ⟨p, hp, e2⟩ := h
        cases e2
        obtain ⟨e', h1, h2⟩ := mget_key hp
        exact ⟨e', by simpa using h1, h2⟩
    · cases h
theorem mget_modify : ∀ {es : List MapEntry} {k : ByteArray} {i : Nat} {v0 : Value} (v : Value), mget es k = some (i, v0) → mget (es.modify i fun e => { e with key := .string k, val := v }) k = some (i, v)
  | [], k, i, v0, v, h => by cases h
  | e :: es, k, i, v0, v, h => by
    unfold mget at h
    split at h
    · rename_i s hs
      split at h
      · cases h
        show (match Value.string k with | .string s => if (k == s) = true then some (0, v) else _ | _ => none) = _
        dsimp only
        rw [ba_beq, if_pos (by simp)]
      · rename_i q
        rw [Option.map_eq_some_iff] at h
        obtain ⟨p, hp, e2⟩ := h
        cases e2
        rw [List.modify_succ_cons]
        unfold mget
        rw [hs]
        dsimp only
        rw [if_neg q, mget_modify v hp]
        rfl
    · cases h
theorem strKeys_modify {es : List MapEntry} (hs : strKeys es) (k : ByteArray) (i : Nat) (v : Value) : strKeys (es.modify i fun e => { e with key := .string k, val := v }) := by
  intro e he
  obtain ⟨j, hj, e2⟩ := List.getElem_of_mem he
  rw [List.getElem_modify] at e2
  subst e2
  split
  · exact ⟨k, rfl⟩
  · exact hs _ (List.getElem_mem _)
/-- A key that is there gets another value. -/
theorem aw_mapOld {P : Program} {h : Hp} {t kt e : TypeId} {r c i : Nat} {v0 : Value} {es : Array MapEntry} {K : Unit → Hp → Prop} (ht : P.underlying t = some (.map kt e)) (hk : P.underlying kt = some .string) (hr : h r = some (.obj (.map es c))) (hs : strKeys es.toList) (k : ByteArray) (v : Value)
    (hn : mget es.toList k = some (i, v0)) (kk : ∀ es' : Array MapEntry, strKeys es'.toList → mget es'.toList k = some (i, v) → K () (h.set r (.obj (.map es' c)))) : aw P (Instr.mapUpdate t (.map (some r)) (.string k) v) K h := by
  refine aw_of ?_
  show awp P (Sem.bind (underlying t) _) K h
  rw [awp_bind, peek_awp P _ _ _ (pk_und ht)]
  show awp P (Sem.bind (getObj r) _) K h
  have hg : peek P h (getObj r) = some (.map es c) := by
    unfold getObj
    simp only [peek, hr]
  rw [awp_bind, peek_awp P _ _ _ hg]
  show awp P (Sem.bind (Instr.checkKey false 10000 kt (.string k)) _) K h
  rw [awp_bind, peek_awp P _ _ _ (pk_checkKey hk false k)]
  show awp P (Sem.bind (Instr.findKey kt (.string k) es.toList) _) K h
  rw [awp_bind, peek_awp P _ _ _ (pk_findKey hk hs k), hn]
  obtain ⟨e0, he, hkey⟩ := mget_key hn
  have he' : es[i]? = some e0 := by simpa using he
  show awp P (Sem.bind (Instr.keyThatStays (((es[i]?).map (·.key)).getD (.string k)) (.string k)) _) K h
  rw [he', Option.map_some, Option.getD_some, hkey]
  have hkt : peek P h (Instr.keyThatStays (.string k) (.string k)) = some (.string k) := by
    unfold Instr.keyThatStays
    have : Instr.sameBits 10000 (.string k) (.string k) = true := by
      show (k == k) = true
      rw [ba_beq]
      exact decide_eq_true rfl
    rw [this, if_pos rfl]
    rfl
  rw [awp_bind, peek_awp P _ _ _ hkt]
  show awp P (setObj r (.map (es.modify i fun e => { e with key := .string k, val := v }) c)) K h
  show (match h r with | some (.obj _) => isCells _ = false ∧ awp P (.pure ()) K _ | _ => False)
  rw [hr]
  have tl : (es.modify i fun e => { e with key := Value.string k, val := v }).toList = es.toList.modify i fun e => { e with key := .string k, val := v } := by simp
  exact ⟨rfl, kk _ (by rw [tl]; exact strKeys_modify hs k i v) (by rw [tl]; exact mget_modify v hn)⟩
end Go.SL
namespace Go.Proofs.YtolcmaipjpkidaaGreatDoor
open Go Go.SL Go.Pure Go.Js
section
variable {h : Hp} {K : Value → Hp → Prop}
theorem T_IndexV {v f : Value} {css : List (List Value)} {ms : List JV} {pr : JV → Bool} (sl : SlAt h 6 v css) (lc : css.length = ms.length) (ln : ms.length ≤ 1125899906842624) (len : ∀ c ∈ css, c.length = 6)
    (hf : ∀ {K : Value → Hp → Prop} (i : Nat) (c : List Value) (x : JV), css[i]? = some c → ms[i]? = some x → K (.bool (pr x)) h → callP P f [.agg c.toArray] h K) (k : K (.int .i64 (fIdx pr ms)) h) : Cn P n_slices_IndexFunc_api_Value_api_Value #[v, f] h K := by
  refine F_slices_IndexFunc_api_Value_api_Value ?_
  unfold s_slices_IndexFunc_api_Value_api_Value
  obtain ⟨a, c, rfl, hc⟩ := sl.shape
  rw [lc] at sl hc ⊢
  simp -zeta only [RL]
  refine Lp_mk (fun m vs H => ∃ i : Nat, i + m = ms.length ∧ H = h ∧ (∀ x ∈ ms.take i, pr x = false) ∧ vs = [.int .i64 0, .int .i64 (i : Int)]) ms.length ⟨0, by omega, rfl, by simp, rfl⟩ ?_
  rintro m vs H ⟨i, hi, rfl, ha, rfl⟩
  simp -zeta only [GL, ltN]
  by_cases g : i < ms.length
  · rw [if_pos (decide_eq_true g)]
    have ec : css[i]? = some (css[i]'(by omega)) := List.getElem?_eq_getElem _
    have em : ms[i]? = some ms[i] := List.getElem?_eq_getElem _
    have w1 : IntKind.i64.wrap ((i : Int) + 1) = ((i + 1 : Nat) : Int) := by rw [wi64 (by omega) (by omega)]; omega
    refine q_itemAt u_Sl_api_Value z_api_Value u_api_Value rfl sl ec (len _ (List.getElem_mem _)) (hf i _ _ ec em ?_)
    rw [cnd_bool]
    by_cases gp : pr ms[i] = true
    · rw [if_pos gp]
      rw [fIdx_at ha em gp] at k
      exact k
    · rw [if_neg gp, w1]
      refine ⟨H, .refl _, m - 1, by omega, i + 1, by omega, rfl, fun x hx => ?_, rfl⟩
      rw [List.take_add_one, em] at hx
      rcases List.mem_append.1 hx with z | z
      · exact ha x z
      · simp at z; subst z; simpa using gp
  · rw [if_neg (by simpa using g)]
    rw [List.take_of_length_le (by omega)] at ha
    rw [fIdx_none ha] at k
    exact k
theorem T_ContainsV {v f : Value} {css : List (List Value)} {ms : List JV} {pr : JV → Bool} (sl : SlAt h 6 v css) (lc : css.length = ms.length) (ln : ms.length ≤ 1125899906842624) (len : ∀ c ∈ css, c.length = 6)
    (hf : ∀ {K : Value → Hp → Prop} (i : Nat) (c : List Value) (x : JV), css[i]? = some c → ms[i]? = some x → K (.bool (pr x)) h → callP P f [.agg c.toArray] h K) (k : K (.bool (ms.any pr)) h) : Cn P n_slices_ContainsFunc_api_Value_api_Value #[v, f] h K := by
  refine F_slices_ContainsFunc_api_Value_api_Value ?_
  unfold s_slices_ContainsFunc_api_Value_api_Value
  refine T_IndexV sl lc ln len hf ?_
  rw [q_geq, fIdx_ge]
  exact k
/-- With just what its kind needs. -/
theorem T_bare {R : Hp} {cs : List Value} {v : JV} (j : JvR R cs v) (rc : Hp.cle R h) (k : ∀ cs', JvR R cs' (bareV v) → K (.agg cs'.toArray) h) : Cn P n_json_bare #[.agg cs.toArray] h K := by
  cases j with
  | @mk ka oa na ta la ma sla sma ila ima bta lta lla lma hla nla ela hma nma ema hda =>
    refine Cn_wk (F_json_bare ?_)
    unfold s_json_bare
    refine aw_box fun r1 hr1 => ?_
    have x1 := ext_set (.row t_api_Value (Value.agg [.int .i64 ka, .bool oa, .int .i64 na, .string (strL ta), sla, sma].toArray).cells.toList (Value.agg [.int .i64 ka, .bool oa, .int .i64 na, .string (strL ta), sla, sma].toArray).cells.size (some (0, 0))) hr1
    have e1 : (h.set r1 (.row t_api_Value (Value.agg [.int .i64 ka, .bool oa, .int .i64 na, .string (strL ta), sla, sma].toArray).cells.toList (Value.agg [.int .i64 ka, .bool oa, .int .i64 na, .string (strL ta), sla, sma].toArray).cells.size (some (0, 0)))) r1 = some (.row t_api_Value [.int .i64 ka, .bool oa, .int .i64 na, .string (strL ta), sla, sma] 6 (some (0, 0))) := Hp.set_same ..
    generalize h.set r1 (.row t_api_Value (Value.agg [.int .i64 ka, .bool oa, .int .i64 na, .string (strL ta), sla, sma].toArray).cells.toList (Value.agg [.int .i64 ka, .bool oa, .int .i64 na, .string (strL ta), sla, sma].toArray).cells.size (some (0, 0))) = h1 at x1 e1 ⊢
    refine aw_allocL (row0 0) zr_Jv rfl fun r2 hr2 => ?_
    have x2 := ext_set (.row t_api_Value (row0 0) (row0 0).length (some (0, 0))) hr2
    have e2 : (h1.set r2 (.row t_api_Value (row0 0) (row0 0).length (some (0, 0)))) r2 = some (.row t_api_Value (row0 0) 6 (some (0, 0))) := Hp.set_same ..
    have e1' := x2 _ _ e1
    generalize h1.set r2 (.row t_api_Value (row0 0) (row0 0).length (some (0, 0))) = h2 at x2 e2 e1' ⊢
    obtain ⟨a0, a1, a2, a3, a4, a5⟩ := row6 e1'
    simp -zeta only [RL, GL, vaf0, a0]
    rw [bldV1]
    refine aw_allocL (row0 0) zr_Jv rfl fun r3 hr3 => ?_
    refine aw_storeRow (ys := row0 ka) z_api_Value (Hp.set_same ..) rfl (row0_flat ka) (fun i _ q => Nat.not_lt_zero _ q.2) ?_
    rw [Hp.set_set]
    have x3 := ext_set (.row t_api_Value (row0 ka) (row0 0).length (some (0, 0))) hr3
    have e3 : (h2.set r3 (.row t_api_Value (row0 ka) (row0 0).length (some (0, 0)))) r3 = some (.row t_api_Value (row0 ka) 6 (some (0, 0))) := Hp.set_same ..
    have e1'' := x3 _ _ e1'
    have e2' := x3 _ _ e2
    have n23 : r2 ≠ r3 := fun q => by rw [q, hr3] at e2; cases e2
    have xs := (x1.trans x2).trans x3
    generalize h2.set r3 (.row t_api_Value (row0 ka) (row0 0).length (some (0, 0))) = H at x3 e3 e1'' e2' xs ⊢
    obtain ⟨a0, a1, a2, a3, a4, a5⟩ := row6 e1''
    -- the variable is written, copied into the result, and told
    have fin : ∀ (ys : List Value), JvR R ys (bareV (.mk ka oa na ta la ma)) → ∀ G : Hp, G = H.set r3 (.row t_api_Value ys 6 (some (0, 0))) → q P G (Instr.loadAt t_api_Value (.pointer (some ⟨r3, 0, none⟩))) fun t34 => aw P (Instr.storeAt t_api_Value (.pointer (some ⟨r2, 0, none⟩)) t34) (fun _ h' => q P h' ((asAddr (.pointer (some ⟨r2, 0, none⟩))).bind (loadVar t_api_Value)) fun r0 => ∃ h0, Hp.le h0 h' ∧ K r0 h0) G := fun ys jy G eG => by
      subst eG
      rw [q_ldRow (ys := ys) u_api_Value rfl (by rw [jy.len]; exact z_api_Value) (Hp.set_same ..)]
      refine aw_storeRow (ys := ys) (by rw [jy.len]; exact z_api_Value) (by rw [Hp.set_ne _ _ n23]; exact e2') (by rw [jy.len]; rfl) jy.flat (fun i _ q => Nat.not_lt_zero _ q.2) ?_
      rw [q_resRow (ys := ys) u_api_Value rfl (by rw [jy.len]; exact z_api_Value) (Hp.set_same ..)]
      refine ⟨h, ?_, k ys jy⟩
      have nr3 : h r3 = none := (x1.trans x2).none hr3
      have nr2 : h r2 = none := x1.none hr2
      refine Hp.ext.le fun y o e => ?_
      rw [Hp.set_ne _ _ (by rintro rfl; rw [nr2] at e; cases e), Hp.set_ne _ _ (by rintro rfl; rw [nr3] at e; cases e)]
      exact xs y o e
    have nil : Bytes ([] : List Nat) := by intro x hx; cases hx
    have nilS : (⟨#[]⟩ : ByteArray) = strL [] := rfl
    have nW : ∀ {c : List Value} {s : Nat}, SlAt R s (.slice none 0 0) [] := fun {c s} => SlAt.nilV R s
    have b1 : ∀ z : Int, ((ka : Int) == z) = decide (ka = z) := fun z => rfl
    simp -zeta only [RL, GL, vaf0, vaf1, vaf2, vaf3, vaf4, vaf5, a0, a1, a2, a3, a4, a5]
    by_cases g1 : ka = 1
    · subst g1
      simp -zeta only [show ((1 : Int) == 1) = true from rfl, if_true]
      refine aw_store z_bool rfl (put_row e3 (by simp) (by omega) _) ?_
      exact fin [.int .i64 1, .bool oa, .int .i64 0, .string ⟨#[]⟩, .slice none 0 0, .slice none 0 0] (jv_leaf 1 oa 0 nil rfl) _ rfl
    rw [if_neg (by simpa using g1)]
    by_cases g2 : ka = 2
    · subst g2
      simp -zeta only [show ((2 : Int) == 2) = true from rfl, if_true]
      refine aw_store z_int64 rfl (put_row e3 (by simp) (by omega) _) ?_
      exact fin [.int .i64 2, .bool false, .int .i64 na, .string ⟨#[]⟩, .slice none 0 0, .slice none 0 0] (jv_leaf 2 false na nil rfl) _ rfl
    rw [if_neg (by simpa using g2)]
    by_cases g3 : ka = 3
    · subst g3
      simp -zeta only [show ((3 : Int) == 3) = true from rfl, if_true]
      refine aw_store z_string rfl (put_row e3 (by simp) (by omega) _) ?_
      exact fin [.int .i64 3, .bool false, .int .i64 0, .string (strL ta), .slice none 0 0, .slice none 0 0] (jv_leaf 3 false 0 bta rfl lta) _ rfl
    rw [if_neg (by simpa using g3)]
    by_cases g4 : ka = 4
    · subst g4
      simp -zeta only [show ((4 : Int) == 4) = true from rfl, if_true]
      refine aw_store z_Sl_api_Value (slAt_flat hla) (put_row e3 (by simp) (by omega) _) ?_
      exact fin [.int .i64 4, .bool false, .int .i64 0, .string ⟨#[]⟩, sla, .slice none 0 0] (.mk (t := []) ila [] nil (by simp) lla (by simp) hla nla ela (SlAt.nilV R 7) rfl (fun i c x e => by simp at e) (fun i c x e => by simp at e)) _ rfl
    rw [if_neg (by simpa using g4)]
    by_cases g5 : ka = 5
    · subst g5
      simp -zeta only [show ((5 : Int) == 5) = true from rfl, if_true]
      refine aw_store z_Sl_api_Member (slAt_flat hma) (put_row e3 (by simp) (by omega) _) ?_
      exact fin [.int .i64 5, .bool false, .int .i64 0, .string ⟨#[]⟩, .slice none 0 0, sma] (.mk (t := []) [] ima nil (by simp) (by simp) lma (SlAt.nilV R 6) rfl (fun i c x e => by simp at e) hma nma ema hda) _ rfl
    rw [if_neg (by simpa using g5)]
    have eb : bareV (.mk ka oa na ta la ma) = .mk ka false 0 [] [] [] := by simp [bareV, g1, g2, g3, g4, g5]
    refine fin (row0 ka) (by rw [eb]; exact jv_row0 ka) _ ?_
    rw [Hp.set_id e3]
end
end Go.Proofs.YtolcmaipjpkidaaGreatDoor
namespace Go.Proofs.YtolcmaipjpkidaaGreatDoor
open Go Go.SL Go.Pure Go.Js
theorem mayV_false {d : Nat} {k : Int} {o : Bool} {n : Int} {t : List Nat} {l : List JV} {m : List (List Nat × JV)}
    (h : ¬ ((0 ≤ k ∧ k ≤ 5) ∧ bareOk (.mk k o n t l m) = true ∧ (-9007199254740991 ≤ n ∧ n ≤ 9007199254740991) ∧ validU t = true ∧ (m.map Prod.fst).Nodup ∧ (∀ p ∈ m, validU p.1 = true ∧ mayV d p.2 = true) ∧ ∀ x ∈ l, mayV d x = true)) : mayV (d + 1) (.mk k o n t l m) = false := by
  rw [Bool.eq_false_iff]
  intro q
  apply h
  simp only [mayV, Bool.and_eq_true, decide_eq_true_eq, List.all_eq_true] at q
  exact ⟨q.1.1.1.1.1.1, q.1.1.1.1.1.2, q.1.1.1.1.2, q.1.1.1.2, q.1.1.2, q.1.2, q.2⟩
theorem mayV_eq {d : Nat} {k : Int} {o : Bool} {n : Int} {t : List Nat} {l : List JV} {m : List (List Nat × JV)}
    (h1 : 0 ≤ k ∧ k ≤ 5) (h2 : bareOk (.mk k o n t l m) = true) (h3 : -9007199254740991 ≤ n ∧ n ≤ 9007199254740991) (h4 : validU t = true) (h5 : (m.map Prod.fst).Nodup) (h6 : ∀ p ∈ m, validU p.1 = true ∧ mayV d p.2 = true) : mayV (d + 1) (.mk k o n t l m) = l.all (fun x => mayV d x) := by
  have e6 : (m.all fun p => validU p.1 && mayV d p.2) = true := by
    rw [List.all_eq_true]
    intro p hp
    rw [Bool.and_eq_true]
    exact h6 p hp
  rw [mayV, decide_eq_true h1, h2, decide_eq_true h3, h4, decide_eq_true h5, e6]
  rfl
theorem extB_may1 : extB P n_json_may_1 = false := by kernel_rfl
/-- The names met so far, each counted once. -/
def Seen (es : Array MapEntry) (names : List (List Nat)) : Prop := strKeys es.toList ∧ ∀ n, Bytes n → mval es.toList (strL n) = if n ∈ names then some (.int .i64 1) else none
theorem Seen.nil : Seen #[] [] := ⟨(fun e he => by simp at he), fun n _ => rfl⟩
theorem Seen.none {es : Array MapEntry} {names : List (List Nat)} (s : Seen es names) {n : List Nat} (bn : Bytes n) (h : n ∉ names) : mget es.toList (strL n) = none := by
  have := s.2 n bn
  rw [if_neg h] at this
  unfold mval at this
  rwa [Option.map_eq_none_iff] at this
theorem Seen.some {es : Array MapEntry} {names : List (List Nat)} (s : Seen es names) {n : List Nat} (bn : Bytes n) (h : n ∈ names) : ∃ i, mget es.toList (strL n) = some (i, .int .i64 1) := by
  have := s.2 n bn
  rw [if_pos h] at this
  unfold mval at this
  rw [Option.map_eq_some_iff] at this
  obtain ⟨⟨i, v⟩, h1, rfl⟩ := this
  exact ⟨i, h1⟩
theorem Seen.push {es : Array MapEntry} {names : List (List Nat)} (s : Seen es names) {n : List Nat} (bn : Bytes n) (h : n ∉ names) (c : Nat) : Seen (es.push ⟨.string (strL n), .int .i64 1, c⟩) (names ++ [n]) := by
  refine ⟨strKeys_push s.1 _ _ _, fun x bx => ?_⟩
  rw [mval_push s.1 (s.none bn h)]
  by_cases e : x = n
  · subst e; rw [if_pos rfl, if_pos (by simp)]
  · have : strL x ≠ strL n := fun q => e (strL_inj bx bn q)
    rw [if_neg this, s.2 x bx]
    by_cases g : x ∈ names
    · rw [if_pos g, if_pos (by simp [g])]
    · rw [if_neg g, if_neg (by simp [g, e])]
theorem mef {h : Hp} {r n : Nat} {f : Option (Nat × Nat)} {nm : Value} {cs : List Value} (hr : h r = some (.row t_api_Member (nm :: cs) n f)) (l : cs.length = 6) : h.cell ⟨r, 0, none⟩ = some nm ∧ ∀ F : Value → Prop, F (.agg cs.toArray) → q P h (Instr.loadAt t_api_Value (.pointer (some ⟨r, 1, none⟩))) F :=
  ⟨by rw [cell_row hr]; rfl, fun F f => by
    rw [q_ldAgg (ys := cs) (b := r) (o := 1) u_api_Value rfl (by rw [l]; exact z_api_Value) (fun j z ez => by rw [cell_row hr, Nat.add_comm]; simpa using ez)]
    exact f⟩
theorem T_mayJ : ∀ {d : Nat}, d ≤ 16 → ∀ {R : Hp} {cs : List Value} {v : JV}, JvR R cs v → ∀ {h : Hp}, Hp.cle R h → Fst R → Acc R → ∀ {K : Value → Hp → Prop}, K (.bool (mayV d v)) h → Cn P n_json_may #[.agg cs.toArray, .int .i64 (17 - (d : Int))] h K
  | d, hd, R, cs, v, j, h, rc, F, A, K, k => by
    cases j with
    | @mk ka oa na ta la ma sla sma ila ima bta lta lla lma hla nla ela hma nma ema hda =>
      have jj : JvR R _ (.mk ka oa na ta la ma) := .mk ila ima bta lta lla lma hla nla ela hma nma ema hda
      refine Cn_wk (F_json_may ?_)
      unfold s_json_may
      refine aw_box fun r2 hr2 => ?_
      have x2 := ext_set (.row t_api_Value (Value.agg [.int .i64 ka, .bool oa, .int .i64 na, .string (strL ta), sla, sma].toArray).cells.toList (Value.agg [.int .i64 ka, .bool oa, .int .i64 na, .string (strL ta), sla, sma].toArray).cells.size (some (0, 0))) hr2
      have e2 : (h.set r2 (.row t_api_Value (Value.agg [.int .i64 ka, .bool oa, .int .i64 na, .string (strL ta), sla, sma].toArray).cells.toList (Value.agg [.int .i64 ka, .bool oa, .int .i64 na, .string (strL ta), sla, sma].toArray).cells.size (some (0, 0)))) r2 = some (.row t_api_Value [.int .i64 ka, .bool oa, .int .i64 na, .string (strL ta), sla, sma] 6 (some (0, 0))) := Hp.set_same ..
      generalize h.set r2 (.row t_api_Value (Value.agg [.int .i64 ka, .bool oa, .int .i64 na, .string (strL ta), sla, sma].toArray).cells.toList (Value.agg [.int .i64 ka, .bool oa, .int .i64 na, .string (strL ta), sla, sma].toArray).cells.size (some (0, 0))) = h1 at x2 e2 ⊢
      refine aw_box fun r3 hr3 => ?_
      have x3 := ext_set (.row t_int (Value.int .i64 (17 - (d : Int))).cells.toList (Value.int .i64 (17 - (d : Int))).cells.size (some (0, 0))) hr3
      have e3 : (h1.set r3 (.row t_int (Value.int .i64 (17 - (d : Int))).cells.toList (Value.int .i64 (17 - (d : Int))).cells.size (some (0, 0)))) r3 = some (.row t_int [.int .i64 (17 - (d : Int))] 1 (some (0, 0))) := Hp.set_same ..
      have e2 := x3 _ _ e2
      have xH := x2.trans x3
      generalize h1.set r3 (.row t_int (Value.int .i64 (17 - (d : Int))).cells.toList (Value.int .i64 (17 - (d : Int))).cells.size (some (0, 0))) = H at x3 e3 e2 xH ⊢
      have rH : Hp.cle R H := rc.trans xH.cle
      obtain ⟨a0, a1, a2, a3, a4, a5⟩ := row6 e2
      have c3 : H.cell ⟨r3, 0, none⟩ = some (.int .i64 (17 - (d : Int))) := by rw [cell_row e3]; rfl
      have ld2 : ∀ {F : Value → Prop}, q P H (Instr.loadAt t_api_Value (.pointer (some ⟨r2, 0, none⟩))) F = F (.agg [.int .i64 ka, .bool oa, .int .i64 na, .string (strL ta), sla, sma].toArray) := fun {F} => q_ldRow (ys := [.int .i64 ka, .bool oa, .int .i64 na, .string (strL ta), sla, sma]) u_api_Value rfl z_api_Value e2
      have no : ∀ H' : Hp, Hp.ext h H' → mayV d (.mk ka oa na ta la ma) = false → ∃ h0, Hp.le h0 H' ∧ K (.bool false) h0 := fun H' x q => ⟨h, x.le, by rw [q] at k; exact k⟩
      intro J2
      match d, hd with
      | 0, _ =>
        clear_value J2
        have dd : decide ((16 : Int) < 17 - ((0 : Nat) : Int)) = true := by decide
        simp -zeta only [RL, c3, GL, dd, Bool.true_eq_false, if_false, if_true]
        exact no H xH rfl
      | d + 1, hd =>
        have dd : decide ((16 : Int) < 17 - ((d + 1 : Nat) : Int)) = false := decide_eq_false (by omega)
        have d16 : (17 : Int) - ((d + 1 : Nat) : Int) = 16 - (d : Int) := by omega
        have w1 : IntKind.i64.wrap ((16 - (d : Int)) + 1) = 17 - (d : Int) := by rw [wi64 (by omega) (by omega)]; omega
        rw [d16] at c3 e3
        have q2 : (0 ≤ ka ∧ ka ≤ 5) → bareOk (.mk ka oa na ta la ma) = true → (-9007199254740991 ≤ na ∧ na ≤ 9007199254740991) → validU ta = true → J2 H := fun k1 k2 k3 k4 => by
          simp -zeta only [J2]
          clear J2
          refine aw_makeMap fun rm hrm => ?_
          have xm := ext_set (.obj (.map #[] 0)) hrm
          have em : (H.set rm (.obj (.map #[] 0))) rm = some (.obj (.map #[] 0)) := Hp.set_same ..
          have setm : ∀ o, (H.set rm (.obj (.map #[] 0))).set rm o = H.set rm o := fun o => Hp.set_set ..
          have e2m := xm _ _ e2
          have e3m := xm _ _ e3
          have n2m : r2 ≠ rm := fun q => by rw [q, hrm] at e2; cases e2
          have n3m : r3 ≠ rm := fun q => by rw [q, hrm] at e3; cases e3
          obtain ⟨va, vc, rfl, hvc⟩ := hma.shape
          have a5m : (H.set rm (.obj (.map #[] 0))).cell ⟨r2, 5, none⟩ = some (.slice va ima.length vc) := xm.cle _ _ a5
          simp -zeta only [RL, GL, vaf5, a5m]
          -- the heap with the map, whatever stands in it
          have hm : ∀ (es : Array MapEntry) (c : Nat), Hp.ext H (H.set rm (.obj (.map es c))) := fun es c => ext_set _ hrm
          rw [nma] at hma hvc a5m ⊢
          refine Lp_mk (fun w vs G => ∃ (i : Nat) (es : Array MapEntry) (c : Nat), i + w = ma.length ∧ G = H.set rm (.obj (.map es c)) ∧ Seen es ((ma.take i).map Prod.fst) ∧ ((ma.take i).map Prod.fst).Nodup ∧ (∀ p ∈ ma.take i, validU p.1 = true ∧ mayV d p.2 = true) ∧ vs = [.bool false, .int .i64 (i : Int)]) ma.length
            ⟨0, #[], 0, by omega, rfl, Seen.nil, by simp, by simp, rfl⟩ ?_
          rintro w vs G ⟨i, es, c, hi, rfl, sn, nd, al, rfl⟩
          simp -zeta only [GL, ltN]
          by_cases g : i < ma.length
          · rw [if_pos (decide_eq_true g)]
            have ec : ima[i]? = some (ima[i]'(by omega)) := List.getElem?_eq_getElem _
            have ex : ma[i]? = some ma[i] := List.getElem?_eq_getElem _
            obtain ⟨cs, ecs, ⟨bn, ln⟩, jx⟩ := meR_of ema hda ec ex
            have me : MeR R (ima[i]'(by omega)) ma[i] := meR_of ema hda ec ex
            have rG : Hp.cle R (H.set rm (.obj (.map es c))) := rH.trans (hm es c).cle
            have l7 : (ima[i]'(by omega)).length = 7 := me.len
            have f7 := me.flat
            generalize hx : ma[i] = x at *
            generalize hc : ima[i]'(by omega) = cc at *
            subst ecs
            have wi : IntKind.i64.wrap ((i : Int) + 1) = ((i + 1 : Nat) : Int) := by rw [wi64 (by omega) (by omega)]; omega
            have tk : ma.take (i + 1) = ma.take i ++ [x] := by rw [List.take_add_one, ex]; rfl
            have inm : x ∈ ma := List.mem_of_getElem? ex
            refine aw_itemAt (zs := .string ⟨#[]⟩ :: row0 0) u_Sl_api_Member z_api_Member u_api_Member rfl zr_Me rfl (hma.mono rG) (fun _ _ e => e) ec l7 f7 fun r7 hr7 => ?_
            have n7m : rm ≠ r7 := fun q => by rw [← q, Hp.set_same] at hr7; cases hr7
            have x7 := ext_set (.row t_api_Member (.string (strL x.1) :: cs) 7 (some (0, 0))) hr7
            have e7 : ((H.set rm (.obj (.map es c))).set r7 (.row t_api_Member (.string (strL x.1) :: cs) 7 (some (0, 0)))) r7 = some (.row t_api_Member (.string (strL x.1) :: cs) 7 (some (0, 0))) := Hp.set_same ..
            have em7 : ((H.set rm (.obj (.map es c))).set r7 (.row t_api_Member (.string (strL x.1) :: cs) 7 (some (0, 0)))) rm = some (.obj (.map es c)) := by rw [Hp.set_ne _ _ n7m]; exact Hp.set_same ..
            obtain ⟨p0, _⟩ := mef e7 jx.len
            have le7 : ∀ (es' : Array MapEntry) (c' : Nat), Hp.ext (H.set rm (.obj (.map es' c'))) (((H.set rm (.obj (.map es c))).set r7 (.row t_api_Member (.string (strL x.1) :: cs) 7 (some (0, 0)))).set rm (.obj (.map es' c'))) := fun es' c' => by
              rw [Hp.set_comm _ _ _ n7m, Hp.set_set]
              rw [Hp.set_comm _ _ _ (Ne.symm n7m)]
              refine ext_set _ ?_
              rw [Hp.set_ne _ _ (Ne.symm n7m)] at hr7 ⊢
              exact hr7
            have lez := z_api_Member
            generalize hG1 : (H.set rm (.obj (.map es c))).set r7 (.row t_api_Member (.string (strL x.1) :: cs) 7 (some (0, 0))) = G1 at *
            simp -zeta only [RL, GL, mef0, p0]
            rw [q_lookup1 u_map_string_int u_string zr_int em7 sn.1, sn.2 _ bn]
            by_cases gd : x.1 ∈ (ma.take i).map Prod.fst
            · rw [if_pos gd, Option.getD_some]
              obtain ⟨z, hz⟩ := sn.some bn gd
              have w2 : IntKind.i64.wrap ((1 : Int) + 1) = 2 := by decide
              simp -zeta only [GL, w2]
              refine aw_mapOld u_map_string_int u_string em7 sn.1 _ _ hz fun es' sk' hm' => ?_
              have p0' : (G1.set rm (.obj (.map es' c))).cell ⟨r7, 0, none⟩ = some (.string (strL x.1)) := by rw [cell_row (by rw [Hp.set_ne _ _ (Ne.symm n7m)]; exact e7)]; rfl
              simp -zeta only [RL, GL, mef0, p0']
              have mv : mval es'.toList (strL x.1) = some (.int .i64 2) := by unfold mval; rw [hm']; rfl
              rw [q_lookup1 u_map_string_int u_string zr_int (Hp.set_same ..) sk', mv, Option.getD_some]
              simp -zeta only [GL, show decide ((1 : Int) < 2) = true from rfl, Bool.true_eq_false, if_false, if_true]
              refine no _ ((xH.trans (hm es' c)).trans (le7 es' c)) (mayV_false fun q => ?_)
              have nd2 := q.2.2.2.2.1
              rw [← List.take_append_drop (i + 1) ma, tk, List.map_append, List.map_append] at nd2
              have := (List.nodup_append.1 nd2).1
              rw [List.nodup_append] at this
              exact this.2.2 _ gd _ (by simp) rfl
            · rw [if_neg gd, Option.getD_none]
              have w2 : IntKind.i64.wrap ((0 : Int) + 1) = 1 := by decide
              simp -zeta only [GL, w2]
              refine aw_mapNew u_map_string_int u_string em7 sn.1 _ _ (sn.none bn gd) ?_
              have sn' := sn.push bn gd c
              have e7' : (G1.set rm (.obj (.map (es.push ⟨.string (strL x.1), .int .i64 1, c⟩) (c + 1)))) r7 = some (.row t_api_Member (.string (strL x.1) :: cs) 7 (some (0, 0))) := by rw [Hp.set_ne _ _ (Ne.symm n7m)]; exact e7
              have em7' : (G1.set rm (.obj (.map (es.push ⟨.string (strL x.1), .int .i64 1, c⟩) (c + 1)))) rm = some (.obj (.map (es.push ⟨.string (strL x.1), .int .i64 1, c⟩) (c + 1))) := Hp.set_same ..
              have xG2 := (hm (es.push ⟨.string (strL x.1), .int .i64 1, c⟩) (c + 1)).trans (le7 (es.push ⟨.string (strL x.1), .int .i64 1, c⟩) (c + 1))
              have leG2 := (le7 (es.push ⟨.string (strL x.1), .int .i64 1, c⟩) (c + 1)).le
              generalize hG2 : G1.set rm (.obj (.map (es.push ⟨.string (strL x.1), .int .i64 1, c⟩) (c + 1))) = G2 at *
              obtain ⟨p0', p1'⟩ := mef e7' jx.len
              have c3' := xG2.cle _ _ c3
              simp -zeta only [RL, GL, mef0, mef1, p0']
              rw [q_lookup1 u_map_string_int u_string zr_int em7' sn'.1, sn'.2 _ bn, if_pos (by simp), Option.getD_some]
              simp -zeta only [RL, GL, mef0, mef1, p0', show decide ((1 : Int) < 1) = false from rfl, if_true]
              have rG2 : Hp.cle R G2 := rH.trans xG2.cle
              refine T_ValidString (F.mono rG2) (A.mono rG2) bn (by omega) ?_
              cases gv : validU x.1 with
              | false =>
                simp -zeta only [GL, Bool.not_false, Bool.true_eq_false, if_false, if_true]
                refine no _ (xH.trans xG2) (mayV_false fun q => ?_)
                have := (q.2.2.2.2.2.1 x inm).1
                rw [gv] at this; cases this
              | true =>
                simp -zeta only [GL, Bool.not_true, if_true]
                refine p1' _ ?_
                simp -zeta only [RL, GL, c3', w1]
                refine T_mayJ (by omega) jx rG2 F A ?_
                cases gm : mayV d x.2 with
                | false =>
                  simp -zeta only [GL, Bool.not_false, if_true]
                  refine no _ (xH.trans xG2) (mayV_false fun q => ?_)
                  have := (q.2.2.2.2.2.1 x inm).2
                  rw [gm] at this; cases this
                | true =>
                  simp -zeta only [GL, Bool.not_true, Bool.false_eq_true, if_false, wi]
                  refine ⟨_, leG2, w - 1, by omega, i + 1, _, _, by omega, rfl, ?_, ?_, fun p hp => ?_, rfl⟩
                  · rw [tk, List.map_append]; exact sn'
                  · rw [tk, List.map_append, List.nodup_append]
                    refine ⟨nd, by simp, fun a ha b hb q => gd ?_⟩
                    simp at hb
                    rw [← hb, ← q]; exact ha
                  · rw [tk] at hp
                    rcases List.mem_append.1 hp with hp | hp
                    · exact al p hp
                    · simp at hp; subst hp; exact ⟨gv, gm⟩
          · rw [if_neg (by simpa using g)]
            rw [List.take_of_length_le (by omega)] at nd al
            have xG := hm es c
            have e2' := xG _ _ e2
            have e3' := xG _ _ e3
            have a4' := xG.cle _ _ a4
            have c3' := xG.cle _ _ c3
            have rG : Hp.cle R (H.set rm (.obj (.map es c))) := rH.trans xG.cle
            generalize H.set rm (.obj (.map es c)) = G at *
            simp -zeta only [RL, GL, vaf4, a4']
            refine T_ContainsV (pr := fun x => !mayV d x) (hla.mono rG) nla lla (fun c hc => ?_) (fun {K'} i c x e1 e2 k' => ?_) ?_
            · obtain ⟨i, hi, e⟩ := List.getElem_of_mem hc
              exact (ela i c _ (by rw [← e]; exact List.getElem?_eq_getElem hi) (List.getElem?_eq_getElem (by omega))).len
            · refine callP_cn extB_may1 (Cn_wk (F_json_may_1 ?_))
              unfold s_json_may_1
              have jx := ela i c x e1 e2
              refine aw_box fun s2 hs2 => ?_
              have y2 := ext_set (.row t_api_Value (Value.agg c.toArray).cells.toList (Value.agg c.toArray).cells.size (some (0, 0))) hs2
              have f2 : (G.set s2 (.row t_api_Value (Value.agg c.toArray).cells.toList (Value.agg c.toArray).cells.size (some (0, 0)))) s2 = some (.row t_api_Value c c.length (some (0, 0))) := by rw [Hp.set_same]; rfl
              have c3'' := y2.cle _ _ c3'
              have rG2 := rG.trans y2.cle
              generalize G.set s2 (.row t_api_Value (Value.agg c.toArray).cells.toList (Value.agg c.toArray).cells.size (some (0, 0))) = G2 at *
              rw [q_ldRow (ys := c) u_api_Value rfl (by rw [jx.len]; exact z_api_Value) f2]
              simp -zeta only [RL, GL, c3'', w1]
              refine T_mayJ (by omega) jx rG2 F A ?_
              rw [q_not]
              exact ⟨G, y2.le, k'⟩
            · rw [q_not]
              refine ⟨h, (xH.trans xG).le, ?_⟩
              rw [mayV_eq k1 k2 k3 k4 nd al] at k
              have : (!la.any fun x => !mayV d x) = la.all fun x => mayV d x := by
                rw [Bool.eq_iff_iff]; simp
              rw [this]
              exact k
        clear_value J2
        have dk0 : decide (ka < 0) = decide (¬ 0 ≤ ka) := by rw [decide_eq_decide]; omega
        simp -zeta only [RL, c3, GL, d16, show decide ((16 : Int) < 16 - (d : Int)) = false from decide_eq_false (by omega), if_true, vaf0, a0]
        by_cases g1 : ka < 0
        · simp -zeta only [g1, decide_true, Bool.true_eq_false, if_false, GL, if_true]
          exact no H xH (mayV_false fun q => by have := q.1; omega)
        simp -zeta only [g1, decide_false, GL, if_true, RL, vaf0, a0]
        by_cases g2 : 5 < ka
        · simp -zeta only [g2, decide_true, Bool.true_eq_false, if_false, GL, if_true]
          exact no H xH (mayV_false fun q => by have := q.1; omega)
        simp -zeta only [g2, decide_false, GL, if_true, ld2]
        refine T_bare jj rH fun cs' jb => ⟨pk_q fun K => ld2, ?_⟩
        refine T_Same jj jb rH fun gb hgb => ?_
        rw [bare_iff] at hgb
        cases gb with
        | false =>
          simp -zeta only [GL, Bool.not_false, Bool.true_eq_false, if_false, if_true]
          refine no H xH (mayV_false fun q => ?_)
          have := hgb.2 q.2.1
          cases this
        | true =>
          simp -zeta only [GL, Bool.not_true, if_true, RL, vaf2, a2]
          by_cases g3 : na < -9007199254740991
          · simp -zeta only [g3, decide_true, Bool.true_eq_false, if_false, GL, if_true]
            exact no H xH (mayV_false fun q => by have := q.2.2.1; omega)
          simp -zeta only [g3, decide_false, GL, if_true, RL, vaf2, a2]
          by_cases g4 : 9007199254740991 < na
          · simp -zeta only [g4, decide_true, Bool.true_eq_false, if_false, GL, if_true]
            exact no H xH (mayV_false fun q => by have := q.2.2.1; omega)
          simp -zeta only [g4, decide_false, GL, if_true, RL, vaf3, a3]
          refine T_ValidString (F.mono rH) (A.mono rH) bta (by omega) ?_
          cases gv : validU ta with
          | false =>
            simp -zeta only [GL, Bool.not_false, if_true]
            refine no H xH (mayV_false fun q => ?_)
            have := q.2.2.2.1
            rw [gv] at this; cases this
          | true =>
            simp -zeta only [GL, Bool.not_true, Bool.false_eq_true, if_false]
            exact q2 (by omega) (hgb.1 rfl) (by omega) gv
end Go.Proofs.YtolcmaipjpkidaaGreatDoor
