/- tarLoose_holds tarLoose proved lifted over: part 2 of its proof; each part's own remarks stand with its declarations. Conditions: each lemma names its own. -/
import Derived.Test.YtflfhbnflcfmgaaGreatDoorTarLoose1
set_option linter.unusedSimpArgs false
set_option linter.unusedVariables false
set_option linter.unusedSimpArgs false
set_option linter.unusedVariables false
set_option maxRecDepth 100000
set_option maxHeartbeats 1000000
namespace Go.Proofs.YtflfhbnflcfmgaaGreatDoor
open Go Go.SL Go.Pure Go.Tar
/-- An entry's cells. -/
def entC (e : Ent) (dv : Value) : List Value := [.string (strL e.name), .int .i64 e.kind, .int .i64 e.mode, .string (strL e.link), dv]
/-- An entry that is told: its bytes lie in memory. -/
structure EntR (R : Hp) (e : Ent) (dv : Value) : Prop where
  rd : Rn R .u8 dv e.data
  bn : Bytes e.name
  bl : Bytes e.link
  bd : Bytes e.data
  ln : e.name.length ≤ 9223372036854775807
  ll : e.link.length ≤ 9223372036854775807
  ld : e.data.length ≤ 9223372036854775807
theorem EntR.mono {R R' : Hp} {e : Ent} {dv : Value} (a : EntR R e dv) (x : Hp.cle R R') : EntR R' e dv := ⟨a.rd.mono x, a.bn, a.bl, a.bd, a.ln, a.ll, a.ld⟩
theorem ef0 {h : Hp} {K : Value → Prop} (b o : Nat) : q P h (Instr.fieldAt t_api_Entry (.pointer (some ⟨b, o, none⟩)) 0) K = K (.pointer (some ⟨b, o, none⟩)) := q_of (by kernel_rfl) K
theorem ef1 {h : Hp} {K : Value → Prop} (b o : Nat) : q P h (Instr.fieldAt t_api_Entry (.pointer (some ⟨b, o, none⟩)) 1) K = K (.pointer (some ⟨b, o + 1, none⟩)) := q_of (by kernel_rfl) K
theorem ef2 {h : Hp} {K : Value → Prop} (b o : Nat) : q P h (Instr.fieldAt t_api_Entry (.pointer (some ⟨b, o, none⟩)) 2) K = K (.pointer (some ⟨b, o + 2, none⟩)) := q_of (by kernel_rfl) K
theorem ef3 {h : Hp} {K : Value → Prop} (b o : Nat) : q P h (Instr.fieldAt t_api_Entry (.pointer (some ⟨b, o, none⟩)) 3) K = K (.pointer (some ⟨b, o + 3, none⟩)) := q_of (by kernel_rfl) K
theorem ef4 {h : Hp} {K : Value → Prop} (b o : Nat) : q P h (Instr.fieldAt t_api_Entry (.pointer (some ⟨b, o, none⟩)) 4) K = K (.pointer (some ⟨b, o + 4, none⟩)) := q_of (by kernel_rfl) K
theorem entC_len (e : Ent) (dv : Value) : (entC e dv).length = 5 := rfl
section
variable {h : Hp} {K : Value → Hp → Prop}
/-- The cells of an entry in its own place. -/
theorem entB {r o : Nat} {c : Nat} {f : Option (Nat × Nat)} {t : Nat} {A B : List Value} {e : Ent} {dv : Value} (hr : h r = some (.row t (A ++ entC e dv ++ B) c f)) (ho : A.length = o) :
    h.cell ⟨r, o, none⟩ = some (.string (strL e.name)) ∧ h.cell ⟨r, o + 1, none⟩ = some (.int .i64 e.kind) ∧ h.cell ⟨r, o + 2, none⟩ = some (.int .i64 e.mode) ∧ h.cell ⟨r, o + 3, none⟩ = some (.string (strL e.link)) ∧ h.cell ⟨r, o + 4, none⟩ = some dv := by
  have g : ∀ i, i < 5 → h.cell ⟨r, o + i, none⟩ = (entC e dv)[i]? := fun i hi => by
    rw [cell_row hr, List.append_assoc, List.getElem?_append_right (by omega), ho, Nat.add_sub_cancel_left, List.getElem?_append_left (by rw [entC_len]; exact hi)]
  exact ⟨by have := g 0 (by decide); simpa [entC] using this, g 1 (by decide), g 2 (by decide), g 3 (by decide), g 4 (by decide)⟩
theorem T_tarmay {e : Ent} {dv : Value} (a : EntR h e dv) (k : K (.bool (decide (okEnt e))) h) : Cn P n_tar_may #[.agg (entC e dv).toArray] h K := by
  refine Cn_wk (F_tar_may ?_)
  unfold s_tar_may
  refine aw_box fun r hr => ?_
  have hC : (Value.agg (entC e dv).toArray).cells.toList = entC e dv := rfl
  have hC2 : (Value.agg (entC e dv).toArray).cells.size = 5 := rfl
  rw [hC, hC2]
  have x0 := ext_set (.row t_api_Entry (entC e dv) 5 (some (0, 0))) hr
  obtain ⟨c0, c1, c2, c3, c4⟩ := entB (h := h.set r (.row t_api_Entry (entC e dv) 5 (some (0, 0)))) (o := 0) (A := []) (B := []) (e := e) (dv := dv) (by rw [Hp.set_same, List.nil_append, List.append_nil]) rfl
  rw [Nat.zero_add] at c1 c2 c3 c4
  have le0 := x0.le
  generalize h.set r (.row t_api_Entry (entC e dv) 5 (some (0, 0))) = H at *
  replace a := a.mono x0.cle
  have bl := a.bl
  have bn := a.bn
  obtain ⟨ad, cd, rfl, _⟩ := a.rd.shape
  have ln : ∀ {K : Value → Prop}, q P H (Builtin.len_ #[t_Sl_uint8] t_int #[.slice ad e.data.length cd]) K = K (.int .i64 ((e.data.length : Nat) : Int)) := fun {K} => q_lenS u_Sl_uint8 _ _ _
  have en : Bytes ([] : List Nat) := by intro x hx; cases hx
  have no : okEnt e → decide (okEnt e) = true := fun q => decide_eq_true q
  have yes : ¬ okEnt e → decide (okEnt e) = false := fun q => decide_eq_false q
  intro J2
  have bad : ¬ okEnt e → ∃ h0, Hp.le h0 H ∧ K (.bool false) h0 := fun q => ⟨h, le0, by rw [yes q] at k; exact k⟩
  have fin : ∀ b : Bool, b = decide (okEnt e) → ∃ h0, Hp.le h0 H ∧ K (.bool b) h0 := fun b q => ⟨h, le0, by rw [q]; exact k⟩
  have qJ : okText e.name → okText e.link → e.name ≠ [] → 0 ≤ e.mode → e.mode ≤ 4095 → J2 H := by
    intro t1 t2 t3 t4 t5
    simp -zeta only [J2]
    clear J2
    have e1 : (e.kind == 3) = decide (e.kind = 3) := by rw [Bool.eq_iff_iff, beq_iff_eq, decide_eq_true_eq]
    have e2 : (e.kind == 2) = decide (e.kind = 2) := by rw [Bool.eq_iff_iff, beq_iff_eq, decide_eq_true_eq]
    have e3 : (e.kind == 1) = decide (e.kind = 1) := by rw [Bool.eq_iff_iff, beq_iff_eq, decide_eq_true_eq]
    have d0 : (((e.data.length : Nat) : Int) == 0) = decide (e.data = []) := by
      rw [Bool.eq_iff_iff, beq_iff_eq, decide_eq_true_eq, ← List.length_eq_zero_iff]; omega
    have d1 : decide ((0 : Int) < ((e.data.length : Nat) : Int)) = decide (e.data ≠ []) := by
      rw [decide_eq_decide, ← List.length_pos_iff]; omega
    simp -zeta (disch := assumption) only [ef1, ef3, ef4, RL, c1, c3, c4, GL, e1, empS, q_eqlSt, q_neqSt, ln, d0, d1, e2, e3, Nat.zero_add]
    intro J12
    have q12 : (e.kind = 2 ∧ e.data = [] ∨ e.kind = 1) → J12 H := by
      intro kk
      simp -zeta (disch := assumption) only [J12, ef3, RL, c3, GL, q_eqlSt]
      refine fin _ ?_
      rw [decide_eq_decide]
      constructor
      · intro q
        exact ⟨t1, t2, t3, t4, t5, by rcases kk with ⟨k1, k2⟩ | k1
                                      · exact .inr (.inl ⟨k1, k2, q⟩)
                                      · exact .inr (.inr ⟨k1, q⟩)⟩
      · rintro ⟨_, _, _, _, _, ⟨k1, _⟩ | ⟨_, _, q⟩ | ⟨_, q⟩⟩
        · omega
        · exact q
        · exact q
    clear_value J12
    by_cases k3 : e.kind = 3
    · simp -zeta only [k3, decide_true, if_true]
      by_cases z : e.link = []
      · simp -zeta only [z, decide_true, Bool.not_true, Bool.false_eq_true, if_false]
        refine bad ?_
        rintro ⟨_, _, _, _, _, ⟨_, q, _⟩ | ⟨q, _⟩ | ⟨q, _⟩⟩
        · exact q z
        · omega
        · omega
      · simp -zeta only [z, decide_false, Bool.not_false, if_true]
        refine fin _ ?_
        rw [decide_eq_decide]
        constructor
        · intro q; exact ⟨t1, t2, t3, t4, t5, .inl ⟨k3, z, q⟩⟩
        · rintro ⟨_, _, _, _, _, ⟨_, _, q⟩ | ⟨q, _⟩ | ⟨q, _⟩⟩
          · exact q
          · omega
          · omega
    · by_cases k2 : e.kind = 2
      · simp -zeta only [k2, decide_true, if_true, show decide ((2 : Int) = 3) = false from rfl, Bool.false_eq_true, if_false]
        by_cases z : e.data = []
        · simp -zeta only [z, ne_eq, not_true_eq_false, decide_false, Bool.false_eq_true, if_false]
          exact q12 (.inl ⟨k2, z⟩)
        · simp -zeta only [z, ne_eq, not_false_eq_true, decide_true, if_true]
          refine bad ?_
          rintro ⟨_, _, _, _, _, ⟨q, _⟩ | ⟨_, q, _⟩ | ⟨q, _⟩⟩
          · omega
          · exact z q
          · omega
      · by_cases k1 : e.kind = 1
        · simp -zeta only [k1, decide_true, if_true, show decide ((1 : Int) = 3) = false from rfl, show decide ((1 : Int) = 2) = false from rfl, Bool.false_eq_true, if_false]
          exact q12 (.inr k1)
        · simp -zeta only [k1, k2, k3, decide_false, Bool.false_eq_true, if_false]
          refine bad ?_
          rintro ⟨_, _, _, _, _, ⟨q, _⟩ | ⟨q, _⟩ | ⟨q, _⟩⟩ <;> omega
  clear_value J2
  simp -zeta only [ef0, RL, c0, GL]
  refine T_mayText a.bn a.ln ?_
  by_cases t1 : okText e.name
  · simp -zeta only [t1, decide_true, GL, Bool.not_true, if_true, ef3, RL, c3, Nat.zero_add]
    refine T_mayText a.bl a.ll ?_
    by_cases t2 : okText e.link
    · simp -zeta (disch := assumption) only [t2, decide_true, GL, Bool.not_true, if_true, ef0, RL, c0, empS, q_eqlSt]
      by_cases t3 : e.name = []
      · simp -zeta only [t3, decide_true, Bool.true_eq_false, if_false, if_true]
        exact bad fun q => q.2.2.1 t3
      · simp -zeta only [t3, decide_false, if_true, ef2, RL, c2, GL, Nat.zero_add]
        by_cases t4 : e.mode < 0
        · simp -zeta only [t4, decide_true, Bool.true_eq_false, if_false, if_true]
          exact bad fun q => absurd q.2.2.2.1 (by omega)
        · simp -zeta only [t4, decide_false, if_true, ef2, RL, c2, GL, Nat.zero_add]
          by_cases t5 : 4095 < e.mode
          · simp -zeta only [t5, decide_true, if_true]
            exact bad fun q => absurd q.2.2.2.2.1 (by omega)
          · simp -zeta only [t5, decide_false, Bool.false_eq_true, if_false]
            exact qJ t1 t2 t3 (by omega) (by omega)
    · simp -zeta only [t2, decide_false, GL, Bool.not_false, Bool.true_eq_false, if_false, if_true]
      exact bad fun q => t2 q.2.1
  · simp -zeta only [t1, decide_false, GL, Bool.not_false, Bool.true_eq_false, if_false, if_true]
    exact bad fun q => t1 q.1
end
end Go.Proofs.YtflfhbnflcfmgaaGreatDoor
set_option linter.unusedSimpArgs false
set_option linter.unusedVariables false
set_option maxRecDepth 100000
set_option maxHeartbeats 1000000
namespace Go.Proofs.YtflfhbnflcfmgaaGreatDoor
open Go Go.SL Go.Pure Go.Tar
/-- A head's sum, as far as a place. -/
def sumT (b : List Nat) (i : Nat) : Nat := (b.take (min i 148)).sum + 32 * (min i 156 - 148) + ((b.take i).drop 156).sum
theorem sumT_step {b : List Nat} {i : Nat} (h : i < b.length) : sumT b (i + 1) = sumT b i + (if 148 ≤ i ∧ i < 156 then 32 else b.getD i 0) := by
  have tk := take_last h
  have sx : ∀ l : List Nat, (l ++ [b.getD i 0]).sum = l.sum + b.getD i 0 := fun l => by simp
  have ltk : (b.take i).length = i := by rw [List.length_take]; omega
  unfold sumT
  rcases Nat.lt_or_ge i 148 with q | q
  · rw [Nat.min_eq_left (by omega : i + 1 ≤ 148), Nat.min_eq_left (by omega : i ≤ 148), Nat.min_eq_left (by omega : i + 1 ≤ 156), Nat.min_eq_left (by omega : i ≤ 156), tk, sx,
      List.drop_of_length_le (by rw [List.length_append, ltk]; simp; omega), List.drop_of_length_le (by rw [ltk]; omega), if_neg (by omega)]
    simp only [List.sum_nil]
    omega
  · rcases Nat.lt_or_ge i 156 with q2 | q2
    · rw [Nat.min_eq_right (by omega : 148 ≤ i + 1), Nat.min_eq_right (by omega : 148 ≤ i), Nat.min_eq_left (by omega : i + 1 ≤ 156), Nat.min_eq_left (by omega : i ≤ 156), tk,
        List.drop_of_length_le (by rw [List.length_append, ltk]; simp; omega), List.drop_of_length_le (by rw [ltk]; omega), if_pos (by omega)]
      simp only [List.sum_nil]
      omega
    · rw [Nat.min_eq_right (by omega : 148 ≤ i + 1), Nat.min_eq_right (by omega : 148 ≤ i), Nat.min_eq_right (by omega : 156 ≤ i + 1), Nat.min_eq_right (by omega : 156 ≤ i), tk,
        List.drop_append_of_le_length (by rw [ltk]; omega), sx, if_neg (by omega)]
      omega
theorem sumT_all {b : List Nat} (h : 156 ≤ b.length) : sumT b b.length = sumP b := by
  unfold sumT sumP
  rw [Nat.min_eq_right (by omega), Nat.min_eq_right (by omega), List.take_length]
theorem tw_imp {p : Nat → Bool} : ∀ {l : List Nat} {x : Nat}, x ∈ l.takeWhile p → p x = true
  | [], x, h => by cases h
  | y :: l, x, h => by
    rw [List.takeWhile_cons] at h
    split at h
    · rename_i hy
      rcases List.mem_cons.1 h with rfl | q
      · exact hy
      · exact tw_imp q
    · cases h
theorem trimR_tail (p : Nat → Bool) (l : List Nat) : ∃ t, l = trimR p l ++ t ∧ ∀ x ∈ t, p x = true := by
  refine ⟨(l.reverse.takeWhile p).reverse, ?_, fun x hx => ?_⟩
  · unfold trimR
    rw [← List.reverse_append, List.takeWhile_append_dropWhile, List.reverse_reverse]
  · exact tw_imp (List.mem_reverse.1 hx)
theorem dropW_nil {p : Nat → Bool} : ∀ {l : List Nat}, l.dropWhile p = [] → ∀ x ∈ l, p x = true
  | [], _, x, hx => by cases hx
  | y :: l, h, x, hx => by
    rw [List.dropWhile_cons] at h
    split at h
    · rename_i hy
      rcases List.mem_cons.1 hx with rfl | q
      · exact hy
      · exact dropW_nil h x q
    · cases h
theorem trim_nil (b : List Nat) : (trimR isZ b).dropWhile isZ = [] ↔ zerosP b = true := by
  constructor
  · intro h
    obtain ⟨t, e, ht⟩ := trimR_tail isZ b
    refine List.all_eq_true.2 fun x hx => ?_
    rw [e] at hx
    rcases List.mem_append.1 hx with q | q
    · exact dropW_nil h x q
    · exact ht x q
  · intro h
    rw [trimR_all (List.all_eq_true.1 h)]
    rfl
section
variable {h : Hp} {K : Value → Hp → Prop}
theorem T_sum {v : Value} {b : List Nat} (rv : Rn h .u8 v b) (hb : Bytes b) (hl : b.length = 512) (k : K (.int .i64 ((sumP b : Nat) : Int)) h) : Cn P n_tar_sum #[v] h K := by
  refine F_tar_sum ?_
  unfold s_tar_sum
  obtain ⟨a, c, rfl, hc⟩ := rv.shape
  obtain ⟨bb, o, rfl, hy⟩ := rv.pos (by omega)
  simp -zeta only [RL]
  refine Lp_mk (fun m vs H => ∃ i : Nat, i + m = 512 ∧ H = h ∧ sumT b i ≤ 256 * i ∧ vs = [.int .i64 ((sumT b i : Nat) : Int), .int .i64 (i : Int)]) 512 ⟨0, by omega, rfl, by simp [sumT], by simp [sumT]⟩ ?_
  rintro m vs H ⟨i, hi, rfl, hs, rfl⟩
  simp -zeta only [GL, List.getD_cons_zero, List.getD_cons_succ, lt_dec]
  by_cases hlt : i < b.length
  · have hx := hy i hlt
    have h8 := hb.getD i
    have hst := sumT_step hlt
    generalize hd : b.getD i 0 = d at *
    have w0 : IntKind.i64.wrap (32 : Int) = 32 := by decide
    have w1 : IntKind.i64.wrap (d : Int) = (d : Int) := wi64 (by omega) (by omega)
    have w2 : IntKind.i64.wrap (((sumT b i : Nat) : Int) + 32) = ((sumT b i + 32 : Nat) : Int) := by rw [wi64 (by omega) (by omega)]; omega
    have w3 : IntKind.i64.wrap (((sumT b i : Nat) : Int) + (d : Int)) = ((sumT b i + d : Nat) : Int) := by rw [wi64 (by omega) (by omega)]; omega
    have w4 : IntKind.i64.wrap ((i : Int) + 1) = ((i + 1 : Nat) : Int) := by rw [wi64 (by omega) (by omega)]; omega
    have d1 : decide ((148 : Int) ≤ (i : Int)) = decide (148 ≤ i) := by rw [decide_eq_decide]; omega
    have d2 : decide ((i : Int) < 156) = decide (i < 156) := by rw [decide_eq_decide]; omega
    simp -zeta (disch := omega) only [hlt, decide_true, if_true, GL, RL, hx, Int.toNat_natCast, w0, w1, w2, w3, w4, d1, d2]
    by_cases q1 : 148 ≤ i
    · by_cases q2 : i < 156
      · rw [if_pos ⟨q1, q2⟩] at hst
        simp -zeta only [q1, q2, decide_true, if_true]
        exact ⟨_, .refl _, m - 1, by omega, i + 1, by omega, rfl, by omega, by rw [hst]⟩
      · rw [if_neg (fun q => q2 q.2)] at hst
        simp -zeta only [q1, q2, decide_true, decide_false, if_true, Bool.false_eq_true, if_false]
        exact ⟨_, .refl _, m - 1, by omega, i + 1, by omega, rfl, by omega, by rw [hst]⟩
    · rw [if_neg (fun q => q1 q.1)] at hst
      simp -zeta only [q1, decide_false, Bool.false_eq_true, if_false]
      exact ⟨_, .refl _, m - 1, by omega, i + 1, by omega, rfl, by omega, by rw [hst]⟩
  · simp -zeta only [hlt, decide_false, Bool.false_eq_true, if_false]
    obtain rfl : i = 512 := by omega
    have := sumT_all (b := b) (by omega)
    rw [hl] at this
    rw [this]
    exact k
theorem T_bTrimR {v : Value} {b : List Nat} (rv : Rn h .u8 v b) (hb : Bytes b) (hl : b.length ≤ 4611686018427387904) (k : ∀ w, Rn h .u8 w (trimR isZ b) → K w h) : Cn P n_bytes_trimRightByte #[v, .int .u8 0] h K := by
  refine Cn_wk (F_bytes_trimRightByte ?_)
  unfold s_bytes_trimRightByte
  refine Lp_mk (fun m vs H => ∃ w, H = h ∧ m ≤ b.length ∧ Rn h .u8 w (b.take m) ∧ trimR isZ (b.take m) = trimR isZ b ∧ vs = [w]) b.length ⟨v, rfl, Nat.le_refl _, by rw [List.take_length]; exact rv, by rw [List.take_length], rfl⟩ ?_
  rintro m vs H ⟨w, rfl, hm, rw', ht, rfl⟩
  have lt : (b.take m).length = m := by rw [List.length_take]; omega
  obtain ⟨a, c, rfl, hc⟩ := rw'.shape
  have rw2 := rw'
  rw [lt] at rw2
  simp -zeta only [GL, RL, List.getD_cons_zero, lt, gt0]
  cases m with
  | zero =>
    simp -zeta only [Nat.lt_irrefl, decide_false, Bool.false_eq_true, if_false]
    rw [List.take_zero, trimR_nil] at ht
    refine ⟨H, .refl _, k _ ?_⟩
    rw [← ht]
    exact rw2
  | succ m =>
    have e1 : IntKind.i64.wrap (((m + 1 : Nat) : Int) - 1) = ((m : Nat) : Int) := by rw [wi64 (by omega) (by omega)]; omega
    obtain ⟨bb, o, rfl, hy⟩ := rw'.pos (by omega)
    have hx := hy m (by omega)
    rw [take_getD (by omega)] at hx
    have h0 : (((b.getD m 0 : Nat) : Int) == 0) = isZ (b.getD m 0) := by rw [isZ, Bool.eq_iff_iff, beq_iff_eq, beq_iff_eq]; omega
    intro J4
    have q4 : isZ (b.getD m 0) = true → J4 H := by
      intro hz
      simp -zeta only [J4]
      clear J4
      simp -zeta only [GL, e1]
      refine q_slRnHi u_Sl_uint8 z_uint8 rw2 _ m (by omega) fun w' r' => ?_
      have e2 : (b.take (m + 1)).take m = b.take m := by rw [List.take_take, Nat.min_eq_left (by omega)]
      rw [e2] at r'
      rw [take_last (by omega), trimR_snoc, if_pos hz] at ht
      exact ⟨H, .refl _, m, by omega, w', rfl, by omega, r', ht, rfl⟩
    clear_value J4
    simp -zeta (disch := omega) only [Nat.zero_lt_succ, decide_true, if_true, GL, RL, e1, hx, h0, Int.toNat_natCast]
    cases hz : isZ (b.getD m 0) with
    | true =>
      simp -zeta only [if_true]
      exact q4 hz
    | false =>
      simp -zeta only [Bool.false_eq_true, if_false]
      rw [take_last (by omega), trimR_snoc, hz, if_neg (by simp), ← take_last (by omega)] at ht
      refine ⟨H, .refl _, k _ ?_⟩
      rw [← ht]
      exact rw2
theorem T_bTrimL {v : Value} {b : List Nat} (rv : Rn h .u8 v b) (hb : Bytes b) (hl : b.length ≤ 4611686018427387904) (k : ∀ w, Rn h .u8 w (b.dropWhile isZ) → K w h) : Cn P n_bytes_trimLeftByte #[v, .int .u8 0] h K := by
  refine Cn_wk (F_bytes_trimLeftByte ?_)
  unfold s_bytes_trimLeftByte
  intro J2
  have q2 : ∀ w l2, Rn h .u8 w l2 → l2.length ≤ 4611686018427387904 → l2 = b.dropWhile isZ → J2 w h := by
    intro w l2 r2 hl2 e2
    simp -zeta only [J2]
    clear J2
    obtain ⟨a, c, rfl, hc⟩ := r2.shape
    simp -zeta only [GL, RL]
    have d0 : (((l2.length : Nat) : Int) == 0) = decide (l2 = []) := by
      rw [Bool.eq_iff_iff, beq_iff_eq, decide_eq_true_eq, ← List.length_eq_zero_iff]; omega
    rw [d0]
    by_cases z : l2 = []
    · rw [if_pos (decide_eq_true z)]
      refine ⟨h, .refl _, k _ ?_⟩
      rw [← e2, z]
      exact rn_nil h .u8
    · rw [if_neg (by simp [z])]
      refine ⟨h, .refl _, k _ ?_⟩
      rw [← e2]
      exact r2
  clear_value J2
  refine Lp_mk (fun m vs H => ∃ (w : Value) (l2 : List Nat), H = h ∧ l2.length = m ∧ m ≤ b.length ∧ Rn h .u8 w l2 ∧ l2.dropWhile isZ = b.dropWhile isZ ∧ vs = [w]) b.length ⟨v, b, rfl, rfl, Nat.le_refl _, rv, rfl, rfl⟩ ?_
  rintro m vs H ⟨w, l2, rfl, rfl, hm, r2, ht, rfl⟩
  obtain ⟨a, c, rfl, hc⟩ := r2.shape
  simp -zeta only [GL, RL, List.getD_cons_zero, gt0]
  cases l2 with
  | nil =>
    simp -zeta only [List.length_nil, Nat.lt_irrefl, decide_false, Bool.false_eq_true, if_false]
    exact q2 _ [] r2 (by simp) ht
  | cons x l2 =>
    obtain ⟨bb, o, rfl, hy⟩ := r2.pos (by simp)
    have hx := hy 0 (by simp)
    have h0 : ((((x :: l2).getD 0 0 : Nat) : Int) == 0) = isZ x := by show (((x : Nat) : Int) == 0) = _; rw [isZ, Bool.eq_iff_iff, beq_iff_eq, beq_iff_eq]; omega
    have e1 : decide (0 < (x :: l2).length) = true := decide_eq_true (by simp)
    have hlp : (0 : Int) < (((x :: l2).length : Nat) : Int) := by rw [List.length_cons]; omega
    have i0 : (0 : Int).toNat = 0 := rfl
    simp -zeta (disch := first | exact hlp | omega) only [e1, if_true, GL, RL, i0, hx, h0]
    rw [List.dropWhile_cons] at ht
    cases hz : isZ x with
    | true =>
      rw [hz, if_pos rfl] at ht
      simp -zeta only [if_true]
      have i1 : (1 : Int) = ((1 : Nat) : Int) := rfl
      rw [i1]
      refine q_slRn u_Sl_uint8 z_uint8 r2 _ 1 (by simp) fun w' r' => ?_
      exact ⟨H, .refl _, l2.length, by simp, w', l2, rfl, rfl, by rw [List.length_cons] at hm; omega, r', ht, rfl⟩
    | false =>
      rw [hz, if_neg (by simp)] at ht
      simp -zeta only [Bool.false_eq_true, if_false]
      exact q2 _ (x :: l2) r2 (by rw [List.length_cons] at *; omega) ht
/-- Are bytes all 0? -/
theorem T_bTrim {v : Value} {b : List Nat} (rv : Rn h .u8 v b) (hb : Bytes b) (hl : b.length ≤ 4611686018427387904) (k : ∀ w l, Rn h .u8 w l → (l = [] ↔ zerosP b = true) → l.length ≤ b.length → K w h) : Cn P n_bytes_Trim #[v, .string (strL [0])] h K := by
  refine F_bytes_Trim ?_
  unfold s_bytes_Trim
  have b0 : Bytes [0] := by intro x hx; rw [List.mem_singleton.1 hx]; decide
  have en : Bytes ([] : List Nat) := by intro x hx; cases hx
  obtain ⟨a, c, rfl, hc⟩ := rv.shape
  have d0 : (((b.length : Nat) : Int) == 0) = decide (b = []) := by
    rw [Bool.eq_iff_iff, beq_iff_eq, decide_eq_true_eq, ← List.length_eq_zero_iff]; omega
  simp -zeta only [GL, RL, d0]
  by_cases z : b = []
  · rw [if_pos (decide_eq_true z)]
    exact k _ [] (rn_nil h .u8) (by rw [z]; simp [zerosP]) (by simp)
  · rw [if_neg (by simp [z]), empS, q_eqlSt _ _ b0 en]
    simp -zeta only [GL, show decide ([0] = ([] : List Nat)) = false from rfl, Bool.false_eq_true, if_false]
    intro J9
    have q9 : J9 (.bool true) h := by
      simp -zeta only [J9]
      clear J9
      have i0 : (0 : Int) = ((0 : Nat) : Int) := rfl
      simp -zeta only [GL, if_true]
      rw [i0, q_idxSt u_string b0 (by simp), q_idxSt u_string b0 (by simp)]
      show Cn P 38 #[.slice a b.length c, .int .u8 0] h _
      refine T_bTrimR rv hb hl fun w rw' => ?_
      show Cn P 37 #[w, .int .u8 0] h _
      have bt : Bytes (trimR isZ b) := fun x hx => hb x (trimR_mem hx)
      have lt := trimR_le isZ b
      refine T_bTrimL rw' bt (by omega) fun w2 r2 => ?_
      exact k w2 _ r2 (trim_nil b) (Nat.le_trans (List.dropWhile_suffix _).length_le lt)
    clear_value J9
    have i0 : (0 : Int) = ((0 : Nat) : Int) := rfl
    have e1 : (((([0] : List Nat).length : Nat) : Int) == 1) = true := rfl
    rw [strL_size]
    simp -zeta only [GL, e1, if_true]
    rw [i0, q_idxSt u_string b0 (by simp)]
    simp -zeta only [GL, show decide (((([0] : List Nat).getD 0 0 : Nat) : Int) < 128) = true from rfl]
    exact q9
theorem T_bClone {v : Value} {l : List Nat} (hv : Rn h .u8 v l) (hl : l.length ≤ 70368744177664) (k : ∀ r h', Nn h t_uint8 .u8 r h' l → K r h') : Cn P n_bytes_Clone #[v] h K := by
  refine F_bytes_Clone ?_
  obtain ⟨a, c, rfl, hc⟩ := hv.shape
  unfold s_bytes_Clone
  simp (disch := omega) only [GL, RL]
  cases a with
  | none =>
    have h0 : l = [] := by
      obtain ⟨_, a', c', e, _, h0 | ⟨b, o, e2, _⟩⟩ := hv
      · exact List.eq_nil_of_length_eq_zero h0
      · rw [e2] at e; cases e
    subst h0
    exact k _ _ (Nn.nil ..)
  | some a =>
    simp only [Option.isNone_some, Bool.false_eq_true, if_false]
    refine aw_nilB fun w h1 n1 => ?_
    refine aw_appB n1 (hv.mono n1.cle) (by simpa using hl) fun v' h' n' => k v' h' ?_
    rwa [List.nil_append] at n'
/-- A part up to a place, with no more room behind. -/
theorem q_slRnHM {w : Value} {l : List Nat} {K : Value → Prop} (r : Rn h .u8 w l) (k k2 : IntKind) (hi : Nat) (h1 : hi ≤ l.length) (hk : ∀ w', (∀ H, Rn H .u8 w l → Rn H .u8 w' (l.take hi)) → K w') :
    q P h (Instr.sliceAt t_Sl_uint8 w none (some (.int k hi)) (some (.int k2 hi))) K := by
  obtain ⟨a, c, rfl, hc⟩ := r.shape
  rw [q_slHM u_Sl_uint8 z_uint8 a _ c k k2 hi hi (Nat.le_refl _) (by omega)]
  refine hk _ fun H r => ?_
  have e1 : nv .u8 (l.take hi) = ((nv .u8 l).take (hi * 1)).drop (0 * 1) := by
    unfold nv; simp only [Nat.mul_one, Nat.zero_mul, List.drop_zero, List.map_take]
  have e2 : (l.take hi).length = hi - 0 := by rw [List.length_take]; omega
  have hi' : Rds H 1 (.slice a hi hi) ((nv .u8 l).take hi) hi := by
    obtain ⟨hl, a', cc, e, hcc, q⟩ := r
    simp only [Value.slice.injEq] at e
    obtain ⟨rfl, -, rfl⟩ := e
    refine ⟨by rw [List.length_take, nv_len]; omega, _, _, rfl, Nat.le_refl _, ?_⟩
    rcases q with q | ⟨b, o, rfl, hy⟩
    · exact .inl (by omega)
    · refine .inr ⟨b, o, rfl, fun i x ex => ?_⟩
      rw [List.getElem?_take] at ex
      split at ex
      · exact hy i x ex
      · cases ex
  have := hi'.cut 0 hi (Nat.zero_le _) (Nat.le_refl _)
  unfold Rn
  rw [e1, e2]
  simp only [Nat.mul_one, Nat.sub_zero, Nat.zero_mul] at this ⊢
  rw [List.take_of_length_le (l := (nv .u8 l).take hi) (by rw [List.length_take]; omega)] at this
  exact this
theorem sub_td (b : List Nat) (i j : Nat) : (b.take j).drop i = sub b i (j - i) := List.drop_take
theorem T_names {v : Value} {b : List Nat} (rv : Rn h .u8 v b) (hb : Bytes b) (hl : b.length = 512) {name link : List Nat} (e : namesP b = some (name, link)) (k : K (.tuple #[.string (strL name), .string (strL link), .bool true]) h) : Cn P n_tar_names #[v] h K := by
  refine F_tar_names ?_
  unfold s_tar_names
  unfold namesP at e
  split at e
  · cases e
  rename_i g
  rw [not_or, not_or] at g
  obtain ⟨g1, g2, g3⟩ := g
  simp only [Option.some.injEq, Prod.mk.injEq] at e
  obtain ⟨rfl, rfl⟩ := e
  have sb : ∀ i n, Bytes (sub b i n) := fun i n => (hb.drop i).take n
  have sl : ∀ i n, (sub b i n).length ≤ n := fun i n => by rw [sub, List.length_take]; omega
  have fb : ∀ i n, Bytes (fieldP (sub b i n)) := fun i n x hx => sb i n x (trimR_mem hx)
  have fl : ∀ i n, (fieldP (sub b i n)).length ≤ n := fun i n => Nat.le_trans (trimR_le _ _) (sl i n)
  have en : Bytes ([] : List Nat) := by intro x hx; cases hx
  refine q_slRnHM rv _ _ 100 (by omega) fun w1 r1 => ?_
  have r1 := r1 h rv
  have e1 : b.take 100 = sub b 0 100 := by rw [sub, List.drop_zero]
  rw [e1] at r1
  refine T_field r1 (sb _ _) (by have := sl 0 100; omega) ?_
  rw [ext0, ext1]
  refine q_slRnLH u_Sl_uint8 z_uint8 rv _ _ 157 257 (by omega) (by omega) fun w2 r2 => ?_
  rw [sub_td] at r2
  refine T_field r2 (sb _ _) (by have := sl 157 (257 - 157); omega) ?_
  rw [ext0, ext1]
  refine q_slRnLH u_Sl_uint8 z_uint8 rv _ _ 345 500 (by omega) (by omega) fun w3 r3 => ?_
  rw [sub_td] at r3
  refine T_field r3 (sb _ _) (by have := sl 345 (500 - 345); omega) ?_
  rw [ext0, ext1]
  intro J5
  have q5 : ∀ s, J5 (.string s) h = K (.tuple #[.string s, .string (strL (fieldP (sub b 157 100))), .bool true]) h := by
    intro s
    simp -zeta only [J5]
    clear J5
    simp -zeta only [GL, g1, not_false_eq_true, decide_true, if_true, show (257 - 157 : Nat) = 100 from rfl, g2, show (500 - 345 : Nat) = 155 from rfl, g3]
  clear_value J5
  rw [empS, q_neqSt _ _ (fb _ _) en]
  have e155 : (500 - 345 : Nat) = 155 := rfl
  rw [e155]
  by_cases z : fieldP (sub b 345 155) = []
  · rw [if_pos z] at k
    simp -zeta only [GL, z, ne_eq, not_true_eq_false, decide_false, Bool.false_eq_true, if_false]
    rw [q5]
    exact k
  · rw [if_neg z] at k
    simp -zeta only [GL, z, ne_eq, not_false_eq_true, decide_true, if_true]
    have s47 : (⟨#[47]⟩ : ByteArray) = strL [47] := rfl
    have := fl 345 155
    have := fl 0 100
    rw [s47, q_addSt _ _ (by simp; omega), q_addSt _ _ (by simp; omega), q5]
    exact k
end
end Go.Proofs.YtflfhbnflcfmgaaGreatDoor
set_option linter.unusedSimpArgs false
set_option linter.unusedVariables false
namespace Go.SL
open Go
section
variable {P : Program} {h : Hp}
/-- A row made just now is owned. -/
theorem OutAt.own {R h' : Hp} {t s n : Nat} {v : Value} {xs : List Value} {S So : List Nat} (w : Own R h S) (x : Hp.ext h h') (o : OutAt t s h' v xs n So) (fr : ∀ y, y ∈ So → h y = none) : Own R h' So := by
  refine ⟨w.sub.trans x, fun b hb => w.sub.none (fr b hb), fun b hb => ?_⟩
  rcases o with ⟨_, _, _, rfl⟩ | ⟨b', c, f, e, _, _, _, rfl, _⟩
  · cases hb
  · rw [List.mem_singleton.1 hb]; exact ⟨_, e⟩
/-- A step within what is owned. -/
theorem Stp.within {R h h' : Hp} {S : List Nat} (w : Own R h S) (fr : ∀ b, b ∉ S → h' b = h b) (kn : ∀ b, b ∈ S → ∃ o, h' b = some o) : Stp R h R h' S S :=
  ⟨.refl _, fun b o hb e => by rw [fr b hb]; exact e, fun b o hb e => hb, fun b o hb e er => er, ⟨fun b o e => by
    have hb : b ∉ S := fun q => by rw [w.dis b q] at e; cases e
    rw [fr b hb]; exact w.sub b o e, w.dis, kn⟩⟩
/-- A row that grows, beside what else is owned. -/
theorem OutAt.beside {R h h' : Hp} {t s n' : Nat} {v' : Value} {xs' : List Value} {S T T' : List Nat} (oS : Own R h S) (oT : Own R h T) (dj : ∀ b, b ∈ S → b ∉ T) (o' : OutAt t s h' v' xs' n' T') (kp : ∀ x o, x ∉ T → h x = some o → h' x = some o) (fr : ∀ x o, x ∉ T → h x = some o → x ∉ T') :
    Own R h' S ∧ Own R h' T' ∧ (∀ b, b ∈ S → b ∉ T') ∧ (∀ b, b ∈ S → h' b = h b) ∧ Stp R h R h' (S ++ T) (S ++ T') := by
  have st := OutAt.step oT o' kp fr
  obtain ⟨a, b, c⟩ := st.frame oS dj
  exact ⟨a, st.own, b, c, (st.wide oS dj).perm (fun x => by simp only [List.mem_append]; exact or_comm) (fun x => by simp only [List.mem_append]; exact or_comm)⟩
theorem OutAt.flat {h : Hp} {t s n : Nat} {v : Value} {xs : List Value} {So : List Nat} (o : OutAt t s h v xs n So) : SL.flat v = true := by
  rcases o with ⟨rfl, _⟩ | ⟨b, c, f, _, rfl, _⟩ <;> rfl
end
end Go.SL
set_option linter.unusedSimpArgs false
set_option linter.unusedVariables false
set_option maxRecDepth 100000
set_option maxHeartbeats 1000000
namespace Go.Proofs.YtflfhbnflcfmgaaGreatDoor
open Go Go.SL Go.Pure Go.Tar
theorem rf0 {h : Hp} {K : Value → Prop} (b o : Nat) : q P h (Instr.fieldAt t_tar_reader (.pointer (some ⟨b, o, none⟩)) 0) K = K (.pointer (some ⟨b, o, none⟩)) := q_of (by kernel_rfl) K
theorem rf1 {h : Hp} {K : Value → Prop} (b o : Nat) : q P h (Instr.fieldAt t_tar_reader (.pointer (some ⟨b, o, none⟩)) 1) K = K (.pointer (some ⟨b, o + 1, none⟩)) := q_of (by kernel_rfl) K
theorem rf2 {h : Hp} {K : Value → Prop} (b o : Nat) : q P h (Instr.fieldAt t_tar_reader (.pointer (some ⟨b, o, none⟩)) 2) K = K (.pointer (some ⟨b, o + 2, none⟩)) := q_of (by kernel_rfl) K
theorem rf3 {h : Hp} {K : Value → Prop} (b o : Nat) : q P h (Instr.fieldAt t_tar_reader (.pointer (some ⟨b, o, none⟩)) 3) K = K (.pointer (some ⟨b, o + 3, none⟩)) := q_of (by kernel_rfl) K
theorem rf4 {h : Hp} {K : Value → Prop} (b o : Nat) : q P h (Instr.fieldAt t_tar_reader (.pointer (some ⟨b, o, none⟩)) 4) K = K (.pointer (some ⟨b, o + 4, none⟩)) := q_of (by kernel_rfl) K
/-- Entries' cells. -/
def cellsP (ps : List (Ent × Value)) : List Value := ps.flatMap fun p => entC p.1 p.2
theorem cellsP_len (ps : List (Ent × Value)) : (cellsP ps).length = ps.length * 5 := by
  induction ps with
  | nil => rfl
  | cons p ps ih =>
    have : cellsP (p :: ps) = entC p.1 p.2 ++ cellsP ps := by simp [cellsP]
    rw [this, List.length_append, ih, entC_len, List.length_cons]
    omega
theorem cellsP_app (ps qs : List (Ent × Value)) : cellsP (ps ++ qs) = cellsP ps ++ cellsP qs := by simp [cellsP]
theorem cellsP_one (e : Ent) (v : Value) : cellsP [(e, v)] = entC e v := by simp [cellsP]
def rdC (r : Rd) (bv lv : Value) : List Value := [bv, .string (strL r.path), .string (strL r.link), .bool r.told, lv]
/-- A reader in memory. -/
structure RdA (R h : Hp) (rr : Nat) (So : List Nat) (bv lv : Value) (ps : List (Ent × Value)) (r : Rd) : Prop where
  own : Own R h (rr :: So)
  nin : rr ∉ So
  row : h rr = some (.row t_tar_reader (rdC r bv lv) 5 (some (0, 0)))
  rb : Rn R .u8 bv r.b
  bb : Bytes r.b
  lb : r.b.length ≤ 1048576
  bp : Bytes r.path
  bl : Bytes r.link
  lp : r.path.length ≤ 1048576
  ll : r.link.length ≤ 1048576
  out : OutAt t_api_Entry 5 h lv (cellsP ps) ps.length So
  ents : ∀ p ∈ ps, EntR R p.1 p.2
  lst : r.list = ps.map Prod.fst
section
variable {R h : Hp} {K : Value → Hp → Prop} {rr : Nat} {So : List Nat} {bv lv : Value} {ps : List (Ent × Value)} {r : Rd}
theorem RdA.cells (a : RdA R h rr So bv lv ps r) : h.cell ⟨rr, 0, none⟩ = some bv ∧ h.cell ⟨rr, 0 + 1, none⟩ = some (.string (strL r.path)) ∧ h.cell ⟨rr, 0 + 2, none⟩ = some (.string (strL r.link)) ∧ h.cell ⟨rr, 0 + 3, none⟩ = some (.bool r.told) ∧ h.cell ⟨rr, 0 + 4, none⟩ = some lv := by
  have := fun i => cell_row (off := i) a.row
  exact ⟨this 0, this 1, this 2, this 3, this 4⟩
theorem RdA.grow {R' h' : Hp} (a : RdA R h rr So bv lv ps r) (x : Hp.ext h h') (st : Stp R h R' h' (rr :: So) (rr :: So)) : RdA R' h' rr So bv lv ps r := by
  have eq : ∀ b, b ∈ rr :: So → h' b = h b := fun b hb => by obtain ⟨o, e⟩ := a.own.kn b hb; rw [e, x b o e]
  exact ⟨st.own, a.nin, by rw [eq rr (by simp)]; exact a.row, a.rb.mono st.ext.cle, a.bb, a.lb, a.bp, a.bl, a.lp, a.ll, a.out.keep fun b hb => eq b (by simp [hb]), fun p hp => (a.ents p hp).mono st.ext.cle, a.lst⟩
/-- A reader's cells changed. -/
theorem RdA.put (a : RdA R h rr So bv lv ps r) {bv' : Value} {r' : Rd} (rb : Rn R .u8 bv' r'.b) (bb : Bytes r'.b) (lb : r'.b.length ≤ 1048576) (bp : Bytes r'.path) (bl : Bytes r'.link) (lp : r'.path.length ≤ 1048576) (ll : r'.link.length ≤ 1048576) (el : r'.list = r.list) :
    RdA R (h.set rr (.row t_tar_reader (rdC r' bv' lv) 5 (some (0, 0)))) rr So bv' lv ps r' ∧ Stp R h R (h.set rr (.row t_tar_reader (rdC r' bv' lv) 5 (some (0, 0)))) (rr :: So) (rr :: So) := by
  have st : Stp R h R (h.set rr (.row t_tar_reader (rdC r' bv' lv) 5 (some (0, 0)))) (rr :: So) (rr :: So) := Stp.within a.own (fun b hb => Hp.set_ne _ _ (by rintro rfl; exact hb (by simp))) (fun b hb => by
    by_cases q : b = rr
    · subst q; exact ⟨_, Hp.set_same ..⟩
    · rw [Hp.set_ne _ _ q]; exact a.own.kn b hb)
  exact ⟨⟨st.own, a.nin, Hp.set_same .., rb, bb, lb, bp, bl, lp, ll, a.out.keep fun b hb => Hp.set_ne _ _ (by rintro rfl; exact a.nin hb), a.ents, by rw [el]; exact a.lst⟩, st⟩
theorem T_take (a : RdA R h rr So bv lv ps r) {n : Nat} (hn : n ≤ 1099511627776) (kN : takeP r.b n = none → K (.tuple #[.slice none 0 0, .bool false]) h)
    (kS : ∀ out rest, takeP r.b n = some (out, rest) → ∀ R' h' bv' w, Stp R h R' h' (rr :: So) (rr :: So) → RdA R' h' rr So bv' lv ps { r with b := rest } → Rn R' .u8 w out → K (.tuple #[w, .bool true]) h') :
    Cn P n_tar_reader_take #[.pointer (some ⟨rr, 0, none⟩), .int .i64 (n : Int)] h K := by
  refine F_tar_reader_take ?_
  unfold s_tar_reader_take
  obtain ⟨c0, c1, c2, c3, c4⟩ := a.cells
  have rb := a.own.rn a.rb
  have hW : n ≤ (n + 511) / 512 * 512 := by omega
  have w1 : IntKind.i64.wrap ((n : Int) + 512) = ((n + 512 : Nat) : Int) := by rw [wi64 (by omega) (by omega)]; omega
  have w2 : IntKind.i64.wrap (((n + 512 : Nat) : Int) - 1) = ((n + 511 : Nat) : Int) := by rw [wi64 (by omega) (by omega)]; omega
  have w3 : IntKind.i64.wrap (((n + 511 : Nat) : Int).tdiv 512) = (((n + 511) / 512 : Nat) : Int) := by
    rw [Int.tdiv_eq_ediv_of_nonneg (by omega), wi64 (by omega) (by omega)]; omega
  have w4 : IntKind.i64.wrap ((((n + 511) / 512 : Nat) : Int) * 512) = (((n + 511) / 512 * 512 : Nat) : Int) := by rw [wi64 (by omega) (by omega)]; omega
  have bn : takeP r.b n = if r.b.length < n ∨ r.b.length < (n + 511) / 512 * 512 ∨ zerosP ((r.b.take ((n + 511) / 512 * 512)).drop n) = false then none else some (r.b.take n, r.b.drop ((n + 511) / 512 * 512)) := rfl
  obtain ⟨ab, cb, rfl, hcb⟩ := rb.shape
  simp -zeta (disch := decide) only [GL, RL, w1, w2, w3, w4]
  generalize hWW : (n + 511) / 512 * 512 = W at *
  have lb := a.lb
  intro J3
  have q3 : n ≤ r.b.length → W ≤ r.b.length → zerosP ((r.b.take W).drop n) = true → J3 h := by
    intro g1 g2 g3
    simp -zeta only [J3]
    clear J3
    rw [if_neg (by simp [g3]; omega)] at bn
    simp -zeta only [GL, RL, rf0, c0]
    refine q_slRnHM rb _ _ n g1 fun w5 r5 => ?_
    have dj : ∀ w' : Value, Rn R .u8 w' (r.b.drop W) → flat w' = true := fun w' r' => rn_flat r'
    rw [q_slLo u_Sl_uint8 z_uint8 ab _ cb _ W g2 hcb]
    have rb' : Rn R .u8 (.slice (SL.cut ab cb W 1) (r.b.length - W) (cb - W)) (r.b.drop W) := by
      have := a.rb.cut W r.b.length g2 (Nat.le_refl _)
      rwa [List.take_length] at this
    refine aw_store z_Sl_uint8 rfl (put_row a.row (by simp [rdC]) (by omega) _) ?_
    have r5R := r5 R a.rb
    obtain ⟨a1, st1⟩ := a.put (bv' := .slice (SL.cut ab cb W 1) (r.b.length - W) (cb - W)) (r' := { r with b := r.b.drop W }) rb' (a.bb.drop W) (by show (r.b.drop W).length ≤ _; rw [List.length_drop]; omega) a.bp a.bl a.lp a.ll rfl
    have eh : (rdC r (.slice ab r.b.length cb) lv).set 0 (.slice (SL.cut ab cb W 1) (r.b.length - W) (cb - W)) = rdC { r with b := r.b.drop W } (.slice (SL.cut ab cb W 1) (r.b.length - W) (cb - W)) lv := rfl
    rw [eh]
    refine T_bClone (a1.own.rn r5R) (by rw [List.length_take]; omega) fun w' h' nw => ?_
    obtain ⟨R', st2, r6⟩ := Stp.newN a1.own nw
    exact kS _ _ bn R' h' _ w' (st1.trans st2) (a1.grow nw.ext st2) r6
  clear_value J3
  have d1 : decide (((r.b.length : Nat) : Int) < (n : Int)) = decide (r.b.length < n) := by rw [decide_eq_decide]; omega
  have d2 : decide (((r.b.length : Nat) : Int) < (W : Int)) = decide (r.b.length < W) := by rw [decide_eq_decide]; omega
  simp -zeta only [GL, RL, rf0, c0, d1]
  by_cases g1 : r.b.length < n
  · rw [if_pos (.inl g1)] at bn
    simp -zeta only [g1, decide_true, Bool.true_eq_false, if_false, if_true]
    exact kN bn
  · simp -zeta only [g1, decide_false, if_true, GL, RL, rf0, c0, d2]
    by_cases g2 : r.b.length < W
    · rw [if_pos (.inr (.inl g2))] at bn
      simp -zeta only [g2, decide_true, Bool.true_eq_false, if_false, if_true]
      exact kN bn
    · simp -zeta only [g2, decide_false, if_true, GL, RL, rf0, c0]
      refine q_slRnLH u_Sl_uint8 z_uint8 rb _ _ n W hW (by omega) fun w6 r6 => ?_
      have b6 : Bytes ((r.b.take W).drop n) := (a.bb.take W).drop n
      have l6 : ((r.b.take W).drop n).length ≤ 4611686018427387904 := by rw [List.length_drop, List.length_take]; omega
      refine T_bTrim r6 b6 l6 fun w7 l7 r7 e7 h7 => ?_
      obtain ⟨a7, c7, rfl, _⟩ := r7.shape
      simp -zeta only [GL, RL, gt0]
      cases g3 : zerosP ((r.b.take W).drop n) with
      | true =>
        have := e7.2 g3
        subst this
        simp -zeta only [List.length_nil, Nat.lt_irrefl, decide_false, Bool.false_eq_true, if_false]
        exact q3 (by omega) (by omega) g3
      | false =>
        rw [if_pos (.inr (.inr g3))] at bn
        have hp : 0 < l7.length := List.length_pos_iff.2 fun q => by rw [e7.1 q] at g3; cases g3
        simp -zeta only [hp, decide_true, if_true]
        exact kN bn
end
end Go.Proofs.YtflfhbnflcfmgaaGreatDoor
set_option linter.unusedSimpArgs false
set_option linter.unusedVariables false
set_option maxRecDepth 100000
namespace Go.Tar
open Go.Pure
/-- So many digits of base ten. -/
def digs : Nat → Nat → List Nat
  | 0, _ => []
  | L + 1, n => digs L (n / 10) ++ [n % 10]
theorem digs_len : ∀ L n, (digs L n).length = L
  | 0, _ => rfl
  | L + 1, n => by rw [digs, List.length_append, digs_len]; rfl
theorem digs_dig : ∀ L n, n < 10 ^ (L + 1) → (L = 0 ∨ 10 ^ L ≤ n) → dig 10 n = digs (L + 1) n
  | 0, n, h, _ => by
    rw [dig_one (by simpa using h)]
    simp [digs]
    omega
  | L + 1, n, h, h2 => by
    have h2 : 10 ^ (L + 1) ≤ n := h2.resolve_left (by omega)
    have p : 10 ≤ n := Nat.le_trans (by rw [Nat.pow_succ]; have := Nat.pow_pos (n := L) (show 0 < 10 by decide); omega) h2
    rw [dig_step (by decide) p, digs, digs_dig L (n / 10) (by rw [Nat.div_lt_iff_lt_mul (by decide), ← Nat.pow_succ]; exact h) (.inr (by rw [Nat.le_div_iff_mul_le (by decide), ← Nat.pow_succ]; exact h2))]
theorem digs_get : ∀ L n i, i < L → (digs L n)[i]? = some (n / 10 ^ (L - 1 - i) % 10)
  | 0, n, i, h => by omega
  | L + 1, n, i, h => by
    rw [digs]
    rcases Nat.lt_or_ge i L with q | q
    · rw [List.getElem?_append_left (by rw [digs_len]; exact q), digs_get L (n / 10) i q, Nat.div_div_eq_div_mul, Nat.mul_comm, ← Nat.pow_succ]
      congr 4
      omega
    · obtain rfl : i = L := by omega
      rw [List.getElem?_append_right (by rw [digs_len]; omega), digs_len, Nat.sub_self]
      simp
/-- How many bits a byte has. -/
def b8 (x : Nat) : Nat := if x < 1 then 0 else if x < 2 then 1 else if x < 4 then 2 else if x < 8 then 3 else if x < 16 then 4 else if x < 32 then 5 else if x < 64 then 6 else if x < 128 then 7 else 8
theorem b8_ok {x : Nat} (h1 : 1 ≤ x) (h2 : x < 256) : 1 ≤ b8 x ∧ b8 x ≤ 8 ∧ x < 2 ^ b8 x ∧ 2 ^ (b8 x - 1) ≤ x := by
  unfold b8
  repeat' split
  all_goals first | omega | (refine ⟨by decide, by decide, ?_, ?_⟩ <;> simp <;> omega)
def len8 : List Nat := (List.range 256).map b8
theorem len8_get {x : Nat} (h : x < 256) : len8.getD x 0 = b8 x := by
  rw [len8, List.getD_eq_getElem?_getD, List.getElem?_map, List.getElem?_range h]; rfl
/-- Two digits of each number below 100. -/
def tab2 : List Nat := (List.range 100).flatMap fun x => [48 + x / 10, 48 + x % 10]
theorem tab2_len : tab2.length = 200 := by decide +kernel
theorem tab2_get : ∀ x, x < 100 → tab2.getD (2 * x) 0 = 48 + x / 10 ∧ tab2.getD (2 * x + 1) 0 = 48 + x % 10 := by decide +kernel
theorem tab2_b : Bytes tab2 := by unfold Bytes; decide +kernel
def d36 : List Nat := [48, 49, 50, 51, 52, 53, 54, 55, 56, 57, 97, 98, 99, 100, 101, 102, 103, 104, 105, 106, 107, 108, 109, 110, 111, 112, 113, 114, 115, 116, 117, 118, 119, 120, 121, 122]
theorem d36_b : Bytes d36 := by unfold Bytes; decide +kernel
theorem small1 : ∀ n, n < 10 → (d36.take (n + 1)).drop n = asc (dig 10 n) := by decide +kernel
theorem small2 : ∀ n, n < 100 → 10 ≤ n → (tab2.take (n * 2 + 2)).drop (n * 2) = asc (dig 10 n) := by decide +kernel
theorem log_ok : ∀ m, m < 25 → 1 ≤ m → m * 78913 / 262144 ≤ 7 ∧ 2 ^ m ≤ 10 ^ (m * 78913 / 262144 + 1) ∧ 10 ^ (m * 78913 / 262144 - 1) ≤ 2 ^ (m - 1) := by decide +kernel
end Go.Tar
set_option linter.unusedSimpArgs false
set_option linter.unusedVariables false
set_option maxRecDepth 100000
set_option maxHeartbeats 1000000
namespace Go.Proofs.YtflfhbnflcfmgaaGreatDoor
open Go Go.SL Go.Pure Go.Tar
theorem txd : tx_617ef5 = strL d36 := by kernel_rfl
theorem tx2 : tx_0db94c = strL tab2 := by kernel_rfl
theorem tx8 : tx_97c9fe = strL len8 := by kernel_rfl
theorem len8_b : Bytes len8 := by unfold Bytes; decide +kernel
theorem len8_len : len8.length = 256 := by decide +kernel
/-- The powers of ten in memory. -/
def Pow (h : Hp) : Prop := ∀ i : Nat, i < 20 → h.cell ⟨5, i, none⟩ = some (.int .u64 ((10 ^ i : Nat) : Int))
theorem Pow.mono {h h' : Hp} (a : Pow h) (x : Hp.cle h h') : Pow h' := fun i hi => x _ _ (a i hi)
theorem tm100 (a : Nat) : (a : Int).tmod 100 = ((a % 100 : Nat) : Int) := by rw [Int.tmod_eq_emod_of_nonneg (by omega)]; omega
theorem tm10k (a : Nat) : (a : Int).tmod 10000 = ((a % 10000 : Nat) : Int) := by rw [Int.tmod_eq_emod_of_nonneg (by omega)]; omega
theorem td100 (a : Nat) : (a : Int).tdiv 100 = ((a / 100 : Nat) : Int) := by rw [Int.tdiv_eq_ediv_of_nonneg (by omega)]; omega
theorem td10k (a : Nat) : (a : Int).tdiv 10000 = ((a / 10000 : Nat) : Int) := by rw [Int.tdiv_eq_ediv_of_nonneg (by omega)]; omega
/-- A part of an array. -/
theorem pk_boundsALH {h : Hp} (n : Nat) (k k' : IntKind) (lo hi : Nat) (h1 : lo ≤ hi) (h2 : hi ≤ n) : peek P h (Instr.sliceBounds false n n (some (.int k lo)) (some (.int k' hi)) none) = some (lo, hi, n) := by
  have e1 : peek P h (Instr.sliceBound (.int k' (hi : Int)) n .sliceAlen) = some hi := pk_bound k' hi n h2 _
  have e2 : peek P h (Instr.sliceBound (.int k (lo : Int)) hi .sliceB) = some lo := pk_bound k lo hi h1 _
  unfold Instr.sliceBounds
  simp only [if_true, Option.isSome_none, Bool.false_eq_true, if_false, pure_bind, pk_bind e1, pk_bind e2]
  rfl
theorem q_slArrLH {h : Hp} {t e s n : Nat} {K : Value → Prop} (ht : P.underlying t = some (.array n e)) (hs : sz P e = some s) (a : Addr) (k k' : IntKind) (lo hi : Nat) (h1 : lo ≤ hi) (h2 : hi ≤ n) (h3 : lo < n) :
    q P h (Instr.sliceAt t (.pointer (some a)) (some (.int k lo)) (some (.int k' hi)) none) K = K (.slice (some (a.add (lo * s))) (hi - lo) (n - lo)) := q_of (by
  show peek P h (Sem.bind (underlying t) _) = _
  rw [peek_bind, pk_und ht, Option.bind_some]
  show peek P h (Sem.bind (Instr.sliceBounds false n n _ _ none) _) = _
  rw [peek_bind, pk_boundsALH n k k' lo hi h1 h2, Option.bind_some]
  show peek P h (Sem.bind (sizeOf e) _) = _
  rw [peek_bind, pk_size hs]
  show some (Value.slice (some (if n = lo then a else a.add (lo * s))) (hi - lo) (n - lo)) = _
  rw [if_neg (by omega)]) K
/-- Digits of a number, from a place on. -/
def Inv10 (n L t u : Nat) (cs : List Value) : Prop := cs.length = 24 ∧ u = n / 10 ^ (L - t) ∧ t ≤ L ∧ ∀ i, t ≤ i → i < L → cs[1 + i]? = some (.int .u8 ((48 + n / 10 ^ (L - 1 - i) % 10 : Nat) : Int))
theorem Inv10.step {n L t u : Nat} {cs : List Value} (a : Inv10 n L (t + 1) u cs) (hL : L ≤ 20) : Inv10 n L t (u / 10) (cs.set (1 + t) (.int .u8 ((48 + u % 10 : Nat) : Int))) := by
  obtain ⟨a1, a2, a3, a4⟩ := a
  refine ⟨by rw [List.length_set]; exact a1, ?_, by omega, fun i h1 h2 => ?_⟩
  · rw [a2, Nat.div_div_eq_div_mul, ← Nat.pow_succ]
    congr 2
    omega
  · rw [List.getElem?_set]
    by_cases q : i = t
    · subst q
      rw [if_pos rfl, if_pos (by omega), a2]
      have : L - 1 - i = L - (i + 1) := by omega
      rw [this]
    · rw [if_neg (by omega)]
      exact a4 i (by omega) h2
theorem Inv10.step2 {n L t u : Nat} {cs : List Value} (a : Inv10 n L (t + 2) u cs) (hL : L ≤ 20) : Inv10 n L t (u / 100) ((cs.set (1 + (t + 1)) (.int .u8 ((48 + u % 100 % 10 : Nat) : Int))).set (1 + t) (.int .u8 ((48 + u % 100 / 10 : Nat) : Int))) := by
  have := Inv10.step (Inv10.step (t := t + 1) a hL) hL
  have e1 : u / 10 / 10 = u / 100 := by omega
  have e2 : u % 10 = u % 100 % 10 := by omega
  have e3 : u / 10 % 10 = u % 100 / 10 := by omega
  rwa [e1, e2, e3] at this
section
variable {h : Hp} {K : Value → Hp → Prop}
theorem T_Len64 {n : Nat} (h1 : 1 ≤ n) (h2 : n < 16777216) (k : ∀ m : Nat, 1 ≤ m → m ≤ 24 → n < 2 ^ m → 2 ^ (m - 1) ≤ n → K (.int .i64 (m : Int)) h) : Cn P n_bits_Len64 #[.int .u64 (n : Int)] h K := by
  refine F_bits_Len64 ?_
  unfold s_bits_Len64
  intro J2
  have q2 : J2 (.int .u64 (n : Int)) (.int .i64 0) h := by
    simp -zeta only [J2]
    clear J2
    intro J5
    have q5 : ∀ x s : Nat, 1 ≤ x → x < 65536 → s ≤ 16 → n / 2 ^ s = x → J5 (.int .u64 (x : Int)) (.int .i64 (s : Int)) h := by
      intro x s hx hx2 hs hn
      simp -zeta only [J5]
      clear J5
      intro J8
      have q8 : ∀ y t : Nat, 1 ≤ y → y < 256 → t ≤ 24 → n / 2 ^ t = y → J8 (.int .u64 (y : Int)) (.int .i64 (t : Int)) h := by
        intro y t hy hy2 ht hn
        simp -zeta only [J8]
        clear J8
        obtain ⟨b1, b2, b3, b4⟩ := b8_ok hy hy2
        have w1 : IntKind.u8.wrap (y : Int) = (y : Int) := wu8i (by omega) (by omega)
        simp -zeta only [GL, RL, w1, tx8]
        rw [q_idxSt u_string len8_b (by rw [len8_len]; exact hy2), len8_get hy2]
        have w2 : IntKind.i64.wrap ((b8 y : Nat) : Int) = ((b8 y : Nat) : Int) := wi64 (by omega) (by omega)
        have w3 : IntKind.i64.wrap ((t : Int) + ((b8 y : Nat) : Int)) = ((t + b8 y : Nat) : Int) := by rw [wi64 (by omega) (by omega)]; omega
        simp -zeta only [GL, RL, w2, w3]
        have n1 : n < 2 ^ (t + b8 y) := by
          rw [Nat.pow_add, Nat.mul_comm]
          exact (Nat.div_lt_iff_lt_mul (Nat.pow_pos (by decide))).1 (by rw [hn]; exact b3)
        have n2 : 2 ^ (t + b8 y - 1) ≤ n := by
          have e : t + b8 y - 1 = (b8 y - 1) + t := by omega
          rw [e, Nat.pow_add]
          exact (Nat.le_div_iff_mul_le (Nat.pow_pos (by decide))).1 (by rw [hn]; exact b4)
        refine k _ (by omega) ?_ n1 n2
        have : 2 ^ (t + b8 y - 1) < 2 ^ 24 := Nat.lt_of_le_of_lt n2 h2
        have := (Nat.pow_lt_pow_iff_right (by decide)).1 this
        omega
      clear_value J8
      have d1 : decide ((256 : Int) ≤ (x : Int)) = decide (256 ≤ x) := by rw [decide_eq_decide]; omega
      have e8 : (x : Int).fdiv (2 ^ min (8 : Int).toNat IntKind.u64.bits) = ((x / 256 : Nat) : Int) := by
        have : (2 : Int) ^ min (8 : Int).toNat IntKind.u64.bits = 256 := by decide
        rw [this, Int.fdiv_eq_ediv_of_nonneg _ (by decide)]
        omega
      have w4 : IntKind.i64.wrap ((s : Int) + 8) = ((s + 8 : Nat) : Int) := by rw [wi64 (by omega) (by omega)]; omega
      simp -zeta (disch := decide) only [GL, RL, d1, e8, w4]
      by_cases g : 256 ≤ x
      · rw [if_pos (decide_eq_true g)]
        refine q8 (x / 256) (s + 8) (by omega) (by omega) (by omega) ?_
        rw [Nat.pow_add, ← Nat.div_div_eq_div_mul, hn]
      · rw [if_neg (by simp; omega)]
        exact q8 x s hx (by omega) (by omega) hn
    clear_value J5
    have d1 : decide ((65536 : Int) ≤ (n : Int)) = decide (65536 ≤ n) := by rw [decide_eq_decide]; omega
    have e8 : (n : Int).fdiv (2 ^ min (16 : Int).toNat IntKind.u64.bits) = ((n / 65536 : Nat) : Int) := by
      have : (2 : Int) ^ min (16 : Int).toNat IntKind.u64.bits = 65536 := by decide
      rw [this, Int.fdiv_eq_ediv_of_nonneg _ (by decide)]
      omega
    have w4 : IntKind.i64.wrap ((0 : Int) + 16) = ((16 : Nat) : Int) := by decide
    simp -zeta (disch := decide) only [GL, RL, d1, e8, w4]
    by_cases g : 65536 ≤ n
    · rw [if_pos (decide_eq_true g)]
      exact q5 (n / 65536) 16 (by omega) (by omega) (by omega) rfl
    · rw [if_neg (by simp; omega)]
      exact q5 n 0 h1 (by omega) (by omega) (by simp)
  clear_value J2
  have d1 : decide ((4294967296 : Int) ≤ (n : Int)) = false := decide_eq_false (by omega)
  simp -zeta only [GL, d1, Bool.false_eq_true, if_false]
  exact q2
theorem T_numDigits {n : Nat} (hp : Pow h) (h1 : 1 ≤ n) (h2 : n < 10000000) (k : ∀ L : Nat, 1 ≤ L → L ≤ 7 → n < 10 ^ L → 10 ^ (L - 1) ≤ n → K (.int .i64 (L : Int)) h) : Cn P n_strconv_numDigits #[.int .u64 (n : Int)] h K := by
  refine F_strconv_numDigits ?_
  unfold s_strconv_numDigits
  refine T_Len64 h1 (by omega) fun m m1 m2 m3 m4 => ?_
  refine F_strconv_log10Pow2 ?_
  unfold s_strconv_log10Pow2
  obtain ⟨l1, l2, l3⟩ := log_ok m (by omega) m1
  have w1 : IntKind.i64.wrap ((m : Int) * 78913) = ((m * 78913 : Nat) : Int) := by rw [wi64 (by omega) (by omega)]; omega
  have e8 : ((m * 78913 : Nat) : Int).fdiv (2 ^ min (18 : Int).toNat IntKind.i64.bits) = ((m * 78913 / 262144 : Nat) : Int) := by
    have : (2 : Int) ^ min (18 : Int).toNat IntKind.i64.bits = 262144 := by decide
    rw [this, Int.fdiv_eq_ediv_of_nonneg _ (by decide)]
    omega
  simp -zeta (disch := decide) only [GL, RL, w1, e8]
  generalize m * 78913 / 262144 = l at *
  have hx := hp l (by omega)
  have d1 : decide (((10 ^ l : Nat) : Int) ≤ (n : Int)) = decide (10 ^ l ≤ n) := by rw [decide_eq_decide, Int.ofNat_le]
  simp -zeta (disch := omega) only [GL, RL, Int.toNat_natCast, Nat.zero_add, hx, d1]
  refine F_strconv_bool2_int ?_
  unfold s_strconv_bool2_int
  have fin : ∀ L : Nat, 1 ≤ L → n < 10 ^ L → 10 ^ (L - 1) ≤ n → K (.int .i64 (L : Int)) h := fun L a b c => by
    refine k L a ?_ b c
    have : 10 ^ (L - 1) < 10 ^ 7 := Nat.lt_of_le_of_lt c h2
    have := (Nat.pow_lt_pow_iff_right (by decide)).1 this
    omega
  by_cases g : 10 ^ l ≤ n
  · have w2 : IntKind.i64.wrap ((l : Int) + 1) = ((l + 1 : Nat) : Int) := by rw [wi64 (by omega) (by omega)]; omega
    simp -zeta only [g, decide_true, GL, if_true, w2]
    exact fin _ (by omega) (by omega) (by rw [Nat.add_sub_cancel]; exact g)
  · have hl : 1 ≤ l := by
      rcases Nat.eq_zero_or_pos l with rfl | q
      · exact absurd (by simpa using h1) g
      · exact q
    have w2 : IntKind.i64.wrap ((l : Int) + 0) = ((l : Nat) : Int) := by rw [wi64 (by omega) (by omega)]; omega
    simp -zeta only [g, decide_false, GL, Bool.false_eq_true, if_false, w2]
    exact fin _ hl (by omega) (by omega)
end
end Go.Proofs.YtflfhbnflcfmgaaGreatDoor
set_option linter.unusedSimpArgs false
set_option linter.unusedVariables false
set_option maxRecDepth 100000
set_option maxHeartbeats 1000000
namespace Go.Proofs.YtflfhbnflcfmgaaGreatDoor
open Go Go.SL Go.Pure Go.Tar
theorem set_id {h : Hp} {b : Nat} {o : AObj} (e : h b = some o) : h.set b o = h := by
  funext x
  by_cases q : x = b
  · subst q; rw [Hp.set_same, e]
  · rw [Hp.set_ne _ _ q]
section
variable {h : Hp} {K : Value → Hp → Prop}
theorem T_small {n : Nat} (hn : n < 100) (k : K (.string (strL (asc (dig 10 n)))) h) : Cn P n_strconv_small #[.int .i64 (n : Int)] h K := by
  refine F_strconv_small ?_
  unfold s_strconv_small
  have d1 : decide ((n : Int) < 10) = decide (n < 10) := by rw [decide_eq_decide]; omega
  have w1 : IntKind.i64.wrap ((n : Int) + 1) = ((n + 1 : Nat) : Int) := by rw [wi64 (by omega) (by omega)]; omega
  have w2 : IntKind.i64.wrap ((n : Int) * 2) = ((n * 2 : Nat) : Int) := by rw [wi64 (by omega) (by omega)]; omega
  have w3 : IntKind.i64.wrap (((n * 2 : Nat) : Int) + 2) = ((n * 2 + 2 : Nat) : Int) := by rw [wi64 (by omega) (by omega)]; omega
  simp -zeta only [GL, d1, w1, w2, w3, txd, tx2]
  by_cases g : n < 10
  · rw [if_pos (decide_eq_true g), q_slSt u_string d36 (by omega) (by show n + 1 ≤ 36; omega), small1 n g]
    exact k
  · rw [if_neg (by simpa using g), q_slSt u_string tab2 (by omega) (by rw [tab2_len]; omega), small2 n hn (by omega)]
    exact k
theorem T_fmt10 {n L rb cc t : Nat} {xs : List Value} (hL : L ≤ 7) (hL1 : 1 ≤ L) (hn : n < 10 ^ L) (hr : h rb = some (.row t xs 24 (some (0, 0)))) (hx : xs.length = 24)
    (k : ∀ ys : List Value, Inv10 n L 0 0 ys → K (.tuple #[]) (h.set rb (.row t ys 24 (some (0, 0))))) : Cn P n_strconv_formatBase10 #[.slice (some ⟨rb, 1, none⟩) L cc, .int .u64 (n : Int)] h K := by
  refine Cn_wk (F_strconv_formatBase10 ?_)
  unfold s_strconv_formatBase10
  have h107 : n < 10000000 := Nat.lt_of_lt_of_le hn (Nat.pow_le_pow_right (by decide) hL)
  simp -zeta only [RL]
  refine Lp_mk (fun m vs H => H = h ∧ vs = [.int .u64 (n : Int), .int .i64 (L : Int)]) 0 ⟨rfl, rfl⟩ ?_
  rintro m vs H ⟨rfl, rfl⟩
  have g8 : decide ((8 : Int) ≤ (L : Int)) = false := decide_eq_false (by omega)
  have wn : IntKind.u32.wrap (n : Int) = (n : Int) := wu32i (by omega) (by omega)
  simp -zeta only [GL, RL, List.getD_cons_zero, List.getD_cons_succ, g8, Bool.false_eq_true, if_false, wn]
  have tab : ∀ {K : Value → Prop} (x : Nat), x < 100 → (∀ G : Hp, q P G (Instr.index 9 (.string (strL tab2)) (.int .u32 ((x * 2 : Nat) : Int))) K = K (.int .u8 ((48 + x / 10 : Nat) : Int))) ∧ (∀ G : Hp, q P G (Instr.index 9 (.string (strL tab2)) (.int .u32 ((x * 2 + 1 : Nat) : Int))) K = K (.int .u8 ((48 + x % 10 : Nat) : Int))) := fun {K} x hx => by
    obtain ⟨t1, t2⟩ := tab2_get x hx
    have e : x * 2 = 2 * x := Nat.mul_comm ..
    exact ⟨fun G => by rw [q_idxSt u_string tab2_b (by rw [tab2_len]; omega), e, t1], fun G => by rw [q_idxSt u_string tab2_b (by rw [tab2_len]; omega), e, t2]⟩
  intro J16
  have q16 : ∀ (t4 u : Nat) (cs : List Value), t4 < 4 → u < 10 ^ t4 → Inv10 n L t4 u cs → J16 (.int .i64 (t4 : Int)) (.int .u32 (u : Int)) (H.set rb (.row t cs 24 (some (0, 0)))) := by
    intro t4 u cs h4 hu hi
    have hu3 : u < 1000 := Nat.lt_of_lt_of_le hu (show 10 ^ t4 ≤ 10 ^ 3 from Nat.pow_le_pow_right (by decide) (by omega))
    have h4L := hi.2.2.1
    simp -zeta only [J16]
    clear J16
    intro J23
    have q23 : ∀ (s v : Nat) (cs : List Value), s ≤ 1 → v < 10 ^ s → Inv10 n L s v cs → J23 (.int .i64 (s : Int)) (.int .u32 (v : Int)) (H.set rb (.row t cs 24 (some (0, 0)))) := by
      intro s v cs hs hv hi
      have hv3 : v < 10 := Nat.lt_of_lt_of_le hv (show 10 ^ s ≤ 10 ^ 1 from Nat.pow_le_pow_right (by decide) hs)
      have hsL := hi.2.2.1
      simp -zeta only [J23]
      clear J23
      simp -zeta only [GL, RL, gt0]
      by_cases g : 0 < s
      · obtain rfl : s = 1 := by omega
        have w1 : IntKind.u32.wrap (48 + (v : Int)) = ((48 + v : Nat) : Int) := by rw [wu32i (by omega) (by omega)]; omega
        have w2 : IntKind.u8.wrap ((48 + v : Nat) : Int) = ((48 + v : Nat) : Int) := wu8i (by omega) (by omega)
        have h0L : (0 : Int) < (L : Int) := by omega
        have z0 : (0 : Int).toNat = 0 := rfl
        simp -zeta (disch := first | exact h0L | omega) only [g, decide_true, if_true, GL, RL, w1, w2, z0, Nat.add_zero]
        refine aw_store z_uint8 rfl (put_row (Hp.set_same ..) (by rw [hi.1]; omega) (by omega) _) ?_
        rw [Hp.set_set]
        have st := Inv10.step (t := 0) hi (by omega)
        have e1 : v % 10 = v := Nat.mod_eq_of_lt hv3
        have e2 : v / 10 = 0 := by omega
        rw [e1, e2] at st
        exact ⟨_, .refl _, k _ st⟩
      · obtain rfl : s = 0 := by omega
        have : v = 0 := by simpa using hv
        subst this
        simp -zeta only [Nat.lt_irrefl, decide_false, Bool.false_eq_true, if_false]
        exact ⟨_, .refl _, k _ hi⟩
    clear_value J23
    have g2 : decide ((2 : Int) ≤ (t4 : Int)) = decide (2 ≤ t4) := by rw [decide_eq_decide]; omega
    have hx : u % 100 < 100 := Nat.mod_lt _ (by decide)
    have w0 : IntKind.u32.wrap (((u % 100 : Nat) : Int) * 2) = ((u % 100 * 2 : Nat) : Int) := by rw [wu32i (by omega) (by omega)]; omega
    have w1 : IntKind.u32.wrap ((u / 100 : Nat) : Int) = ((u / 100 : Nat) : Int) := wu32i (by omega) (by omega)
    have w2 : IntKind.u32.wrap (((u % 100 * 2 : Nat) : Int) + 1) = ((u % 100 * 2 + 1 : Nat) : Int) := by rw [wu32i (by omega) (by omega)]; omega
    simp -zeta (disch := decide) only [GL, RL, g2, tm100, td100, w0, w1, w2, tx2, (tab (u % 100) hx).1, (tab (u % 100) hx).2]
    by_cases g : 2 ≤ t4
    · obtain ⟨s, rfl⟩ : ∃ s, t4 = s + 2 := ⟨t4 - 2, by omega⟩
      have w3 : IntKind.i64.wrap (((s + 2 : Nat) : Int) - 1) = ((s + 1 : Nat) : Int) := by rw [wi64 (by omega) (by omega)]; omega
      have w4 : IntKind.i64.wrap (((s + 2 : Nat) : Int) - 2) = ((s : Nat) : Int) := by rw [wi64 (by omega) (by omega)]; omega
      have st := hi.step2 (by omega)
      have hl := hi.1
      simp -zeta (disch := omega) only [g, decide_true, if_true, GL, RL, w3, w4, Int.toNat_natCast]
      refine aw_store z_uint8 rfl (put_row (Hp.set_same ..) (by rw [hl]; omega) (by omega) _) ?_
      rw [Hp.set_set]
      refine aw_store z_uint8 rfl (put_row (Hp.set_same ..) (by rw [List.length_set, hl]; omega) (by omega) _) ?_
      rw [Hp.set_set]
      refine q23 s (u / 100) _ (by omega) ?_ st
      rw [Nat.div_lt_iff_lt_mul (by decide)]
      rw [Nat.pow_succ, Nat.pow_succ] at hu
      omega
    · simp -zeta only [g, decide_false, Bool.false_eq_true, if_false]
      exact q23 t4 u cs (by omega) hu hi
  clear_value J16
  have hi0 : Inv10 n L L n xs := ⟨hx, by simp, Nat.le_refl _, fun i h1 h2 => by omega⟩
  have g4 : decide ((4 : Int) ≤ (L : Int)) = decide (4 ≤ L) := by rw [decide_eq_decide]; omega
  have x1 : n % 10000 / 100 < 100 := by omega
  have x2 : n % 10000 % 100 < 100 := by omega
  have w0 : IntKind.u32.wrap (((n % 10000 / 100 : Nat) : Int) * 2) = ((n % 10000 / 100 * 2 : Nat) : Int) := by rw [wu32i (by omega) (by omega)]; omega
  have w1 : IntKind.u32.wrap (((n % 10000 % 100 : Nat) : Int) * 2) = ((n % 10000 % 100 * 2 : Nat) : Int) := by rw [wu32i (by omega) (by omega)]; omega
  have w2 : IntKind.u32.wrap (((n % 10000 / 100 * 2 : Nat) : Int) + 1) = ((n % 10000 / 100 * 2 + 1 : Nat) : Int) := by rw [wu32i (by omega) (by omega)]; omega
  have w3 : IntKind.u32.wrap (((n % 10000 % 100 * 2 : Nat) : Int) + 1) = ((n % 10000 % 100 * 2 + 1 : Nat) : Int) := by rw [wu32i (by omega) (by omega)]; omega
  have w4 : IntKind.u32.wrap ((n / 10000 : Nat) : Int) = ((n / 10000 : Nat) : Int) := wu32i (by omega) (by omega)
  have w5 : IntKind.u32.wrap ((n % 10000 / 100 : Nat) : Int) = ((n % 10000 / 100 : Nat) : Int) := wu32i (by omega) (by omega)
  simp -zeta (disch := decide) only [GL, RL, g4, tm100, td100, tm10k, td10k, w0, w1, w2, w3, w4, w5, tx2, (tab _ x1).1, (tab _ x1).2, (tab _ x2).1, (tab _ x2).2]
  by_cases g : 4 ≤ L
  · obtain ⟨s, hs⟩ : ∃ s, L = s + 4 := ⟨L - 4, by omega⟩
    have v1 : IntKind.i64.wrap ((L : Int) - 1) = ((s + 3 : Nat) : Int) := by rw [wi64 (by omega) (by omega)]; omega
    have v2 : IntKind.i64.wrap ((L : Int) - 2) = ((s + 2 : Nat) : Int) := by rw [wi64 (by omega) (by omega)]; omega
    have v3 : IntKind.i64.wrap ((L : Int) - 3) = ((s + 1 : Nat) : Int) := by rw [wi64 (by omega) (by omega)]; omega
    have v4 : IntKind.i64.wrap ((L : Int) - 4) = ((s : Nat) : Int) := by rw [wi64 (by omega) (by omega)]; omega
    have hi1 : Inv10 n L (s + 2 + 2) n xs := by have := hi0; rw [hs] at this ⊢; exact this
    have st := hi1.step2 (by omega)
    have st2 := Inv10.step2 (t := s) st (by omega)
    have e1 : n / 100 / 100 = n / 10000 := by omega
    have e2 : n % 100 = n % 10000 % 100 := by omega
    have e3 : n / 100 % 100 = n % 10000 / 100 := by omega
    rw [e1, e2, e3] at st2
    simp -zeta (disch := omega) only [g, decide_true, if_true, GL, RL, v1, v2, v3, v4, Int.toNat_natCast]
    refine aw_store z_uint8 rfl (put_row hr (by rw [hx]; omega) (by omega) _) ?_
    refine aw_store z_uint8 rfl (put_row (Hp.set_same ..) (by rw [List.length_set, hx]; omega) (by omega) _) ?_
    rw [Hp.set_set]
    refine aw_store z_uint8 rfl (put_row (Hp.set_same ..) (by rw [List.length_set, List.length_set, hx]; omega) (by omega) _) ?_
    rw [Hp.set_set]
    refine aw_store z_uint8 rfl (put_row (Hp.set_same ..) (by rw [List.length_set, List.length_set, List.length_set, hx]; omega) (by omega) _) ?_
    rw [Hp.set_set]
    refine q16 s (n / 10000) _ (by omega) ?_ st2
    rw [Nat.div_lt_iff_lt_mul (by decide)]
    rw [hs, Nat.pow_add] at hn
    exact hn
  · simp -zeta only [g, decide_false, Bool.false_eq_true, if_false]
    have := q16 L n xs (by omega) hn hi0
    rwa [show H.set rb (.row t xs 24 (some (0, 0))) = H from set_id hr] at this
theorem zr_24 : zr P t_24_uint8 = some (.agg (List.replicate 24 (Value.int .u8 0)).toArray) := by kernel_rfl
theorem u_24 : P.underlying t_24_uint8 = some (.array 24 t_uint8) := by kernel_rfl
theorem T_Itoa {n : Nat} (hp : Pow h) (hn : n < 10000000) (k : K (.string (strL (asc (dig 10 n)))) h) : Cn P n_strconv_Itoa_66 #[.int .i64 (n : Int)] h K := by
  refine Cn_wk (F_strconv_Itoa_66 ?_)
  unfold s_strconv_Itoa_66
  refine F_strconv_Itoa_85 ?_
  unfold s_strconv_Itoa_85
  refine F_strconv_FormatInt_92 ?_
  unfold s_strconv_FormatInt_92
  have d0 : decide ((0 : Int) ≤ (n : Int)) = true := decide_eq_true (by omega)
  have d1 : decide ((n : Int) < 100) = decide (n < 100) := by rw [decide_eq_decide]; omega
  have d2 : decide ((n : Int) < 0) = false := decide_eq_false (by omega)
  simp -zeta only [GL, show ((10 : Int) == 10) = true from rfl, if_true, d0, d1]
  intro J4
  have q4 : 100 ≤ n → J4 h := by
    intro hn2
    simp -zeta only [J4]
    clear J4
    refine aw_allocL (List.replicate 24 (Value.int .u8 0)) zr_24 rfl fun r hr => ?_
    have l24 : (List.replicate 24 (Value.int .u8 0)).length = 24 := List.length_replicate ..
    rw [l24]
    have le0 := le_fresh (o := AObj.row t_24_uint8 (List.replicate 24 (Value.int .u8 0)) 24 (some (0, 0))) hr
    have xt := ext_set (AObj.row t_24_uint8 (List.replicate 24 (Value.int .u8 0)) 24 (some (0, 0))) hr
    have wn : IntKind.u64.wrap (n : Int) = (n : Int) := wu64i (by omega) (by omega)
    simp -zeta only [GL, RL, wn, d2, Bool.false_eq_true, if_false]
    intro J11
    have q11 : J11 (.int .u64 (n : Int)) (h.set r (.row t_24_uint8 (List.replicate 24 (Value.int .u8 0)) 24 (some (0, 0)))) := by
      simp -zeta only [J11]
      clear J11
      refine T_numDigits (hp.mono xt.cle) (by omega) hn fun L L1 L2 L3 L4 => ?_
      have w1 : IntKind.i64.wrap (1 + (L : Int)) = ((1 + L : Nat) : Int) := by rw [wi64 (by omega) (by omega)]; omega
      have i1 : (1 : Int) = ((1 : Nat) : Int) := rfl
      simp -zeta only [GL, w1]
      rw [i1, q_slArrLH u_24 z_uint8 _ _ _ 1 (1 + L) (by omega) (by omega) (by omega)]
      have e1 : (⟨r, 0, none⟩ : Addr).add (1 * 1) = ⟨r, 1, none⟩ := rfl
      rw [e1, show 1 + L - 1 = L by omega]
      refine T_fmt10 (t := t_24_uint8) L2 L1 L3 (Hp.set_same ..) l24 fun ys iv => ?_
      rw [Hp.set_set]
      rw [q_slArrLH u_24 z_uint8 _ _ _ 1 (1 + L) (by omega) (by omega) (by omega), e1, show 1 + L - 1 = L by omega]
      have ds : dig 10 n = digs L n := by
        obtain ⟨M, rfl⟩ : ∃ M, L = M + 1 := ⟨L - 1, by omega⟩
        exact digs_dig M n L3 (.inr L4)
      have hl : (asc (digs L n)).length = L := by rw [asc_len, digs_len]
      have rn : Rn (h.set r (.row t_24_uint8 ys 24 (some (0, 0)))) .u8 (.slice (some ⟨r, 1, none⟩) L (24 - 1)) (asc (digs L n)) := by
        refine ⟨by rw [nv_len, Nat.mul_one], _, _, by rw [hl], by rw [hl]; omega, .inr ⟨r, 1, rfl, fun i x e => ?_⟩⟩
        rw [cell_row (Hp.set_same ..)]
        have hi : i < L := by
          have := (List.getElem?_eq_some_iff.1 e).1
          rw [nv_len, hl] at this
          exact this
        rw [iv.2.2.2 i (by omega) hi, ← e]
        unfold nv asc
        rw [List.getElem?_map, List.getElem?_map, digs_get L n i hi]
        simp only [Option.map_some]
        congr 3
        omega
      rw [q_str rn, ← ds]
      exact ⟨h, le_fresh hr, k⟩
    exact q11
  clear_value J4
  by_cases g : n < 100
  · simp -zeta only [g, decide_true, if_true]
    refine T_small g ?_
    exact ⟨h, .refl _, k⟩
  · simp -zeta only [g, decide_false, Bool.false_eq_true, if_false]
    exact q4 (by omega)
end
end Go.Proofs.YtflfhbnflcfmgaaGreatDoor
set_option linter.unusedSimpArgs false
set_option linter.unusedVariables false
set_option maxRecDepth 100000
set_option maxHeartbeats 1000000
namespace Go.Proofs.YtflfhbnflcfmgaaGreatDoor
open Go Go.SL Go.Pure Go.Tar
theorem ext2 {h : Hp} {K : Value → Prop} (a b c : Value) : q P h (Instr.extract (.tuple #[a, b, c]) 0) K = K a ∧ q P h (Instr.extract (.tuple #[a, b, c]) 1) K = K b ∧ q P h (Instr.extract (.tuple #[a, b, c]) 2) K = K c := ⟨q_ext #[a, b, c] 0 a rfl, q_ext #[a, b, c] 1 b rfl, q_ext #[a, b, c] 2 c rfl⟩
theorem ext30 {h : Hp} {K : Value → Prop} (a b c : Value) : q P h (Instr.extract (.tuple #[a, b, c]) 0) K = K a := (ext2 a b c).1
theorem ext31 {h : Hp} {K : Value → Prop} (a b c : Value) : q P h (Instr.extract (.tuple #[a, b, c]) 1) K = K b := (ext2 a b c).2.1
theorem ext32 {h : Hp} {K : Value → Prop} (a b c : Value) : q P h (Instr.extract (.tuple #[a, b, c]) 2) K = K c := (ext2 a b c).2.2
theorem take_tw (p : Nat → Bool) (l : List Nat) : l.take (l.takeWhile p).length = l.takeWhile p := by
  conv => lhs; rw [← List.takeWhile_append_dropWhile (p := p) (l := l)]
  exact List.take_left' (by rw [List.takeWhile_append_dropWhile])
theorem drop_tw (p : Nat → Bool) (l : List Nat) : l.drop (l.takeWhile p).length = l.dropWhile p := by
  conv => lhs; rw [← List.takeWhile_append_dropWhile (p := p) (l := l)]
  exact List.drop_left' (by rw [List.takeWhile_append_dropWhile])
theorem tw_mem {c : Nat} : ∀ {l : List Nat}, c ∉ l → l.takeWhile (· != c) = l ∧ l.dropWhile (· != c) = []
  | [], _ => ⟨rfl, rfl⟩
  | x :: l, h => by
    have hx : (x != c) = true := bne_iff_ne.2 fun q => h (by simp [q])
    obtain ⟨a, b⟩ := tw_mem (c := c) (l := l) fun q => h (by simp [q])
    rw [List.takeWhile_cons, List.dropWhile_cons, hx]
    simp only [if_true]
    exact ⟨by rw [a], b⟩
theorem tw_lt {c : Nat} {l : List Nat} (h : c ∈ l) : (l.takeWhile (· != c)).length < l.length := by
  rcases Nat.lt_or_ge (l.takeWhile (· != c)).length l.length with q | q
  · exact q
  · have e : l.dropWhile (· != c) = [] := by
      have := drop_tw (· != c) l
      rw [List.drop_of_length_le q] at this
      exact this.symm
    have := dropW_nil e c h
    simp at this
theorem dig_len : ∀ L n, n < 10 ^ (L + 1) → (dig 10 n).length ≤ L + 1
  | 0, n, h => by rw [dig_one (by simpa using h)]; simp
  | L + 1, n, h => by
    rcases Nat.lt_or_ge n 10 with q | q
    · rw [dig_one q]; simp
    · rw [dig_step (by decide) q, List.length_append]
      have := dig_len L (n / 10) (by rw [Nat.div_lt_iff_lt_mul (by decide), ← Nat.pow_succ]; exact h)
      simp only [List.length_singleton]
      omega
section
variable {h : Hp} {K : Value → Hp → Prop}
theorem T_Cut {l : List Nat} (hb : Bytes l) (hl : l.length ≤ 4611686018427387904) {c : Nat} (hc : c < 256) (k : K (.tuple #[.string (strL (l.takeWhile (· != c))), .string (strL ((l.dropWhile (· != c)).drop 1)), .bool (decide (c ∈ l))]) h) :
    Cn P n_strings_Cut #[.string (strL l), .string (strL [c])] h K := by
  refine F_strings_Cut ?_
  unfold s_strings_Cut
  refine F_stringslite_Cut ?_
  unfold s_stringslite_Cut
  have bc : Bytes [c] := fun x hx => by rw [List.mem_singleton.1 hx]; exact hc
  have key : ∀ G : Value → Hp → Prop, G (.int .i64 (idxB c l)) h → Cn P n_stringslite_Index #[.string (strL l), .string (strL [c])] h G := by
    intro G g
    refine F_stringslite_Index ?_
    unfold s_stringslite_Index
    rw [q_lenSt u_string]
    intro J3
    clear_value J3
    intro J4
    have q4 : ∀ b : Bool, (b = true → G (.int .i64 0) h) → J4 (.bool b) h := by
      intro b hbb
      simp -zeta only [J4]
      clear J4
      cases b with
      | true => simp -zeta only [GL, if_true]; exact hbb rfl
      | false =>
        have e1 : (((([c] : List Nat).length : Nat) : Int) == 1) = true := rfl
        have i0 : (0 : Int) = ((0 : Nat) : Int) := rfl
        simp -zeta only [GL, Bool.false_eq_true, if_false, e1, if_true]
        rw [i0, q_idxSt u_string bc (by simp)]
        exact T_sIdx hb hc g
    clear_value J4
    have e0 : (((([c] : List Nat).length : Nat) : Int) == 0) = false := rfl
    simp -zeta only [GL, e0, if_true, Bool.false_eq_true, if_false]
    rw [q_eqlSt _ _ bc hb]
    refine q4 _ fun q => ?_
    have q := of_decide_eq_true q
    have e : idxB c l = 0 := by rw [← q]; simp [idxB]
    rw [e] at g
    exact g
  refine key _ ?_
  by_cases hm : c ∈ l
  · have e : idxB c l = ((l.takeWhile (· != c)).length : Nat) := if_pos hm
    have lt := tw_lt hm
    have dg : decide ((0 : Int) ≤ (((l.takeWhile (· != c)).length : Nat) : Int)) = true := decide_eq_true (by omega)
    have w1 : IntKind.i64.wrap ((((l.takeWhile (· != c)).length : Nat) : Int) + ((([c] : List Nat).length : Nat) : Int)) = (((l.takeWhile (· != c)).length + 1 : Nat) : Int) := by
      simp only [List.length_singleton]; rw [wi64 (by omega) (by omega)]; omega
    rw [e]
    simp -zeta only [GL, dg, if_true]
    rw [q_slStH u_string _ (by omega), q_lenSt u_string]
    simp -zeta only [GL, w1]
    rw [q_slStL u_string _ (by omega), take_tw, ← List.drop_drop, drop_tw]
    simp -zeta only [ext30, ext31, ext32]
    rw [decide_eq_true hm] at k
    exact k
  · have e : idxB c l = -1 := if_neg hm
    obtain ⟨t1, t2⟩ := tw_mem hm
    rw [t1, t2, decide_eq_false hm] at k
    rw [e]
    simp -zeta only [GL, show decide ((0 : Int) ≤ -1) = false from rfl, Bool.false_eq_true, if_false, ext30, ext31, ext32]
    exact k
theorem T_Atoi {ds : List Nat} (hd : ∀ x ∈ ds, x < 10) (h0 : ds ≠ []) (hl : ds.length ≤ 10) (k : K (.tuple #[.int .i64 ((valD 10 ds : Nat) : Int), .nilIface]) h) : Cn P n_strconv_Atoi_65 #[.string (strL (asc ds))] h K := by
  refine Cn_wk (F_strconv_Atoi_65 ?_)
  unfold s_strconv_Atoi_65
  refine F_strconv_Atoi_84 ?_
  unfold s_strconv_Atoi_84
  have hb : Bytes (asc ds) := asc_bytes hd
  have hp : 0 < ds.length := List.length_pos_iff.2 h0
  have i0 : (0 : Int) = ((0 : Nat) : Int) := rfl
  have h9 := hd _ (getD_memB hp)
  have ix0 : ∀ {G : Hp} {K : Value → Prop}, q P G (Instr.index 9 (.string (strL (asc ds))) (.int .i64 0)) K = K (.int .u8 ((ds.getD 0 0 + 48 : Nat) : Int)) := fun {G K} => by
    rw [i0, q_idxSt u_string hb (by rw [asc_len]; exact hp), asc_getD hp]
  have e43 : (((ds.getD 0 0 + 48 : Nat) : Int) == 43) = false := by rw [beq_eq_false_iff_ne]; omega
  have e45 : (((ds.getD 0 0 + 48 : Nat) : Int) == 45) = false := by rw [beq_eq_false_iff_ne]; omega
  rw [q_lenSt u_string, asc_len]
  intro J4
  have q4 : J4 (.bool true) h := by
    simp -zeta only [J4]
    clear J4
    simp -zeta only [GL, if_true]
    intro J6
    have q6 : J6 (.string (strL (asc ds))) h := by
      simp -zeta only [J6]
      clear J6
      refine aw_stB u_string u_Sl_uint8 u_uint8 hb fun w h1 nw => ?_
      have le1 := nw.ext.le
      have r : Rn h1 .u8 w (asc ds) := nw.rds
      obtain ⟨a, c, rfl, hc⟩ := r.shape
      rw [asc_len] at *
      simp -zeta only [RL]
      refine Lp_mk (fun m vs H => ∃ i : Nat, i + m = ds.length ∧ H = h1 ∧ vs = [.int .i64 0, .nilIface, .int .i64 ((valD 10 (ds.take i) : Nat) : Int), .int .i64 (i : Int)]) ds.length ⟨0, by omega, rfl, rfl⟩ ?_
      rintro m vs H ⟨i, hi, rfl, rfl⟩
      simp -zeta only [GL, List.getD_cons_zero, List.getD_cons_succ, lt_dec]
      by_cases hlt : i < ds.length
      · simp -zeta only [hlt, decide_true, if_true]
        obtain ⟨b, o, rfl, hy⟩ := r.pos (by rw [asc_len]; omega)
        have hx := hy i (by rw [asc_len]; exact hlt)
        rw [asc_getD hlt] at hx
        have h10 := hd _ (getD_memB hlt)
        have hv : valD 10 (ds.take i) < 10 ^ 10 := Nat.lt_of_lt_of_le (valD_lt (by decide) _ fun x hx => hd x (List.mem_of_mem_take hx)) (Nat.pow_le_pow_right (by decide) (by rw [List.length_take]; omega))
        have h11 : 10 ^ 10 = 10000000000 := by decide
        generalize hdd : ds.getD i 0 = d at *
        generalize hnn : valD 10 (ds.take i) = n at *
        have w1 : IntKind.u8.wrap (((d + 48 : Nat) : Int) - 48) = (d : Int) := by rw [wu8i (by omega) (by omega)]; omega
        have w4 : IntKind.i64.wrap ((n : Int) * 10) = ((n * 10 : Nat) : Int) := by rw [wi64 (by omega) (by omega)]; omega
        have w5 : IntKind.i64.wrap (d : Int) = (d : Int) := wi64 (by omega) (by omega)
        have w6 : IntKind.i64.wrap (((n * 10 : Nat) : Int) + (d : Int)) = ((n * 10 + d : Nat) : Int) := by rw [wi64 (by omega) (by omega)]; omega
        have w7 : IntKind.i64.wrap ((i : Int) + 1) = ((i + 1 : Nat) : Int) := by rw [wi64 (by omega) (by omega)]; omega
        have g1 : decide ((9 : Int) < (d : Int)) = false := decide_eq_false (by omega)
        simp -zeta (disch := omega) only [GL, RL, hx, Int.toNat_natCast, w1, w4, w5, w6, w7, g1, Bool.false_eq_true, if_false]
        refine ⟨_, .refl _, m - 1, by omega, i + 1, by omega, rfl, ?_⟩
        rw [val_take 10 hlt, hnn, hdd]
      · simp -zeta only [hlt, decide_false, Bool.false_eq_true, if_false]
        rw [List.take_of_length_le (by omega)]
        simp -zeta only [ix0, GL, e45, Bool.false_eq_true, if_false, ext0, ext1, q_neqNilE]
        exact ⟨h, le1, k⟩
    clear_value J6
    intro J7
    have q7 : J7 (.bool false) h := by
      simp -zeta only [J7]
      clear J7
      simp -zeta only [GL, Bool.false_eq_true, if_false]
      exact q6
    clear_value J7
    simp -zeta only [ix0, GL, e45, e43, if_true]
    exact q7
  clear_value J4
  have g0 : decide ((0 : Int) < ((ds.length : Nat) : Int)) = true := decide_eq_true (by omega)
  have g19 : decide (((ds.length : Nat) : Int) < 19) = true := decide_eq_true (by omega)
  simp -zeta only [GL, g0, g19, if_true]
  exact q4
end
end Go.Proofs.YtflfhbnflcfmgaaGreatDoor
set_option linter.unusedSimpArgs false
set_option linter.unusedVariables false
set_option maxRecDepth 100000
set_option maxHeartbeats 1000000
namespace Go.Proofs.YtflfhbnflcfmgaaGreatDoor
open Go Go.SL Go.Pure Go.Tar
def recBodyOf (s : List Nat) (n : Nat) : List Nat := (s.take (n - 1)).drop ((s.takeWhile (· != 32)).length + 1)
theorem recOne_some {s : List Nat} {n : Nat} {name value : List Nat} (e : recOne s = some (n, name, value)) :
    s.takeWhile (· != 32) = asc (dig 10 n) ∧ n ≤ s.length ∧ (s.takeWhile (· != 32)).length + 2 ≤ n ∧ s.getD (n - 1) 0 = 10 ∧ 61 ∈ recBodyOf s n ∧ name = (recBodyOf s n).takeWhile (· != 61) ∧ value = ((recBodyOf s n).dropWhile (· != 61)).drop 1 := by
  unfold recOne at e
  dsimp only at e
  split at e
  · rename_i g
    simp only [Option.some.injEq, Prod.mk.injEq] at e
    obtain ⟨rfl, rfl, rfl⟩ := e
    obtain ⟨g1, g2, g3, g4, g5⟩ := g
    exact ⟨g1, g2, g3, g4, g5, rfl, rfl⟩
  · cases e
section
variable {R h : Hp} {K : Value → Hp → Prop} {rr : Nat} {So : List Nat} {bv lv : Value} {ps : List (Ent × Value)} {r : Rd}
theorem T_records (a : RdA R h rr So bv lv ps r) (hP : Pow R) {w : Value} {b : List Nat} (rw' : Rn R .u8 w b) (bb : Bytes b) (lb : b.length ≤ 1048576) {p l : List Nat} {f : Nat} (e : recsP f b r.path r.link = some (p, l))
    (k : ∀ h', Stp R h R h' (rr :: So) (rr :: So) → RdA R h' rr So bv lv ps { r with path := p, link := l } → K (.bool true) h') : Cn P n_tar_reader_records #[.pointer (some ⟨rr, 0, none⟩), w] h K := by
  refine Cn_wk (F_tar_reader_records ?_)
  unfold s_tar_reader_records
  rw [q_str (a.own.rn rw')]
  refine Lp_mk (fun m vs H => ∃ (s path link : List Nat) (t4 : Value), recsP m s path link = some (p, l) ∧ Bytes s ∧ s.length ≤ 1048576 ∧ vs = [t4, .string (strL s)] ∧ Stp R h R H (rr :: So) (rr :: So) ∧ RdA R H rr So bv lv ps { r with path := path, link := link }) f
    ⟨b, r.path, r.link, _, e, bb, lb, rfl, .refl a.own, a⟩ ?_
  rintro m vs H ⟨s, path, link, t4, e, bs, ls, rfl, st, a⟩
  have en : Bytes ([] : List Nat) := by intro x hx; cases hx
  simp -zeta only [GL, List.getD_cons_zero, List.getD_cons_succ]
  rw [empS, q_neqSt _ _ bs en]
  by_cases z : s = []
  · subst z
    simp -zeta only [ne_eq, not_true_eq_false, decide_false, GL, Bool.false_eq_true, if_false]
    have : path = p ∧ link = l := by
      cases m with
      | zero => rw [recsP, if_pos rfl] at e; simpa using e
      | succ m => rw [recsP, if_pos rfl] at e; simpa using e
    obtain ⟨rfl, rfl⟩ := this
    exact ⟨H, .refl _, k H st a⟩
  · cases m with
    | zero => rw [recsP, if_neg z] at e; cases e
    | succ m =>
      rw [recsP, if_neg z] at e
      cases e1 : recOne s with
      | none => rw [e1] at e; cases e
      | some t =>
        obtain ⟨n, name, value⟩ := t
        rw [e1] at e
        dsimp only at e
        obtain ⟨g1, g2, g3, g4, g5, g6, g7⟩ := recOne_some e1
        simp -zeta only [z, ne_eq, not_false_eq_true, decide_true, GL, if_true]
        have s32 : (⟨#[32]⟩ : ByteArray) = strL [32] := rfl
        have s61 : (⟨#[61]⟩ : ByteArray) = strL [61] := rfl
        have sp : (⟨#[112, 97, 116, 104]⟩ : ByteArray) = strL pathS := rfl
        have sk : (⟨#[108, 105, 110, 107, 112, 97, 116, 104]⟩ : ByteArray) = strL linkS := rfl
        rw [s32]
        refine T_Cut (c := 32) bs (by omega) (by decide) ?_
        simp -zeta only [ext30, ext31, ext32]
        have hn7 : n < 10000000 := by omega
        have ld := dig_len 6 n hn7
        have dn : dig 10 n ≠ [] := by
          intro q
          have := g3
          rw [g1, q] at this
          have h0 := digF_pos 10 n n
          unfold dig at q
          rw [q] at h0
          simp at h0
        have hlen : (s.takeWhile (· != 32)).length = (dig 10 n).length := by rw [g1, asc_len]
        have bdg : Bytes (s.takeWhile (· != 32)) := fun x hx => bs x ((List.takeWhile_sublist _).mem hx)
        have bbody : Bytes (recBodyOf s n) := (bs.take _).drop _
        have lbody : (recBodyOf s n).length ≤ 1048576 := by unfold recBodyOf; rw [List.length_drop, List.length_take]; omega
        have bname : Bytes name := by rw [g6]; exact fun x hx => bbody x ((List.takeWhile_sublist _).mem hx)
        have bvalue : Bytes value := by rw [g7]; exact fun x hx => bbody x ((List.dropWhile_sublist _).mem (List.mem_of_mem_drop hx))
        have lvalue : value.length ≤ 1048576 := by
          rw [g7, List.length_drop]
          have := (List.dropWhile_sublist (· != 61) (l := recBodyOf s n)).length_le
          omega
        rw [g1] at bdg ⊢
        refine T_Atoi (dig_lt (by decide) n) dn (by omega) ?_
        rw [dig_val (by decide)]
        rw [ext0, ext1]
        intro J9
        have q9 : J9 t4 H := by
          simp -zeta only [J9]
          clear J9
          have hal := asc_len (dig 10 n)
          have w1 : IntKind.i64.wrap ((((asc (dig 10 n)).length : Nat) : Int) + 1) = (((asc (dig 10 n)).length + 1 : Nat) : Int) := by rw [wi64 (by omega) (by omega)]; omega
          have w2 : IntKind.i64.wrap ((n : Int) - 1) = ((n - 1 : Nat) : Int) := by rw [wi64 (by omega) (by omega)]; omega
          rw [q_lenSt u_string]
          simp -zeta only [GL, w1, w2]
          rw [g1] at g3
          rw [q_slSt u_string s (by omega) (by omega)]
          have eb : (s.take (n - 1)).drop ((asc (dig 10 n)).length + 1) = recBodyOf s n := by rw [recBodyOf, g1]
          rw [eb, s61]
          refine T_Cut (c := 61) bbody (by omega) (by decide) ?_
          rw [← g6, ← g7]
          have bs' : Bytes (s.drop n) := bs.drop n
          have ls' : (s.drop n).length ≤ 1048576 := by rw [List.length_drop]; omega
          simp -zeta only [ext30, ext31, ext32, decide_eq_true g5, GL, Bool.not_true, Bool.false_eq_true, if_false, sp, sk]
          have bp : Bytes pathS := by unfold Bytes pathS; decide
          have bk : Bytes linkS := by unfold Bytes linkS; decide
          have npl : pathS ≠ linkS := by decide
          rw [q_eqlSt _ _ bname bp]
          by_cases c1 : name = pathS
          · have c2 : ¬ name = linkS := fun q => npl (c1.symm.trans q)
            rw [if_pos c1, if_neg c2] at e
            simp -zeta only [c1, decide_true, GL, if_true, rf1]
            refine aw_store z_string rfl (put_row a.row (by simp [rdC]) (by omega) _) ?_
            obtain ⟨a1, st1⟩ := a.put (bv' := bv) (r' := { r with path := value, link := link }) a.rb a.bb a.lb bvalue a.bl lvalue a.ll rfl
            have eh : (rdC { r with path := path, link := link } bv lv).set 1 (.string (strL value)) = rdC { r with path := value, link := link } bv lv := rfl
            rw [eh, q_slStL u_string s g2]
            exact ⟨_, .refl _, m, by omega, _, _, _, t4, e, bs', ls', rfl, st.trans st1, a1⟩
          · rw [if_neg c1] at e
            simp -zeta only [c1, decide_false, GL, Bool.false_eq_true, if_false]
            rw [q_eqlSt _ _ bname bk]
            by_cases c2 : name = linkS
            · rw [if_pos c2] at e
              simp -zeta only [c2, decide_true, GL, if_true, rf2]
              refine aw_store z_string rfl (put_row a.row (by simp [rdC]) (by omega) _) ?_
              obtain ⟨a1, st1⟩ := a.put (bv' := bv) (r' := { r with path := path, link := value }) a.rb a.bb a.lb a.bp bvalue a.lp lvalue rfl
              have eh : (rdC { r with path := path, link := link } bv lv).set 2 (.string (strL value)) = rdC { r with path := path, link := value } bv lv := rfl
              rw [eh, q_slStL u_string s g2]
              exact ⟨_, .refl _, m, by omega, _, _, _, t4, e, bs', ls', rfl, st.trans st1, a1⟩
            · rw [if_neg c2] at e
              simp -zeta only [c2, decide_false, GL, Bool.false_eq_true, if_false]
              rw [q_slStL u_string s g2]
              exact ⟨_, .refl _, m, by omega, _, _, _, t4, e, bs', ls', rfl, st, a⟩
        clear_value J9
        simp -zeta only [q_neqNilE, GL, if_true]
        refine T_Itoa (hP.mono a.own.sub.cle) hn7 ?_
        rw [q_neqSt _ _ bdg bdg]
        simp -zeta only [ne_eq, not_true_eq_false, decide_false, GL, if_true]
        have d1 : decide (((s.length : Nat) : Int) < (n : Int)) = false := decide_eq_false (by omega)
        rw [q_lenSt u_string]
        simp -zeta only [GL, d1, if_true]
        rw [q_lenSt u_string, asc_len]
        have w3 : IntKind.i64.wrap ((((dig 10 n).length : Nat) : Int) + 2) = (((dig 10 n).length + 2 : Nat) : Int) := by rw [wi64 (by omega) (by omega)]; omega
        have d2 : decide ((n : Int) < (((dig 10 n).length + 2 : Nat) : Int)) = false := decide_eq_false (by omega)
        have w2 : IntKind.i64.wrap ((n : Int) - 1) = ((n - 1 : Nat) : Int) := by rw [wi64 (by omega) (by omega)]; omega
        simp -zeta only [GL, w3, d2, w2, if_true]
        rw [q_idxSt u_string bs (by omega), g4]
        simp -zeta only [GL, show ((((10 : Nat) : Int)) != 10) = false from rfl, Bool.false_eq_true, if_false]
        exact q9
end
end Go.Proofs.YtflfhbnflcfmgaaGreatDoor
set_option linter.unusedSimpArgs false
set_option linter.unusedVariables false
set_option maxRecDepth 100000
set_option maxHeartbeats 1000000
namespace Go.Proofs.YtflfhbnflcfmgaaGreatDoor
open Go Go.SL Go.Pure Go.Tar
theorem bldEn {h : Hp} {K : Value → Prop} (n l : ByteArray) (m : Int) (a : Option Addr) (i c : Nat) : q P h (Instr.build t_api_Entry #[(0, .string n), (2, .int .i64 m), (3, .string l), (4, .slice a i c)]) K = K (.agg #[.string n, .int .i64 0, .int .i64 m, .string l, .slice a i c]) := q_of (by kernel_rfl) K
theorem zr_En : zr P t_api_Entry = some (.agg #[.string ⟨#[]⟩, .int .i64 0, .int .i64 0, .string ⟨#[]⟩, .slice none 0 0]) := by kernel_rfl
theorem nfo_En : (P.info? t_api_Entry).map (fun i => (i.zero, i.size, i.bytes)) = some (some (.agg #[.string ⟨#[]⟩, .int .i64 0, .int .i64 0, .string ⟨#[]⟩, .slice none 0 0]), 5, 72) := by kernel_rfl
theorem pk_of {h : Hp} {m : Sem Value} {v : Value} (e : ∀ K : Value → Prop, q P h m K = K v) : peek P h m = some v := by
  obtain ⟨x, hx, e2⟩ := withVal_elim (K := fun x => x = v) (show q P h m (fun x => x = v) by rw [e])
  rw [hx, e2]
section
variable {R h : Hp} {K : Value → Hp → Prop} {rr : Nat} {So : List Nat} {bv lv : Value} {ps : List (Ent × Value)} {r : Rd}
/-- A row of one entry. -/
theorem aw_litE (n l : ByteArray) (kk m : Int) (a : Option Addr) (i c : Nat) (k : ∀ v h', New h t_api_Entry 5 v h' [.string n, .int .i64 kk, .int .i64 m, .string l, .slice a i c] 1 → K v h') :
    aw P (Instr.buildSlice t_Sl_api_Entry 1 #[(0, .agg #[.string n, .int .i64 kk, .int .i64 m, .string l, .slice a i c])]) K h := by
  refine aw_of ?_
  show awp P (Sem.bind (underlying t_Sl_api_Entry) _) _ h
  rw [awp_bind, peek_awp P _ _ _ (pk_und u_Sl_api_Entry)]
  show awp P (Sem.bind (sizeOf t_api_Entry) _) _ h
  rw [awp_bind, peek_awp P _ _ _ (pk_size z_api_Entry)]
  show awp P (if 1 * 5 > 2 ^ 24 then _ else _) _ h
  rw [if_neg (by omega)]
  show awp P (if 1 * 5 = 0 then _ else _) _ h
  rw [if_neg (by omega)]
  show awp P (Sem.bind (zeroValue t_api_Entry) _) _ h
  rw [awp_bind, peek_awp P _ _ _ (pk_zero zr_En)]
  have hf : Instr.fill (fun i => some (i * 5, 5)) ((Array.range (1 * 5)).map (fun x => (#[.string ⟨#[]⟩, .int .i64 0, .int .i64 0, .string ⟨#[]⟩, .slice none 0 0] : Array Value)[x % 5]!)) [(0, .agg #[.string n, .int .i64 kk, .int .i64 m, .string l, .slice a i c])] = some #[.string n, .int .i64 kk, .int .i64 m, .string l, .slice a i c] := by kernel_rfl
  show awp P (match Instr.fill (fun i => some (i * 5, 5)) ((Array.range (1 * 5)).map (fun x => (#[.string ⟨#[]⟩, .int .i64 0, .int .i64 0, .string ⟨#[]⟩, .slice none 0 0] : Array Value)[x % 5]!)) [(0, .agg #[.string n, .int .i64 kk, .int .i64 m, .string l, .slice a i c])] with
      | some cells => Sem.bind (newRow t_api_Entry cells) fun a => Sem.pure (.slice (some a) 1 1)
      | _ => stuck "buildSlice: a part of the wrong size") K h
  rw [hf]
  show awp P (Sem.bind (newRow t_api_Entry #[.string n, .int .i64 kk, .int .i64 m, .string l, .slice a i c]) _) K h
  rw [awp_bind]
  intro b hb
  refine k _ _ ⟨rfl, .inr ⟨b, 1, (0, 0), hb, Nat.le_refl _, rfl, rfl, fun i _ => by simp⟩⟩
theorem entC_flat {e : Ent} {dv : Value} {R : Hp} (x : EntR R e dv) : ∀ y ∈ entC e dv, flat y = true := by
  have := rn_flat x.rd
  intro y hy
  simp only [entC, List.mem_cons, List.not_mem_nil, or_false] at hy
  rcases hy with rfl | rfl | rfl | rfl | rfl <;> first | rfl | exact this
/-- An entry more. -/
theorem RdA.push (a : RdA R h rr So bv lv ps r) {lv' h' : _} {So' : List Nat} {e : Ent} {dv : Value} (o' : OutAt t_api_Entry 5 h' lv' (cellsP ps ++ entC e dv) (ps.length + 1) So')
    (kp : ∀ x o, x ∉ So → h x = some o → h' x = some o) (fr : ∀ x o, x ∉ So → h x = some o → x ∉ So') (x : EntR R e dv) :
    h' rr = some (.row t_tar_reader (rdC r bv lv) 5 (some (0, 0))) ∧ RdA R (h'.set rr (.row t_tar_reader (rdC { r with list := r.list ++ [e] } bv lv') 5 (some (0, 0)))) rr So' bv lv' (ps ++ [(e, dv)]) { r with list := r.list ++ [e] } ∧
      Stp R h R (h'.set rr (.row t_tar_reader (rdC { r with list := r.list ++ [e] } bv lv') 5 (some (0, 0)))) (rr :: So) (rr :: So') := by
  have oS : Own R h [rr] := a.own.sub' (by simp)
  have oT : Own R h So := a.own.sub' (by intro y hy; simp [hy])
  obtain ⟨b1, b2, b3, b4, b5⟩ := OutAt.beside oS oT (by intro b hb; rw [List.mem_singleton.1 hb]; exact a.nin) o' kp fr
  have nin : rr ∉ So' := b3 rr (by simp)
  have row : h' rr = some (.row t_tar_reader (rdC r bv lv) 5 (some (0, 0))) := by rw [b4 rr (by simp)]; exact a.row
  have st := Stp.within (h' := h'.set rr (.row t_tar_reader (rdC { r with list := r.list ++ [e] } bv lv') 5 (some (0, 0)))) b5.own (fun b hb => Hp.set_ne _ _ (by rintro rfl; exact hb (by simp))) (fun b hb => by
    by_cases q : b = rr
    · subst q; exact ⟨_, Hp.set_same ..⟩
    · rw [Hp.set_ne _ _ q]; exact b5.own.kn b hb)
  refine ⟨row, ⟨st.own, nin, Hp.set_same .., a.rb, a.bb, a.lb, a.bp, a.bl, a.lp, a.ll, ?_, ?_, ?_⟩, b5.trans st⟩
  · rw [cellsP_app, cellsP_one, List.length_append]
    exact o'.keep fun b hb => Hp.set_ne _ _ (by rintro rfl; exact nin hb)
  · intro p hp
    rcases List.mem_append.1 hp with q | q
    · exact a.ents p q
    · rw [List.mem_singleton.1 q]; exact x
  · show r.list ++ [e] = _
    rw [a.lst]; simp
/-- The rest of an entry's reading. -/
theorem T_entry12 (a : RdA R h rr So bv lv ps r) {re : Nat} {e : Ent} {dv t4 : Value} (hre : h re = some (.row t_api_Entry (entC e dv) 5 (some (0, 0)))) (nre : re ∉ rr :: So) (x : EntR R e dv) (ok : okEnt e) (hl : r.list.length < 256)
    (k : ∀ h' So' lv', Stp R h R h' (rr :: So) (rr :: So') → RdA R h' rr So' bv lv' (ps ++ [(e, dv)]) { r with path := [], link := [], told := false, list := r.list ++ [e] } → K (.bool true) h') :
    s_tar_reader_entry_12 K h (.pointer (some ⟨rr, 0, none⟩)) t4 (.pointer (some ⟨re, 0, none⟩)) := by
  unfold s_tar_reader_entry_12
  have en : Bytes ([] : List Nat) := by intro x hx; cases hx
  have nrr : re ≠ rr := fun q => nre (by simp [q])
  have i0 : (⟨#[]⟩ : ByteArray) = strL [] := rfl
  simp -zeta only [GL, rf1, rf2, rf3]
  refine aw_store z_string rfl (put_row a.row (by simp [rdC]) (by omega) _) ?_
  refine aw_store z_string rfl (put_row (Hp.set_same ..) (by simp [rdC]) (by omega) _) ?_
  refine aw_store z_bool rfl (put_row (Hp.set_same ..) (by simp [rdC]) (by omega) _) ?_
  rw [Hp.set_set, Hp.set_set]
  obtain ⟨a1, st1⟩ := a.put (bv' := bv) (r' := { r with path := [], link := [], told := false }) a.rb a.bb a.lb en en (by simp) (by simp) rfl
  have eh : (((rdC r bv lv).set 1 (.string ⟨#[]⟩)).set 2 (.string ⟨#[]⟩)).set 3 (.bool false) = rdC { r with path := [], link := [], told := false } bv lv := rfl
  rw [eh]
  have hre1 : (h.set rr (.row t_tar_reader (rdC { r with path := [], link := [], told := false } bv lv) 5 (some (0, 0)))) re = some (.row t_api_Entry (entC e dv) 5 (some (0, 0))) := by rw [Hp.set_ne _ _ nrr]; exact hre
  generalize h.set rr (.row t_tar_reader (rdC { r with path := [], link := [], told := false } bv lv) 5 (some (0, 0))) = h1 at *
  unfold s_tar_reader_entry_13
  obtain ⟨_, _, _, _, c4⟩ := a1.cells
  have hz5 : sz P t_api_Entry = some (entC e dv).length := z_api_Entry
  simp -zeta only [GL, rf4, RL, c4]
  rw [q_ldRow u_api_Entry rfl hz5 hre1]
  obtain ⟨ad, cd, rfl, _⟩ := x.rd.shape
  refine aw_litE _ _ _ _ _ _ _ fun v2 h2 n2 => ?_
  have a2 := a1.grow n2.ext (Stp.ext0 a1.own n2.ext)
  have hre2 := n2.ext _ _ hre1
  obtain ⟨_, _, _, _, d4⟩ := a2.cells
  refine ⟨?_, ?_, ?_⟩
  · simp only [Nat.zero_add] at d4
    exact pk_of fun K => by simp only [RL, d4, GL]
  · exact pk_of fun K => by simp only [rf4, Nat.zero_add]
  have fl := entC_flat x
  have hn256 : ps.length < 256 := by
    have := a1.lst
    have e2 : r.list.length = ps.length := by
      have := congrArg List.length a.lst
      simpa using this
    omega
  refine aw_appendO u_Sl_api_Entry u_Sl_api_Entry nfo_En rfl (by decide) a2.out n2.rds fl (by omega) fun lv' h3 So' o3 kp fr => ?_
  obtain ⟨row3, a4, st4⟩ := a2.push (e := e) o3 kp fr x
  have hre3 : h3 re = some (.row t_api_Entry (entC e (.slice ad e.data.length cd)) 5 (some (0, 0))) := kp _ _ (fun q => nre (by simp [q])) hre2
  have flv : flat lv' = true := o3.flat
  refine aw_store z_Sl_api_Entry flv (put_row row3 (by simp [rdC]) (by omega) _) ?_
  have eh4 : (rdC { r with path := [], link := [], told := false } bv lv).set 4 lv' = rdC { r with path := [], link := [], told := false, list := r.list ++ [e] } bv lv' := rfl
  rw [eh4]
  have hre4 : (h3.set rr (.row t_tar_reader (rdC { r with path := [], link := [], told := false, list := r.list ++ [e] } bv lv') 5 (some (0, 0)))) re = some (.row t_api_Entry (entC e (.slice ad e.data.length cd)) 5 (some (0, 0))) := by rw [Hp.set_ne _ _ nrr]; exact hre3
  have stF := (st1.trans (Stp.ext0 a1.own n2.ext)).trans st4
  obtain ⟨sn, sh⟩ : ∃ sn sc, lv' = .slice sn (ps.length + 1) sc := by
    obtain ⟨_, a', c', e', _⟩ := o3.rds
    exact ⟨a', c', e'⟩
  obtain ⟨sc, rfl⟩ := sh
  have kf := k _ So' _ stF a4
  obtain ⟨_, _, _, _, f4⟩ := a4.cells
  generalize h3.set rr (.row t_tar_reader (rdC { r with path := [], link := [], told := false, list := r.list ++ [e] } bv (.slice sn (ps.length + 1) sc)) 5 (some (0, 0))) = h4 at *
  unfold s_tar_reader_entry_14
  rw [q_ldRow u_api_Entry rfl hz5 hre4]
  refine T_tarmay (x.mono stF.own.sub.cle) ?_
  rw [decide_eq_true ok]
  have dl : decide (((ps.length + 1 : Nat) : Int) ≤ 256) = true := decide_eq_true (by omega)
  simp -zeta only [GL, if_true, rf4, RL, f4, dl]
  unfold s_tar_reader_entry_15
  exact kf
end
end Go.Proofs.YtflfhbnflcfmgaaGreatDoor
set_option linter.unusedSimpArgs false
set_option linter.unusedVariables false
set_option maxRecDepth 100000
set_option maxHeartbeats 1000000
namespace Go.Proofs.YtflfhbnflcfmgaaGreatDoor
open Go Go.SL Go.Pure Go.Tar
theorem entryP_some {r r' : Rd} {b : List Nat} (e : entryP r b = some r') : ∃ name link mode size data rest, namesP b = some (name, link) ∧ numP (sub b 100 8) = some mode ∧ numP (sub b 124 12) = some size ∧ numP (sub b 148 8) = some (sumP b) ∧ sub b 257 8 = ustar ∧
    takeP r.b size = some (data, rest) ∧ ((b.getD 156 0 = 120 ∧ r.told = false ∧ ∃ p l, recsP data.length data r.path r.link = some (p, l) ∧ r' = { b := rest, path := p, link := l, told := true, list := r.list }) ∨
      (b.getD 156 0 ≠ 120 ∧ ∃ k, kindOfT (b.getD 156 0) = some k ∧ okEnt { name := if r.path = [] then name else r.path, kind := k, mode := mode, link := if r.link = [] then link else r.link, data := data } ∧ r.list.length < 256 ∧
        r' = { b := rest, path := [], link := [], told := false, list := r.list ++ [{ name := if r.path = [] then name else r.path, kind := k, mode := mode, link := if r.link = [] then link else r.link, data := data }] })) := by
  unfold entryP at e
  split at e
  · rename_i name link mode size check h1 h2 h3 h4
    split at e
    · cases e
    rename_i g
    rw [not_or, Decidable.not_not, Decidable.not_not] at g
    obtain ⟨rfl, g2⟩ := g
    split at e
    · cases e
    rename_i data rest ht
    refine ⟨name, link, mode, size, data, rest, h1, h2, h3, h4, g2, ht, ?_⟩
    split at e
    · rename_i c
      split at e
      · cases e
      rename_i tl
      split at e
      · cases e
      rename_i p l hr
      injection e with e
      exact .inl ⟨c, by simpa using tl, p, l, hr, e.symm⟩
    · rename_i c
      split at e
      · cases e
      rename_i k hk
      dsimp only at e
      refine .inr ⟨c, k, hk, ?_⟩
      generalize ({ name := if r.path = [] then name else r.path, kind := k, mode := (mode : Int), link := if r.link = [] then link else r.link, data := data } : Ent) = E at e ⊢
      split at e
      · rename_i ok
        injection e with e
        exact ⟨ok.1, ok.2, e.symm⟩
      · cases e
  · cases e
theorem numP_lt {b : List Nat} {n : Nat} (e : numP b = some n) : n < 8589934592 := by
  unfold numP at e
  split at e
  · cases e
  rename_i g
  rw [not_or, not_or] at g
  obtain ⟨g1, g2, g3⟩ := g
  injection e with e
  rw [← e]
  have all8 : ∀ x ∈ trimR isB b, is8 x = true := List.all_eq_true.1 (by simpa using g3)
  have := valD_lt (b := 8) (by decide) ((trimR isB b).map (· - 48)) (fun x hx => by
    obtain ⟨y, hy, rfl⟩ := List.mem_map.1 hx
    have := all8 y hy
    simp [is8] at this
    omega)
  have h2 : 8 ^ ((trimR isB b).map (· - 48)).length ≤ 8 ^ 11 := Nat.pow_le_pow_right (by decide) (by rw [List.length_map]; omega)
  omega
section
variable {R h : Hp} {K : Value → Hp → Prop} {rr : Nat} {So : List Nat} {bv lv : Value} {ps : List (Ent × Value)} {r : Rd}
theorem T_entry11 (a : RdA R h rr So bv lv ps r) {re : Nat} {e : Ent} {dv t4 : Value} (hre : h re = none) (x : EntR R e dv) (ok : okEnt { e with link := if r.link = [] then e.link else r.link }) (hl : r.list.length < 256)
    (k : ∀ h' So' lv', Stp R h R h' (rr :: So) (rr :: So') → RdA R h' rr So' bv lv' (ps ++ [({ e with link := if r.link = [] then e.link else r.link }, dv)]) { r with path := [], link := [], told := false, list := r.list ++ [{ e with link := if r.link = [] then e.link else r.link }] } → K (.bool true) h') :
    s_tar_reader_entry_11 K (h.set re (.row t_api_Entry (entC e dv) 5 (some (0, 0)))) (.pointer (some ⟨rr, 0, none⟩)) t4 (.pointer (some ⟨re, 0, none⟩)) := by
  unfold s_tar_reader_entry_11
  have en : Bytes ([] : List Nat) := by intro x hx; cases hx
  have nre : re ∉ rr :: So := fun q => by obtain ⟨o, e⟩ := a.own.kn re q; rw [hre] at e; cases e
  have up : ∀ o, RdA R (h.set re o) rr So bv lv ps r ∧ Stp R h R (h.set re o) (rr :: So) (rr :: So) := fun o => ⟨a.grow (ext_set _ hre) (Stp.ext0 a.own (ext_set _ hre)), Stp.ext0 a.own (ext_set _ hre)⟩
  obtain ⟨a1, st1⟩ := up (.row t_api_Entry (entC e dv) 5 (some (0, 0)))
  obtain ⟨_, _, c2, _, _⟩ := a1.cells
  have bl := a.bl
  simp only [Nat.zero_add] at c2
  simp -zeta only [GL, rf2, RL, c2]
  rw [empS, q_neqSt _ _ bl en]
  by_cases z : r.link = []
  · simp only [z, if_true] at k ok ⊢
    simp -zeta only [GL, ne_eq, not_true_eq_false, decide_false, Bool.false_eq_true, if_false]
    exact T_entry12 a1 (Hp.set_same ..) nre x ok hl fun h' So' lv' st b => k h' So' lv' (st1.trans st) (by simpa only [z] using b)
  · simp only [z, if_false] at k ok ⊢
    simp -zeta only [GL, ne_eq, not_false_eq_true, decide_true, if_true, z, c2, RL, rf2, ef3]
    refine aw_store z_string rfl (put_row (Hp.set_same ..) (by simp [entC]) (by omega) _) ?_
    rw [Hp.set_set]
    have eh : (entC e dv).set 3 (.string (strL r.link)) = entC { e with link := r.link } dv := rfl
    rw [eh]
    obtain ⟨a2, st2⟩ := up (.row t_api_Entry (entC { e with link := r.link } dv) 5 (some (0, 0)))
    exact T_entry12 a2 (Hp.set_same ..) nre ⟨x.rd, x.bn, a.bl, x.bd, x.ln, by have := a.ll; show r.link.length ≤ _; omega, x.ld⟩ ok hl fun h' So' lv' st b => k h' So' lv' (st2.trans st) b
theorem T_entry10 (a : RdA R h rr So bv lv ps r) {re : Nat} {e : Ent} {dv t4 : Value} (hre : h re = none) (x : EntR R e dv) (ok : okEnt { e with name := if r.path = [] then e.name else r.path, link := if r.link = [] then e.link else r.link }) (hl : r.list.length < 256)
    (k : ∀ h' So' lv', Stp R h R h' (rr :: So) (rr :: So') → RdA R h' rr So' bv lv' (ps ++ [({ e with name := if r.path = [] then e.name else r.path, link := if r.link = [] then e.link else r.link }, dv)]) { r with path := [], link := [], told := false, list := r.list ++ [{ e with name := if r.path = [] then e.name else r.path, link := if r.link = [] then e.link else r.link }] } → K (.bool true) h') :
    s_tar_reader_entry_10 K (h.set re (.row t_api_Entry (entC e dv) 5 (some (0, 0)))) (.pointer (some ⟨rr, 0, none⟩)) t4 (.pointer (some ⟨re, 0, none⟩)) := by
  unfold s_tar_reader_entry_10
  have en : Bytes ([] : List Nat) := by intro x hx; cases hx
  obtain ⟨_, c1, _, _, _⟩ := (a.grow (h' := h.set re (.row t_api_Entry (entC e dv) 5 (some (0, 0)))) (ext_set _ hre) (Stp.ext0 a.own (ext_set _ hre))).cells
  have bp := a.bp
  simp only [Nat.zero_add] at c1
  simp -zeta only [GL, rf1, RL, c1]
  rw [empS, q_neqSt _ _ bp en]
  by_cases z : r.path = []
  · simp only [z, if_true] at k ok ⊢
    simp -zeta only [GL, ne_eq, not_true_eq_false, decide_false, Bool.false_eq_true, if_false]
    exact T_entry11 a hre x ok hl fun h' So' lv' st b => k h' So' lv' st b
  · simp only [z, if_false] at k ok ⊢
    simp -zeta only [GL, ne_eq, not_false_eq_true, decide_true, if_true, z, c1, RL, rf1, ef0]
    refine aw_store z_string rfl (put_row (Hp.set_same ..) (by simp [entC]) (by omega) _) ?_
    rw [Hp.set_set]
    have eh : (entC e dv).set 0 (.string (strL r.path)) = entC { e with name := r.path } dv := rfl
    rw [eh]
    exact T_entry11 a (e := { e with name := r.path }) hre ⟨x.rd, a.bp, x.bl, x.bd, by have := a.lp; show r.path.length ≤ _; omega, x.ll, x.ld⟩ ok hl fun h' So' lv' st b => k h' So' lv' st b
end
end Go.Proofs.YtflfhbnflcfmgaaGreatDoor
set_option linter.unusedSimpArgs false
set_option linter.unusedVariables false
set_option maxRecDepth 100000
set_option maxHeartbeats 1000000
namespace Go.Proofs.YtflfhbnflcfmgaaGreatDoor
open Go Go.SL Go.Pure Go.Tar
theorem eqNat (t n : Nat) : (((t : Nat) : Int) == ((n : Nat) : Int)) = decide (t = n) := by
  rw [Bool.eq_iff_iff, beq_iff_eq, decide_eq_true_eq]; omega
section
variable {R h : Hp} {K : Value → Hp → Prop} {rr : Nat} {So : List Nat} {bv lv : Value} {ps : List (Ent × Value)} {r : Rd}
theorem T_entry9 (a : RdA R h rr So bv lv ps r) (hP : Pow R) {v : Value} {b : List Nat} (rv : Rn R .u8 v b) (bb : Bytes b) (hl : b.length = 512) {re : Nat} (hre : h re = none) {name link data : List Nat} {mode : Nat} {dv t4 : Value}
    (x : EntR R { name := name, kind := 0, mode := mode, link := link, data := data } dv) (ldat : data.length ≤ 1048576) {r' : Rd}
    (e : (b.getD 156 0 = 120 ∧ r.told = false ∧ ∃ p l, recsP data.length data r.path r.link = some (p, l) ∧ r' = { b := r.b, path := p, link := l, told := true, list := r.list }) ∨
      (b.getD 156 0 ≠ 120 ∧ ∃ k, kindOfT (b.getD 156 0) = some k ∧ okEnt { name := if r.path = [] then name else r.path, kind := k, mode := mode, link := if r.link = [] then link else r.link, data := data } ∧ r.list.length < 256 ∧
        r' = { b := r.b, path := [], link := [], told := false, list := r.list ++ [{ name := if r.path = [] then name else r.path, kind := k, mode := mode, link := if r.link = [] then link else r.link, data := data }] }))
    (k : ∀ h' So' lv' ps', Stp R h R h' (rr :: So) (rr :: So') → RdA R h' rr So' bv lv' ps' r' → K (.bool true) h') :
    s_tar_reader_entry_9 K (h.set re (.row t_api_Entry (entC { name := name, kind := 0, mode := mode, link := link, data := data } dv) 5 (some (0, 0)))) (.pointer (some ⟨rr, 0, none⟩)) v t4 dv (.pointer (some ⟨re, 0, none⟩)) := by
  unfold s_tar_reader_entry_9
  have st0 := Stp.ext0 a.own (ext_set (.row t_api_Entry (entC { name := name, kind := 0, mode := mode, link := link, data := data } dv) 5 (some (0, 0))) hre)
  have a0 := a.grow (ext_set _ hre) st0
  have rvH := a0.own.rn rv
  obtain ⟨av, cv, rfl, hcv⟩ := rvH.shape
  obtain ⟨bb', o, rfl, hy⟩ := rvH.pos (by omega)
  have h156 := hy 156 (by omega)
  have b156 := bb.getD 156
  obtain ⟨_, _, _, c3, _⟩ := a0.cells
  simp only [Nat.zero_add] at c3
  have hlb : (156 : Int) < ((b.length : Nat) : Int) := by omega
  have i156 : (156 : Int).toNat = 156 := rfl
  simp -zeta (disch := first | exact hlb | decide) only [GL, RL, i156, h156, eqNat]
  generalize b.getD 156 0 = t at *
  have e120 : (((t : Nat) : Int) == 120) = decide (t = 120) := eqNat t 120
  have e48 : (((t : Nat) : Int) == 48) = decide (t = 48) := eqNat t 48
  have e0 : (((t : Nat) : Int) == 0) = decide (t = 0) := eqNat t 0
  have e53 : (((t : Nat) : Int) == 53) = decide (t = 53) := eqNat t 53
  have e50 : (((t : Nat) : Int) == 50) = decide (t = 50) := eqNat t 50
  simp -zeta only [e120, e48, e0, e53, e50]
  rcases e with ⟨c, tl, p, l, hr, rfl⟩ | ⟨c, kk, hk, ok, hl2, rfl⟩
  · simp -zeta only [c, decide_true, if_true, rf3, RL, c3, GL, tl, Bool.not_false]
    refine aw_store z_bool rfl (put_row a0.row (by simp [rdC]) (by omega) _) ?_
    obtain ⟨a1, st1⟩ := a0.put (bv' := bv) (r' := { r with told := true }) a.rb a.bb a.lb a.bp a.bl a.lp a.ll rfl
    have eh : (rdC r bv lv).set 3 (.bool true) = rdC { r with told := true } bv lv := rfl
    rw [eh]
    refine T_records a1 hP x.rd x.bd ldat hr fun h' st2 a2 => ?_
    exact k _ _ _ _ ((st0.trans st1).trans st2) a2
  · simp -zeta only [c, decide_false, Bool.false_eq_true, if_false]
    have go : ∀ k1 : Int, k1 = kk → s_tar_reader_entry_10 K (h.set re (.row t_api_Entry ((entC { name := name, kind := 0, mode := mode, link := link, data := data } dv).set 1 (.int .i64 k1)) 5 (some (0, 0)))) (.pointer (some ⟨rr, 0, none⟩)) t4 (.pointer (some ⟨re, 0, none⟩)) := by
      rintro k1 rfl
      exact T_entry10 a (e := { name := name, kind := k1, mode := mode, link := link, data := data }) hre ⟨x.rd, x.bn, x.bl, x.bd, x.ln, x.ll, x.ld⟩ ok hl2 fun h' So' lv' st b => k h' So' lv' _ st b
    have sto : ∀ k1 : Int, k1 = kk → aw P (Instr.storeAt t_int (.pointer (some ⟨re, 1, none⟩)) (.int .i64 k1)) (fun _ h => s_tar_reader_entry_10 K h (.pointer (some ⟨rr, 0, none⟩)) t4 (.pointer (some ⟨re, 0, none⟩))) (h.set re (.row t_api_Entry (entC { name := name, kind := 0, mode := mode, link := link, data := data } dv) 5 (some (0, 0)))) := by
      intro k1 q
      refine aw_store z_int rfl (put_row (Hp.set_same ..) (by simp [entC]) (by omega) _) ?_
      rw [Hp.set_set]
      exact go k1 q
    unfold kindOfT at hk
    intro J16
    have q16 : ∀ q : Bool, q = decide (t = 48 ∨ t = 0) → J16 (.bool q) (h.set re (.row t_api_Entry (entC { name := name, kind := 0, mode := mode, link := link, data := data } dv) 5 (some (0, 0)))) := by
      rintro q rfl
      simp -zeta only [J16]
      clear J16
      by_cases g : t = 48 ∨ t = 0
      · rw [if_pos g] at hk
        injection hk with hk
        simp -zeta only [g, decide_true, GL, if_true, ef1]
        exact sto 1 hk
      · rw [if_neg g] at hk
        simp -zeta only [g, decide_false, GL, Bool.false_eq_true, if_false]
        by_cases g2 : t = 53
        · rw [if_pos g2] at hk
          injection hk with hk
          simp -zeta only [g2, decide_true, GL, if_true, ef1]
          exact sto 2 hk
        · rw [if_neg g2] at hk
          simp -zeta only [g2, decide_false, GL, Bool.false_eq_true, if_false]
          by_cases g3 : t = 50
          · rw [if_pos g3] at hk
            injection hk with hk
            simp -zeta only [g3, decide_true, GL, if_true, ef1]
            exact sto 3 hk
          · rw [if_neg g3] at hk
            cases hk
    clear_value J16
    by_cases g : t = 48
    · simp -zeta only [g, decide_true, GL, if_true]
      exact q16 true (by simp [g])
    · simp -zeta only [g, decide_false, GL, Bool.false_eq_true, if_false]
      exact q16 _ (by rw [decide_eq_decide]; simp [g])
theorem T_entry (a : RdA R h rr So bv lv ps r) (hP : Pow R) {v : Value} {b : List Nat} (rv : Rn R .u8 v b) (bb : Bytes b) (hl : b.length = 512) {r' : Rd} (e : entryP r b = some r')
    (k : ∀ R' h' So' bv' lv' ps', Stp R h R' h' (rr :: So) (rr :: So') → RdA R' h' rr So' bv' lv' ps' r' → K (.bool true) h') : Cn P n_tar_reader_entry #[.pointer (some ⟨rr, 0, none⟩), v] h K := by
  refine F_tar_reader_entry ?_
  unfold s_tar_reader_entry s_tar_reader_entry_1
  obtain ⟨name, link, mode, size, data, rest, e1, e2, e3, e4, e5, e6, e7⟩ := entryP_some e
  have rvH := a.own.rn rv
  have sb : ∀ i n, Bytes (sub b i n) := fun i n => (bb.drop i).take n
  have sl : ∀ i n, (sub b i n).length ≤ n := fun i n => by rw [sub, List.length_take]; omega
  refine T_names rvH bb hl e1 ?_
  rw [ext30, ext31, ext32]
  unfold s_tar_reader_entry_2
  refine q_slRnLH u_Sl_uint8 z_uint8 rvH _ _ 100 108 (by omega) (by omega) fun w1 r1 => ?_
  rw [sub_td] at r1
  refine T_number r1 (sb _ _) (by have := sl 100 (108 - 100); omega) e2 ?_
  rw [ext0, ext1]
  unfold s_tar_reader_entry_3
  refine q_slRnLH u_Sl_uint8 z_uint8 rvH _ _ 124 136 (by omega) (by omega) fun w2 r2 => ?_
  rw [sub_td] at r2
  refine T_number r2 (sb _ _) (by have := sl 124 (136 - 124); omega) e3 ?_
  rw [ext0, ext1]
  unfold s_tar_reader_entry_4
  refine q_slRnLH u_Sl_uint8 z_uint8 rvH _ _ 148 156 (by omega) (by omega) fun w3 r3 => ?_
  rw [sub_td] at r3
  refine T_number r3 (sb _ _) (by have := sl 148 (156 - 148); omega) e4 ?_
  rw [ext0, ext1]
  unfold s_tar_reader_entry_5
  simp -zeta only [GL, Bool.not_true, if_true]
  refine T_sum rvH bb hl ?_
  simp -zeta only [GL, bne_self_eq_false, if_true]
  refine q_slRnLH u_Sl_uint8 z_uint8 rvH _ _ 257 265 (by omega) (by omega) fun w4 r4 => ?_
  rw [sub_td] at r4
  have bu : Bytes ustar := by unfold Bytes ustar; decide
  have su : (⟨#[117, 115, 116, 97, 114, 0, 48, 48]⟩ : ByteArray) = strL ustar := rfl
  rw [q_str r4, su, q_neqSt _ _ (sb _ _) bu, show sub b 257 (265 - 257) = ustar from e5]
  simp -zeta only [ne_eq, not_true_eq_false, decide_false, GL, Bool.false_eq_true, if_false]
  unfold s_tar_reader_entry_6
  have nlt := numP_lt e3
  refine T_take a (n := size) (by omega) (fun q => by rw [e6] at q; cases q) fun out rest' q R' h1 bv' w st1 a1 rw1 => ?_
  rw [e6] at q
  simp only [Option.some.injEq, Prod.mk.injEq] at q
  obtain ⟨rfl, rfl⟩ := q
  rw [ext0, ext1]
  unfold s_tar_reader_entry_7
  simp -zeta only [GL, Bool.not_true, Bool.false_eq_true, if_false]
  unfold s_tar_reader_entry_8
  obtain ⟨ad, cd, rfl, _⟩ := rw1.shape
  rw [bldEn]
  have ld : data.length ≤ 1048576 ∧ Bytes data := by
    unfold takeP at e6
    split at e6
    · cases e6
    · simp only [Option.some.injEq, Prod.mk.injEq] at e6
      rw [← e6.1]
      have := a.lb
      exact ⟨by rw [List.length_take]; omega, a.bb.take _⟩
  have ln : name.length ≤ 256 ∧ Bytes name ∧ link.length ≤ 100 ∧ Bytes link := by
    unfold namesP at e1
    split at e1
    · cases e1
    · simp only [Option.some.injEq, Prod.mk.injEq] at e1
      obtain ⟨rfl, rfl⟩ := e1
      have fb : ∀ i n, Bytes (fieldP (sub b i n)) := fun i n x hx => sb i n x (trimR_mem hx)
      have fl : ∀ i n, (fieldP (sub b i n)).length ≤ n := fun i n => Nat.le_trans (trimR_le _ _) (sl i n)
      have b47 : Bytes [47] := by intro x hx; rw [List.mem_singleton.1 hx]; decide
      refine ⟨?_, ?_, fl _ _, fb _ _⟩
      · have := fl 0 100
        have := fl 345 155
        split <;> simp <;> omega
      · split
        · exact fb _ _
        · exact ((fb _ _).append b47).append (fb _ _)
  refine aw_allocL [.string ⟨#[]⟩, .int .i64 0, .int .i64 0, .string ⟨#[]⟩, .slice none 0 0] zr_En rfl fun re hre => ?_
  have hz5 : sz P t_api_Entry = some (entC { name := name, kind := 0, mode := mode, link := link, data := data } (.slice ad data.length cd)).length := z_api_Entry
  have x : EntR R' { name := name, kind := 0, mode := mode, link := link, data := data } (.slice ad data.length cd) := ⟨rw1, ln.2.1, ln.2.2.2, ld.2, by show name.length ≤ _; omega, by show link.length ≤ _; omega, by show data.length ≤ _; omega⟩
  refine aw_storeRow (ys := entC { name := name, kind := 0, mode := mode, link := link, data := data } (.slice ad data.length cd)) hz5 (Hp.set_same ..) rfl (entC_flat x) (fun i _ => by simp) ?_
  rw [Hp.set_set]
  exact T_entry9 a1 (hP.mono st1.ext.cle) (rv.mono st1.ext.cle) bb hl hre x ld.1 e7 fun h' So' lv' ps' st b => k R' h' So' _ lv' ps' (st1.trans st) b
end
end Go.Proofs.YtflfhbnflcfmgaaGreatDoor
set_option linter.unusedSimpArgs false
set_option linter.unusedVariables false
set_option maxRecDepth 100000
set_option maxHeartbeats 1000000
namespace Go.Proofs.YtflfhbnflcfmgaaGreatDoor
open Go Go.SL Go.Pure Go.Tar
/-- What a reading comes to; none: an entry isn't right, and nothing is told. -/
def readE : Nat → Rd → Option (Option (List Ent))
  | 0, _ => none
  | f + 1, r => match takeP r.b 512 with
    | none => some none
    | some (h, b) =>
      if zerosP h = true then (if r.told = true ∨ zerosP b = false then some none else some (some r.list))
      else match entryP { r with b := b } h with
        | none => none
        | some r' => readE f r'
theorem readE_of : ∀ {f r l}, readF f r = some l → readE f r = some (some l)
  | 0, r, l, e => by cases e
  | f + 1, r, l, e => by
    rw [readF] at e
    rw [readE]
    split at e
    · cases e
    · rename_i h b ht
      rw [ht]
      dsimp only
      split at e
      · rename_i z
        rw [if_pos z]
        split at e
        · cases e
        · rename_i g
          rw [if_neg g]
          injection e with e
          rw [e]
      · rename_i z
        rw [if_neg z]
        split at e
        · cases e
        · rename_i r' he
          rw [he]
          exact readE_of e
/-- A row of entries that is told. -/
def LiR (R : Hp) (lv : Value) (l : List Ent) : Prop := ∃ ps : List (Ent × Value), l = ps.map Prod.fst ∧ Rds R 5 lv (cellsP ps) ps.length ∧ ∀ p ∈ ps, EntR R p.1 p.2
theorem LiR.mono {R R' : Hp} {lv : Value} {l : List Ent} (a : LiR R lv l) (x : Hp.cle R R') : LiR R' lv l := by
  obtain ⟨ps, e, r, d⟩ := a
  exact ⟨ps, e, r.mono x, fun p hp => (d p hp).mono x⟩
theorem bldRd {h : Hp} {K : Value → Prop} (a : Option Addr) (i c : Nat) : q P h (Instr.build t_tar_reader #[(0, .slice a i c)]) K = K (.agg #[.slice a i c, .string ⟨#[]⟩, .string ⟨#[]⟩, .bool false, .slice none 0 0]) := q_of (by kernel_rfl) K
section
variable {R h : Hp} {K : Value → Hp → Prop}
theorem T_Read (w : Own R h []) (hP : Pow R) {v : Value} {b : List Nat} (rv : Rn R .u8 v b) (bb : Bytes b) (lb : b.length ≤ 1048576) {f : Nat} {o : Option (List Ent)} (e : readE f { b := b, path := [], link := [], told := false, list := [] } = some o)
    (kN : o = none → ∀ R' h', Stp R h R' h' [] [] → K (.tuple #[.slice none 0 0, .int .i64 8]) h')
    (kS : ∀ l, o = some l → ∀ R' h' lv, Stp R h R' h' [] [] → LiR R' lv l → K (.tuple #[lv, .int .i64 0]) h') : Cn P n_tar_Read #[v] h K := by
  refine Cn_wk (F_tar_Read ?_)
  unfold s_tar_Read
  have rvh := w.rn rv
  obtain ⟨av, cv, rfl, hcv⟩ := rvh.shape
  have d1 : decide ((1048576 : Int) < ((b.length : Nat) : Int)) = false := decide_eq_false (by omega)
  simp -zeta only [GL, RL, d1, Bool.false_eq_true, if_false]
  rw [bldRd]
  refine aw_box fun rr hrr => ?_
  have en : Bytes ([] : List Nat) := by intro x hx; cases hx
  have ec : (Value.agg #[.slice av b.length cv, .string ⟨#[]⟩, .string ⟨#[]⟩, .bool false, .slice none 0 0]).cells.toList = rdC { b := b, path := [], link := [], told := false, list := [] } (.slice av b.length cv) (.slice none 0 0) := rfl
  have es : (Value.agg #[.slice av b.length cv, .string ⟨#[]⟩, .string ⟨#[]⟩, .bool false, .slice none 0 0]).cells.size = 5 := rfl
  rw [ec, es]
  have xt := ext_set (AObj.row t_tar_reader (rdC { b := b, path := [], link := [], told := false, list := [] } (.slice av b.length cv) (.slice none 0 0)) 5 (some (0, 0))) hrr
  have ow : Own R (h.set rr (.row t_tar_reader (rdC { b := b, path := [], link := [], told := false, list := [] } (.slice av b.length cv) (.slice none 0 0)) 5 (some (0, 0)))) [rr] :=
    ⟨w.sub.trans xt, fun y hy => by rw [List.mem_singleton.1 hy]; exact w.sub.none hrr, fun y hy => by rw [List.mem_singleton.1 hy]; exact ⟨_, Hp.set_same ..⟩⟩
  have st0 : Stp R h R (h.set rr (.row t_tar_reader (rdC { b := b, path := [], link := [], told := false, list := [] } (.slice av b.length cv) (.slice none 0 0)) 5 (some (0, 0)))) [] [rr] :=
    (Stp.ext0 w xt).gain ow fun y hy => by rw [List.mem_singleton.1 hy]; exact hrr
  have a0 : RdA R (h.set rr (.row t_tar_reader (rdC { b := b, path := [], link := [], told := false, list := [] } (.slice av b.length cv) (.slice none 0 0)) 5 (some (0, 0)))) rr [] (.slice av b.length cv) (.slice none 0 0) [] { b := b, path := [], link := [], told := false, list := [] } :=
    ⟨ow, by simp, Hp.set_same .., rv, bb, lb, en, en, by simp, by simp, .inl ⟨rfl, rfl, rfl, rfl⟩, (by intro p hp; cases hp), rfl⟩
  refine Lp_mk (fun m vs H => ∃ R' So bv lv ps r, Stp R h R' H [] (rr :: So) ∧ RdA R' H rr So bv lv ps r ∧ readE m r = some o ∧ vs = [.slice none 0 0, .int .i64 0]) f ⟨R, [], _, _, [], _, st0, a0, e, rfl⟩ ?_
  rintro m vs H ⟨R1, So, bv, lv, ps, r, st, a, e, rfl⟩
  cases m with
  | zero => cases e
  | succ m =>
    rw [readE] at e
    refine T_take a (n := 512) (by decide) (fun q => ?_) fun hd rest q R2 H2 bv2 w2 st2 a2 r2 => ?_
    · rw [q] at e
      injection e with e
      simp -zeta only [ext0, ext1, GL, Bool.not_false, if_true]
      exact ⟨H, .refl _, kN e.symm R1 H (st.drop (by simp))⟩
    · rw [q] at e
      dsimp only at e
      have e512 : (512 + 511) / 512 * 512 = 512 := by decide
      have hl : hd.length = 512 ∧ Bytes hd := by
        unfold takeP at q
        split at q
        · cases q
        · rename_i g
          rw [not_or, not_or] at g
          simp only [Option.some.injEq, Prod.mk.injEq] at q
          rw [← q.1]
          exact ⟨by rw [List.length_take]; omega, a.bb.take _⟩
      simp -zeta only [ext0, ext1, GL, Bool.not_true, Bool.false_eq_true, if_false]
      have z0 : (⟨#[0]⟩ : ByteArray) = strL [0] := rfl
      rw [z0]
      have r2h := a2.own.rn r2
      refine T_bTrim r2h hl.2 (by omega) fun w3 l3 r3 e3 h3 => ?_
      obtain ⟨a3, c3, rfl, _⟩ := r3.shape
      have d0 : (((l3.length : Nat) : Int) == 0) = decide (l3 = []) := by
        rw [Bool.eq_iff_iff, beq_iff_eq, decide_eq_true_eq, ← List.length_eq_zero_iff]; omega
      simp -zeta only [RL, GL, d0]
      obtain ⟨f0, _, _, f3, f4⟩ := a2.cells
      by_cases z : zerosP hd = true
      · rw [if_pos z] at e
        rw [if_pos (decide_eq_true (e3.2 z))]
        intro J11
        have q11 : r.told = false → zerosP rest = true → J11 H2 := by
          intro t1 t2
          simp -zeta only [J11]
          clear J11
          rw [if_neg (by simp [t1, t2])] at e
          injection e with e
          simp -zeta only [GL, RL, rf4]
          simp only [Nat.zero_add] at f4
          rw [f4, withVal_some]
          refine ⟨H2, .refl _, ?_⟩
          have stA := st.trans st2
          rcases a2.out with ⟨rfl, e1, e2, rfl⟩ | ⟨bk, cc, ff, hb, rfl, h1, h2, rfl, h4⟩
          · refine kS _ e.symm R2 H2 _ (stA.drop (by simp)) ⟨[], ?_, ⟨by simp [cellsP], none, 0, rfl, Nat.le_refl _, .inl rfl⟩, by intro p hp; cases hp⟩
            have hl := a2.lst
            have : ps = [] := List.eq_nil_of_length_eq_zero e1
            rw [this] at hl
            exact hl
          · refine kS _ e.symm (R2.set bk (.row t_api_Entry (cellsP ps) (cc * 5) (some ff))) H2 _ (stA.fix (b := bk) (by simp) hb (by intro x hx; cases hx)) ?_
            have nb : R2 bk = none := a2.own.dis bk (by simp)
            have xx := ext_set (AObj.row t_api_Entry (cellsP ps) (cc * 5) (some ff)) nb
            refine ⟨ps, a2.lst, ⟨h4, _, cc, rfl, h1, .inr ⟨bk, 0, rfl, fun i x ex => by rw [cell_row (Hp.set_same ..), Nat.zero_add]; exact ex⟩⟩, fun p hp => (a2.ents p hp).mono xx.cle⟩
        clear_value J11
        simp only [Nat.zero_add] at f3
        simp -zeta only [rf3, RL, GL, f3]
        have fin : o = none → ∃ h0, Hp.le h0 H2 ∧ K (.tuple #[.slice none 0 0, .int .i64 8]) h0 := fun q => ⟨H2, .refl _, kN q R2 H2 ((st.trans st2).drop (by simp))⟩
        cases ht : r.told with
        | true =>
          rw [if_pos (.inl ht)] at e
          injection e with e
          simp -zeta only [Bool.true_eq_false, if_false, if_true]
          exact fin e.symm
        | false =>
          simp -zeta only [if_true, rf0, RL, GL, f0]
          have rb2 := a2.own.rn a2.rb
          have lb2 := a2.lb
          refine T_bTrim rb2 a2.bb (by omega) fun w4 l4 r4 e4 h4 => ?_
          obtain ⟨a4, c4, rfl, _⟩ := r4.shape
          simp -zeta only [RL, GL, gt0]
          cases zr : zerosP rest with
          | true =>
            have := e4.2 zr
            subst this
            simp -zeta only [List.length_nil, Nat.lt_irrefl, decide_false, Bool.false_eq_true, if_false]
            exact q11 ht zr
          | false =>
            rw [if_pos (.inr zr)] at e
            injection e with e
            have hp : 0 < l4.length := List.length_pos_iff.2 fun q => by
              have := e4.1 q
              have e5 : zerosP rest = true := this
              rw [zr] at e5
              cases e5
            simp -zeta only [hp, decide_true, if_true]
            exact fin e.symm
      · rw [if_neg z] at e
        have : l3 ≠ [] := fun q => z (e3.1 q)
        rw [if_neg (by simp [this])]
        cases he : entryP { r with b := rest } hd with
        | none => rw [he] at e; cases e
        | some r' =>
          rw [he] at e
          dsimp only at e
          refine T_entry a2 (hP.mono (st.trans st2).ext.cle) r2 hl.2 hl.1 he fun R3 H3 So3 bv3 lv3 ps3 st3 a3 => ?_
          simp -zeta only [GL, Bool.not_true, Bool.false_eq_true, if_false, List.getD_cons_zero, List.getD_cons_succ]
          exact ⟨H3, .refl _, m, by omega, R3, So3, bv3, lv3, ps3, r', (st.trans st2).trans st3, a3, e, trivial⟩
end
end Go.Proofs.YtflfhbnflcfmgaaGreatDoor
set_option linter.unusedSimpArgs false
set_option linter.unusedVariables false
set_option maxRecDepth 100000
set_option maxHeartbeats 1000000
namespace Go.Proofs.YtflfhbnflcfmgaaGreatDoor
open Go Go.SL Go.Pure Go.Tar
/-- The table that counts zeros behind a bit, where it is read. -/
def Bru (h : Hp) : Prop := h.cell ⟨7, 7, none⟩ = some (.int .u8 3)
theorem Bru.mono {h h' : Hp} (a : Bru h) (x : Hp.cle h h') : Bru h' := x _ _ a
theorem and7 {a : Nat} (ha : a < 18446744073709551616) : iand .u64 (a : Int) 7 = ((a % 8 : Nat) : Int) := by
  rw [and64 (by omega) (by omega) (by omega) (by omega), Int.toNat_natCast]
  have := Nat.and_two_pow_sub_one_eq_mod a 3
  simp only [Nat.reducePow, Nat.add_one_sub_one, Nat.reduceSub] at this
  show ((a &&& 7 : Nat) : Int) = _
  rw [this]
theorem d36_8 : ∀ x, x < 8 → d36.getD x 0 = 48 + x := by decide +kernel
theorem txS : tx_29165f = strL (List.replicate 128 32) := by kernel_rfl
theorem txM : tx_07da90 = strL (List.replicate 128 45) := by kernel_rfl
theorem txZ : tx_211e66 = strL (List.replicate 64 48) := by kernel_rfl
section
variable {h : Hp} {K : Value → Hp → Prop}
theorem T_HasPrefix {l : List Nat} (hb : Bytes l) (hl : 0 < l.length) {c : Nat} (hc : c < 256) (k : K (.bool (decide (l.take 1 = [c]))) h) : Cn P n_strings_HasPrefix #[.string (strL l), .string (strL [c])] h K := by
  refine F_strings_HasPrefix ?_
  unfold s_strings_HasPrefix
  refine F_stringslite_HasPrefix ?_
  unfold s_stringslite_HasPrefix
  have bc : Bytes [c] := fun x hx => by rw [List.mem_singleton.1 hx]; exact hc
  have d1 : decide (((([c] : List Nat).length : Nat) : Int) ≤ ((l.length : Nat) : Int)) = true := decide_eq_true (by simp; omega)
  rw [q_lenSt u_string, q_lenSt u_string]
  simp -zeta only [GL, d1, if_true]
  rw [q_lenSt u_string, q_slStH u_string _ (by simp; omega)]
  have e1 : ([c] : List Nat).length = 1 := rfl
  rw [e1, q_eqlSt _ _ (hb.take _) bc]
  exact k
theorem T_Repeat {n : Nat} (hn : n = 6 ∨ n = 7 ∨ n = 11) (k : K (.string (strL (List.replicate n 48))) h) : Cn P n_strings_Repeat #[.string (strL [48]), .int .i64 (n : Int)] h K := by
  refine F_strings_Repeat ?_
  unfold s_strings_Repeat s_strings_Repeat_1
  have b48 : Bytes [48] := by intro x hx; rw [List.mem_singleton.1 hx]; decide
  have n0 : ((n : Int) == 0) = false := by rw [beq_eq_false_iff_ne]; omega
  have n1 : ((n : Int) == 1) = false := by rw [beq_eq_false_iff_ne]; omega
  simp -zeta only [GL, n0, n1, Bool.false_eq_true, if_false]
  unfold s_strings_Repeat_2
  have d0 : decide ((n : Int) < 0) = false := decide_eq_false (by omega)
  simp -zeta only [GL, d0, Bool.false_eq_true, if_false]
  unfold s_strings_Repeat_3
  have w1 : IntKind.u64.wrap (n : Int) = (n : Int) := wu64i (by omega) (by omega)
  have w2 : IntKind.u64.wrap ((([48] : List Nat).length : Nat) : Int) = 1 := by decide
  rw [q_lenSt u_string]
  simp -zeta only [RL, GL, w1, w2]
  have mul : ∀ G : Value → Hp → Prop, G (.tuple #[.int .u64 0, .int .u64 (n : Int)]) h → Cn P n_bits_Mul #[.int .u64 1, .int .u64 (n : Int)] h G := by
    intro G g
    refine F_bits_Mul ?_
    unfold s_bits_Mul
    simp -zeta only [GL, Bool.false_eq_true, if_false]
    refine F_bits_Mul64 ?_
    unfold s_bits_Mul64
    simp -zeta (disch := decide) only [GL]
    rw [ext0, ext1]
    rcases hn with rfl | rfl | rfl <;> exact g
  refine mul _ ?_
  rw [ext0, ext1]
  unfold s_strings_Repeat_4
  have d2 : decide ((9223372036854775807 : Int) < (n : Int)) = false := decide_eq_false (by omega)
  simp -zeta only [GL, show decide ((0 : Int) < 0) = false from rfl, d2, Bool.false_eq_true, if_false, if_true]
  unfold s_strings_Repeat_5
  have w3 : IntKind.i64.wrap (n : Int) = (n : Int) := wi64 (by omega) (by omega)
  simp -zeta only [RL, GL, w3]
  unfold s_strings_Repeat_6
  rw [q_lenSt u_string]
  simp -zeta only [GL, show (((([48] : List Nat).length : Nat) : Int) == 0) = false from rfl, Bool.false_eq_true, if_false]
  unfold s_strings_Repeat_7
  have i0 : (0 : Int) = ((0 : Nat) : Int) := rfl
  rw [i0, q_idxSt u_string b48 (by simp)]
  have g48 : ([48] : List Nat).getD 0 0 = 48 := rfl
  rw [g48]
  intro J11
  have q11 : J11 (.bool true) h := by
    simp -zeta only [J11]
    clear J11
    have d64 : decide ((n : Int) ≤ 64) = true := decide_eq_true (by omega)
    have d128 : decide ((n : Int) ≤ 128) = true := decide_eq_true (by omega)
    simp -zeta only [GL, if_true, txS, txM, txZ, d64, d128]
    intro J16
    have q16 : J16 (.bool false) h := by
      simp -zeta only [J16]
      clear J16
      simp -zeta only [GL, Bool.false_eq_true, if_false]
      intro J18
      have q18 : J18 (.bool false) h := by
        simp -zeta only [J18]
        clear J18
        simp -zeta only [GL, Bool.false_eq_true, if_false]
        intro J20
        have q20 : J20 (.bool true) h := by
          simp -zeta only [J20]
          clear J20
          simp -zeta only [GL, if_true]
          rw [q_slStH u_string _ (by rw [List.length_replicate]; omega), List.take_replicate, Nat.min_eq_left (by omega)]
          exact k
        clear_value J20
        refine T_HasPrefix (c := 48) (fun x hx => by rw [List.eq_of_mem_replicate hx]; decide) (by rw [List.length_replicate]; decide) (by decide) ?_
        exact q20
      clear_value J18
      refine T_HasPrefix (c := 48) (fun x hx => by rw [List.eq_of_mem_replicate hx]; decide) (by rw [List.length_replicate]; decide) (by decide) ?_
      exact q18
    clear_value J16
    refine T_HasPrefix (c := 48) (fun x hx => by rw [List.eq_of_mem_replicate hx]; decide) (by rw [List.length_replicate]; decide) (by decide) ?_
    exact q16
  clear_value J11
  simp -zeta only [GL, show ((((48 : Nat) : Int)) == 32) = false from rfl, show ((((48 : Nat) : Int)) == 45) = false from rfl, show ((((48 : Nat) : Int)) == 48) = true from rfl, Bool.false_eq_true, if_false, if_true]
  exact q11
end
end Go.Proofs.YtflfhbnflcfmgaaGreatDoor
set_option linter.unusedSimpArgs false
set_option linter.unusedVariables false
set_option maxRecDepth 100000
set_option maxHeartbeats 1000000
namespace Go.Proofs.YtflfhbnflcfmgaaGreatDoor
open Go Go.SL Go.Pure Go.Tar
theorem zr_65 : zr P t_65_uint8 = some (.agg (List.replicate 65 (Value.int .u8 0)).toArray) := by kernel_rfl
theorem und_65 : P.underlying t_65_uint8 = some (.array 65 t_uint8) := by kernel_rfl
/-- Digits in a row's end. -/
def End8 (cs : List Value) (i : Nat) (D : List Nat) : Prop := cs.length = 65 ∧ i + D.length = 65 ∧ ∀ j, j < D.length → cs[i + j]? = some (.int .u8 ((D.getD j 0 + 48 : Nat) : Int))
theorem End8.step {cs : List Value} {i x : Nat} {D : List Nat} (a : End8 cs (i + 1) D) : End8 (cs.set i (.int .u8 ((48 + x : Nat) : Int))) i (x :: D) := by
  obtain ⟨a1, a2, a3⟩ := a
  refine ⟨by rw [List.length_set]; exact a1, by rw [List.length_cons]; omega, fun j hj => ?_⟩
  rw [List.getElem?_set]
  cases j with
  | zero =>
    rw [if_pos (by omega), if_pos (by omega), Nat.add_comm 48]
    rfl
  | succ j =>
    rw [if_neg (by omega)]
    have := a3 j (by rw [List.length_cons] at hj; omega)
    rw [show i + (j + 1) = i + 1 + j by omega, this]
    rfl
section
variable {h : Hp} {K : Value → Hp → Prop}
theorem T_Format8 {n : Nat} (hn : n < 1152921504606846976) (hB : Bru h) (k : K (.string (strL (asc (dig 8 n)))) h) : Cn P n_strconv_FormatInt_70 #[.int .i64 (n : Int), .int .i64 8] h K := by
  refine Cn_wk (F_strconv_FormatInt_70 ?_)
  unfold s_strconv_FormatInt_70
  refine F_strconv_FormatInt_92 ?_
  unfold s_strconv_FormatInt_92
  have wn : IntKind.u64.wrap (n : Int) = (n : Int) := wu64i (by omega) (by omega)
  have d0 : decide ((n : Int) < 0) = false := decide_eq_false (by omega)
  simp -zeta only [GL, RL, show ((8 : Int) == 10) = false from rfl, Bool.false_eq_true, if_false, wn, d0]
  refine F_strconv_formatBits ?_
  unfold s_strconv_formatBits
  intro J2
  have q2 : J2 h := by
    simp -zeta only [J2]
    clear J2
    refine aw_allocL (List.replicate 65 (Value.int .u8 0)) zr_65 rfl fun r hr => ?_
    have l65 : (List.replicate 65 (Value.int .u8 0)).length = 65 := List.length_replicate ..
    rw [l65]
    have xt := ext_set (AObj.row t_65_uint8 (List.replicate 65 (Value.int .u8 0)) 65 (some (0, 0))) hr
    intro J6
    have q6 : J6 (.int .u64 (n : Int)) (h.set r (.row t_65_uint8 (List.replicate 65 (Value.int .u8 0)) 65 (some (0, 0)))) := by
      simp -zeta only [J6]
      clear J6
      intro J8
      have q8 : ∀ (i : Nat) (cs : List Value), i < 65 → End8 cs i (dig 8 n) → J8 (.int .i64 (i : Int)) (h.set r (.row t_65_uint8 cs 65 (some (0, 0)))) := by
        intro i cs hi en
        simp -zeta only [J8]
        clear J8
        intro J29
        have q29 : J29 (.int .i64 (i : Int)) (h.set r (.row t_65_uint8 cs 65 (some (0, 0)))) := by
          simp -zeta only [J29]
          clear J29
          simp -zeta only [GL, Bool.false_eq_true, if_false]
          rw [q_slArrLo und_65 z_uint8 _ _ i (by omega), if_neg (by omega)]
          have e1 : (⟨r, 0, none⟩ : Addr).add (i * 1) = ⟨r, i, none⟩ := by rw [add_off, Nat.zero_add, Nat.mul_one]
          have hl : (asc (dig 8 n)).length = 65 - i := by rw [asc_len]; have := en.2.1; omega
          have rn : Rn (h.set r (.row t_65_uint8 cs 65 (some (0, 0)))) .u8 (.slice (some ⟨r, i, none⟩) (65 - i) (65 - i)) (asc (dig 8 n)) := by
            refine ⟨by rw [nv_len, Nat.mul_one], _, _, by rw [hl], by rw [hl]; omega, .inr ⟨r, i, rfl, fun j x e => ?_⟩⟩
            rw [cell_row (Hp.set_same ..)]
            have hj : j < (dig 8 n).length := by
              have := (List.getElem?_eq_some_iff.1 e).1
              rw [nv_len, asc_len] at this
              exact this
            rw [en.2.2 j hj, ← e]
            have := nv_getD .u8 (asc (dig 8 n)) j (by rw [asc_len]; exact hj)
            rw [this, asc_getD hj]
          rw [e1, q_str rn, ext0, ext1]
          exact ⟨h, le_fresh hr, k⟩
        clear_value J29
        simp -zeta only [GL, Bool.false_eq_true, if_false]
        exact q29
      clear_value J8
      refine F_strconv_isPowerOfTwo ?_
      unfold s_strconv_isPowerOfTwo
      simp -zeta only [GL, show IntKind.i64.wrap ((8 : Int) - 1) = 7 from by decide, show (iand .i64 8 7 == 0) = true from by decide, if_true]
      simp -zeta only [RL, GL, show IntKind.u64.wrap (8 : Int) = 8 from by decide]
      refine F_bits_TrailingZeros ?_
      unfold s_bits_TrailingZeros
      simp -zeta only [GL, Bool.false_eq_true, if_false]
      refine F_bits_TrailingZeros64 ?_
      unfold s_bits_TrailingZeros64
      have hB2 := hB.mono xt.cle
      unfold Bru at hB2
      have c1 : IntKind.u64.wrap ((0 : Int) - 8) = 18446744073709551608 := by decide
      have c2 : iand .u64 8 18446744073709551608 = 8 := by decide
      have c3 : (IntKind.u64.wrap ((8 : Int) * 285870213051353865)).fdiv (2 ^ min (58 : Int).toNat IntKind.u64.bits) = 7 := by decide
      have c4 : (7 : Int).toNat = 7 := rfl
      have qn : ∀ {K : Value → Prop} {G : Hp}, q P G (Op.unary .neg (.int .u64 8)) K = K (.int .u64 18446744073709551608) := fun {K G} => by rw [q_neg, c1]
      simp -zeta (disch := decide) only [GL, RL, show ((8 : Int) == 0) = false from rfl, Bool.false_eq_true, if_false, qn, c2, c3, c4, Nat.zero_add, hB2, show IntKind.i64.wrap (3 : Int) = 3 from by decide, show IntKind.u64.wrap (3 : Int) = 3 from by decide, show IntKind.u64.wrap ((8 : Int) - 1) = 7 from by decide, show IntKind.u64.wrap (8 : Int) = 8 from by decide]
      refine Lp_mk (fun m vs H => ∃ (i : Nat) (cs : List Value) (D : List Nat), 1 ≤ i ∧ i ≤ 65 ∧ m < 8 ^ i ∧ m ≤ n ∧ dig 8 n = dig 8 m ++ D ∧ End8 cs i D ∧ H = h.set r (.row t_65_uint8 cs 65 (some (0, 0))) ∧ vs = [.int .i64 (i : Int), .int .u64 (m : Int)]) n
        ⟨65, _, [], by omega, by omega, Nat.lt_of_lt_of_le hn (show 8 ^ 20 ≤ 8 ^ 65 from Nat.pow_le_pow_right (by decide) (by decide)), Nat.le_refl _, by simp, ⟨l65, rfl, by simp⟩, rfl, rfl⟩ ?_
      rintro m vs H ⟨i, cs, D, i1, i2, hm, hmn, hd, en, rfl, rfl⟩
      simp -zeta only [GL, List.getD_cons_zero, List.getD_cons_succ]
      obtain ⟨i, rfl⟩ : ∃ j, i = j + 1 := ⟨i - 1, by omega⟩
      have w1 : IntKind.i64.wrap (((i + 1 : Nat) : Int) - 1) = ((i : Nat) : Int) := by rw [wi64 (by omega) (by omega)]; omega
      have g8 : decide ((8 : Int) ≤ (m : Int)) = decide (8 ≤ m) := by rw [decide_eq_decide]; omega
      have a7 := and7 (a := m) (by omega)
      simp -zeta only [GL, w1, g8, a7, txd]
      by_cases g : 8 ≤ m
      · simp -zeta only [g, decide_true, if_true]
        rw [q_idxSt u_string d36_b (by show m % 8 < 36; omega), d36_8 _ (by omega)]
        have s3 : (m : Int).fdiv (2 ^ min (3 : Int).toNat IntKind.u64.bits) = ((m / 8 : Nat) : Int) := by
          have : (2 : Int) ^ min (3 : Int).toNat IntKind.u64.bits = 8 := by decide
          rw [this, Int.fdiv_eq_ediv_of_nonneg _ (by decide)]
          omega
        simp -zeta (disch := omega) only [GL, RL, Int.toNat_natCast, Nat.zero_add, s3]
        refine aw_store z_uint8 rfl (put_row (Hp.set_same ..) (by rw [en.1]; omega) (by omega) _) ?_
        rw [Hp.set_set]
        have hm8 : m / 8 < 8 ^ i := by rw [Nat.div_lt_iff_lt_mul (by decide), ← Nat.pow_succ]; exact hm
        have i0 : 1 ≤ i := by
          rcases Nat.eq_zero_or_pos i with rfl | q
          · simp at hm8; omega
          · exact q
        refine ⟨_, .refl _, m / 8, by omega, i, _, m % 8 :: D, i0, by omega, hm8, by omega, ?_, en.step, rfl, rfl⟩
        rw [hd, dig_step (by decide) g, List.append_assoc]
        rfl
      · simp -zeta only [g, decide_false, Bool.false_eq_true, if_false]
        rw [q_idxSt u_string d36_b (by show m < 36; omega), d36_8 _ (by omega)]
        simp -zeta (disch := omega) only [GL, RL, Int.toNat_natCast, Nat.zero_add]
        refine aw_store z_uint8 rfl (put_row (Hp.set_same ..) (by rw [en.1]; omega) (by omega) _) ?_
        rw [Hp.set_set]
        refine q8 i _ (by omega) ?_
        rw [hd, dig_one (by omega)]
        exact en.step
    clear_value J6
    simp -zeta only [GL, Bool.false_eq_true, if_false]
    exact q6
  clear_value J2
  simp -zeta only [GL, show decide ((8 : Int) < 2) = false from rfl, show ((8 : Int) == 10) = false from rfl, show decide ((36 : Int) < 8) = false from rfl, Bool.false_eq_true, if_false, if_true]
  exact q2
theorem octS_cut (v d : Nat) : (List.replicate d 48 ++ asc (dig 8 v)).drop (dig 8 v).length = octS v d := by
  unfold octS octD asc
  rw [List.map_drop, List.map_append, List.map_replicate]
theorem T_octal {v d : Nat} (hv : v < 1152921504606846976) (hd : d = 6 ∨ d = 7 ∨ d = 11) (hB : Bru h) (k : K (.string (strL (octS v d))) h) : Cn P n_tar_octal #[.int .i64 (v : Int), .int .i64 (d : Int)] h K := by
  refine F_tar_octal ?_
  unfold s_tar_octal
  have s48 : (⟨#[48]⟩ : ByteArray) = strL [48] := rfl
  rw [s48]
  refine T_Repeat hd ?_
  refine T_Format8 hv hB ?_
  have l64 : ∀ f m, m < 8 ^ (f + 1) → (dig 8 m).length ≤ f + 1 := by
    intro f
    induction f with
    | zero => intro m h; rw [dig_one (by simpa using h)]; simp
    | succ f ih =>
      intro m h
      rcases Nat.lt_or_ge m 8 with q | q
      · rw [dig_one q]; simp
      · rw [dig_step (by decide) q, List.length_append]
        have := ih (m / 8) (by rw [Nat.div_lt_iff_lt_mul (by decide), ← Nat.pow_succ]; exact h)
        simp only [List.length_singleton]
        omega
  have ll := l64 19 v hv
  rw [q_addSt _ _ (by rw [List.length_replicate, asc_len]; omega), q_lenSt u_string]
  have w1 : IntKind.i64.wrap (((List.replicate d 48 ++ asc (dig 8 v)).length : Int) - (d : Int)) = (((dig 8 v).length : Nat) : Int) := by
    rw [List.length_append, List.length_replicate, asc_len, wi64 (by omega) (by omega)]; omega
  simp -zeta only [GL, w1]
  rw [q_slStL u_string _ (by rw [List.length_append, asc_len]; omega), octS_cut]
  exact k
end
end Go.Proofs.YtflfhbnflcfmgaaGreatDoor
set_option linter.unusedSimpArgs false
set_option linter.unusedVariables false
set_option maxRecDepth 100000
set_option maxHeartbeats 1000000
namespace Go.Proofs.YtflfhbnflcfmgaaGreatDoor
open Go Go.SL Go.Pure Go.Tar
theorem sum_le {l : List Nat} (hb : Bytes l) : l.sum ≤ 255 * l.length := by
  induction l with
  | nil => simp
  | cons x l ih =>
    have := ih fun y hy => hb y (by simp [hy])
    have := hb x (by simp)
    rw [List.sum_cons, List.length_cons]
    omega
theorem sumP_lt {b : List Nat} (hb : Bytes b) (hl : b.length = 512) : sumP b < 1000000 := by
  have h1 := sum_le (hb.take 148)
  have h2 := sum_le (hb.drop 156)
  rw [List.length_take] at h1
  rw [List.length_drop] at h2
  unfold sumP
  omega
theorem strL_ex (l : List Nat) (hb : Bytes l) : ((strL l).extract 0 (strL l).size).data.map (fun b => Value.int .u8 b.toNat) = (nv .u8 l).toArray := by
  have e : (strL l).extract 0 (strL l).size = strL l := by simp
  rw [e]
  apply Array.ext'
  rw [Array.toList_map, strL_data, List.map_map]
  unfold nv
  refine List.map_congr_left fun x hx => ?_
  have := hb x hx
  simp [UInt8.toNat_ofNat', Nat.mod_eq_of_lt (show x < 2 ^ 8 by omega)]
theorem q_minT {h : Hp} {K : Value → Prop} {t T : TypeId} {k : IntKind} (a b : Int) : q P h (Builtin.min_ #[t, t] T #[.int k a, .int k b]) K = K (.int k (if b < a then b else a)) := q_of (by simp [Builtin.min_, Builtin.min2, pk_pure]) K
theorem octS_b (v d : Nat) : Bytes (octS v d) := asc_bytes fun x hx => by have := octD_lt v d x hx; omega
theorem octS_len (v d : Nat) : (octS v d).length = d := by rw [octS, asc_len, octD_len]
theorem put_one (B : List Nat) (i x : Nat) (h : i < B.length) : B.set i x = put B i [x] := by
  rw [put, List.set_eq_take_append_cons_drop, if_pos h]
  simp
section
variable {h : Hp} {K : Value → Hp → Prop}
/-- A text is copied into a row of bytes. -/
theorem aw_copyT {b o dl dc C : Nat} {f : Nat × Nat} {B s : List Nat} {T : TypeId} (hs : Bytes s) (hb : h b = some (.row t_uint8 (nv .u8 B) C (some f))) (hn : s.length ≤ dl) (hl : o + dl ≤ B.length) (hf : ∀ i, i < B.length → ¬ (f.1 ≤ i ∧ i < f.2))
    (k : ∀ w, K w (h.set b (.row t_uint8 (nv .u8 (put B o s)) C (some f)))) : aw P (Builtin.copy_ #[26, 9] T #[.slice (some ⟨b, o, none⟩) dl dc, .string (strL s)]) K h := by
  refine aw_copyS (ys := nv .u8 s) u_Sl_uint8 z_uint8 hb (strL_ex s hs) (nv_flat _ _) (by rw [strL_size]; exact hn) (by rw [nv_len, strL_size]) (by rw [nv_len]; exact hl) (by rw [nv_len]; exact hf) ?_
  rw [putL_nv _ _ _ (by omega)]
  exact k _
theorem q_slB {K : Value → Prop} {b n c lo : Nat} (h1 : lo < n) (hc : n ≤ c) : q P h (Instr.sliceAt 26 (.slice (some ⟨b, 0, none⟩) n c) (some (.int .i64 (lo : Int))) none none) K = K (.slice (some ⟨b, lo, none⟩) (n - lo) (c - lo)) := by
  rw [q_slLo u_Sl_uint8 z_uint8 _ n c _ lo (by omega) hc]
  have : SL.cut (some ⟨b, 0, none⟩) c lo 1 = some ⟨b, lo, none⟩ := by
    unfold SL.cut
    rw [if_neg (by omega), Option.map_some, add_off, Nat.zero_add, Nat.mul_one]
  rw [this]
theorem first100 (n : Nat) : (if (100 : Int) < (n : Int) then (100 : Int) else (n : Int)) = ((min n 100 : Nat) : Int) := by split <;> omega
theorem T_head {name link : List Nat} {mode size kind : Nat} (bn : Bytes name) (bl : Bytes link) (hk : kind < 256) (ln : name.length ≤ 1099511627776) (ll : link.length ≤ 1099511627776) (hm : mode < 1152921504606846976) (hs : size < 1152921504606846976) (hB : Bru h)
    (k : ∀ v h', Nn h t_uint8 .u8 v h' (headP name mode size kind link) → K v h') : Cn P n_tar_head #[.string (strL name), .int .i64 (mode : Int), .int .i64 (size : Int), .int .u8 (kind : Int), .string (strL link)] h K := by
  refine F_tar_head ?_
  unfold s_tar_head
  refine aw_makeB 512 (by decide) fun v h1 n1 => ?_
  have l512 : (List.replicate 512 0).length = 512 := List.length_replicate ..
  unfold Nn at n1
  rw [l512] at n1
  obtain ⟨b, c, f, hb, hc, rfl, rfl, hf⟩ := n1.form (by decide)
  have hf' : ∀ i, i < 512 → ¬ (f.1 ≤ i ∧ i < f.2) := fun i hi => hf i (by omega)
  have xB : ∀ o, Bru (h.set b o) := fun o => hB.mono (ext_set o hb).cle
  have xP : ∀ {K : Value → Prop} (H : Hp) (lo : Nat), lo < 512 → q P H (Instr.sliceAt 26 (.slice (some ⟨b, 0, none⟩) 512 c) (some (.int .i64 (lo : Int))) none none) K = K (.slice (some ⟨b, lo, none⟩) (512 - lo) (c - lo)) := fun H lo hlo => q_slB hlo hc
  have cp : ∀ {B s : List Nat} {o dl dc : Nat} {K : Value → Hp → Prop} {C : Nat}, Bytes s → B.length = 512 → s.length ≤ dl → o + dl ≤ 512 → (∀ w, K w (h.set b (.row t_uint8 (nv .u8 (put B o s)) C (some f)))) →
      aw P (Builtin.copy_ #[26, 9] 3 #[.slice (some ⟨b, o, none⟩) dl dc, .string (strL s)]) K (h.set b (.row t_uint8 (nv .u8 B) C (some f))) := by
    intro B s o dl dc K C hs hB hn hl k
    refine aw_copyT hs (Hp.set_same ..) hn (by omega) (fun i hi => hf' i (by omega)) fun w => ?_
    rw [Hp.set_set]
    exact k w
  have b7 : Bytes zer7 := by unfold Bytes zer7; decide
  have b11 : Bytes zer11 := by unfold Bytes zer11; decide
  have bu : Bytes ustar := by unfold Bytes ustar; decide
  have s7 : (⟨#[48, 48, 48, 48, 48, 48, 48]⟩ : ByteArray) = strL zer7 := rfl
  have s11 : (⟨#[48, 48, 48, 48, 48, 48, 48, 48, 48, 48, 48]⟩ : ByteArray) = strL zer11 := rfl
  have su : (⟨#[117, 115, 116, 97, 114, 0, 48, 48]⟩ : ByteArray) = strL ustar := rfl
  have s032 : (⟨#[0, 32]⟩ : ByteArray) = strL [0, 32] := rfl
  have b032 : Bytes [0, 32] := by unfold Bytes; decide
  have i100 : (100 : Int) = ((100 : Nat) : Int) := rfl
  have i108 : (108 : Int) = ((108 : Nat) : Int) := rfl
  have i116 : (116 : Int) = ((116 : Nat) : Int) := rfl
  have i124 : (124 : Int) = ((124 : Nat) : Int) := rfl
  have i136 : (136 : Int) = ((136 : Nat) : Int) := rfl
  have i148 : (148 : Int) = ((148 : Nat) : Int) := rfl
  have i157 : (157 : Int) = ((157 : Nat) : Int) := rfl
  have i257 : (257 : Int) = ((257 : Nat) : Int) := rfl
  have i7 : (7 : Int) = ((7 : Nat) : Int) := rfl
  have i11 : (11 : Int) = ((11 : Nat) : Int) := rfl
  have i6 : (6 : Int) = ((6 : Nat) : Int) := rfl
  have tk : ∀ l : List Nat, (l.take (min l.length 100)) = l.take 100 := fun l => by
    rcases Nat.le_total l.length 100 with q | q
    · rw [Nat.min_eq_left q, List.take_length, List.take_of_length_le q]
    · rw [Nat.min_eq_right q]
  have tl : ∀ l : List Nat, (l.take 100).length ≤ 100 := fun l => by rw [List.length_take]; omega
  rw [q_lenSt u_string, q_minT, first100, q_slStH u_string _ (Nat.min_le_left ..), tk]
  refine cp (bn.take _) l512 (by have := tl name; omega) (by omega) fun _ => ?_
  have l0 : (put (List.replicate 512 0) 0 (name.take 100)).length = 512 := by rw [put_len (by have := tl name; rw [l512]; omega), l512]
  rw [i100, xP _ 100 (by decide), i7]
  refine T_octal hm (.inr (.inl rfl)) (xB _) ⟨pk_of fun K => xP _ 100 (by decide), ?_⟩
  refine cp (octS_b _ _) l0 (by rw [octS_len]; decide) (by decide) fun _ => ?_
  have l1 : (put (put (List.replicate 512 0) 0 (name.take 100)) 100 (octS mode 7)).length = 512 := by rw [put_len (by rw [octS_len, l0]; decide), l0]
  rw [i108, xP _ 108 (by decide), s7]
  refine cp b7 l1 (by decide) (by decide) fun _ => ?_
  have l2 : (put (put (put (List.replicate 512 0) 0 (name.take 100)) 100 (octS mode 7)) 108 zer7).length = 512 := by rw [put_len (by rw [l1]; decide), l1]
  rw [i116, xP _ 116 (by decide)]
  refine cp b7 l2 (by decide) (by decide) fun _ => ?_
  have l3 : (put (put (put (put (List.replicate 512 0) 0 (name.take 100)) 100 (octS mode 7)) 108 zer7) 116 zer7).length = 512 := by rw [put_len (by rw [l2]; decide), l2]
  rw [i124, xP _ 124 (by decide), i11]
  refine T_octal hs (.inr (.inr rfl)) (xB _) ⟨pk_of fun K => xP _ 124 (by decide), ?_⟩
  refine cp (octS_b _ _) l3 (by rw [octS_len]; decide) (by decide) fun _ => ?_
  have l4 : (put (put (put (put (put (List.replicate 512 0) 0 (name.take 100)) 100 (octS mode 7)) 108 zer7) 116 zer7) 124 (octS size 11)).length = 512 := by rw [put_len (by rw [octS_len, l3]; decide), l3]
  rw [i136, xP _ 136 (by decide), s11]
  refine cp b11 l4 (by decide) (by decide) fun _ => ?_
  have l5 : (put (put (put (put (put (put (List.replicate 512 0) 0 (name.take 100)) 100 (octS mode 7)) 108 zer7) 116 zer7) 124 (octS size 11)) 136 zer11).length = 512 := by rw [put_len (by rw [l4]; decide), l4]
  have b5 : Bytes (put (put (put (put (put (put (List.replicate 512 0) 0 (name.take 100)) 100 (octS mode 7)) 108 zer7) 116 zer7) 124 (octS size 11)) 136 zer11) := by
    refine put_bytes (put_bytes (put_bytes (put_bytes (put_bytes (put_bytes ?_ (bn.take _) _) (octS_b _ _) _) b7 _) b7 _) (octS_b _ _) _) b11 _
    intro x hx
    rw [List.eq_of_mem_replicate hx]
    decide
  have e0 : head0 name mode size kind link = put (put (put (put (put (put (put (put (put (List.replicate 512 0) 0 (name.take 100)) 100 (octS mode 7)) 108 zer7) 116 zer7) 124 (octS size 11)) 136 zer11) 156 [kind]) 157 (link.take 100)) 257 ustar := rfl
  generalize put (put (put (put (put (put (List.replicate 512 0) 0 (name.take 100)) 100 (octS mode 7)) 108 zer7) 116 zer7) 124 (octS size 11)) 136 zer11 = B5 at *
  have i156 : (156 : Int).toNat = 156 := rfl
  simp -zeta (disch := decide) only [RL, GL, i156]
  refine aw_store z_uint8 rfl (put_row (Hp.set_same ..) (by rw [nv_len]; omega) (hf' _ (by decide)) _) ?_
  rw [Hp.set_set]
  have e6 : (nv .u8 B5).set 156 (.int .u8 (kind : Int)) = nv .u8 (put B5 156 [kind]) := by rw [nv_set, put_one _ _ _ (by omega)]
  rw [e6]
  have l6 : (put B5 156 [kind]).length = 512 := by rw [put_len (by rw [l5, List.length_singleton]; decide), l5]
  rw [i157, xP _ 157 (by decide), strL_size, ← i100, q_minT, first100, q_slStH u_string _ (Nat.min_le_left ..), tk]
  refine cp (bl.take _) l6 (by have := tl link; omega) (by omega) fun _ => ?_
  have l7 : (put (put B5 156 [kind]) 157 (link.take 100)).length = 512 := by rw [put_len (by have := tl link; rw [l6]; omega), l6]
  rw [i257, xP _ 257 (by decide), su]
  refine cp bu l7 (by decide) (by decide) fun _ => ?_
  rw [← e0]
  have l8 : (head0 name mode size kind link).length = 512 := by rw [e0, put_len (by rw [l7]; decide), l7]
  have b8 : Bytes (head0 name mode size kind link) := by
    rw [e0]
    refine put_bytes (put_bytes (put_bytes b5 ?_ _) (bl.take _) _) bu _
    intro x hx; rw [List.mem_singleton.1 hx]; exact hk
  rw [i148, xP _ 148 (by decide)]
  have hn : ∀ B : List Nat, B.length = 512 → New h t_uint8 1 (.slice (some ⟨b, 0, none⟩) 512 c) (h.set b (.row t_uint8 (nv .u8 B) (c * 1) (some f))) (nv .u8 B) 512 := fun B hB => ⟨by rw [nv_len, hB], .inr ⟨b, c, f, hb, hc, rfl, rfl, hf⟩⟩
  have rn : Rn (h.set b (.row t_uint8 (nv .u8 (head0 name mode size kind link)) (c * 1) (some f))) .u8 (.slice (some ⟨b, 0, none⟩) 512 c) (head0 name mode size kind link) := by
    have := (hn _ l8).rds
    unfold Rn
    rw [l8]
    exact this
  refine T_sum rn b8 l8 ⟨pk_of fun K => xP _ 148 (by decide), ?_⟩
  have hsl := sumP_lt b8 l8
  rw [i6]
  refine T_octal (by omega) (.inl rfl) (xB _) ⟨pk_of fun K => xP _ 148 (by decide), ?_⟩
  rw [s032, q_addSt _ _ (by rw [octS_len]; decide)]
  refine cp ((octS_b _ _).append b032) l8 (by rw [List.length_append, octS_len]; decide) (by decide) fun _ => ?_
  refine k _ _ ?_
  have l9 : (headP name mode size kind link).length = 512 := by rw [headP, put_len (by rw [List.length_append, octS_len, l8]; decide), l8]
  unfold Nn
  rw [l9]
  exact hn _ l9
end
end Go.Proofs.YtflfhbnflcfmgaaGreatDoor
set_option linter.unusedSimpArgs false
set_option linter.unusedVariables false
set_option maxRecDepth 100000
namespace Go.Proofs.YtflfhbnflcfmgaaGreatDoor
open Go Go.SL Go.Pure
section
variable {h : Hp} {K : Value → Hp → Prop}
theorem T_Clone {v : Value} {l : List Nat} (hv : Rn h .u8 v l) (hl : l.length ≤ 70368744177664) (k : ∀ r h', Nn h t_uint8 .u8 r h' l → K r h') : Cn P n_slices_Clone_byte_byte #[v] h K := by
  refine F_slices_Clone_byte_byte ?_
  obtain ⟨a, c, rfl, hc⟩ := hv.shape
  unfold s_slices_Clone_byte_byte
  simp (disch := omega) only [GL, RL]
  cases a with
  | none =>
    have h0 : l = [] := by
      obtain ⟨_, a', c', e, _, h0 | ⟨b, o, e2, _⟩⟩ := hv
      · exact List.eq_nil_of_length_eq_zero h0
      · rw [e2] at e; cases e
    subst h0
    exact k _ _ (Nn.nil ..)
  | some a =>
    refine aw_lit (ps := []) (n := 0) u_Sl_uint8 z_uint8 zr_uint8 rfl (by omega) (by intro p hp; cases hp) fun r h1 hw _ => ?_
    refine aw_append u_Sl_uint8 u_Sl_uint8 nfo_uint8 rfl (by omega) hw (hv.mono hw.cle) (nv_flat _ _) (by omega) (.refl _) fun v' h2 hw2 => ?_
    refine k _ _ ?_
    unfold Nn
    simpa [fillL] using hw2
end
end Go.Proofs.YtflfhbnflcfmgaaGreatDoor
set_option linter.unusedSimpArgs false
set_option linter.unusedVariables false
set_option maxRecDepth 100000
namespace Go.Proofs.YtflfhbnflcfmgaaGreatDoor
open Go Go.SL Go.Pure
def t15 : List Nat := [3, 7, 11, 15]
section
variable {h : Hp} {K : Value → Hp → Prop}
end
end Go.Proofs.YtflfhbnflcfmgaaGreatDoor
namespace Go.Pure
def may (key nonce : List Nat) : Prop := key.length = 32 ∧ nonce.length = 12
instance (key nonce : List Nat) : Decidable (may key nonce) := by unfold may; infer_instance
end Go.Pure
set_option linter.unusedSimpArgs false
set_option linter.unusedVariables false
set_option maxRecDepth 100000
namespace Go.Proofs.YtflfhbnflcfmgaaGreatDoor
open Go Go.SL Go.Pure
section
variable {h : Hp} {K : Value → Hp → Prop}
theorem T_Grow0 (n : Nat) (hn : n ≤ 70368744177664) (k : ∀ v h', New h t_uint8 1 v h' [] 0 → K v h') : Cn P n_slices_Grow_byte_byte #[.slice none 0 0, .int .i64 n] h K := by
  refine F_slices_Grow_byte_byte ?_
  unfold s_slices_Grow_byte_byte
  have e0 : decide ((n : Int) < 0) = false := decide_eq_false (by omega)
  have ecap : ∀ (K : Value → Prop), q P h (Builtin.cap_ #[t_Sl_uint8] t_int #[.slice none 0 0]) K = K (.int .i64 0) := fun K => q_of (by
    show peek P h (Sem.bind (underlying t_Sl_uint8) _) = _
    rw [peek_bind, pk_und u_Sl_uint8]
    rfl) K
  simp (disch := omega) only [GL, RL, wi64, e0, Bool.false_eq_true, if_false, ecap]
  by_cases h0 : n = 0
  · subst h0
    exact k _ _ ⟨rfl, .inl ⟨rfl, rfl, rfl⟩⟩
  · have e1 : decide ((0 : Int) < (n : Int) - (((0 : Nat) : Int) - ((0 : Nat) : Int))) = true := decide_eq_true (by omega)
    have e2 : decide ((0 : Int) < (n : Int) - (0 - ((0 : Nat) : Int))) = true := decide_eq_true (by omega)
    have e3 : (n : Int) - (0 - ((0 : Nat) : Int)) = (n : Int) := by omega
    have e4 : decide ((0 : Int) < (n : Int)) = true := decide_eq_true (by omega)
    simp (disch := omega) only [e1, e2, e3, e4, if_true]
    have es : ∀ (K : Value → Prop), q P h (Instr.sliceAt t_Sl_uint8 (.slice none 0 0) none (some (.int .i64 0)) none) K = K (.slice none 0 0) := fun K => q_slHi u_Sl_uint8 z_uint8 none 0 0 .i64 0 (Nat.le_refl _)
    try rw [es]
    refine aw_growNil (n := n) u_Sl_uint8 u_int nfo_uint8 rfl (by omega) (by omega) (by omega) fun r c hr hc => ?_
    have es2 := q_slHi (P := P) (h := h.set r (.row t_uint8 [] c (some (0, 0)))) (K := fun t25 => K t25 (h.set r (.row t_uint8 [] c (some (0, 0))))) u_Sl_uint8 z_uint8 (some ⟨r, 0, none⟩) n c .i64 0 (by omega)
    refine es2.mpr ?_
    refine k _ _ ⟨rfl, .inr ⟨r, c, (0, 0), hr, Nat.zero_le _, ?_, by rw [Nat.mul_one], fun i _ => by simp⟩⟩
    unfold SL.cut
    split
    · rfl
    · rw [Option.map_some, add_off]
theorem flat_take (ps : List (List Nat)) (i : Nat) (hi : i < ps.length) : (ps.take (i + 1)).flatten = (ps.take i).flatten ++ ps.getD i [] := by
  rw [List.take_succ_eq_append_getElem hi, List.flatten_append]
  simp [List.getD_eq_getElem?_getD, hi]
theorem flat_le (ps : List (List Nat)) (i : Nat) : (ps.take i).flatten.length ≤ ps.flatten.length := by
  conv => rhs; rw [← List.take_append_drop i ps, List.flatten_append, List.length_append]
  omega
/-- The parts of a row of rows. -/
def Parts (h : Hp) (v : Value) (ps : List (List Nat)) : Prop :=
  ∃ b o c, v = .slice (some ⟨b, o, none⟩) ps.length c ∧ ps.length ≤ c ∧ ∀ i, i < ps.length → ∃ w, h.cell ⟨b, o + i, none⟩ = some w ∧ Rn h .u8 w (ps.getD i [])
theorem Parts.mono {h h' : Hp} {v : Value} {ps : List (List Nat)} (p : Parts h v ps) (c : Hp.cle h h') : Parts h' v ps := by
  obtain ⟨b, o, cc, e, hc, q⟩ := p
  exact ⟨b, o, cc, e, hc, fun i hi => let ⟨w, h1, h2⟩ := q i hi; ⟨w, c _ _ h1, h2.mono c⟩⟩
theorem T_Concat {v : Value} {ps : List (List Nat)} (hv : Parts h v ps) (hl : ps.flatten.length ≤ 70368744177664) (hn : ps.length ≤ 70368744177664) (k : ∀ r h', Nn h t_uint8 .u8 r h' ps.flatten → K r h') : Cn P n_slices_Concat_byte_byte #[v] h K := by
  refine F_slices_Concat_byte_byte ?_
  unfold s_slices_Concat_byte_byte
  obtain ⟨b, o, c, rfl, hc, hp⟩ := hv
  simp (disch := omega) only [GL, RL]
  refine Lp_mk (fun u vs h' => ∃ i : Nat, i + u = ps.length ∧ h' = h ∧ vs = [.int .i64 (((ps.take i).flatten.length : Nat) : Int), .int .i64 (i : Int)]) ps.length ⟨0, by omega, rfl, rfl⟩ ?_
  rintro u vs h' ⟨i, hi, rfl, rfl⟩
  simp (disch := omega) only [GL, RL, wi64, lt_dec]
  by_cases hlt : i < ps.length
  · obtain ⟨w, hw, hr⟩ := hp i hlt
    obtain ⟨a', c', rfl, hc'⟩ := hr.shape
    have e1 : ((((ps.take i).flatten.length : Nat) : Int) + ((ps.getD i []).length : Nat)) = (((ps.take (i + 1)).flatten.length : Nat) : Int) := by rw [flat_take ps i hlt, List.length_append]; omega
    have l1 := flat_le ps (i + 1)
    have e2 : decide ((((ps.take (i + 1)).flatten.length : Nat) : Int) < 0) = false := decide_eq_false (by omega)
    simp (disch := omega) only [GL, RL, wi64, hlt, decide_true, if_true, hw, e1, e2, Bool.false_eq_true, if_false]
    exact ⟨_, .refl _, u - 1, by omega, i + 1, by omega, rfl, rfl⟩
  obtain rfl : i = ps.length := by omega
  simp only [hlt, decide_false, Bool.false_eq_true, if_false, List.take_length]
  refine T_Grow0 _ hl fun v1 h1 hw1 => ?_
  refine Lp_mk (fun u vs h2 => ∃ (i : Nat) (v : Value), i + u = ps.length ∧ New h' t_uint8 1 v h2 (nv .u8 (ps.take i).flatten) (ps.take i).flatten.length ∧ vs = [v, .int .i64 (i : Int)]) ps.length ⟨0, v1, by omega, hw1, rfl⟩ ?_
  clear hw1 hlt
  rintro u vs h2 ⟨i, v2, hi, hw, rfl⟩
  simp (disch := omega) only [GL, RL, wi64, lt_dec]
  by_cases hlt : i < ps.length
  · obtain ⟨w, hwc, hr⟩ := hp i hlt
    have hwc2 := hw.cle _ _ hwc
    simp (disch := omega) only [GL, RL, wi64, hlt, decide_true, if_true, hwc2]
    have l1 := flat_le ps (i + 1)
    rw [flat_take ps i hlt, List.length_append] at l1
    refine aw_append u_Sl_uint8 u_Sl_uint8 nfo_uint8 rfl (by omega) hw (hr.mono hw.cle) (nv_flat _ _) (by omega) (.refl _) fun v3 h3 hw3 => ?_
    refine ⟨_, .refl _, u - 1, by omega, i + 1, v3, by omega, ?_, rfl⟩
    rw [flat_take ps i hlt, nv_app, List.length_append]
    exact hw3
  · obtain rfl : i = ps.length := by omega
    simp only [hlt, decide_false, Bool.false_eq_true, if_false]
    rw [List.take_length] at hw
    exact k _ _ hw
end
end Go.Proofs.YtflfhbnflcfmgaaGreatDoor
set_option linter.unusedSimpArgs false
set_option linter.unusedVariables false
set_option maxRecDepth 100000
set_option maxHeartbeats 1000000
namespace Go.Proofs.YtflfhbnflcfmgaaGreatDoor
open Go Go.SL Go.Pure Go.Tar
theorem cellsP_get : ∀ {ps : List (Ent × Value)} {i : Nat} {p : Ent × Value}, ps[i]? = some p → ∀ j, j < 5 → (cellsP ps)[i * 5 + j]? = (entC p.1 p.2)[j]?
  | [], i, p, h, j, hj => by simp at h
  | x :: ps, 0, p, h, j, hj => by
    simp at h
    subst h
    have : cellsP (x :: ps) = entC x.1 x.2 ++ cellsP ps := by simp [cellsP]
    rw [this, List.getElem?_append_left (by rw [entC_len]; omega), Nat.zero_mul, Nat.zero_add]
  | x :: ps, i + 1, p, h, j, hj => by
    have : cellsP (x :: ps) = entC x.1 x.2 ++ cellsP ps := by simp [cellsP]
    rw [this, List.getElem?_append_right (by rw [entC_len]; omega), entC_len]
    have := cellsP_get (ps := ps) (i := i) (p := p) (by simpa using h) j hj
    rw [← this]
    congr 1
    omega
theorem LiR.shape {R : Hp} {lv : Value} {l : List Ent} (a : LiR R lv l) : ∃ x c, lv = .slice x l.length c ∧ l.length ≤ c := by
  obtain ⟨ps, rfl, ⟨_, x, c, e, hc, _⟩, _⟩ := a
  exact ⟨x, c, by rw [e, List.length_map], by rw [List.length_map]; exact hc⟩
/-- An entry of a row, as the walk meets it. -/
theorem q_el {R h : Hp} {lv : Value} {l : List Ent} (a : LiR R lv l) (x : Hp.cle R h) {i : Nat} {e : Ent} (he : l[i]? = some e) {G : Value → Value → Prop}
    (k : ∀ p dv, EntR R e dv → (∀ H, Hp.cle R H → ∀ K : Value → Prop, q P H (Instr.loadAt t_api_Entry p) K = K (.agg (entC e dv).toArray)) → G p (.agg (entC e dv).toArray)) :
    q P h (Instr.indexAt t_Sl_api_Entry lv (.int .i64 (i : Int))) fun p => q P h (Instr.loadAt t_api_Entry p) fun v => G p v := by
  obtain ⟨ps, rfl, ⟨hl, a0, c, rfl, hc, hr⟩, en⟩ := a
  rw [List.getElem?_map, Option.map_eq_some_iff] at he
  obtain ⟨p, hp, rfl⟩ := he
  have hi : i < ps.length := (List.getElem?_eq_some_iff.1 hp).1
  rcases hr with h0 | ⟨b, o, rfl, hy⟩
  · omega
  · rw [q_idxS u_Sl_api_Entry z_api_Entry _ _ _ _ _ (by omega) (by omega), Int.toNat_natCast, add_off]
    have hz5 : sz P t_api_Entry = some (entC p.1 p.2).length := z_api_Entry
    have ld : ∀ H, Hp.cle R H → ∀ K : Value → Prop, q P H (Instr.loadAt t_api_Entry (.pointer (some ⟨b, o + i * 5, none⟩))) K = K (.agg (entC p.1 p.2).toArray) := fun H x K => q_ldAgg u_api_Entry rfl hz5 fun j y ey => by
      have hj : j < 5 := by
        have := (List.getElem?_eq_some_iff.1 ey).1
        rwa [entC_len] at this
      refine x _ _ ?_
      rw [Nat.add_assoc]
      exact hy _ _ (by rw [cellsP_get hp j hj]; exact ey)
    rw [ld h x]
    exact k _ p.2 (en p (List.mem_of_getElem? hp)) ld
section
variable {R h : Hp} {K : Value → Hp → Prop}
theorem T_May1 {e : Ent} {dv : Value} (a : EntR h e dv) (k : K (.bool (!decide (okEnt e))) h) : Cn P n_tar_May_1 #[.agg (entC e dv).toArray] h K := by
  refine Cn_wk (F_tar_May_1 ?_)
  unfold s_tar_May_1
  refine aw_box fun r hr => ?_
  have hC : (Value.agg (entC e dv).toArray).cells.toList = entC e dv := rfl
  have hC2 : (Value.agg (entC e dv).toArray).cells.size = 5 := rfl
  rw [hC, hC2]
  have hz5 : sz P t_api_Entry = some (entC e dv).length := z_api_Entry
  rw [q_ldRow u_api_Entry rfl hz5 (Hp.set_same ..)]
  refine T_tarmay (a.mono (ext_set _ hr).cle) ?_
  simp -zeta only [GL]
  exact ⟨h, le_fresh hr, k⟩
theorem T_May {lv : Value} {l : List Ent} (a : LiR R lv l) (x : Hp.cle R h) (hl : l.length ≤ 9223372036854775807) (k : K (.bool (decide (l.length ≤ 256 ∧ ∀ e ∈ l, okEnt e))) h) : Cn P n_tar_May #[lv] h K := by
  refine Cn_wk (F_tar_May ?_)
  unfold s_tar_May
  obtain ⟨a0, c, rfl, hc⟩ := a.shape
  have d1 : decide (((l.length : Nat) : Int) ≤ 256) = decide (l.length ≤ 256) := by rw [decide_eq_decide]; omega
  simp -zeta only [GL, RL, d1]
  by_cases g : l.length ≤ 256
  · simp -zeta only [g, decide_true, if_true]
    refine F_slices_ContainsFunc_api_Entry_api_Entry ?_
    unfold s_slices_ContainsFunc_api_Entry_api_Entry
    refine F_slices_IndexFunc_api_Entry_api_Entry ?_
    unfold s_slices_IndexFunc_api_Entry_api_Entry
    simp -zeta only [RL]
    refine Lp_mk (fun m vs H => ∃ i : Nat, i + m = l.length ∧ H = h ∧ (∀ j e, j < i → l[j]? = some e → okEnt e) ∧ vs = [.int .i64 0, .int .i64 (i : Int)]) l.length ⟨0, by omega, rfl, fun j e hj => by omega, rfl⟩ ?_
    rintro m vs H ⟨i, hi, rfl, hj, rfl⟩
    simp -zeta only [GL, List.getD_cons_zero, List.getD_cons_succ, lt_dec]
    by_cases hlt : i < l.length
    · simp -zeta only [hlt, decide_true, if_true]
      have he : l[i]? = some l[i] := List.getElem?_eq_getElem hlt
      refine q_el a x he fun p dv en _ => ?_
      refine callP_cn (by kernel_rfl) ?_
      show Cn P n_tar_May_1 #[.agg (entC l[i] dv).toArray] H _
      refine T_May1 (en.mono x) ?_
      by_cases ok : okEnt l[i]
      · have w1 : IntKind.i64.wrap ((i : Int) + 1) = ((i + 1 : Nat) : Int) := by rw [wi64 (by omega) (by omega)]; omega
        simp -zeta only [ok, decide_true, Bool.not_true, GL, Bool.false_eq_true, if_false, w1]
        refine ⟨H, .refl _, m - 1, by omega, i + 1, by omega, rfl, fun j e hj2 he2 => ?_, rfl⟩
        by_cases q : j = i
        · subst q
          rw [he] at he2
          cases he2
          exact ok
        · exact hj j e (by omega) he2
      · have d2 : decide ((0 : Int) ≤ (i : Int)) = true := decide_eq_true (by omega)
        simp -zeta only [ok, decide_false, Bool.not_false, GL, if_true, d2, Bool.not_true]
        have : decide (l.length ≤ 256 ∧ ∀ e ∈ l, okEnt e) = false := decide_eq_false fun q => ok (q.2 _ (List.getElem_mem hlt))
        rw [this] at k
        exact ⟨H, .refl _, k⟩
    · simp -zeta only [hlt, decide_false, Bool.false_eq_true, if_false, GL, show decide ((0 : Int) ≤ -1) = false from rfl, Bool.not_false]
      have : decide (l.length ≤ 256 ∧ ∀ e ∈ l, okEnt e) = true := decide_eq_true ⟨g, fun e he => by
        obtain ⟨j, hj2, rfl⟩ := List.mem_iff_getElem.1 he
        exact hj j _ (by omega) (List.getElem?_eq_getElem hj2)⟩
      rw [this] at k
      exact ⟨H, .refl _, k⟩
  · simp -zeta only [g, decide_false, Bool.false_eq_true, if_false]
    have : decide (l.length ≤ 256 ∧ ∀ e ∈ l, okEnt e) = false := decide_eq_false fun q => g q.1
    rw [this] at k
    exact ⟨h, .refl _, k⟩
theorem T_record {name value : List Nat} (bn : Bytes name) (bv : Bytes value) (h1 : 97 ≤ name.length + value.length) (h2 : name.length + value.length ≤ 4990) (hP : Pow h) (k : K (.string (strL (recP name value))) h) :
    Cn P n_tar_record #[.string (strL name), .string (strL value)] h K := by
  refine Cn_wk (F_tar_record ?_)
  unfold s_tar_record
  have s32 : (⟨#[32]⟩ : ByteArray) = strL [32] := rfl
  have s61 : (⟨#[61]⟩ : ByteArray) = strL [61] := rfl
  have s10 : (⟨#[10]⟩ : ByteArray) = strL [10] := rfl
  have bl : (recBody name value).length = name.length + value.length + 3 := by simp [recBody]; omega
  rw [s32, q_addSt _ _ (by simp; omega), s61, q_addSt _ _ (by simp; omega), q_addSt _ _ (by simp; omega), s10, q_addSt _ _ (by simp; omega)]
  have eb : [32] ++ name ++ [61] ++ value ++ [10] = recBody name value := rfl
  rw [eb, q_lenSt u_string]
  have er : recP name value = asc (dig 10 (recN (recBody name value).length 30 ((recBody name value).length + 1))) ++ recBody name value := rfl
  obtain ⟨sp1, sp2⟩ := recN_spec (k := (recBody name value).length) (by omega) (by omega)
  rw [er] at k
  generalize hN : recN (recBody name value).length 30 ((recBody name value).length + 1) = N at *
  have w1 : IntKind.i64.wrap (((recBody name value).length : Int) + 1) = (((recBody name value).length + 1 : Nat) : Int) := by rw [wi64 (by omega) (by omega)]; omega
  simp -zeta only [GL, w1]
  have dp := digF_pos 10 N N
  have hk1 : (recBody name value).length + 1 ≤ N := by
    have : 0 < (dig 10 N).length := dp
    omega
  refine Lp_mk (fun m vs H => H = h ∧ ∃ n : Nat, vs = [.int .i64 (n : Int)] ∧ recN (recBody name value).length m n = N ∧ n ≤ N) 30 ⟨rfl, _, rfl, hN, hk1⟩ ?_
  rintro m vs H ⟨rfl, n, rfl, hn, hnN⟩
  simp -zeta only [GL, List.getD_cons_zero]
  refine T_Itoa hP (by omega) ?_
  have ld := dig_len 6 n (by omega)
  rw [q_lenSt u_string, asc_len, q_lenSt u_string]
  have w2 : IntKind.i64.wrap (((dig 10 n).length : Int) + ((recBody name value).length : Int)) = (((dig 10 n).length + (recBody name value).length : Nat) : Int) := by rw [wi64 (by omega) (by omega)]; omega
  have d1 : ((((dig 10 n).length + (recBody name value).length : Nat) : Int) != (n : Int)) = decide ((dig 10 n).length + (recBody name value).length ≠ n) := ne_dec _ _
  simp -zeta only [GL, w2, d1]
  by_cases g : (dig 10 n).length + (recBody name value).length = n
  · simp -zeta only [g, ne_eq, not_true_eq_false, decide_false, Bool.false_eq_true, if_false]
    have : n = N := by
      cases m with
      | zero => exact hn
      | succ m => rw [recN, if_pos g] at hn; exact hn
    subst this
    refine T_Itoa hP (by omega) ?_
    rw [q_addSt _ _ (by rw [asc_len]; omega)]
    exact ⟨H, .refl _, k⟩
  · simp -zeta only [g, ne_eq, not_false_eq_true, decide_true, if_true]
    have nN : n ≠ N := fun q => g (by rw [q]; exact sp1)
    cases m with
    | zero => exact absurd hn nN
    | succ m =>
      rw [recN, if_neg g] at hn
      have w3 : IntKind.i64.wrap ((n : Int) + 1) = ((n + 1 : Nat) : Int) := by rw [wi64 (by omega) (by omega)]; omega
      simp -zeta only [w3]
      exact ⟨H, .refl _, m, by omega, rfl, n + 1, rfl, hn, by omega⟩
theorem T_more {e : Ent} {dv : Value} (a : EntR h e dv) (ok : okEnt e) (hP : Pow h) (k : K (.string (strL (moreP e))) h) : Cn P n_tar_more #[.agg (entC e dv).toArray] h K := by
  refine Cn_wk (F_tar_more ?_)
  unfold s_tar_more
  obtain ⟨⟨o1, _⟩, ⟨o2, _⟩, _⟩ := ok
  have bp : Bytes pathS := by unfold Bytes pathS; decide
  have bk : Bytes linkS := by unfold Bytes linkS; decide
  have sp : (⟨#[112, 97, 116, 104]⟩ : ByteArray) = strL pathS := rfl
  have sk : (⟨#[108, 105, 110, 107, 112, 97, 116, 104]⟩ : ByteArray) = strL linkS := rfl
  refine aw_box fun r hr => ?_
  have hC : (Value.agg (entC e dv).toArray).cells.toList = entC e dv := rfl
  have hC2 : (Value.agg (entC e dv).toArray).cells.size = 5 := rfl
  rw [hC, hC2]
  have x0 := ext_set (.row t_api_Entry (entC e dv) 5 (some (0, 0))) hr
  obtain ⟨c0, c1, c2, c3, c4⟩ := entB (h := h.set r (.row t_api_Entry (entC e dv) 5 (some (0, 0)))) (o := 0) (A := []) (B := []) (e := e) (dv := dv) (by rw [Hp.set_same, List.nil_append, List.append_nil]) rfl
  rw [Nat.zero_add] at c1 c2 c3 c4
  have le0 := x0.le
  generalize h.set r (.row t_api_Entry (entC e dv) 5 (some (0, 0))) = H at *
  replace hP := hP.mono x0.cle
  have rl : ∀ nm v : List Nat, nm.length ≤ 8 → 3 < nm.length → v.length ≤ 1000 → 100 < v.length → (recP nm v).length ≤ 2000 := fun nm v a1 a3 a2 a4 => by
    have hb : (recBody nm v).length = nm.length + v.length + 3 := by simp [recBody]; omega
    have := (recN_spec (k := (recBody nm v).length) (by omega) (by omega)).2
    have e2 := recP_len (name := nm) (value := v) (by omega) (by omega)
    omega
  intro J3
  have q3 : ∀ s : List Nat, s.length ≤ 2000 → s ++ (if 100 < e.link.length then recP linkS e.link else []) = moreP e → J3 (.string (strL s)) H := by
    intro s hs hm
    simp -zeta only [J3]
    clear J3
    simp -zeta only [ef3, Nat.zero_add, RL, GL, c3]
    rw [strL_size]
    have d1 : decide ((100 : Int) < ((e.link.length : Nat) : Int)) = decide (100 < e.link.length) := by rw [decide_eq_decide]; omega
    rw [d1]
    by_cases g : 100 < e.link.length
    · rw [if_pos g] at hm
      rw [if_pos (decide_eq_true g), sk]
      refine T_record bk a.bl (by show 97 ≤ 8 + _; omega) (by show 8 + _ ≤ 4990; omega) hP ?_
      have := rl linkS e.link (by decide) (by decide) o2 g
      rw [q_addSt _ _ (by omega), hm]
      exact ⟨h, le0, k⟩
    · rw [if_neg g, List.append_nil] at hm
      rw [if_neg (by simpa using g), hm]
      exact ⟨h, le0, k⟩
  clear_value J3
  simp -zeta only [ef0, RL, GL, c0]
  rw [strL_size]
  have d1 : decide ((100 : Int) < ((e.name.length : Nat) : Int)) = decide (100 < e.name.length) := by rw [decide_eq_decide]; omega
  rw [d1]
  by_cases g : 100 < e.name.length
  · rw [if_pos (decide_eq_true g), sp]
    refine T_record bp a.bn (by show 97 ≤ 4 + _; omega) (by show 4 + _ ≤ 4990; omega) hP ?_
    have := rl pathS e.name (by decide) (by decide) o1 g
    rw [empS, q_addSt _ _ (by simp; omega), List.nil_append]
    exact q3 _ this (by rw [moreP, if_pos g])
  · rw [if_neg (by simpa using g), empS]
    exact q3 [] (by simp) (by rw [moreP, if_neg g])
theorem T_kind {e : Ent} {dv : Value} (k : K (.int .u8 ((kindP e : Nat) : Int)) h) : Cn P n_tar_kind #[.agg (entC e dv).toArray] h K := by
  refine Cn_wk (F_tar_kind ?_)
  unfold s_tar_kind
  refine aw_box fun r hr => ?_
  have hC : (Value.agg (entC e dv).toArray).cells.toList = entC e dv := rfl
  have hC2 : (Value.agg (entC e dv).toArray).cells.size = 5 := rfl
  rw [hC, hC2]
  obtain ⟨c0, c1, c2, c3, c4⟩ := entB (h := h.set r (.row t_api_Entry (entC e dv) 5 (some (0, 0)))) (o := 0) (A := []) (B := []) (e := e) (dv := dv) (by rw [Hp.set_same, List.nil_append, List.append_nil]) rfl
  rw [Nat.zero_add] at c1
  have e2 : (e.kind == 2) = decide (e.kind = 2) := by rw [Bool.eq_iff_iff, beq_iff_eq, decide_eq_true_eq]
  have e3 : (e.kind == 3) = decide (e.kind = 3) := by rw [Bool.eq_iff_iff, beq_iff_eq, decide_eq_true_eq]
  simp -zeta only [ef1, Nat.zero_add, RL, GL, c1, e2, e3]
  unfold kindP at k
  by_cases g : e.kind = 2
  · rw [if_pos g] at k
    rw [if_pos (decide_eq_true g)]
    exact ⟨h, le_fresh hr, k⟩
  · rw [if_neg g] at k
    rw [if_neg (by simpa using g)]
    by_cases g2 : e.kind = 3
    · rw [if_pos g2] at k
      rw [if_pos (decide_eq_true g2)]
      exact ⟨h, le_fresh hr, k⟩
    · rw [if_neg g2] at k
      rw [if_neg (by simpa using g2)]
      exact ⟨h, le_fresh hr, k⟩
end
end Go.Proofs.YtflfhbnflcfmgaaGreatDoor
set_option linter.unusedSimpArgs false
set_option linter.unusedVariables false
set_option maxRecDepth 100000
set_option maxHeartbeats 1000000
namespace Go.Proofs.YtflfhbnflcfmgaaGreatDoor
open Go Go.SL Go.Pure Go.Tar
/-- What was made ahead of a new row is forgotten. -/
theorem New.back {h H h' : Hp} {e s k : Nat} {v : Value} {xs : List Value} (n : New H e s v h' xs k) (l : Hp.le h H) : ∃ h0, Hp.le h0 h' ∧ New h e s v h0 xs k := by
  obtain ⟨a, ⟨rfl, rfl, rfl⟩ | ⟨b, c, f, hb, hc, rfl, rfl, hf⟩⟩ := n
  · exact ⟨h, l, a, .inl ⟨rfl, rfl, rfl⟩⟩
  · exact ⟨h.set b (.row e xs (c * s) (some f)), le_set l, a, .inr ⟨b, c, f, le_none l hb, hc, rfl, rfl, hf⟩⟩
theorem lit3T {a b c : Value} (ha : flat a = true) (hb : flat b = true) (hc : flat c = true) : ∀ p ∈ [((0 : Nat), a), (1, b), (2, c)], flat p.2 = true ∧ p.1 < 3 := by
  intro p hp
  simp only [List.mem_cons, List.not_mem_nil, or_false] at hp
  rcases hp with rfl | rfl | rfl
  · exact ⟨ha, by show 0 < 3; omega⟩
  · exact ⟨hb, by show 1 < 3; omega⟩
  · exact ⟨hc, by show 2 < 3; omega⟩
theorem parts3T {h h' : Hp} {v a b c : Value} {x y z : List Nat} (n : New h t_Sl_uint8 1 v h' [a, b, c] 3) (ra : Rn h .u8 a x) (rb : Rn h .u8 b y) (rc : Rn h .u8 c z) : Parts h' v [x, y, z] := by
  obtain ⟨b1, cc, f, hb1, hc, rfl, hh, _⟩ := n.form (by omega)
  refine ⟨b1, 0, cc, rfl, hc, fun i hi => ?_⟩
  have e : h' b1 = some (.row t_Sl_uint8 [a, b, c] (cc * 1) (some f)) := by rw [hh]; exact Hp.set_same ..
  have : i = 0 ∨ i = 1 ∨ i = 2 := by simp at hi; omega
  rcases this with rfl | rfl | rfl
  · exact ⟨a, by rw [cell_row e]; rfl, ra.mono n.cle⟩
  · exact ⟨b, by rw [cell_row e]; rfl, rb.mono n.cle⟩
  · exact ⟨c, by rw [cell_row e]; rfl, rc.mono n.cle⟩
theorem bodyP_take {l : List Ent} {i : Nat} (h : i < l.length) : bodyP (l.take (i + 1)) = bodyP (l.take i) ++ oneP l[i] := by
  unfold bodyP
  rw [List.take_succ_eq_append_getElem h]
  simp only [List.map_append, List.flatten_append, List.map_cons, List.map_nil, List.flatten_cons, List.flatten_nil, List.append_nil]
theorem bodyP_le (l : List Ent) (i : Nat) : (bodyP (l.take i)).length ≤ (bodyP l).length := by
  have : bodyP l = bodyP (l.take i) ++ bodyP (l.drop i) := by
    unfold bodyP
    rw [← List.flatten_append, ← List.map_append, List.take_append_drop]
  rw [this, List.length_append]
  omega
section
variable {R h : Hp} {K : Value → Hp → Prop}
theorem T_filled {v : Value} {l : List Nat} (rv : Rn h .u8 v l) (hl : l.length ≤ 1073741824) (k : ∀ r h', Nn h t_uint8 .u8 r h' (fillP l) → K r h') : Cn P n_tar_filled #[v] h K := by
  refine F_tar_filled ?_
  unfold s_tar_filled
  refine T_Clone rv (by omega) fun r h1 n1 => ?_
  obtain ⟨a, c, rfl, hc⟩ := rv.shape
  have w1 : ((l.length : Nat) : Int).tmod 512 = ((l.length % 512 : Nat) : Int) := by rw [Int.tmod_eq_emod_of_nonneg (by omega)]; omega
  have w2 : IntKind.i64.wrap (512 - ((l.length % 512 : Nat) : Int)) = ((512 - l.length % 512 : Nat) : Int) := by rw [wi64 (by omega) (by omega)]; omega
  have w3 : ((512 - l.length % 512 : Nat) : Int).tmod 512 = (((512 - l.length % 512) % 512 : Nat) : Int) := by rw [Int.tmod_eq_emod_of_nonneg (by omega)]; omega
  simp -zeta (disch := decide) only [GL, RL, w1, w2, w3]
  refine aw_grow u_Sl_uint8 u_int nfo_uint8 rfl rfl (by decide) n1 (by omega) (.refl _) fun v' h'' n2 => k v' h'' ?_
  unfold Nn fillP
  rw [nv_app, ← replicate_nv, List.length_append, List.length_replicate]
  exact n2
theorem T_Write {lv : Value} {l : List Ent} (a : LiR R lv l) (x : Hp.cle R h) (hl : l.length ≤ 9223372036854775807) (hP : Pow h) (hB : Bru h) (kA : ¬ (l.length ≤ 256 ∧ ∀ e ∈ l, okEnt e) → K (.tuple #[.slice none 0 0, .int .i64 1]) h)
    (kW : (l.length ≤ 256 ∧ ∀ e ∈ l, okEnt e) → (writeP l).length ≤ 1048576 ∧ ∀ r h', Nn h t_uint8 .u8 r h' (writeP l) → K (.tuple #[r, .int .i64 0]) h') : Cn P n_tar_Write #[lv] h K := by
  refine Cn_wk (F_tar_Write ?_)
  unfold s_tar_Write
  refine T_May a x hl ?_
  obtain ⟨a0, c, rfl, hc⟩ := a.shape
  by_cases g : l.length ≤ 256 ∧ ∀ e ∈ l, okEnt e
  · obtain ⟨hsz, kW⟩ := kW g
    have hw : (writeP l).length = (bodyP l).length + 1024 := by rw [writeP, List.length_append, List.length_replicate]
    simp -zeta only [g.1, true_and, decide_true, show (decide (∀ e ∈ l, okEnt e)) = true from decide_eq_true g.2, GL, Bool.not_true, Bool.false_eq_true, if_false, RL]
    refine Lp_mk (fun m vs H => ∃ (i : Nat) (out : Value), i + m = l.length ∧ Nn h t_uint8 .u8 out H (bodyP (l.take i)) ∧ vs = [out, .slice none 0 0, .int .i64 0, .int .i64 (i : Int)]) l.length
      ⟨0, .slice none 0 0, by omega, Nn.nil .., rfl⟩ ?_
    rintro m vs H ⟨i, out, hi, n, rfl⟩
    simp -zeta only [GL, List.getD_cons_zero, List.getD_cons_succ, lt_dec]
    have lout := bodyP_le l i
    by_cases hlt : i < l.length
    · simp -zeta only [hlt, decide_true, if_true]
      have he : l[i]? = some l[i] := List.getElem?_eq_getElem hlt
      have ok := g.2 _ (List.getElem_mem hlt)
      have hnx := bodyP_take hlt
      have lnx := bodyP_le l (i + 1)
      refine q_el a (x.trans n.cle) he fun p dv en _ => ?_
      generalize l[i] = e at *
      replace en := en.mono (x.trans n.cle)
      refine aw_allocL [.string ⟨#[]⟩, .int .i64 0, .int .i64 0, .string ⟨#[]⟩, .slice none 0 0] zr_En rfl fun r6 hr6 => ?_
      have hz5 : sz P t_api_Entry = some (entC e dv).length := z_api_Entry
      refine aw_storeRow (ys := entC e dv) hz5 (Hp.set_same ..) rfl (entC_flat en) (fun i _ => by simp) ?_
      rw [Hp.set_set]
      have x1 := ext_set (.row t_api_Entry (entC e dv) 5 (some (0, 0))) hr6
      have row1 : (H.set r6 (.row t_api_Entry (entC e dv) 5 (some (0, 0)))) r6 = some (.row t_api_Entry (entC e dv) 5 (some (0, 0))) := Hp.set_same ..
      have e5 : ([Value.string ⟨#[]⟩, .int .i64 0, .int .i64 0, .string ⟨#[]⟩, .slice none 0 0] : List Value).length = 5 := rfl
      rw [e5]
      generalize H.set r6 (.row t_api_Entry (entC e dv) 5 (some (0, 0))) = H1 at *
      have en1 := en.mono x1.cle
      have rout : Rn H1 .u8 out (bodyP (l.take i)) := n.rn.mono x1.cle
      have xh1 : Hp.ext h H1 := n.ext.trans x1
      have hP1 := hP.mono xh1.cle
      have hB1 := hB.mono xh1.cle
      obtain ⟨ok1, ok2, ok3, ok4, ok5, ok6⟩ := id ok
      have em : e.mode = ((e.mode.toNat : Nat) : Int) := by omega
      obtain ⟨ad, cd, rfl, hcd⟩ := en1.rd.shape
      have cells : ∀ G, Hp.ext H1 G → G.cell ⟨r6, 0, none⟩ = some (.string (strL e.name)) ∧ G.cell ⟨r6, 1, none⟩ = some (.int .i64 e.mode) ∨ True := fun _ _ => .inr trivial
      have cB := fun G (xg : Hp.ext H1 G) => entB (h := G) (o := 0) (A := []) (B := []) (e := e) (dv := .slice ad e.data.length cd) (by rw [xg _ _ row1, List.nil_append, List.append_nil]) rfl
      simp only [Nat.zero_add] at cB
      intro J13
      have q13 : ∀ t4 H2 X, Hp.ext H1 H2 → Rn H2 .u8 t4 X → X ++ headP e.name e.mode.toNat e.data.length (kindP e) e.link ++ fillP e.data = bodyP (l.take (i + 1)) → J13 t4 H2 := by
        intro t4 H2 X x2 r4 hX
        simp -zeta only [J13]
        clear J13
        obtain ⟨d0, _, d2, d3, d4⟩ := cB H2 x2
        have fK : ∀ (G : Hp) (K : Value → Prop), q P G (Instr.fieldAt t_api_Entry (.pointer (some ⟨r6, 0, none⟩)) 2) K = K (.pointer (some ⟨r6, 2, none⟩)) := fun G K => by rw [ef2]
        simp -zeta only [ef0, ef2, ef3, ef4, Nat.zero_add, RL, GL, d0, d2, d3, d4]
        rw [q_ldRow u_api_Entry rfl hz5 (x2 _ _ row1)]
        refine T_kind ?_
        refine ⟨pk_of fun K => by simp only [RL, d4, GL], pk_of fun K => by rw [ef4], pk_of fun K => by simp only [RL, d3, GL], pk_of fun K => by rw [ef3], pk_of fun K => by simp only [RL], pk_of fun K => by simp only [RL, d4, GL], pk_of fun K => by rw [ef4], pk_of fun K => by simp only [RL, d2, GL], pk_of fun K => by rw [ef2], pk_of fun K => by simp only [RL, d0, GL], pk_of fun K => by rw [ef0], ?_⟩
        have ld := en1.ld
        have l6 : e.data.length ≤ 1048576 := by
          have hh := congrArg List.length hX
          rw [List.length_append, List.length_append, fill_len] at hh
          omega
        rw [em]
        refine T_head en1.bn en1.bl (kind_cases ok).2.2 (by have := ok1.1; omega) (by have := ok2.1; omega) (by omega) (by omega) (hB1.mono x2.cle) fun hv H3 n3 => ?_
        have x3 := x2.trans n3.ext
        obtain ⟨_, _, _, _, g4⟩ := cB H3 x3
        refine ⟨pk_of fun K => by simp only [RL, g4, GL], pk_of fun K => by rw [ef4], ?_⟩
        refine T_filled (en1.rd.mono x3.cle) (by omega) fun fv H4 n4 => ?_
        refine aw_lit (n := 3) (ps := [(0, t4), (1, hv), (2, fv)]) u_Sl_Sl_uint8 z_Sl_uint8 zr_Sl_uint8 rfl (by omega) (lit3T (rn_flat r4) (rn_flat n3.rn) (rn_flat n4.rn)) fun pv H5 n5 _ => ?_
        have n5' : New H4 t_Sl_uint8 1 pv H5 [t4, hv, fv] 3 := by simpa [fillL] using n5
        have hparts := parts3T n5' ((r4.mono n3.cle).mono n4.cle) (n3.rn.mono n4.cle) n4.rn
        have ef : [X, headP e.name e.mode.toNat e.data.length (kindP e) e.link, fillP e.data].flatten = bodyP (l.take (i + 1)) := by rw [← hX]; simp
        refine T_Concat hparts (by rw [ef]; omega) (by simp) fun cv H6 n6 => ?_
        rw [ef] at n6
        obtain ⟨ac, cc, rfl, _⟩ := n6.rn.shape
        have dg : decide ((1048576 : Int) < (((bodyP (l.take (i + 1))).length : Nat) : Int)) = false := decide_eq_false (by omega)
        have w1 : IntKind.i64.wrap ((i : Int) + 1) = ((i + 1 : Nat) : Int) := by rw [wi64 (by omega) (by omega)]; omega
        simp -zeta only [RL, GL, dg, Bool.false_eq_true, if_false, w1]
        have xx : Hp.ext h H5 := ((xh1.trans x3).trans n4.ext).trans n5'.ext
        obtain ⟨h0, le0, nn⟩ := New.back n6 xx.le
        exact ⟨h0, le0, m - 1, by omega, i + 1, _, by omega, nn, rfl⟩
      clear_value J13
      rw [q_ldRow u_api_Entry rfl hz5 row1]
      refine T_more en1 ok hP1 ?_
      have bm : Bytes (moreP e) := by
        unfold moreP
        have br : ∀ nm v : List Nat, Bytes nm → Bytes v → Bytes (recP nm v) := fun nm v b1 b2 => by
          refine Bytes.append (asc_bytes fun x hx => dig_lt (by decide) _ x hx) ?_
          unfold recBody
          refine (((Bytes.append ?_ b1).append ?_).append b2).append ?_ <;> (intro x hx; rw [List.mem_singleton.1 hx]; decide)
        have bp : Bytes pathS := by unfold Bytes pathS; decide
        have bk : Bytes linkS := by unfold Bytes linkS; decide
        have en' : Bytes ([] : List Nat) := by intro x hx; cases hx
        refine Bytes.append ?_ ?_
        · split
          · exact br _ _ bp en1.bn
          · exact en'
        · split
          · exact br _ _ bk en1.bl
          · exact en'
      have en' : Bytes ([] : List Nat) := by intro x hx; cases hx
      have ml := more_len ok
      have eo : oneP e = (if moreP e ≠ [] then headP paxS 0 (moreP e).length 120 [] ++ fillP (moreP e) else []) ++ headP e.name e.mode.toNat e.data.length (kindP e) e.link ++ fillP e.data := rfl
      rw [empS, q_neqSt _ _ bm en']
      by_cases z : moreP e = []
      · rw [if_neg (by simpa using z), List.nil_append] at eo
        simp -zeta only [GL, z, ne_eq, not_true_eq_false, decide_false, Bool.false_eq_true, if_false]
        exact q13 out H1 _ (.refl _) rout (by rw [hnx, eo, List.append_assoc])
      · rw [if_pos z] at eo
        simp -zeta only [GL, z, ne_eq, not_false_eq_true, decide_true, if_true]
        have sx : (⟨#[112, 97, 120]⟩ : ByteArray) = strL paxS := rfl
        rw [q_lenSt u_string, sx]
        refine T_head (mode := 0) bytes_paxS en' (by decide) (by decide) (by decide) (by decide) (by omega) hB1 fun hv H3 n3 => ?_
        refine aw_stB u_string u_Sl_uint8 u_uint8 bm fun mv H4 n4 => ?_
        have n4' : Nn H3 t_uint8 .u8 mv H4 (moreP e) := n4
        refine T_filled n4'.rn (by omega) fun fv H5 n5 => ?_
        have rt := ((rout.mono n3.cle).mono n4'.cle).mono n5.cle
        refine aw_lit (n := 3) (ps := [(0, out), (1, hv), (2, fv)]) u_Sl_Sl_uint8 z_Sl_uint8 zr_Sl_uint8 rfl (by omega) (lit3T (rn_flat rout) (rn_flat n3.rn) (rn_flat n5.rn)) fun pv H6 n6 _ => ?_
        have n6' : New H5 t_Sl_uint8 1 pv H6 [out, hv, fv] 3 := by simpa [fillL] using n6
        have hparts := parts3T n6' rt ((n3.rn.mono n4'.cle).mono n5.cle) n5.rn
        have hfx : ([bodyP (l.take i), headP paxS 0 (moreP e).length 120 [], fillP (moreP e)].flatten).length ≤ 1048576 := by
          have hh := congrArg List.length hnx
          rw [eo] at hh
          simp only [List.length_append] at hh
          simp only [List.flatten_cons, List.flatten_nil, List.length_append, List.length_nil]
          omega
        refine T_Concat hparts (Nat.le_trans hfx (by decide)) (by simp) fun cv H7 n7 => ?_
        refine q13 cv H7 _ ((((n3.ext.trans n4'.ext).trans n5.ext).trans n6'.ext).trans n7.ext) n7.rn ?_
        rw [hnx, eo]
        simp
    · have : i = l.length := by omega
      subst this
      rw [List.take_length] at n
      simp -zeta only [hlt, decide_false, Bool.false_eq_true, if_false]
      obtain ⟨ao, co, rfl, _⟩ := n.rn.shape
      have w1 : IntKind.i64.wrap ((((bodyP l).length : Nat) : Int) + 1024) = (((bodyP l).length + 1024 : Nat) : Int) := by rw [wi64 (by omega) (by omega)]; omega
      have dg : decide ((1048576 : Int) < (((bodyP l).length + 1024 : Nat) : Int)) = false := decide_eq_false (by omega)
      simp -zeta only [RL, GL, w1, dg, Bool.false_eq_true, if_false]
      have i1024 : (1024 : Int) = ((1024 : Nat) : Int) := rfl
      rw [i1024]
      refine aw_grow u_Sl_uint8 u_int nfo_uint8 rfl rfl (by decide) n (by omega) (.refl _) fun v' h'' n2 => ⟨h'', .refl _, kW v' h'' ?_⟩
      unfold Nn writeP
      rw [nv_app, ← replicate_nv, List.length_append, List.length_replicate]
      exact n2
  · have : decide (l.length ≤ 256 ∧ ∀ e ∈ l, okEnt e) = false := decide_eq_false g
    rw [this]
    simp -zeta only [GL, Bool.not_false, if_true]
    exact ⟨h, .refl _, kA g⟩
end
end Go.Proofs.YtflfhbnflcfmgaaGreatDoor
set_option linter.unusedSimpArgs false
set_option linter.unusedVariables false
set_option maxRecDepth 100000
set_option maxHeartbeats 1000000
namespace Go.Tar
theorem Ent.ext' {a b : Ent} (h : a.name = b.name ∧ a.kind = b.kind ∧ a.mode = b.mode ∧ a.link = b.link ∧ a.data = b.data) : a = b := by
  cases a; cases b
  obtain ⟨h1, h2, h3, h4, h5⟩ := h
  dsimp only at h1 h2 h3 h4 h5
  subst h1 h2 h3 h4 h5
  rfl
instance : DecidableEq Ent := fun a b => decidable_of_iff (a.name = b.name ∧ a.kind = b.kind ∧ a.mode = b.mode ∧ a.link = b.link ∧ a.data = b.data) ⟨Ent.ext', fun h => by rw [h]; exact ⟨rfl, rfl, rfl, rfl, rfl⟩⟩
end Go.Tar
namespace Go.Proofs.YtflfhbnflcfmgaaGreatDoor
open Go Go.SL Go.Pure Go.Tar
theorem LiR.at {R : Hp} {lv : Value} {l : List Ent} (a : LiR R lv l) {i : Nat} {e : Ent} (he : l[i]? = some e) :
    ∃ b o dv, EntR R e dv ∧ (∀ (H : Hp) (K : Value → Prop), q P H (Instr.indexAt t_Sl_api_Entry lv (.int .i64 (i : Int))) K = K (.pointer (some ⟨b, o, none⟩))) ∧
      R.cell ⟨b, o, none⟩ = some (.string (strL e.name)) ∧ R.cell ⟨b, o + 1, none⟩ = some (.int .i64 e.kind) ∧ R.cell ⟨b, o + 2, none⟩ = some (.int .i64 e.mode) ∧ R.cell ⟨b, o + 3, none⟩ = some (.string (strL e.link)) ∧ R.cell ⟨b, o + 4, none⟩ = some dv := by
  obtain ⟨ps, rfl, ⟨hl, a0, c, rfl, hc, hr⟩, en⟩ := a
  rw [List.getElem?_map, Option.map_eq_some_iff] at he
  obtain ⟨p, hp, rfl⟩ := he
  have hi : i < ps.length := (List.getElem?_eq_some_iff.1 hp).1
  rcases hr with h0 | ⟨b, o, rfl, hy⟩
  · omega
  · have cl : ∀ j y, j < 5 → (entC p.1 p.2)[j]? = some y → R.cell ⟨b, o + i * 5 + j, none⟩ = some y := fun j y hj ey => by
      rw [Nat.add_assoc]
      exact hy _ _ (by rw [cellsP_get hp j hj]; exact ey)
    refine ⟨b, o + i * 5, p.2, en p (List.mem_of_getElem? hp), fun H K => ?_, cl 0 _ (by decide) rfl, cl 1 _ (by decide) rfl, cl 2 _ (by decide) rfl, cl 3 _ (by decide) rfl, cl 4 _ (by decide) rfl⟩
    rw [q_idxS u_Sl_api_Entry z_api_Entry _ _ _ _ _ (by omega) (by omega), Int.toNat_natCast, add_off]
theorem dec_int (a b : Int) : (a == b) = decide (a = b) := by rw [Bool.eq_iff_iff, beq_iff_eq, decide_eq_true_eq]
theorem bne_int (a b : Int) : (a != b) = !decide (a = b) := by rw [bne, dec_int]
section
variable {R h : Hp} {K : Value → Hp → Prop}
end
end Go.Proofs.YtflfhbnflcfmgaaGreatDoor
set_option linter.unusedSimpArgs false
set_option linter.unusedVariables false
set_option maxRecDepth 100000
set_option maxHeartbeats 1000000
namespace Go.Proofs.YtflfhbnflcfmgaaGreatDoor
open Go Go.SL Go.Pure Go.Tar
section
variable {R h : Hp} {K : Value → Hp → Prop}
theorem T_refSame {lv mv : Value} {l m : List Ent} (a : LiR R lv l) (b : LiR R mv m) (x : Hp.cle R h) (hl : l.length ≤ 9223372036854775807) (k : K (.bool (decide (l = m))) h) : Cn P n_orlopref19_Same #[lv, mv] h K := by
  refine Cn_wk (F_orlopref19_Same ?_)
  unfold s_orlopref19_Same
  obtain ⟨xa, ca, ea, hca⟩ := a.shape
  obtain ⟨xb, cb, eb, hcb⟩ := b.shape
  have la : ∀ {H : Hp} {K : Value → Prop}, q P H (Builtin.len_ #[22] 3 #[lv]) K = K (.int .i64 (l.length : Nat)) := fun {H K} => by rw [ea]; simp only [RL]
  have lb : ∀ {H : Hp} {K : Value → Prop}, q P H (Builtin.len_ #[22] 3 #[mv]) K = K (.int .i64 (m.length : Nat)) := fun {H K} => by rw [eb]; simp only [RL]
  simp -zeta only [la, lb, GL, ne_dec]
  by_cases g : l.length = m.length
  · simp -zeta only [g, ne_eq, not_true_eq_false, decide_false, Bool.false_eq_true, if_false]
    refine Lp_mk (fun n vs H => ∃ i : Nat, i + n = l.length ∧ H = h ∧ (∀ j, j < i → l[j]? = m[j]?) ∧ vs = [.bool false, .int .i64 (i : Int)]) l.length ⟨0, by omega, rfl, fun j hj => by omega, rfl⟩ ?_
    rintro n vs H ⟨i, hi, rfl, hj, rfl⟩
    simp -zeta only [GL, List.getD_cons_zero, List.getD_cons_succ, lt_dec, la]
    by_cases hlt : i < l.length
    · have he : l[i]? = some l[i] := List.getElem?_eq_getElem hlt
      have hf : m[i]? = some (m[i]'(by omega)) := List.getElem?_eq_getElem (by omega)
      generalize l[i] = e at *
      generalize m[i]'(by omega) = f at *
      obtain ⟨b1, o1, dv, en, ix1, c0, c1, c2, c3, c4⟩ := a.at he
      obtain ⟨b2, o2, dv2, en2, ix2, d0, d1, d2, d3, d4⟩ := b.at hf
      replace en := en.mono x
      replace en2 := en2.mono x
      replace c0 := x _ _ c0
      replace c1 := x _ _ c1
      replace c2 := x _ _ c2
      replace c3 := x _ _ c3
      replace c4 := x _ _ c4
      replace d0 := x _ _ d0
      replace d1 := x _ _ d1
      replace d2 := x _ _ d2
      replace d3 := x _ _ d3
      replace d4 := x _ _ d4
      have bn1 := en.bn
      have bn2 := en2.bn
      have bl1 := en.bl
      have bl2 := en2.bl
      have no : e ≠ f → ∃ h0, Hp.le h0 H ∧ K (.bool false) h0 := fun q => ⟨H, .refl _, by
        have : decide (l = m) = false := decide_eq_false fun q2 => q (by rw [q2, hf] at he; injection he with he; exact he.symm)
        rw [this] at k; exact k⟩
      have hlt' : i < m.length := by omega
      simp -zeta only [hlt, hlt', decide_true, if_true, ix1, ix2, ef0, RL, GL, c0, d0]
      rw [q_neqSt _ _ bn1 bn2]
      by_cases g0 : e.name = f.name
      · simp -zeta only [g0, ne_eq, not_true_eq_false, decide_false, GL, if_true, ef1, ef2, ef3, ef4, RL, c1, d1, c2, d2, ix1, ix2, bne_int]
        by_cases g1 : e.kind = f.kind
        · simp -zeta only [g1, decide_true, Bool.not_true, if_true]
          by_cases g2 : e.mode = f.mode
          · simp -zeta only [g2, decide_true, Bool.not_true, if_true, c3, d3, GL]
            rw [q_neqSt _ _ bl1 bl2]
            by_cases g3 : e.link = f.link
            · simp -zeta only [g3, ne_eq, not_true_eq_false, decide_false, if_true, c4, d4, GL, ix1, ix2, ef4, RL]
              refine T_orlopref01_Equal en.rd en2.rd en.ld ?_
              have w1 : IntKind.i64.wrap ((i : Int) + 1) = ((i + 1 : Nat) : Int) := by rw [wi64 (by omega) (by omega)]; omega
              by_cases g4 : e.data = f.data
              · have ef := Ent.ext' ⟨g0, g1, g2, g3, g4⟩
                simp -zeta only [g4, decide_true, GL, Bool.not_true, Bool.false_eq_true, if_false, w1]
                refine ⟨H, .refl _, n - 1, by omega, i + 1, by omega, rfl, fun j hj2 => ?_, rfl⟩
                by_cases q : j = i
                · subst q; rw [he, hf, ef]
                · exact hj j (by omega)
              · simp -zeta only [g4, decide_false, GL, Bool.not_false, if_true]
                exact no fun q => g4 (by rw [q])
            · simp -zeta only [g3, ne_eq, not_false_eq_true, decide_true, GL, Bool.true_eq_false, if_false, if_true]
              exact no fun q => g3 (by rw [q])
          · simp -zeta only [g2, decide_false, Bool.not_false, GL, Bool.true_eq_false, if_false, if_true]
            exact no fun q => g2 (by rw [q])
        · simp -zeta only [g1, decide_false, Bool.not_false, GL, Bool.true_eq_false, if_false, if_true]
          exact no fun q => g1 (by rw [q])
      · simp -zeta only [g0, ne_eq, not_false_eq_true, decide_true, GL, Bool.true_eq_false, if_false, if_true]
        exact no fun q => g0 (by rw [q])
    · have hlt' : ¬ i < m.length := by omega
      simp -zeta only [hlt, hlt', decide_false, Bool.false_eq_true, if_false]
      have : decide (l = m) = true := decide_eq_true (List.ext_getElem? fun j => by
        rcases Nat.lt_or_ge j i with q | q
        · exact hj j q
        · rw [List.getElem?_eq_none (by omega), List.getElem?_eq_none (by omega)])
      rw [this] at k
      exact ⟨H, .refl _, k⟩
  · simp -zeta only [g, ne_eq, not_false_eq_true, decide_true, if_true]
    have : decide (l = m) = false := decide_eq_false fun q => g (by rw [q])
    rw [this] at k
    exact ⟨h, .refl _, k⟩
def e1 : Ent := { name := [97], kind := 1, mode := 0, link := [], data := [120] }
theorem e1_ok : okEnt e1 := by decide
theorem T_awake (w : Own R h []) (hP : Pow R) (hB : Bru R) (k : K (.bool true) h) : Cn P n_orloplaw19_awake #[] h K := by
  refine Cn_wk (F_orloplaw19_awake ?_)
  unfold s_orloplaw19_awake
  have l0 : LiR R (.slice none 0 0) [] := ⟨[], rfl, ⟨by simp [cellsP], none, 0, rfl, Nat.le_refl _, .inl rfl⟩, by intro p hp; cases hp⟩
  have en : Bytes ([] : List Nat) := by intro x hx; cases hx
  refine T_Write l0 w.sub.cle (by decide) (hP.mono w.sub.cle) (hB.mono w.sub.cle) (fun q => absurd ⟨by decide, by simp⟩ q) fun _ => ⟨by decide, fun r1 h1 n1 => ?_⟩
  have s1 : Stp R h R h1 [] [] := Stp.ext0 w n1.ext
  have lw1 : (writeP []).length = 1024 := by decide
  obtain ⟨a1, c1, rfl, _⟩ := n1.rn.shape
  rw [lw1, ext0, ext1]
  refine aw_lit (n := 1) (ps := [(0, .int .u8 120)]) u_Sl_uint8 z_uint8 zr_uint8 rfl (by omega) (by intro p hp; rw [List.mem_singleton.1 hp]; exact ⟨rfl, by show (0 : Nat) < 1; omega⟩) fun t7 h2 n2 q2 => ?_
  obtain ⟨b2, hb2, rfl, rfl⟩ := q2
  have ef : fillL [((0 : Nat), Value.int .u8 120)] (List.replicate 1 (.int .u8 0)) = [.int .u8 120] := rfl
  rw [ef] at n2 ⊢
  refine aw_mark hb2 rfl fun h3 n3 => ?_
  have n3' : Nn h1 t_uint8 .u8 (.slice (some ⟨b2, 0, none⟩) 1 1) h3 [120] := n3
  obtain ⟨R2, s2, r2⟩ := Stp.newN s1.own n3'
  have b1 : q P h3 (Instr.build t_api_Entry #[(0, .string ⟨#[97]⟩), (1, .int .i64 1), (4, .slice (some ⟨b2, 0, none⟩) 1 1)]) = fun K => K (.agg #[.string ⟨#[97]⟩, .int .i64 1, .int .i64 0, .string ⟨#[]⟩, .slice (some ⟨b2, 0, none⟩) 1 1]) := by
    funext K
    exact q_of (by kernel_rfl) K
  rw [b1]
  refine aw_litE _ _ _ _ _ _ _ fun v4 h4 n4 => ?_
  obtain ⟨R3, s3, r3⟩ := Stp.new s2.own n4
  have b120 : Bytes [120] := by intro x hx; rw [List.mem_singleton.1 hx]; decide
  have b97 : Bytes [97] := by intro x hx; rw [List.mem_singleton.1 hx]; decide
  have en1 : EntR R3 e1 (.slice (some ⟨b2, 0, none⟩) 1 1) := ⟨r2.mono s3.ext.cle, b97, en, b120, by decide, by decide, by decide⟩
  have li : LiR R3 v4 [e1] := ⟨[(e1, .slice (some ⟨b2, 0, none⟩) 1 1)], rfl, by rw [cellsP_one]; exact r3, by intro p hp; rw [List.mem_singleton.1 hp]; exact en1⟩
  have sA := (s1.trans s2).trans s3
  have ok1 : ([e1] : List Ent).length ≤ 256 ∧ ∀ e ∈ [e1], okEnt e := ⟨by decide, fun e he => by rw [List.mem_singleton.1 he]; exact e1_ok⟩
  have lw2 : (writeP [e1]).length = 2048 := by decide +kernel
  refine T_Write li s3.own.sub.cle (by decide) ((hP.mono sA.ext.cle).mono s3.own.sub.cle) ((hB.mono sA.ext.cle).mono s3.own.sub.cle) (fun q => absurd ok1 q) fun _ => ⟨by rw [lw2]; decide, fun r5 h5 n5 => ?_⟩
  obtain ⟨R5, s5, r5'⟩ := Stp.newN s3.own n5
  have sB := sA.trans s5
  obtain ⟨a5, c5, rfl, _⟩ := r5'.shape
  rw [lw2] at r5' ⊢
  have hrd : readP (writeP [e1]) = some [e1] := read_write (fun e he => by rw [List.mem_singleton.1 he]; exact ⟨e1_ok, ⟨b97, en, b120, by decide⟩⟩) (by decide)
  have bw : Bytes (writeP [e1]) := by unfold Bytes; decide +kernel
  rw [ext0, ext1]
  refine T_Read s5.own (hP.mono sB.ext.cle) r5' bw (by rw [lw2]; decide) (readE_of hrd) (fun q => by cases q) fun l hl R6 h6 lv s6 li6 => ?_
  injection hl with hl
  subst hl
  have sC := sB.trans s6
  rw [ext0, ext1]
  refine T_Read (b := []) (f := 1) (o := none) s6.own (hP.mono sC.ext.cle) (rn_nil _ .u8) en (by decide) rfl (fun _ R7 h7 s7 => ?_) (fun l q => by cases q)
  have sD := sC.trans s7
  rw [ext0, ext1]
  obtain ⟨a6, c6, ea6, _⟩ := li6.shape
  obtain ⟨b1', o1, dv, en6, ix1, d0, _⟩ := li6.at (i := 0) (e := e1) rfl
  have d0' := s7.own.sub.cle _ _ (s7.ext.cle _ _ d0)
  have ll : q P h7 (Builtin.len_ #[22] 3 #[lv]) = fun K => K (.int .i64 (([e1] : List Ent).length : Nat)) := by
    funext K
    rw [ea6]; simp only [RL]
  have s97 : (⟨#[97]⟩ : ByteArray) = strL e1.name := rfl
  have ix1' := ix1 h7
  have le7 : Hp.le h h7 := (show Hp.ext h h7 from fun b o e => sD.keep b o (by simp) e).le
  have i0 : (0 : Int) = ((0 : Nat) : Int) := rfl
  simp -zeta only [GL, RL, show ((0 : Int) == 0) = true from rfl, show ((((1024 : Nat) : Int)) == 1024) = true from rfl, show ((((2048 : Nat) : Int)) == 2048) = true from rfl, if_true, ll, show (((([e1] : List Ent).length : Nat) : Int) == 1) = true from rfl]
  rw [i0, ix1']
  simp -zeta only [ef0, RL, GL, d0']
  rw [s97, q_eqlSt (a := e1.name) (b := e1.name) _ _ b97 b97]
  simp -zeta only [decide_true, GL, if_true, show ((8 : Int) == 8) = true from rfl]
  exact ⟨h, le7, k⟩
end
end Go.Proofs.YtflfhbnflcfmgaaGreatDoor
set_option linter.unusedSimpArgs false
set_option linter.unusedVariables false
set_option maxRecDepth 100000
set_option maxHeartbeats 1000000
namespace Go.Proofs.YtflfhbnflcfmgaaGreatDoor
open Go Go.SL Go.Pure Go.Tar
/-- So many digits of base eight, the low ones. -/
def oct8 : Nat → Nat → List Nat
  | 0, _ => []
  | d + 1, v => oct8 d (v / 8) ++ [v % 8]
theorem oct8_len : ∀ d v, (oct8 d v).length = d
  | 0, _ => rfl
  | d + 1, v => by rw [oct8, List.length_append, oct8_len]; rfl
theorem oct8_lt : ∀ d v, ∀ x ∈ oct8 d v, x < 8
  | 0, _, x, h => by cases h
  | d + 1, v, x, h => by
    rw [oct8] at h
    rcases List.mem_append.1 h with q | q
    · exact oct8_lt d _ x q
    · rw [List.mem_singleton.1 q]; exact Nat.mod_lt _ (by decide)
theorem oct8_val : ∀ d v, v < 8 ^ d → valD 8 (oct8 d v) = v
  | 0, v, h => by
    have : v = 0 := by simpa using h
    subst this; rfl
  | d + 1, v, h => by
    rw [oct8, valD_app, oct8_val d (v / 8) (by rw [Nat.div_lt_iff_lt_mul (by decide), ← Nat.pow_succ]; exact h)]
    have : valD 8 [v % 8] = v % 8 := by simp [valD]
    rw [this, List.length_singleton, Nat.pow_one]
    omega
theorem oct8_head : ∀ d v, oct8 (d + 1) v = [v / 8 ^ d % 8] ++ oct8 d v
  | 0, v => by simp [oct8]
  | d + 1, v => by
    rw [oct8, oct8_head d (v / 8), Nat.div_div_eq_div_mul, Nat.mul_comm 8, ← Nat.pow_succ, List.append_assoc]
    rfl
theorem valD_inj : ∀ {l m : List Nat}, l.length = m.length → (∀ x ∈ l, x < 8) → (∀ x ∈ m, x < 8) → valD 8 l = valD 8 m → l = m := by
  intro l
  induction l with
  | nil => intro m h _ _ _; exact (List.eq_nil_of_length_eq_zero h.symm).symm
  | cons x l ih =>
    intro m h hl hm e
    cases m with
    | nil => simp at h
    | cons y m =>
      have e1 : x :: l = [x] ++ l := rfl
      have e2 : y :: m = [y] ++ m := rfl
      have hlen : l.length = m.length := by simpa using h
      rw [e1, e2, valD_app, valD_app, hlen] at e
      have v1 : valD 8 [x] = x := by simp [valD]
      have v2 : valD 8 [y] = y := by simp [valD]
      have b1 := valD_lt (b := 8) (by decide) l fun z hz => hl z (by simp [hz])
      have b2 := valD_lt (b := 8) (by decide) m fun z hz => hm z (by simp [hz])
      rw [v1, v2] at e
      rw [hlen] at b1
      have xy : x = y := by
        have p := Nat.pow_pos (n := m.length) (show 0 < 8 by decide)
        rcases Nat.lt_trichotomy x y with q | q | q
        · have : (x + 1) * 8 ^ m.length ≤ y * 8 ^ m.length := Nat.mul_le_mul_right _ q
          rw [Nat.add_mul, Nat.one_mul] at this
          omega
        · exact q
        · have : (y + 1) * 8 ^ m.length ≤ x * 8 ^ m.length := Nat.mul_le_mul_right _ q
          rw [Nat.add_mul, Nat.one_mul] at this
          omega
      subst xy
      rw [ih hlen (fun z hz => hl z (by simp [hz])) (fun z hz => hm z (by simp [hz])) (by omega)]
theorem oct8_D {v d : Nat} (h : v < 8 ^ d) : oct8 d v = octD v d :=
  valD_inj (by rw [oct8_len, octD_len]) (oct8_lt d v) (octD_lt v d) (by rw [oct8_val d v h, octD_val h])
section
variable {R h : Hp} {K : Value → Hp → Prop}
theorem T_text {l : List Nat} (hb : Bytes l) (hl : l.length ≤ 9223372036854775807) (k : K (.bool (decide (okText l))) h) : Cn P n_orlopref19_text #[.string (strL l)] h K := by
  refine Cn_wk (F_orlopref19_text ?_)
  unfold s_orlopref19_text
  have ln : ∀ {H : Hp} {K : Value → Prop}, q P H (Builtin.len_ #[9] 3 #[.string (strL l)]) K = K (.int .i64 (l.length : Nat)) := fun {H K} => q_lenSt u_string l
  refine Lp_mk (fun m vs H => ∃ i : Nat, i + m = l.length ∧ H = h ∧ (∀ j, j < i → l.getD j 0 ≠ 0) ∧ vs = [.bool false, .int .i64 (i : Int)]) l.length ⟨0, by omega, rfl, fun j hj => by omega, rfl⟩ ?_
  rintro m vs H ⟨i, hi, rfl, hj, rfl⟩
  simp -zeta only [GL, List.getD_cons_zero, List.getD_cons_succ, ln, lt_dec]
  by_cases hlt : i < l.length
  · simp -zeta only [hlt, decide_true, if_true]
    rw [q_idxSt u_string hb hlt]
    have e0 : (((l.getD i 0 : Nat) : Int) == 0) = decide (l.getD i 0 = 0) := eqNat _ 0
    simp -zeta only [GL, e0]
    by_cases z : l.getD i 0 = 0
    · simp -zeta only [z, decide_true, if_true]
      have : decide (okText l) = false := decide_eq_false fun q => q.2 (by rw [← z]; exact getD_memB hlt)
      rw [this] at k
      exact ⟨H, .refl _, k⟩
    · have w1 : IntKind.i64.wrap ((i : Int) + 1) = ((i + 1 : Nat) : Int) := by rw [wi64 (by omega) (by omega)]; omega
      simp -zeta only [z, decide_false, Bool.false_eq_true, if_false, w1]
      refine ⟨H, .refl _, m - 1, by omega, i + 1, by omega, rfl, fun j hj2 => ?_, rfl⟩
      by_cases q : j = i
      · subst q; exact z
      · exact hj j (by omega)
  · simp -zeta only [hlt, decide_false, Bool.false_eq_true, if_false]
    have nz : 0 ∉ l := fun q => by
      obtain ⟨j, hj2, e⟩ := List.mem_iff_getElem.1 q
      exact hj j (by omega) (by rw [List.getD_eq_getElem?_getD, List.getElem?_eq_getElem hj2]; exact e)
    have : decide (((l.length : Nat) : Int) ≤ 1000) = decide (okText l) := by
      rw [decide_eq_decide]
      exact ⟨fun q => ⟨by omega, nz⟩, fun q => by have := q.1; omega⟩
    rw [this]
    exact ⟨H, .refl _, k⟩
theorem T_first {l : List Nat} (k : K (.string (strL (l.take 100))) h) : Cn P n_orlopref19_first #[.string (strL l)] h K := by
  refine F_orlopref19_first ?_
  unfold s_orlopref19_first
  have d1 : decide ((100 : Int) < ((l.length : Nat) : Int)) = decide (100 < l.length) := by rw [decide_eq_decide]; omega
  have i100 : (100 : Int) = ((100 : Nat) : Int) := rfl
  rw [q_lenSt u_string]
  simp -zeta only [GL, d1]
  by_cases g : 100 < l.length
  · simp -zeta only [g, decide_true, if_true]
    rw [i100, q_slStH u_string _ (by omega)]
    exact k
  · simp -zeta only [g, decide_false, Bool.false_eq_true, if_false]
    rw [List.take_of_length_le (by omega)] at k
    exact k
end
end Go.Proofs.YtflfhbnflcfmgaaGreatDoor
set_option linter.unusedSimpArgs false
set_option linter.unusedVariables false
set_option maxRecDepth 100000
set_option maxHeartbeats 1000000
namespace Go.Proofs.YtflfhbnflcfmgaaGreatDoor
open Go Go.SL Go.Pure Go.Tar
section
variable {R h : Hp} {K : Value → Hp → Prop}
theorem T_One {e : Ent} {dv : Value} (a : EntR h e dv) (k : K (.bool (decide (okEnt e))) h) : Cn P n_orlopref19_One #[.agg (entC e dv).toArray] h K := by
  refine Cn_wk (F_orlopref19_One ?_)
  unfold s_orlopref19_One
  refine aw_box fun r hr => ?_
  have hC : (Value.agg (entC e dv).toArray).cells.toList = entC e dv := rfl
  have hC2 : (Value.agg (entC e dv).toArray).cells.size = 5 := rfl
  rw [hC, hC2]
  have x0 := ext_set (.row t_api_Entry (entC e dv) 5 (some (0, 0))) hr
  obtain ⟨c0, c1, c2, c3, c4⟩ := entB (h := h.set r (.row t_api_Entry (entC e dv) 5 (some (0, 0)))) (o := 0) (A := []) (B := []) (e := e) (dv := dv) (by rw [Hp.set_same, List.nil_append, List.append_nil]) rfl
  rw [Nat.zero_add] at c1 c2 c3 c4
  have le0 := x0.le
  generalize h.set r (.row t_api_Entry (entC e dv) 5 (some (0, 0))) = H at *
  replace a := a.mono x0.cle
  have bl := a.bl
  have bn := a.bn
  obtain ⟨ad, cd, rfl, _⟩ := a.rd.shape
  have ln : ∀ {K : Value → Prop}, q P H (Builtin.len_ #[t_Sl_uint8] t_int #[.slice ad e.data.length cd]) K = K (.int .i64 ((e.data.length : Nat) : Int)) := fun {K} => q_lenS u_Sl_uint8 _ _ _
  have en : Bytes ([] : List Nat) := by intro x hx; cases hx
  intro J2
  have bad : ¬ okEnt e → ∃ h0, Hp.le h0 H ∧ K (.bool false) h0 := fun q => ⟨h, le0, by rw [decide_eq_false q] at k; exact k⟩
  have fin : ∀ b : Bool, b = decide (okEnt e) → ∃ h0, Hp.le h0 H ∧ K (.bool b) h0 := fun b q => ⟨h, le0, by rw [q]; exact k⟩
  have qJ : okText e.name → okText e.link → e.name ≠ [] → 0 ≤ e.mode → e.mode ≤ 4095 → J2 H := by
    intro t1 t2 t3 t4 t5
    simp -zeta only [J2]
    clear J2
    have d0 : (((e.data.length : Nat) : Int) == 0) = decide (e.data = []) := by
      rw [Bool.eq_iff_iff, beq_iff_eq, decide_eq_true_eq, ← List.length_eq_zero_iff]; omega
    simp -zeta (disch := assumption) only [ef1, ef3, ef4, RL, c1, c3, c4, GL, empS, q_eqlSt, q_neqSt, ln, d0, dec_int, Nat.zero_add]
    by_cases k3 : e.kind = 3
    · simp -zeta only [k3, decide_true, if_true]
      by_cases z : e.link = []
      · simp -zeta only [z, ne_eq, not_true_eq_false, decide_false, Bool.false_eq_true, if_false]
        refine bad ?_
        rintro ⟨_, _, _, _, _, ⟨_, q, _⟩ | ⟨q, _⟩ | ⟨q, _⟩⟩
        · exact q z
        · omega
        · omega
      · simp -zeta only [z, ne_eq, not_false_eq_true, decide_true, if_true]
        refine fin _ ?_
        rw [decide_eq_decide]
        constructor
        · intro q; exact ⟨t1, t2, t3, t4, t5, .inl ⟨k3, z, q⟩⟩
        · rintro ⟨_, _, _, _, _, ⟨_, _, q⟩ | ⟨q, _⟩ | ⟨q, _⟩⟩
          · exact q
          · omega
          · omega
    · simp -zeta only [k3, decide_false, Bool.false_eq_true, if_false]
      by_cases z : e.link = []
      · simp -zeta only [z, decide_true, if_true]
        by_cases k1 : e.kind = 1
        · simp -zeta only [k1, decide_true, Bool.true_eq_false, if_false]
          exact fin true (decide_eq_true ⟨t1, t2, t3, t4, t5, .inr (.inr ⟨k1, z⟩)⟩).symm
        · simp -zeta only [k1, decide_false, if_true]
          by_cases k2 : e.kind = 2
          · simp -zeta only [k2, decide_true, if_true]
            refine fin _ ?_
            rw [decide_eq_decide]
            constructor
            · intro q; exact ⟨t1, t2, t3, t4, t5, .inr (.inl ⟨k2, q, z⟩)⟩
            · rintro ⟨_, _, _, _, _, ⟨q, _⟩ | ⟨_, q, _⟩ | ⟨q, _⟩⟩
              · omega
              · exact q
              · omega
          · simp -zeta only [k2, decide_false, Bool.false_eq_true, if_false]
            refine bad ?_
            rintro ⟨_, _, _, _, _, ⟨q, _⟩ | ⟨q, _⟩ | ⟨q, _⟩⟩ <;> omega
      · simp -zeta only [z, decide_false, Bool.false_eq_true, if_false]
        refine bad ?_
        rintro ⟨_, _, _, _, _, ⟨q, _⟩ | ⟨_, _, q⟩ | ⟨_, q⟩⟩
        · omega
        · exact z q
        · exact z q
  clear_value J2
  simp -zeta only [ef0, RL, c0, GL]
  refine T_text bn a.ln ?_
  by_cases t1 : okText e.name
  · simp -zeta (disch := assumption) only [t1, decide_true, GL, Bool.not_true, if_true, ef0, RL, c0, empS, q_eqlSt]
    by_cases t3 : e.name = []
    · simp -zeta only [t3, decide_true, Bool.true_eq_false, if_false, if_true]
      exact bad fun q => q.2.2.1 t3
    · simp -zeta only [t3, decide_false, if_true, ef3, RL, c3, GL, Nat.zero_add]
      refine T_text bl a.ll ?_
      by_cases t2 : okText e.link
      · simp -zeta only [t2, decide_true, GL, Bool.not_true, if_true, ef2, RL, c2, Nat.zero_add]
        by_cases t4 : e.mode < 0
        · simp -zeta only [t4, decide_true, Bool.true_eq_false, if_false, if_true]
          exact bad fun q => absurd q.2.2.2.1 (by omega)
        · simp -zeta only [t4, decide_false, if_true, ef2, RL, c2, GL, Nat.zero_add]
          by_cases t5 : 4095 < e.mode
          · simp -zeta only [t5, decide_true, if_true]
            exact bad fun q => absurd q.2.2.2.2.1 (by omega)
          · simp -zeta only [t5, decide_false, Bool.false_eq_true, if_false]
            exact qJ t1 t2 t3 (by omega) (by omega)
      · simp -zeta only [t2, decide_false, GL, Bool.not_false, Bool.true_eq_false, if_false, if_true]
        exact bad fun q => t2 q.2.1
  · simp -zeta only [t1, decide_false, GL, Bool.not_false, Bool.true_eq_false, if_false, if_true]
    exact bad fun q => t1 q.1
theorem T_refMay {lv : Value} {l : List Ent} (a : LiR R lv l) (x : Hp.cle R h) (hl : l.length ≤ 9223372036854775807) (k : K (.bool (decide (l.length ≤ 256 ∧ ∀ e ∈ l, okEnt e))) h) : Cn P n_orlopref19_May #[lv] h K := by
  refine Cn_wk (F_orlopref19_May ?_)
  unfold s_orlopref19_May
  obtain ⟨xa, ca, ea, hca⟩ := a.shape
  have la : ∀ {H : Hp} {K : Value → Prop}, q P H (Builtin.len_ #[22] 3 #[lv]) K = K (.int .i64 (l.length : Nat)) := fun {H K} => by rw [ea]; simp only [RL]
  refine Lp_mk (fun m vs H => ∃ i : Nat, i + m = l.length ∧ H = h ∧ i ≤ 256 ∧ (∀ j e, j < i → l[j]? = some e → okEnt e) ∧ vs = [.bool false, .int .i64 (i : Int)]) l.length ⟨0, by omega, rfl, by omega, fun j e hj => by omega, rfl⟩ ?_
  rintro m vs H ⟨i, hi, rfl, hi2, hj, rfl⟩
  simp -zeta only [GL, List.getD_cons_zero, List.getD_cons_succ, la, lt_dec]
  have no : ¬ (l.length ≤ 256 ∧ ∀ e ∈ l, okEnt e) → ∃ h0, Hp.le h0 H ∧ K (.bool false) h0 := fun q => ⟨H, .refl _, by rw [decide_eq_false q] at k; exact k⟩
  by_cases hlt : i < l.length
  · have d1 : decide ((256 : Int) ≤ (i : Int)) = decide (256 ≤ i) := by rw [decide_eq_decide]; omega
    simp -zeta only [hlt, decide_true, if_true, d1]
    by_cases g : 256 ≤ i
    · simp -zeta only [g, decide_true, Bool.true_eq_false, if_false, if_true]
      exact no fun q => by omega
    · simp -zeta only [g, decide_false, if_true]
      have he : l[i]? = some l[i] := List.getElem?_eq_getElem hlt
      refine q_el a x he fun p dv en _ => ?_
      refine T_One (en.mono x) ?_
      by_cases ok : okEnt l[i]
      · have w1 : IntKind.i64.wrap ((i : Int) + 1) = ((i + 1 : Nat) : Int) := by rw [wi64 (by omega) (by omega)]; omega
        simp -zeta only [ok, decide_true, Bool.not_true, GL, Bool.false_eq_true, if_false, w1]
        refine ⟨H, .refl _, m - 1, by omega, i + 1, by omega, rfl, by omega, fun j e hj2 he2 => ?_, rfl⟩
        by_cases q : j = i
        · subst q
          rw [he] at he2
          cases he2
          exact ok
        · exact hj j e (by omega) he2
      · simp -zeta only [ok, decide_false, Bool.not_false, GL, if_true]
        exact no fun q => ok (q.2 _ (List.getElem_mem hlt))
  · simp -zeta only [hlt, decide_false, Bool.false_eq_true, if_false]
    have : decide (l.length ≤ 256 ∧ ∀ e ∈ l, okEnt e) = true := decide_eq_true ⟨by omega, fun e he => by
      obtain ⟨j, hj2, rfl⟩ := List.mem_iff_getElem.1 he
      exact hj j _ (by omega) (List.getElem?_eq_getElem hj2)⟩
    rw [this] at k
    exact ⟨H, .refl _, k⟩
/-- One byte as a text. -/
theorem T_byteStr {x : Nat} (hx : x < 256) {F : Value → Hp → Prop} (k : ∀ h', Hp.ext h h' → F (.string (strL [x])) h') : aw P (Instr.buildSlice 26 1 #[(0, .int .u8 (x : Int))]) (fun t h => q P h (convert 26 9 t) fun s => F s h) h :=
  aw_lit1 x fun w h1 n1 => by
    rw [q_str n1.rn]
    exact k h1 n1.ext
theorem T_refOctal {v d : Nat} (hv : v < 1152921504606846976) (hv8 : v < 8 ^ d) (hd : d ≤ 20) (k : K (.string (strL (octS v d))) h) : Cn P n_orlopref19_octal #[.int .i64 (v : Int), .int .i64 (d : Int)] h K := by
  refine Cn_wk (F_orlopref19_octal ?_)
  unfold s_orlopref19_octal
  refine Lp_mk (fun m vs H => ∃ i : Nat, i + m = d ∧ H = h ∧ vs = [.string (strL (asc (oct8 i v))), .int .i64 ((v / 8 ^ i : Nat) : Int), .int .i64 (i : Int)]) d ⟨0, by omega, rfl, by simp [oct8, asc]; rfl⟩ ?_
  rintro m vs H ⟨i, hi, rfl, rfl⟩
  simp -zeta only [GL, List.getD_cons_zero, List.getD_cons_succ, lt_dec]
  have hle : v / 8 ^ i ≤ v := Nat.div_le_self _ _
  by_cases hlt : i < d
  · have hh := oct8_head i v
    have hq : v / 8 ^ i / 8 = v / 8 ^ (i + 1) := by rw [Nat.div_div_eq_div_mul, ← Nat.pow_succ]
    generalize v / 8 ^ i = u at *
    have w1 : (u : Int).tmod 8 = ((u % 8 : Nat) : Int) := by rw [Int.tmod_eq_emod_of_nonneg (by omega)]; omega
    have w2 : IntKind.i64.wrap (48 + ((u % 8 : Nat) : Int)) = ((48 + u % 8 : Nat) : Int) := by rw [wi64 (by omega) (by omega)]; omega
    have w3 : IntKind.u8.wrap ((48 + u % 8 : Nat) : Int) = ((48 + u % 8 : Nat) : Int) := wu8i (by omega) (by omega)
    have w4 : IntKind.i64.wrap ((u : Int).tdiv 8) = ((u / 8 : Nat) : Int) := by rw [Int.tdiv_eq_ediv_of_nonneg (by omega), wi64 (by omega) (by omega)]; omega
    have w5 : IntKind.i64.wrap ((i : Int) + 1) = ((i + 1 : Nat) : Int) := by rw [wi64 (by omega) (by omega)]; omega
    simp -zeta (disch := decide) only [hlt, decide_true, if_true, GL, RL, w1, w2, w3, w4, w5]
    refine T_byteStr (by omega) fun h' xt => ?_
    rw [q_addSt _ _ (by rw [asc_len, oct8_len]; simp; omega)]
    refine ⟨H, xt.le, m - 1, by omega, i + 1, by omega, rfl, ?_⟩
    rw [hh, ← hq]
    have : asc ([u % 8] ++ oct8 i v) = [48 + u % 8] ++ asc (oct8 i v) := by simp [asc]; omega
    rw [this]
  · obtain rfl : i = d := by omega
    simp -zeta only [hlt, decide_false, Bool.false_eq_true, if_false]
    have : asc (oct8 i v) = octS v i := by rw [octS, oct8_D hv8]
    rw [this]
    exact ⟨H, .refl _, k⟩
end
end Go.Proofs.YtflfhbnflcfmgaaGreatDoor
set_option linter.unusedSimpArgs false
set_option linter.unusedVariables false
set_option maxRecDepth 100000
set_option maxHeartbeats 1000000
namespace Go.Proofs.YtflfhbnflcfmgaaGreatDoor
open Go Go.SL Go.Pure Go.Tar
theorem put_step {B s : List Nat} {o i : Nat} (hi : i < s.length) (ho : o + s.length ≤ B.length) : (put B o (s.take i)).set (o + i) (s.getD i 0) = put B o (s.take (i + 1)) := by
  have li : (s.take i).length = i := by rw [List.length_take]; omega
  have li1 : (s.take (i + 1)).length = i + 1 := by rw [List.length_take]; omega
  have la : (B.take o ++ s.take i).length = o + i := by rw [List.length_append, List.length_take, li]; omega
  have hd : B.drop (o + i) = B[o + i]'(by omega) :: B.drop (o + i + 1) := List.drop_eq_getElem_cons (by omega)
  unfold put
  rw [li, li1, List.set_append_right _ _ (by omega), la, Nat.sub_self, hd, List.set_cons_zero, take_last hi, ← Nat.add_assoc]
  simp
section
variable {R h : Hp} {K : Value → Hp → Prop}
theorem T_digits {n : Nat} (h1 : 1 ≤ n) (h2 : n < 10000000) (k : K (.string (strL (asc (dig 10 n)))) h) : Cn P n_orlopref19_digits #[.int .i64 (n : Int)] h K := by
  refine Cn_wk (F_orlopref19_digits ?_)
  unfold s_orlopref19_digits
  refine Lp_mk (fun m vs H => ∃ D : List Nat, m ≤ n ∧ (m = 0 → dig 10 n = D) ∧ (0 < m → dig 10 n = dig 10 m ++ D) ∧ H = h ∧ vs = [.string (strL (asc D)), .int .i64 (m : Int)]) n ⟨[], Nat.le_refl _, fun q => by omega, fun _ => by simp, rfl, rfl⟩ ?_
  rintro m vs H ⟨D, hm, d1, d2, rfl, rfl⟩
  have ld := dig_len 6 n h2
  simp -zeta only [GL, List.getD_cons_zero, List.getD_cons_succ, gt0]
  by_cases g : 0 < m
  · have e := d2 g
    have w1 : (m : Int).tmod 10 = ((m % 10 : Nat) : Int) := by rw [Int.tmod_eq_emod_of_nonneg (by omega)]; omega
    have w2 : IntKind.i64.wrap (48 + ((m % 10 : Nat) : Int)) = ((48 + m % 10 : Nat) : Int) := by rw [wi64 (by omega) (by omega)]; omega
    have w3 : IntKind.u8.wrap ((48 + m % 10 : Nat) : Int) = ((48 + m % 10 : Nat) : Int) := wu8i (by omega) (by omega)
    have w4 : IntKind.i64.wrap ((m : Int).tdiv 10) = ((m / 10 : Nat) : Int) := by rw [Int.tdiv_eq_ediv_of_nonneg (by omega), wi64 (by omega) (by omega)]; omega
    simp -zeta (disch := decide) only [g, decide_true, if_true, GL, RL, w1, w2, w3, w4]
    refine T_byteStr (by omega) fun h' xt => ?_
    have lD : D.length ≤ 7 := by
      have := congrArg List.length e
      rw [List.length_append] at this
      omega
    rw [q_addSt _ _ (by rw [asc_len]; simp; omega)]
    have ea : [48 + m % 10] ++ asc D = asc (m % 10 :: D) := by simp [asc]; omega
    rw [ea]
    refine ⟨H, xt.le, m / 10, by omega, m % 10 :: D, by omega, fun z => ?_, fun z => ?_, rfl, rfl⟩
    · rw [e, dig_one (by omega)]
      have : m % 10 = m := by omega
      rw [this]
      rfl
    · rw [e, dig_step (by decide) (by omega), List.append_assoc]
      rfl
  · obtain rfl : m = 0 := by omega
    simp -zeta only [Nat.lt_irrefl, decide_false, Bool.false_eq_true, if_false]
    rw [← d1 rfl]
    exact ⟨H, .refl _, k⟩
theorem T_put {b N c C o : Nat} {f : Nat × Nat} {B s : List Nat} (hs : Bytes s) (hb : h b = some (.row t_uint8 (nv .u8 B) C (some f))) (hN : B.length = N) (ho : o + s.length ≤ N) (hN2 : N ≤ 1000000) (hf : ∀ i, i < N → ¬ (f.1 ≤ i ∧ i < f.2))
    (k : K (.tuple #[]) (h.set b (.row t_uint8 (nv .u8 (put B o s)) C (some f)))) : Cn P n_orlopref19_put #[.slice (some ⟨b, 0, none⟩) N c, .int .i64 (o : Int), .string (strL s)] h K := by
  refine Cn_wk (F_orlopref19_put ?_)
  unfold s_orlopref19_put
  refine Lp_mk (fun m vs H => ∃ i : Nat, i + m = s.length ∧ H = h.set b (.row t_uint8 (nv .u8 (put B o (s.take i))) C (some f)) ∧ vs = [.int .i64 (i : Int)]) s.length ⟨0, by omega, by
    have : put B o (s.take 0) = B := by simp [put]
    rw [this, set_id hb], rfl⟩ ?_
  rintro m vs H ⟨i, hi, rfl, rfl⟩
  rw [q_lenSt u_string]
  simp -zeta only [GL, List.getD_cons_zero, lt_dec]
  by_cases hlt : i < s.length
  · have w1 : IntKind.i64.wrap ((o : Int) + (i : Int)) = ((o + i : Nat) : Int) := by rw [wi64 (by omega) (by omega)]; omega
    have w4 : IntKind.i64.wrap ((i : Int) + 1) = ((i + 1 : Nat) : Int) := by rw [wi64 (by omega) (by omega)]; omega
    simp -zeta only [hlt, decide_true, if_true, w1]
    rw [q_idxSt u_string hs hlt]
    simp -zeta (disch := omega) only [GL, RL, Int.toNat_natCast, Nat.zero_add, w4]
    have lp : (put B o (s.take i)).length = N := by rw [put_len (by rw [List.length_take]; omega)]; exact hN
    refine aw_store z_uint8 rfl (put_row (Hp.set_same ..) (by rw [nv_len, lp]; omega) (hf _ (by omega)) _) ?_
    rw [Hp.set_set, nv_set, put_step hlt (by omega)]
    exact ⟨_, .refl _, m - 1, by omega, i + 1, by omega, rfl, rfl⟩
  · simp -zeta only [hlt, decide_false, Bool.false_eq_true, if_false]
    rw [List.take_of_length_le (by omega)]
    exact ⟨_, .refl _, k⟩
theorem T_refSum {v : Value} {b : List Nat} (rv : Rn h .u8 v b) (hb : Bytes b) (hl : b.length = 512) (k : K (.int .i64 ((sumP b : Nat) : Int)) h) : Cn P n_orlopref19_Sum #[v] h K := by
  refine Cn_wk (F_orlopref19_Sum ?_)
  unfold s_orlopref19_Sum
  obtain ⟨a, c, rfl, hc⟩ := rv.shape
  obtain ⟨bb, o, rfl, hy⟩ := rv.pos (by omega)
  refine Lp_mk (fun m vs H => ∃ i : Nat, i + m = 512 ∧ H = h ∧ sumT b i ≤ 256 * i ∧ vs = [.int .i64 ((256 - 32 * (min i 156 - 148) + sumT b i : Nat) : Int), .int .i64 (i : Int)]) 512 ⟨0, by omega, rfl, by simp [sumT], by simp [sumT]⟩ ?_
  rintro m vs H ⟨i, hi, rfl, hs, rfl⟩
  simp -zeta only [GL, List.getD_cons_zero, List.getD_cons_succ]
  have d5 : decide ((i : Int) < 512) = decide (i < 512) := by rw [decide_eq_decide]; omega
  rw [d5]
  by_cases hlt : i < 512
  · have hx := hy i (by omega)
    have h8 := hb.getD i
    have hst := sumT_step (b := b) (i := i) (by omega)
    generalize hd : b.getD i 0 = d at *
    generalize hS : sumT b i = S at *
    generalize hS1 : sumT b (i + 1) = S1 at *
    have w1 : IntKind.i64.wrap (d : Int) = (d : Int) := wi64 (by omega) (by omega)
    have w4 : IntKind.i64.wrap ((i : Int) + 1) = ((i + 1 : Nat) : Int) := by rw [wi64 (by omega) (by omega)]; omega
    have w3 : IntKind.i64.wrap (((256 - 32 * (min i 156 - 148) + S : Nat) : Int) + (d : Int)) = ((256 - 32 * (min i 156 - 148) + S + d : Nat) : Int) := by rw [wi64 (by omega) (by omega)]; omega
    have d1 : decide ((i : Int) < 148) = decide (i < 148) := by rw [decide_eq_decide]; omega
    have d2 : decide ((156 : Int) ≤ (i : Int)) = decide (156 ≤ i) := by rw [decide_eq_decide]; omega
    rw [if_pos (decide_eq_true hlt)]
    intro J9
    have qT : (i < 148 ∨ 156 ≤ i) → J9 (.bool true) H := by
      intro g
      rw [if_neg (by omega)] at hst
      simp -zeta only [J9]
      clear J9
      simp -zeta (disch := omega) only [GL, RL, if_true, hx, Int.toNat_natCast, w1, w3, w4]
      refine ⟨_, .refl _, m - 1, by omega, i + 1, by omega, rfl, by omega, ?_⟩
      have : 256 - 32 * (min i 156 - 148) + S + d = 256 - 32 * (min (i + 1) 156 - 148) + S1 := by omega
      rw [this, hS1]
    have qF : ¬ (i < 148 ∨ 156 ≤ i) → J9 (.bool false) H := by
      intro g
      rw [if_pos (by omega)] at hst
      simp -zeta only [J9]
      simp -zeta only [GL, Bool.false_eq_true, if_false, w4]
      refine ⟨_, .refl _, m - 1, by omega, i + 1, by omega, rfl, by omega, ?_⟩
      have : 256 - 32 * (min i 156 - 148) + S = 256 - 32 * (min (i + 1) 156 - 148) + S1 := by omega
      rw [this, hS1]
    clear_value J9
    simp -zeta only [GL, d1, d2]
    by_cases g1 : i < 148
    · simp -zeta only [g1, decide_true, Bool.true_eq_false, if_false]
      exact qT (.inl g1)
    · simp -zeta only [g1, decide_false, if_true]
      by_cases g2 : 156 ≤ i
      · simp -zeta only [g2, decide_true]
        exact qT (.inr g2)
      · simp -zeta only [g2, decide_false]
        exact qF (by omega)
  · obtain rfl : i = 512 := by omega
    rw [if_neg (by simp)]
    have := sumT_all (b := b) (by omega)
    rw [hl] at this
    have e : 256 - 32 * (min 512 156 - 148) + sumT b 512 = sumP b := by omega
    rw [e]
    exact ⟨_, .refl _, k⟩
end
end Go.Proofs.YtflfhbnflcfmgaaGreatDoor
set_option linter.unusedSimpArgs false
set_option linter.unusedVariables false
set_option maxRecDepth 100000
set_option maxHeartbeats 1000000
namespace Go.Proofs.YtflfhbnflcfmgaaGreatDoor
open Go Go.SL Go.Pure Go.Tar
section
variable {R h : Hp} {K : Value → Hp → Prop}
theorem T_refRecord {name value : List Nat} (h1 : 97 ≤ name.length + value.length) (h2 : name.length + value.length ≤ 4990) (k : K (.string (strL (recP name value))) h) :
    Cn P n_orlopref19_Record #[.string (strL name), .string (strL value)] h K := by
  refine Cn_wk (F_orlopref19_Record ?_)
  unfold s_orlopref19_Record
  have s32 : (⟨#[32]⟩ : ByteArray) = strL [32] := rfl
  have s61 : (⟨#[61]⟩ : ByteArray) = strL [61] := rfl
  have s10 : (⟨#[10]⟩ : ByteArray) = strL [10] := rfl
  have bl : (recBody name value).length = name.length + value.length + 3 := by simp [recBody]; omega
  rw [s32, q_addSt _ _ (by simp; omega), s61, q_addSt _ _ (by simp; omega), q_addSt _ _ (by simp; omega), s10, q_addSt _ _ (by simp; omega)]
  have eb : [32] ++ name ++ [61] ++ value ++ [10] = recBody name value := rfl
  rw [eb, q_lenSt u_string]
  have er : recP name value = asc (dig 10 (recN (recBody name value).length 30 ((recBody name value).length + 1))) ++ recBody name value := rfl
  obtain ⟨sp1, sp2⟩ := recN_spec (k := (recBody name value).length) (by omega) (by omega)
  rw [er] at k
  have dpos : ∀ n, 0 < (dig 10 n).length := fun n => digF_pos 10 n n
  have h31 : recN (recBody name value).length 31 (recBody name value).length = recN (recBody name value).length 30 ((recBody name value).length + 1) := by
    rw [recN, if_neg (by have := dpos (recBody name value).length; omega)]
  generalize hN : recN (recBody name value).length 30 ((recBody name value).length + 1) = N at *
  have dp := dpos N
  refine Lp_mk (fun m vs H => H = h ∧ ∃ n : Nat, vs = [.int .i64 (n : Int)] ∧ recN (recBody name value).length m n = N ∧ n ≤ N ∧ 1 ≤ n) 31 ⟨rfl, _, rfl, h31, by omega, by omega⟩ ?_
  rintro m vs H ⟨rfl, n, rfl, hn, hnN, hn1⟩
  simp -zeta only [GL, List.getD_cons_zero]
  refine T_digits hn1 (by omega) ?_
  have ld := dig_len 6 n (by omega)
  rw [q_lenSt u_string, asc_len, q_lenSt u_string]
  have w2 : IntKind.i64.wrap (((dig 10 n).length : Int) + ((recBody name value).length : Int)) = (((dig 10 n).length + (recBody name value).length : Nat) : Int) := by rw [wi64 (by omega) (by omega)]; omega
  have d1 : ((n : Int) != (((dig 10 n).length + (recBody name value).length : Nat) : Int)) = decide (n ≠ (dig 10 n).length + (recBody name value).length) := ne_dec _ _
  simp -zeta only [GL, w2, d1]
  by_cases g : n = (dig 10 n).length + (recBody name value).length
  · have : n = N := by
      cases m with
      | zero => exact hn
      | succ m => rw [recN, if_pos g.symm] at hn; exact hn
    rw [if_neg (by simpa using g)]
    subst this
    refine T_digits hn1 (by omega) ?_
    rw [q_addSt _ _ (by rw [asc_len]; omega)]
    exact ⟨H, .refl _, k⟩
  · rw [if_pos (decide_eq_true g)]
    have nN : n ≠ N := fun q => g (by rw [q]; exact sp1.symm)
    cases m with
    | zero => exact absurd hn nN
    | succ m =>
      rw [recN, if_neg (fun q => g q.symm)] at hn
      have w3 : IntKind.i64.wrap ((n : Int) + 1) = ((n + 1 : Nat) : Int) := by rw [wi64 (by omega) (by omega)]; omega
      simp -zeta only [w3]
      exact ⟨H, .refl _, m, by omega, rfl, n + 1, rfl, hn, by omega, by omega⟩
theorem T_full {v : Value} {l : List Nat} (rv : Rn h .u8 v l) (hl : l.length ≤ 1073741824) (k : ∀ r h', Nn h t_uint8 .u8 r h' (fillP l) → K r h') : Cn P n_orlopref19_full #[v] h K := by
  refine Cn_wk (F_orlopref19_full ?_)
  unfold s_orlopref19_full
  refine aw_nilB fun w h1 n1 => ?_
  refine aw_appB n1 (rv.mono n1.cle) (by simp; omega) fun w2 h2 n2 => ?_
  rw [List.nil_append] at n2
  refine Lp_mk (fun m vs H => ∃ (j : Nat) (r : Value), j + m = (512 - l.length % 512) % 512 ∧ Nn h t_uint8 .u8 r H (l ++ List.replicate j 0) ∧ vs = [r]) ((512 - l.length % 512) % 512) ⟨0, w2, by omega, by simpa using n2, rfl⟩ ?_
  rintro m vs H ⟨j, r, hj, n, rfl⟩
  obtain ⟨a, c, rfl, hc⟩ := n.rn.shape
  have ll : (l ++ List.replicate j 0).length = l.length + j := by rw [List.length_append, List.length_replicate]
  rw [ll] at n ⊢
  have w1 : ((l.length + j : Nat) : Int).tmod 512 = (((l.length + j) % 512 : Nat) : Int) := by rw [Int.tmod_eq_emod_of_nonneg (by omega)]; omega
  have d1 : ((((l.length + j) % 512 : Nat) : Int) != 0) = decide ((l.length + j) % 512 ≠ 0) := ne_dec _ 0
  simp -zeta (disch := decide) only [GL, RL, List.getD_cons_zero, w1, d1]
  cases m with
  | zero =>
    rw [if_neg (by simp; omega)]
    have : j = (512 - l.length % 512) % 512 := by omega
    subst this
    exact ⟨H, .refl _, k _ _ n⟩
  | succ m =>
    rw [if_pos (by simp; omega)]
    refine aw_lit1 0 fun w3 h3 n3 => ?_
    refine aw_appF n n3 (by rw [ll]; simp only [List.length_singleton]; omega) fun v' h' n4 => ?_
    refine ⟨h', .refl _, m, by omega, j + 1, v', by omega, ?_, rfl⟩
    rw [List.replicate_succ', ← List.append_assoc]
    exact n4
end
end Go.Proofs.YtflfhbnflcfmgaaGreatDoor
set_option linter.unusedSimpArgs false
set_option linter.unusedVariables false
set_option maxRecDepth 100000
set_option maxHeartbeats 1000000
namespace Go.Proofs.YtflfhbnflcfmgaaGreatDoor
open Go Go.SL Go.Pure Go.Tar
theorem b_nil : Bytes ([] : List Nat) := by intro x hx; cases hx
theorem b_one {x : Nat} (h : x < 256) : Bytes [x] := fun y hy => by rw [List.mem_singleton.1 hy]; exact h
theorem head0_b {name link : List Nat} {mode size kind : Nat} (bn : Bytes name) (bl : Bytes link) (hk : kind < 256) : Bytes (head0 name mode size kind link) := by
  have bz : Bytes (List.replicate 512 0) := fun x hx => by rw [List.eq_of_mem_replicate hx]; decide
  have b7 : Bytes zer7 := by unfold Bytes zer7; decide
  have b11 : Bytes zer11 := by unfold Bytes zer11; decide
  have bu : Bytes ustar := by unfold Bytes ustar; decide
  exact put_bytes (put_bytes (put_bytes (put_bytes (put_bytes (put_bytes (put_bytes (put_bytes (put_bytes bz (bn.take _) _) (octS_b _ _) _) b7 _) b7 _) (octS_b _ _) _) b11 _) (b_one hk) _) (bl.take _) _) bu _
theorem headP_b {name link : List Nat} {mode size kind : Nat} (bn : Bytes name) (bl : Bytes link) (hk : kind < 256) : Bytes (headP name mode size kind link) := by
  have bz : Bytes (List.replicate 512 0) := fun x hx => by rw [List.eq_of_mem_replicate hx]; decide
  have b7 : Bytes zer7 := by unfold Bytes zer7; decide
  have b11 : Bytes zer11 := by unfold Bytes zer11; decide
  have bu : Bytes ustar := by unfold Bytes ustar; decide
  have b032 : Bytes [0, 32] := by unfold Bytes; decide
  have h0 : Bytes (head0 name mode size kind link) := put_bytes (put_bytes (put_bytes (put_bytes (put_bytes (put_bytes (put_bytes (put_bytes (put_bytes bz (bn.take _) _) (octS_b _ _) _) b7 _) b7 _) (octS_b _ _) _) b11 _) (b_one hk) _) (bl.take _) _) bu _
  exact put_bytes h0 ((octS_b _ _).append b032) _
theorem fillP_b {b : List Nat} (h : Bytes b) : Bytes (fillP b) := h.append fun x hx => by rw [List.eq_of_mem_replicate hx]; decide
theorem recP_b {nm v : List Nat} (b1 : Bytes nm) (b2 : Bytes v) : Bytes (recP nm v) :=
  (asc_bytes fun x hx => dig_lt (by decide) _ x hx).append (((((b_one (by decide)).append b1).append (b_one (by decide))).append b2).append (b_one (by decide)))
theorem moreP_b {e : Ent} (b : EntB e) : Bytes (moreP e) := by
  have bp : Bytes pathS := by unfold Bytes pathS; decide
  have bk : Bytes linkS := by unfold Bytes linkS; decide
  refine Bytes.append ?_ ?_
  · split
    · exact recP_b bp b.name
    · exact b_nil
  · split
    · exact recP_b bk b.link
    · exact b_nil
theorem oneP_b {e : Ent} (h : okEnt e) (b : EntB e) : Bytes (oneP e) := by
  refine (Bytes.append ?_ (headP_b b.name b.link (kind_cases h).2.2)).append (fillP_b b.data)
  split
  · exact (headP_b bytes_paxS b_nil (by decide)).append (fillP_b (moreP_b b))
  · exact b_nil
theorem writeB {l : List Ent} (h : ∀ e ∈ l, okEnt e ∧ EntB e) : Bytes (writeP l) := by
  refine Bytes.append (fun x hx => ?_) (fun x hx => by rw [List.eq_of_mem_replicate hx]; decide)
  obtain ⟨y, hy, hx⟩ := List.mem_flatten.1 hx
  obtain ⟨e, he, rfl⟩ := List.mem_map.1 hy
  exact oneP_b (h e he).1 (h e he).2 x hx
section
variable {R h : Hp} {K : Value → Hp → Prop}
def e2 : Ent := { name := [98], kind := 2, mode := 0, link := [], data := [] }
end
end Go.Proofs.YtflfhbnflcfmgaaGreatDoor
set_option linter.unusedSimpArgs false
set_option linter.unusedVariables false
set_option maxRecDepth 100000
set_option maxHeartbeats 1000000
namespace Go.Proofs.YtflfhbnflcfmgaaGreatDoor
open Go Go.SL Go.Pure Go.Tar
theorem put_adj {B s t : List Nat} {i : Nat} (h : i ≤ B.length) : put (put B i s) (i + s.length) t = put B i (s ++ t) := by
  have la : (B.take i).length = i := by rw [List.length_take]; omega
  have t1 : (B.take i ++ s ++ B.drop (i + s.length)).take (i + s.length) = B.take i ++ s := by
    rw [List.take_append_of_le_length (by rw [List.length_append, la]; exact Nat.le_refl _), List.take_of_length_le (by rw [List.length_append, la]; exact Nat.le_refl _)]
  have t2 : (B.take i ++ s ++ B.drop (i + s.length)).drop (i + s.length + t.length) = B.drop (i + (s ++ t).length) := by
    rw [List.drop_append, List.drop_of_length_le (by rw [List.length_append, la]; omega), List.nil_append, List.drop_drop, List.length_append, la, List.length_append]
    congr 1
    omega
  unfold put
  rw [t1, t2, List.append_assoc (B.take i)]
theorem put_id {B : List Nat} {i : Nat} (h : i < B.length) : put B i [B.getD i 0] = B := by
  rw [← put_one B i _ h, List.getD_eq_getElem?_getD, List.getElem?_eq_getElem h]
  exact List.set_getElem_self h
theorem get_put_gt {b : List Nat} {i : Nat} {s : List Nat} {j : Nat} (h : i + s.length ≤ j) (hj : j < b.length) : (put b i s).getD j 0 = b.getD j 0 := by
  have hb : i ≤ b.length := by omega
  have := sub_put_gt (b := b) (i := i) (s := s) (j := j) (n := 1) h hb
  rw [getD_sub _ _ (by rw [put_len (by omega)]; exact hj), getD_sub _ _ hj] at this
  simpa using this
section
variable {R h : Hp} {K : Value → Hp → Prop}
theorem T_refHead {name link : List Nat} {mode size kind : Nat} (bn : Bytes name) (bl : Bytes link) (hk : kind < 256) (hm : mode < 8 ^ 7) (hs : size < 8 ^ 11)
    (k : ∀ v h', Nn h t_uint8 .u8 v h' (headP name mode size kind link) → K v h') : Cn P n_orlopref19_Head #[.string (strL name), .int .i64 (mode : Int), .int .i64 (size : Int), .int .u8 (kind : Int), .string (strL link)] h K := by
  refine F_orlopref19_Head ?_
  unfold s_orlopref19_Head
  refine aw_makeB 512 (by decide) fun v h1 n1 => ?_
  have l512 : (List.replicate 512 0).length = 512 := List.length_replicate ..
  unfold Nn at n1
  rw [l512] at n1
  obtain ⟨b, c, f, hb, hc, rfl, rfl, hf⟩ := n1.form (by decide)
  have hf' : ∀ i, i < 512 → ¬ (f.1 ≤ i ∧ i < f.2) := fun i hi => hf i (by omega)
  have pt : ∀ {B s : List Nat} {o : Nat} {K : Value → Hp → Prop} {C : Nat}, Bytes s → B.length = 512 → o + s.length ≤ 512 → K (.tuple #[]) (h.set b (.row t_uint8 (nv .u8 (put B o s)) C (some f))) →
      Cn P n_orlopref19_put #[.slice (some ⟨b, 0, none⟩) 512 c, .int .i64 (o : Int), .string (strL s)] (h.set b (.row t_uint8 (nv .u8 B) C (some f))) K := by
    intro B s o K C hs hB ho k
    refine T_put hs (Hp.set_same ..) hB ho (by decide) hf' ?_
    rw [Hp.set_set]
    exact k
  have b7 : Bytes zer7 := by unfold Bytes zer7; decide
  have b11 : Bytes zer11 := by unfold Bytes zer11; decide
  have s7 : (⟨#[48, 48, 48, 48, 48, 48, 48]⟩ : ByteArray) = strL zer7 := rfl
  have s11 : (⟨#[48, 48, 48, 48, 48, 48, 48, 48, 48, 48, 48]⟩ : ByteArray) = strL zer11 := rfl
  have s5 : (⟨#[117, 115, 116, 97, 114]⟩ : ByteArray) = strL [117, 115, 116, 97, 114] := rfl
  have s2 : (⟨#[48, 48]⟩ : ByteArray) = strL [48, 48] := rfl
  have b5 : Bytes [117, 115, 116, 97, 114] := by unfold Bytes; decide
  have b2 : Bytes [48, 48] := by unfold Bytes; decide
  have tl : ∀ l : List Nat, (l.take 100).length ≤ 100 := fun l => by rw [List.length_take]; omega
  have e0 : head0 name mode size kind link = put (put (put (put (put (put (put (put (put (List.replicate 512 0) 0 (name.take 100)) 100 (octS mode 7)) 108 zer7) 116 zer7) 124 (octS size 11)) 136 zer11) 156 [kind]) 157 (link.take 100)) 257 ustar := rfl
  have n0 := tl name
  have nl := tl link
  refine T_first ?_
  refine pt (o := 0) (bn.take _) l512 (by omega) ?_
  have l0 : (put (List.replicate 512 0) 0 (name.take 100)).length = 512 := by rw [put_len (by rw [l512]; omega), l512]
  refine T_refOctal (d := 7) (by omega) hm (by decide) ?_
  refine pt (o := 100) (octS_b _ _) l0 (by rw [octS_len]; decide) ?_
  have l1 : (put (put (List.replicate 512 0) 0 (name.take 100)) 100 (octS mode 7)).length = 512 := by rw [put_len (by rw [octS_len, l0]; decide), l0]
  rw [s7]
  refine pt (o := 108) b7 l1 (by decide) ?_
  have l2 : (put (put (put (List.replicate 512 0) 0 (name.take 100)) 100 (octS mode 7)) 108 zer7).length = 512 := by rw [put_len (by rw [l1]; decide), l1]
  refine pt (o := 116) b7 l2 (by decide) ?_
  have l3 : (put (put (put (put (List.replicate 512 0) 0 (name.take 100)) 100 (octS mode 7)) 108 zer7) 116 zer7).length = 512 := by rw [put_len (by rw [l2]; decide), l2]
  refine T_refOctal (d := 11) (by omega) hs (by decide) ?_
  refine pt (o := 124) (octS_b _ _) l3 (by rw [octS_len]; decide) ?_
  have l4 : (put (put (put (put (put (List.replicate 512 0) 0 (name.take 100)) 100 (octS mode 7)) 108 zer7) 116 zer7) 124 (octS size 11)).length = 512 := by rw [put_len (by rw [octS_len, l3]; decide), l3]
  rw [s11]
  refine pt (o := 136) b11 l4 (by decide) ?_
  have l5 : (put (put (put (put (put (put (List.replicate 512 0) 0 (name.take 100)) 100 (octS mode 7)) 108 zer7) 116 zer7) 124 (octS size 11)) 136 zer11).length = 512 := by rw [put_len (by rw [l4]; decide), l4]
  have z5 : (put (put (put (put (put (put (List.replicate 512 0) 0 (name.take 100)) 100 (octS mode 7)) 108 zer7) 116 zer7) 124 (octS size 11)) 136 zer11).getD 262 0 = 0 := by
    rw [get_put_gt (by decide) (by rw [l4]; decide), get_put_gt (by rw [octS_len]; decide) (by rw [l3]; decide), get_put_gt (by decide) (by rw [l2]; decide), get_put_gt (by decide) (by rw [l1]; decide), get_put_gt (by rw [octS_len]; decide) (by rw [l0]; decide), get_put_gt (by omega) (by rw [l512]; decide)]
    decide +kernel
  have b5' := head0_b (mode := mode) (size := size) bn bl hk
  generalize put (put (put (put (put (put (List.replicate 512 0) 0 (name.take 100)) 100 (octS mode 7)) 108 zer7) 116 zer7) 124 (octS size 11)) 136 zer11 = B5 at *
  have ix : ∀ {K : Value → Prop} (H : Hp) (i : Nat), i < 512 → q P H (Instr.indexAt 26 (.slice (some ⟨b, 0, none⟩) 512 c) (.int .i64 (i : Int))) K = K (.pointer (some ⟨b, i, none⟩)) := fun H i hi => by
    rw [q_idxS u_Sl_uint8 z_uint8 _ _ _ _ _ (by omega) (by omega), Int.toNat_natCast, add_off, Nat.zero_add, Nat.mul_one]
  have st : ∀ {B : List Nat} {i x : Nat} {K : Unit → Hp → Prop} {C : Nat}, B.length = 512 → i < 512 → K () (h.set b (.row t_uint8 (nv .u8 (put B i [x])) C (some f))) → aw P (Instr.storeAt 5 (.pointer (some ⟨b, i, none⟩)) (.int .u8 (x : Int))) K (h.set b (.row t_uint8 (nv .u8 B) C (some f))) := by
    intro B i x K C hB hi k
    refine aw_store z_uint8 rfl (put_row (Hp.set_same ..) (by rw [nv_len]; omega) (hf' _ hi) _) ?_
    rw [Hp.set_set, nv_set, put_one _ _ _ (by omega)]
    exact k
  have i156 : (156 : Int) = ((156 : Nat) : Int) := rfl
  have i154 : (154 : Int) = ((154 : Nat) : Int) := rfl
  have i155 : (155 : Int) = ((155 : Nat) : Int) := rfl
  have i32 : (32 : Int) = ((32 : Nat) : Int) := rfl
  rw [i156, ix _ 156 (by decide)]
  refine st l5 (by decide) ?_
  have l6 : (put B5 156 [kind]).length = 512 := by rw [put_len (by rw [l5, List.length_singleton]; decide), l5]
  refine T_first ?_
  refine pt (o := 157) (bl.take _) l6 (by omega) ?_
  have l7 : (put (put B5 156 [kind]) 157 (link.take 100)).length = 512 := by rw [put_len (by rw [l6]; omega), l6]
  rw [s5]
  refine pt (o := 257) b5 l7 (by decide) ?_
  have l8 : (put (put (put B5 156 [kind]) 157 (link.take 100)) 257 [117, 115, 116, 97, 114]).length = 512 := by rw [put_len (by rw [l7]; decide), l7]
  have z8 : (put (put (put B5 156 [kind]) 157 (link.take 100)) 257 [117, 115, 116, 97, 114]).getD 262 0 = 0 := by
    rw [get_put_gt (by decide) (by rw [l7]; decide), get_put_gt (by omega) (by rw [l6]; decide), get_put_gt (by rw [List.length_singleton]; decide) (by rw [l5]; decide), z5]
  rw [s2]
  refine pt (o := 263) b2 l8 (by decide) ?_
  have eU : put (put (put (put B5 156 [kind]) 157 (link.take 100)) 257 [117, 115, 116, 97, 114]) 263 [48, 48] = head0 name mode size kind link := by
    have a1 := put_id (B := put (put (put B5 156 [kind]) 157 (link.take 100)) 257 [117, 115, 116, 97, 114]) (i := 262) (by rw [l8]; decide)
    rw [z8] at a1
    have p1 : put (put (put (put B5 156 [kind]) 157 (link.take 100)) 257 [117, 115, 116, 97, 114]) 262 [0] = put (put (put B5 156 [kind]) 157 (link.take 100)) 257 ([117, 115, 116, 97, 114] ++ [0]) := put_adj (i := 257) (s := [117, 115, 116, 97, 114]) (t := [0]) (by rw [l7]; decide)
    have p2 : put (put (put (put B5 156 [kind]) 157 (link.take 100)) 257 ([117, 115, 116, 97, 114] ++ [0])) 263 [48, 48] = put (put (put B5 156 [kind]) 157 (link.take 100)) 257 (([117, 115, 116, 97, 114] ++ [0]) ++ [48, 48]) := put_adj (i := 257) (s := [117, 115, 116, 97, 114] ++ [0]) (t := [48, 48]) (by rw [l7]; decide)
    rw [← a1, p1, p2, e0]
    rfl
  rw [eU]
  have lH : (head0 name mode size kind link).length = 512 := by rw [e0, put_len (by rw [l7]; decide), l7]
  have bH : Bytes (head0 name mode size kind link) := b5'
  have hn : ∀ B : List Nat, B.length = 512 → New h t_uint8 1 (.slice (some ⟨b, 0, none⟩) 512 c) (h.set b (.row t_uint8 (nv .u8 B) (c * 1) (some f))) (nv .u8 B) 512 := fun B hB => ⟨by rw [nv_len, hB], .inr ⟨b, c, f, hb, hc, rfl, rfl, hf⟩⟩
  have rn : Rn (h.set b (.row t_uint8 (nv .u8 (head0 name mode size kind link)) (c * 1) (some f))) .u8 (.slice (some ⟨b, 0, none⟩) 512 c) (head0 name mode size kind link) := by
    have := (hn _ lH).rds
    unfold Rn
    rw [lH]
    exact this
  refine T_refSum rn bH lH ?_
  have hsl : sumP (head0 name mode size kind link) < 8 ^ 6 := by
    have h1 := sum_le (bH.take 148)
    have h2 := sum_le (bH.drop 156)
    rw [List.length_take] at h1
    rw [List.length_drop] at h2
    unfold sumP
    omega
  refine T_refOctal (d := 6) (by omega) hsl (by decide) ?_
  refine pt (o := 148) (octS_b _ _) lH (by rw [octS_len]; decide) ?_
  have l9 : (put (head0 name mode size kind link) 148 (octS (sumP (head0 name mode size kind link)) 6)).length = 512 := by rw [put_len (by rw [octS_len, lH]; decide), lH]
  rw [i154, ix _ 154 (by decide)]
  refine st (x := 0) l9 (by decide) ?_
  have a1 := put_adj (B := head0 name mode size kind link) (i := 148) (s := octS (sumP (head0 name mode size kind link)) 6) (t := [0]) (by rw [lH]; decide)
  rw [octS_len] at a1
  rw [a1]
  have l10 : (put (head0 name mode size kind link) 148 (octS (sumP (head0 name mode size kind link)) 6 ++ [0])).length = 512 := by rw [put_len (by rw [List.length_append, octS_len, lH]; decide), lH]
  rw [i155, ix _ 155 (by decide)]
  refine st (x := 32) l10 (by decide) ?_
  have a2 := put_adj (B := head0 name mode size kind link) (i := 148) (s := octS (sumP (head0 name mode size kind link)) 6 ++ [0]) (t := [32]) (by rw [lH]; decide)
  rw [List.length_append, octS_len, List.append_assoc] at a2
  rw [show 155 = 148 + (6 + ([0] : List Nat).length) from rfl, a2]
  have l11 : (headP name mode size kind link).length = 512 := by rw [headP, put_len (by rw [List.length_append, octS_len, lH]; decide), lH]
  refine k _ _ ?_
  unfold Nn
  rw [l11]
  exact hn _ l11
end
end Go.Proofs.YtflfhbnflcfmgaaGreatDoor
set_option linter.unusedSimpArgs false
set_option linter.unusedVariables false
set_option maxRecDepth 100000
set_option maxHeartbeats 1000000
namespace Go.Proofs.YtflfhbnflcfmgaaGreatDoor
open Go Go.SL Go.Pure Go.Tar
def szE (e : Ent) : Nat := 1 + e.name.length + e.link.length + e.data.length
def szL (l : List Ent) : Nat := (l.map szE).sum
theorem szL_take {l : List Ent} {i : Nat} (h : i < l.length) : szL (l.take (i + 1)) = szL (l.take i) + szE l[i] := by
  unfold szL
  rw [List.take_succ_eq_append_getElem h]
  simp only [List.map_append, List.map_cons, List.map_nil, List.sum_append, List.sum_cons, List.sum_nil, Nat.add_zero]
section
variable {R h : Hp} {K : Value → Hp → Prop}
/-- Whether entries are small: true only where they are; their lengths must not be beyond measure. -/
theorem T_Small {lv : Value} {l : List Ent} {lim : Nat} (a : LiR R lv l) (x : Hp.cle R h) (hl : l.length ≤ 9223372036854775807) (hlim : lim ≤ 1000000) (hb : ∀ e ∈ l, e.name.length ≤ 1125899906842624 ∧ e.link.length ≤ 1125899906842624 ∧ e.data.length ≤ 1125899906842624)
    (k0 : K (.bool false) h) (k1 : szL l ≤ lim → K (.bool true) h) : Cn P n_orlopref19_Small #[lv, .int .i64 (lim : Int)] h K := by
  refine Cn_wk (F_orlopref19_Small ?_)
  unfold s_orlopref19_Small
  obtain ⟨xa, ca, ea, hca⟩ := a.shape
  have la : ∀ {H : Hp} {K : Value → Prop}, q P H (Builtin.len_ #[22] 3 #[lv]) K = K (.int .i64 (l.length : Nat)) := fun {H K} => by rw [ea]; simp only [RL]
  refine Lp_mk (fun n vs H => ∃ i : Nat, i + n = l.length ∧ H = h ∧ szL (l.take i) ≤ 4503599627370496 ∧ vs = [.int .i64 ((szL (l.take i) : Nat) : Int), .bool false, .int .i64 (i : Int)]) l.length ⟨0, by omega, rfl, by simp [szL], by simp [szL]⟩ ?_
  rintro n vs H ⟨i, hi, rfl, hs, rfl⟩
  have ds : decide (((szL (l.take i) : Nat) : Int) ≤ (lim : Int)) = decide (szL (l.take i) ≤ lim) := by rw [decide_eq_decide]; omega
  simp -zeta only [GL, List.getD_cons_zero, List.getD_cons_succ, la, lt_dec, ds]
  intro J6
  have q6 : i < l.length → szL (l.take i) ≤ lim → J6 H := by
    intro hlt hsm
    simp -zeta only [J6]
    clear J6
    have he : l[i]? = some l[i] := List.getElem?_eq_getElem hlt
    obtain ⟨m1, m2, m3⟩ := hb _ (List.getElem_mem hlt)
    have hn := szL_take hlt
    generalize l[i] = e at *
    obtain ⟨b1, o1, dv, en, ix1, c0, c1, c2, c3, c4⟩ := a.at he
    obtain ⟨ad, cd, rfl, _⟩ := en.rd.shape
    replace c0 := x _ _ c0
    replace c3 := x _ _ c3
    replace c4 := x _ _ c4
    have es : szE e = 1 + e.name.length + e.link.length + e.data.length := rfl
    generalize hS1 : szL (l.take (i + 1)) = S1 at *
    generalize szL (l.take i) = S at *
    have w1 : IntKind.i64.wrap ((i : Int) + 1) = ((i + 1 : Nat) : Int) := by rw [wi64 (by omega) (by omega)]; omega
    have w2 : IntKind.i64.wrap ((S : Int) + 1) = ((S + 1 : Nat) : Int) := by rw [wi64 (by omega) (by omega)]; omega
    have w3 : IntKind.i64.wrap (((S + 1 : Nat) : Int) + ((e.name.length : Nat) : Int)) = ((S + 1 + e.name.length : Nat) : Int) := by rw [wi64 (by omega) (by omega)]; omega
    have w4 : IntKind.i64.wrap (((S + 1 + e.name.length : Nat) : Int) + ((e.link.length : Nat) : Int)) = ((S + 1 + e.name.length + e.link.length : Nat) : Int) := by rw [wi64 (by omega) (by omega)]; omega
    have w5 : IntKind.i64.wrap (((S + 1 + e.name.length + e.link.length : Nat) : Int) + ((e.data.length : Nat) : Int)) = ((S1 : Nat) : Int) := by rw [wi64 (by omega) (by omega)]; omega
    simp -zeta only [ix1, ef0, ef3, ef4, RL, GL, c0, c3, c4, w1, w2, strL_size, w3, w4, w5]
    split
    · exact ⟨H, .refl _, k0⟩
    · exact ⟨H, .refl _, n - 1, by omega, i + 1, by omega, rfl, by rw [hS1]; omega, by rw [hS1]⟩
  clear_value J6
  by_cases hlt : i < l.length
  · simp -zeta only [hlt, decide_true, if_true]
    by_cases g : szL (l.take i) ≤ lim
    · simp -zeta only [g, decide_true, if_true]
      exact q6 hlt g
    · simp -zeta only [g, decide_false, Bool.false_eq_true, if_false]
      exact ⟨H, .refl _, k0⟩
  · simp -zeta only [hlt, decide_false, Bool.false_eq_true, if_false]
    have : i = l.length := by omega
    subst this
    rw [List.take_length] at *
    by_cases g : szL l ≤ lim
    · rw [decide_eq_true g]
      exact ⟨H, .refl _, k1 g⟩
    · rw [decide_eq_false g]
      exact ⟨H, .refl _, k0⟩
end
end Go.Proofs.YtflfhbnflcfmgaaGreatDoor
set_option linter.unusedSimpArgs false
set_option linter.unusedVariables false
set_option maxRecDepth 100000
set_option maxHeartbeats 1000000
namespace Go.Proofs.YtflfhbnflcfmgaaGreatDoor
open Go Go.SL Go.Pure Go.Tar
/-- An entry's head that tells the same, and its bytes. -/
theorem entry_head {e : Ent} {H : List Nat} {kd : Nat} (h : okEnt e) (b : EntB e) (r : HeadR H e.name e.mode.toNat e.data.length kd e.link) (k1 : kindOfT kd = some e.kind) (k2 : kd ≠ 120) (rest path link : List Nat) (told : Bool) (acc : List Ent) (hp : (if path = [] then e.name.take 100 else path) = e.name) (hl : (if link = [] then e.link.take 100 else link) = e.link) (ha : acc.length < 256) :
    entryP { b := fillP e.data ++ rest, path := path, link := link, told := told, list := acc } H = some { b := rest, path := [], link := [], told := false, list := acc ++ [e] } := by
  have m1 := h.2.2.2.1
  have m2 := h.2.2.2.2.1
  obtain ⟨t1, t2, t3, t4, t5⟩ := head_tells r h.1.2 h.2.1.2 (by
    have : (4096 : Nat) < 8 ^ 7 := by decide
    omega) b.small
  unfold entryP
  rw [t1, t2, t3, t4]
  dsimp only
  rw [if_neg (by rw [r.mg]; simp), take_fill]
  dsimp only
  rw [r.ty, if_neg k2, k1]
  dsimp only
  rw [hp, hl, Int.toNat_of_nonneg m1]
  rw [if_pos ⟨h, ha⟩]
theorem read_bodyE (t : List Nat) : ∀ (l acc : List Ent) (f : Nat), (∀ e ∈ l, okEnt e ∧ EntB e) → acc.length + l.length ≤ 256 → (bodyP l).length / 512 + 1 ≤ f →
    readE f { b := bodyP l ++ (List.replicate 512 0 ++ t), path := [], link := [], told := false, list := acc } = some (if zerosP t = true then some (acc ++ l) else none)
  | [], acc, f, _, _, hf => by
    obtain ⟨f, rfl⟩ : ∃ g, f = g + 1 := ⟨f - 1, by omega⟩
    have e0 : bodyP [] = [] := rfl
    rw [e0, List.nil_append, readE, take_head (by simp)]
    dsimp only
    rw [if_pos (zeros_rep _), List.append_nil]
    cases z : zerosP t with
    | true => rw [if_neg (by simp)]; rfl
    | false => rw [if_pos (by simp)]; rfl
  | e :: l, acc, f, he, hc, hf => by
    obtain ⟨ok, eb⟩ := he e (by simp)
    obtain ⟨k1, k2, k3⟩ := kind_cases ok
    have hb : bodyP (e :: l) = oneP e ++ bodyP l := by simp [bodyP]
    have lH := headP_len (name := e.name) (link := e.link) e.mode.toNat e.data.length (kindP e) eb.name eb.link k3
    have zH := (head_tells (head_read (name := e.name) (link := e.link) e.mode.toNat e.data.length (kindP e) eb.name eb.link k3) ok.1.2 ok.2.1.2 (by
      have := ok.2.2.2.1
      have := ok.2.2.2.2.1
      have : (4096 : Nat) < 8 ^ 7 := by decide
      omega) eb.small).2.2.2.2
    have lc : (e :: l).length = l.length + 1 := rfl
    have main : ∀ (path link : List Nat) (told : Bool) (g : Nat), (if path = [] then e.name.take 100 else path) = e.name → (if link = [] then e.link.take 100 else link) = e.link → (bodyP l).length / 512 + 1 ≤ g →
        readE (g + 1) { b := headP e.name e.mode.toNat e.data.length (kindP e) e.link ++ (fillP e.data ++ (bodyP l ++ (List.replicate 512 0 ++ t))), path := path, link := link, told := told, list := acc } = some (if zerosP t = true then some (acc ++ e :: l) else none) := fun path link told g hp hl hg => by
      rw [readE, take_head lH]
      dsimp only
      rw [if_neg (by rw [zH]; simp)]
      rw [entry_main ok eb _ path link told acc hp hl (by omega)]
      dsimp only
      rw [read_bodyE t l (acc ++ [e]) g (fun x hx => he x (by simp [hx])) (by simp; omega) hg]
      simp
    by_cases ne : moreP e = []
    · have hone : oneP e = headP e.name e.mode.toNat e.data.length (kindP e) e.link ++ fillP e.data := by
        rw [oneP, if_neg (by simp [ne]), List.nil_append]
      have nn : e.name.length ≤ 100 ∧ e.link.length ≤ 100 := by
        unfold moreP at ne
        have := List.append_eq_nil_iff.1 ne
        constructor
        · rcases Nat.lt_or_ge 100 e.name.length with q | q
          · rw [if_pos q] at this; exact absurd this.1 (recP_ne _ _)
          · exact q
        · rcases Nat.lt_or_ge 100 e.link.length with q | q
          · rw [if_pos q] at this; exact absurd this.2 (recP_ne _ _)
          · exact q
      have lb : (bodyP (e :: l)).length = 512 + (fillP e.data).length + (bodyP l).length := by
        rw [hb, hone, List.length_append, List.length_append, lH]
      obtain ⟨g, rfl⟩ : ∃ g, f = g + 1 := ⟨f - 1, by omega⟩
      rw [hb, hone, List.append_assoc, List.append_assoc]
      refine main [] [] false g ?_ ?_ (by omega)
      · rw [if_pos rfl, List.take_of_length_le nn.1]
      · rw [if_pos rfl, List.take_of_length_le nn.2]
    · have lX := headP_len (name := paxS) (link := []) 0 (moreP e).length 120 bytes_paxS (by intro x hx; cases hx) (by decide)
      have ml := more_len ok
      have zX := (head_tells (head_read (name := paxS) (link := []) 0 (moreP e).length 120 bytes_paxS (by intro x hx; cases hx) (by decide)) zero_paxS (by simp) (by decide) (by
        have : (2100 : Nat) < 8 ^ 11 := by decide
        omega)).2.2.2.2
      have hone : oneP e = headP paxS 0 (moreP e).length 120 [] ++ (fillP (moreP e) ++ (headP e.name e.mode.toNat e.data.length (kindP e) e.link ++ fillP e.data)) := by
        rw [oneP, if_pos ne]; simp
      have lb : (bodyP (e :: l)).length = 512 + (fillP (moreP e)).length + 512 + (fillP e.data).length + (bodyP l).length := by
        rw [hb, hone, List.length_append, List.length_append, List.length_append, List.length_append, lX, lH]; omega
      obtain ⟨g, rfl⟩ : ∃ g, f = g + 1 + 1 := ⟨f - 2, by omega⟩
      rw [hb, hone]
      have e1 : headP paxS 0 (moreP e).length 120 [] ++ (fillP (moreP e) ++ (headP e.name e.mode.toNat e.data.length (kindP e) e.link ++ fillP e.data)) ++ bodyP l ++ (List.replicate 512 0 ++ t) =
          headP paxS 0 (moreP e).length 120 [] ++ (fillP (moreP e) ++ (headP e.name e.mode.toNat e.data.length (kindP e) e.link ++ (fillP e.data ++ (bodyP l ++ (List.replicate 512 0 ++ t))))) := by simp
      rw [e1, readE, take_head lX]
      dsimp only
      rw [if_neg (by rw [zX]; simp), entry_pax ok ne]
      dsimp only
      refine main _ _ true g ?_ ?_ (by omega)
      · by_cases q : 100 < e.name.length
        · rw [if_pos q, if_neg (by intro z; rw [z] at q; simp at q)]
        · rw [if_neg q, if_pos rfl, List.take_of_length_le (by omega)]
      · by_cases q : 100 < e.link.length
        · rw [if_pos q, if_neg (by intro z; rw [z] at q; simp at q)]
        · rw [if_neg q, if_pos rfl, List.take_of_length_le (by omega)]
/-- The same, where the first head is another that tells the same. -/
theorem read_loose (t : List Nat) {e : Ent} {l : List Ent} {H : List Nat} {kd f : Nat} (he : ∀ x ∈ e :: l, okEnt x ∧ EntB x) (hc : (e :: l).length ≤ 256) (nm : moreP e = []) (r : HeadR H e.name e.mode.toNat e.data.length kd e.link) (k1 : kindOfT kd = some e.kind) (k2 : kd ≠ 120) (hf : (bodyP l).length / 512 + 1 ≤ f) :
    readE (f + 1) { b := H ++ (fillP e.data ++ (bodyP l ++ (List.replicate 512 0 ++ t))), path := [], link := [], told := false, list := [] } = some (if zerosP t = true then some (e :: l) else none) := by
  obtain ⟨ok, eb⟩ := he e (by simp)
  have zH := (head_tells r ok.1.2 ok.2.1.2 (by
    have := ok.2.2.2.1
    have := ok.2.2.2.2.1
    have : (4096 : Nat) < 8 ^ 7 := by decide
    omega) eb.small).2.2.2.2
  have nn : e.name.length ≤ 100 ∧ e.link.length ≤ 100 := by
    unfold moreP at nm
    have := List.append_eq_nil_iff.1 nm
    constructor
    · rcases Nat.lt_or_ge 100 e.name.length with q | q
      · rw [if_pos q] at this; exact absurd this.1 (recP_ne _ _)
      · exact q
    · rcases Nat.lt_or_ge 100 e.link.length with q | q
      · rw [if_pos q] at this; exact absurd this.2 (recP_ne _ _)
      · exact q
  rw [readE, take_head r.len]
  dsimp only
  rw [if_neg (by rw [zH]; simp)]
  rw [entry_head ok eb r k1 k2 _ [] [] false [] (by rw [if_pos rfl, List.take_of_length_le nn.1]) (by rw [if_pos rfl, List.take_of_length_le nn.2]) (by simp)]
  dsimp only
  rw [read_bodyE t l ([] ++ [e]) f (fun x hx => he x (by simp [hx])) (by simpa [Nat.add_comm] using hc) hf]
  simp
end Go.Proofs.YtflfhbnflcfmgaaGreatDoor
set_option linter.unusedSimpArgs false
set_option linter.unusedVariables false
set_option maxRecDepth 100000
set_option maxHeartbeats 1000000
namespace Go.Proofs.YtflfhbnflcfmgaaGreatDoor
open Go Go.SL Go.Pure Go.Tar
theorem recP_bb {nm v : List Nat} (b1 : Bytes nm) (b2 : Bytes v) : Bytes (recP nm v) := by
  refine Bytes.append (asc_bytes fun x hx => dig_lt (by decide) _ x hx) ?_
  unfold recBody
  refine (((Bytes.append ?_ b1).append ?_).append b2).append ?_ <;> (intro x hx; rw [List.mem_singleton.1 hx]; decide)
theorem moreP_bb {e : Ent} (bn : Bytes e.name) (bl : Bytes e.link) : Bytes (moreP e) := by
  have bp : Bytes pathS := by unfold Bytes pathS; decide
  have bk : Bytes linkS := by unfold Bytes linkS; decide
  have en' : Bytes ([] : List Nat) := by intro x hx; cases hx
  unfold moreP
  refine Bytes.append ?_ ?_
  · split
    · exact recP_bb bp bn
    · exact en'
  · split
    · exact recP_bb bk bl
    · exact en'
section
variable {R h : Hp} {K : Value → Hp → Prop}
theorem T_refWrite {lv : Value} {l : List Ent} (a : LiR R lv l) (x : Hp.cle R h) (hl : l.length ≤ 9223372036854775807) (g : l.length ≤ 256 ∧ ∀ e ∈ l, okEnt e) (hsz : (writeP l).length ≤ 1048576)
    (kW : ∀ r h', Nn h t_uint8 .u8 r h' (writeP l) → K (.tuple #[r, .int .i64 0]) h') : Cn P n_orlopref19_Write #[lv] h K := by
  refine Cn_wk (F_orlopref19_Write ?_)
  unfold s_orlopref19_Write
  refine T_refMay a x hl ?_
  obtain ⟨a0, c, rfl, hc⟩ := a.shape
  have hw : (writeP l).length = (bodyP l).length + 1024 := by rw [writeP, List.length_append, List.length_replicate]
  simp -zeta only [g.1, true_and, decide_true, show (decide (∀ e ∈ l, okEnt e)) = true from decide_eq_true g.2, GL, Bool.not_true, Bool.false_eq_true, if_false, RL]
  intro J6
  have q6 : ∀ t H, Nn h t_uint8 .u8 t H (bodyP l) → J6 t H := by
    intro t H n
    simp -zeta only [J6]
    clear J6
    have i1024 : (1024 : Int) = ((1024 : Nat) : Int) := rfl
    rw [i1024]
    refine aw_grow u_Sl_uint8 u_int nfo_uint8 rfl rfl (by decide) n (by omega) (.refl _) fun v' h'' n2 => ?_
    have n3 : Nn h t_uint8 .u8 v' h'' (writeP l) := by
      unfold Nn writeP
      rw [nv_app, ← replicate_nv, List.length_append, List.length_replicate]
      exact n2
    obtain ⟨ao, co, rfl, _⟩ := n3.rn.shape
    have dg : decide ((1048576 : Int) < (((writeP l).length : Nat) : Int)) = false := decide_eq_false (by omega)
    simp -zeta only [RL, GL, dg, Bool.false_eq_true, if_false]
    exact ⟨h'', .refl _, kW _ h'' n3⟩
  clear_value J6
  refine Lp_mk (fun m vs H => ∃ (i : Nat) (out : Value), i + m = l.length ∧ Nn h t_uint8 .u8 out H (bodyP (l.take i)) ∧ vs = [out, .int .i64 (i : Int)]) l.length
    ⟨0, .slice none 0 0, by omega, Nn.nil .., rfl⟩ ?_
  rintro m vs H ⟨i, out, hi, n, rfl⟩
  have lout := bodyP_le l i
  simp -zeta only [GL, List.getD_cons_zero, List.getD_cons_succ, lt_dec]
  intro J9
  have q9 : i < l.length → J9 H := by
    intro hlt
    simp -zeta only [J9]
    clear J9
    have he : l[i]? = some l[i] := List.getElem?_eq_getElem hlt
    have ok := g.2 _ (List.getElem_mem hlt)
    have hnx := bodyP_take hlt
    have lnx := bodyP_le l (i + 1)
    refine q_el a (x.trans n.cle) he fun p dv en0 _ => ?_
    generalize l[i] = e at *
    refine aw_allocL [.string ⟨#[]⟩, .int .i64 0, .int .i64 0, .string ⟨#[]⟩, .slice none 0 0] zr_En rfl fun r6 hr6 => ?_
    have hz5 : sz P t_api_Entry = some (entC e dv).length := z_api_Entry
    have en := en0.mono (x.trans n.cle)
    refine aw_storeRow (ys := entC e dv) hz5 (Hp.set_same ..) rfl (entC_flat en) (fun i _ => by simp) ?_
    rw [Hp.set_set]
    have e5 : ([Value.string ⟨#[]⟩, .int .i64 0, .int .i64 0, .string ⟨#[]⟩, .slice none 0 0] : List Value).length = 5 := rfl
    rw [e5]
    have hb6 : h r6 = none := n.noneAt hr6
    have n1 : Nn (h.set r6 (.row t_api_Entry (entC e dv) 5 (some (0, 0)))) t_uint8 .u8 out (H.set r6 (.row t_api_Entry (entC e dv) 5 (some (0, 0)))) (bodyP (l.take i)) := n.add hr6 _
    have x1 := ext_set (.row t_api_Entry (entC e dv) 5 (some (0, 0))) hb6
    have row1 : (h.set r6 (.row t_api_Entry (entC e dv) 5 (some (0, 0)))) r6 = some (.row t_api_Entry (entC e dv) 5 (some (0, 0))) := Hp.set_same ..
    have enB := (en0.mono x).mono x1.cle
    generalize h.set r6 (.row t_api_Entry (entC e dv) 5 (some (0, 0))) = B1 at *
    generalize H.set r6 (.row t_api_Entry (entC e dv) 5 (some (0, 0))) = H1 at *
    obtain ⟨ok1, ok2, ok3, ok4, ok5, ok6⟩ := id ok
    have em : e.mode = ((e.mode.toNat : Nat) : Int) := by omega
    obtain ⟨ad, cd, rfl, hcd⟩ := enB.rd.shape
    have cB := fun G (xg : Hp.ext B1 G) => entB (h := G) (o := 0) (A := []) (B := []) (e := e) (dv := .slice ad e.data.length cd) (by rw [xg _ _ row1, List.nil_append, List.append_nil]) rfl
    simp only [Nat.zero_add] at cB
    have eo : oneP e = (if moreP e ≠ [] then headP paxS 0 (moreP e).length 120 [] ++ fillP (moreP e) else []) ++ headP e.name e.mode.toNat e.data.length (kindP e) e.link ++ fillP e.data := rfl
    have bm := moreP_bb enB.bn enB.bl
    have ml := more_len ok
    have en' : Bytes ([] : List Nat) := by intro x hx; cases hx
    have lH := headP_len (name := e.name) (link := e.link) e.mode.toNat e.data.length (kindP e) enB.bn enB.bl (kind_cases ok).2.2
    intro J14
    have q14 : J14 (.string (strL (if 100 < e.name.length then recP pathS e.name else []))) H1 := by
      simp -zeta only [J14]
      clear J14
      intro J16
      have q16 : J16 (.string (strL (moreP e))) H1 := by
        simp -zeta only [J16]
        clear J16
        intro J18
        have q18 : ∀ t4 H2 X, Nn B1 t_uint8 .u8 t4 H2 X → X ++ headP e.name e.mode.toNat e.data.length (kindP e) e.link ++ fillP e.data = bodyP (l.take (i + 1)) → J18 t4 H2 := by
          intro t4 H2 X nX hX
          simp -zeta only [J18]
          clear J18
          have lX := congrArg List.length hX
          rw [List.length_append, List.length_append, fill_len, lH] at lX
          obtain ⟨d0, d1, d2, d3, d4⟩ := cB H2 nX.ext
          have k3 : (e.kind == 3) = decide (e.kind = 3) := dec_int ..
          have k2 : (e.kind == 2) = decide (e.kind = 2) := dec_int ..
          intro J21
          have q21 : ∀ kd : Nat, (e.kind ≠ 3 → kd = kindP e) → J21 (.int .u8 (kd : Int)) H2 := by
            intro kd hk
            simp -zeta only [J21]
            clear J21
            intro J23
            have q23 : ∀ kd : Nat, kd = kindP e → J23 (.int .u8 (kd : Int)) H2 := by
              rintro kd rfl
              simp -zeta only [J23]
              clear J23
              simp -zeta only [ef0, ef2, ef3, ef4, Nat.zero_add, RL, GL, d0, d2, d3, d4]
              rw [em]
              refine T_refHead enB.bn enB.bl (kind_cases ok).2.2 (by
                have : (4096 : Nat) < 8 ^ 7 := by decide
                omega) (by
                have : (1048577 : Nat) < 8 ^ 11 := by decide
                omega) fun hv H3 n3 => ?_
              have x3 := nX.ext.trans n3.ext
              obtain ⟨_, _, _, _, g4⟩ := cB H3 x3
              refine ⟨pk_of fun K => by simp only [RL, g4, GL], pk_of fun K => by rw [ef4], ?_⟩
              refine aw_appF nX n3 (by rw [lH]; omega) fun v4 H4 n4 => ?_
              have x4 := n4.ext
              obtain ⟨_, _, _, _, g4⟩ := cB H4 x4
              refine ⟨pk_of fun K => by simp only [RL, g4, GL], pk_of fun K => by rw [ef4], ?_⟩
              refine T_full (enB.rd.mono x4.cle) (by omega) fun fv H5 n5 => ?_
              refine aw_appF n4 n5 (by rw [List.length_append, lH, fill_len]; omega) fun v6 H6 n6 => ?_
              rw [hX] at n6
              have w1 : IntKind.i64.wrap ((i : Int) + 1) = ((i + 1 : Nat) : Int) := by rw [wi64 (by omega) (by omega)]; omega
              simp -zeta only [w1, GL]
              obtain ⟨h0, le0, nn⟩ := New.back n6 x1.le
              exact ⟨h0, le0, m - 1, by omega, i + 1, _, by omega, nn, rfl⟩
            clear_value J23
            simp -zeta only [ef1, Nat.zero_add, RL, GL, d1, k3]
            by_cases z : e.kind = 3
            · rw [decide_eq_true z, if_pos rfl]
              exact q23 50 (by unfold kindP; simp [z])
            · rw [decide_eq_false z, if_neg (by simp)]
              exact q23 kd (hk z)
          clear_value J21
          simp -zeta only [ef1, Nat.zero_add, RL, GL, d1, k2]
          by_cases z : e.kind = 2
          · rw [decide_eq_true z, if_pos rfl]
            exact q21 53 fun _ => by unfold kindP; simp [z]
          · rw [decide_eq_false z, if_neg (by simp)]
            exact q21 48 fun z3 => by unfold kindP; simp [z, z3]
        clear_value J18
        rw [empS, q_neqSt _ _ bm en']
        by_cases z : moreP e = []
        · rw [if_neg (by simpa using z), List.nil_append] at eo
          simp -zeta only [GL, z, ne_eq, not_true_eq_false, decide_false, Bool.false_eq_true, if_false]
          exact q18 out H1 _ n1 (by rw [hnx, eo, List.append_assoc])
        · rw [if_pos z] at eo
          simp -zeta only [GL, z, ne_eq, not_false_eq_true, decide_true, if_true]
          have sx : (⟨#[112, 97, 120]⟩ : ByteArray) = strL paxS := rfl
          rw [q_lenSt u_string, sx]
          have lX := headP_len (name := paxS) (link := []) 0 (moreP e).length 120 bytes_paxS en' (by decide)
          have hfx : (bodyP (l.take i)).length + 512 + (fillP (moreP e)).length ≤ 1048576 := by
            have hh := congrArg List.length hnx
            rw [eo] at hh
            simp only [List.length_append, lX] at hh
            omega
          refine T_refHead (mode := 0) bytes_paxS en' (by decide) (by decide) (by
            have : (2101 : Nat) < 8 ^ 11 := by decide
            omega) fun hv H3 n3 => ?_
          refine aw_appF n1 n3 (by rw [lX]; omega) fun v4 H4 n4 => ?_
          refine aw_stB u_string u_Sl_uint8 u_uint8 bm fun mv H5 n5 => ?_
          have n5' : Nn H4 t_uint8 .u8 mv H5 (moreP e) := n5
          refine Cn_wk (T_full n5'.rn (by omega) fun fv H6 n6 => ?_)
          obtain ⟨h0, le0, nn⟩ := New.back n6 n5'.ext.le
          refine ⟨h0, le0, ?_⟩
          refine aw_appF n4 nn (by rw [List.length_append, lX]; omega) fun v7 H7 n7 => ?_
          refine q18 v7 H7 _ n7 ?_
          rw [hnx, eo]
          simp
      clear_value J16
      obtain ⟨_, _, _, d3, _⟩ := cB H1 n1.ext
      have dl : decide ((100 : Int) < ((e.link.length : Nat) : Int)) = decide (100 < e.link.length) := by rw [decide_eq_decide]; omega
      simp -zeta only [ef3, Nat.zero_add, RL, GL, d3, strL_size, dl]
      have l1 := ok1.1
      have l2 := ok2.1
      by_cases z : 100 < e.link.length
      · rw [decide_eq_true z, if_pos rfl]
        have sl : (⟨#[108, 105, 110, 107, 112, 97, 116, 104]⟩ : ByteArray) = strL linkS := rfl
        have lk : linkS.length = 8 := rfl
        rw [sl]
        refine T_refRecord (by omega) (by omega) ?_
        have lm : (moreP e).length = (if 100 < e.name.length then recP pathS e.name else []).length + (recP linkS e.link).length := by
          unfold moreP
          rw [List.length_append, if_pos z]
        rw [q_addSt _ _ (by omega)]
        have em : (if 100 < e.name.length then recP pathS e.name else []) ++ recP linkS e.link = moreP e := by
          unfold moreP
          rw [if_pos z]
        rw [em]
        exact q16
      · rw [decide_eq_false z, if_neg (by simp)]
        have em : (if 100 < e.name.length then recP pathS e.name else []) = moreP e := by
          unfold moreP
          rw [if_neg z, List.append_nil]
        rw [em]
        exact q16
    clear_value J14
    obtain ⟨d0, _, _, _, _⟩ := cB H1 n1.ext
    have dl : decide ((100 : Int) < ((e.name.length : Nat) : Int)) = decide (100 < e.name.length) := by rw [decide_eq_decide]; omega
    simp -zeta only [ef0, RL, GL, d0, strL_size, dl]
    have l1 := ok1.1
    by_cases z : 100 < e.name.length
    · rw [decide_eq_true z, if_pos rfl]
      rw [if_pos z] at q14
      have sl : (⟨#[112, 97, 116, 104]⟩ : ByteArray) = strL pathS := rfl
      have lk : pathS.length = 4 := rfl
      rw [sl]
      exact T_refRecord (by omega) (by omega) q14
    · rw [decide_eq_false z, if_neg (by simp)]
      rw [if_neg z] at q14
      exact q14
  clear_value J9
  obtain ⟨ao, co, rfl, _⟩ := n.rn.shape
  have dg : decide ((((bodyP (l.take i)).length : Nat) : Int) ≤ 1048576) = true := decide_eq_true (by omega)
  by_cases hlt : i < l.length
  · simp -zeta only [hlt, decide_true, if_true, RL, GL, dg]
    exact q9 hlt
  · have : i = l.length := by omega
    subst this
    rw [List.take_length] at n
    simp -zeta only [hlt, decide_false, Bool.false_eq_true, if_false, RL, GL]
    rw [List.take_length]
    exact q6 _ _ n
end
end Go.Proofs.YtflfhbnflcfmgaaGreatDoor
set_option linter.unusedSimpArgs false
set_option linter.unusedVariables false
set_option maxRecDepth 100000
set_option maxHeartbeats 1000000
namespace Go.Proofs.YtflfhbnflcfmgaaGreatDoor
open Go Go.SL Go.Pure Go.Tar
theorem put_cons {H l : List Nat} {i x : Nat} (h : i < H.length) : (put H (i + 1) l).set i x = put H i (x :: l) := by
  have li : (H.take i).length = i := by rw [List.length_take]; omega
  have ht : H.take (i + 1) = H.take i ++ [H[i]] := by rw [List.take_succ_eq_append_getElem h]
  unfold put
  rw [ht, List.append_assoc, List.append_assoc, List.append_assoc, List.set_append_right _ _ (by omega), li, Nat.sub_self, List.singleton_append, List.set_cons_zero, List.cons_append, List.length_cons, show i + 1 + l.length = i + (l.length + 1) by omega]
theorem sum_put6 {b s : List Nat} (hs : s.length ≤ 8) (hb : 156 ≤ b.length) : Go.Tar.sumP (put b 148 s) = Go.Tar.sumP b := by
  have lp : (put b 148 s).length = b.length := put_len (by omega)
  have e1 : (put b 148 s).take 148 = b.take 148 := by
    have := sub_put_lt (b := b) (i := 148) (s := s) (j := 0) (n := 148) (by omega) (by omega)
    simpa [sub] using this
  have e2 : (put b 148 s).drop 156 = b.drop 156 := by
    have := sub_put_gt (b := b) (i := 148) (s := s) (j := 156) (n := b.length) (by omega) (by omega)
    unfold sub at this
    rw [List.take_of_length_le (by rw [List.length_drop, lp]; omega), List.take_of_length_le (by rw [List.length_drop]; omega)] at this
    exact this
  rw [Go.Tar.sumP, Go.Tar.sumP, e1, e2]
/-- A head of which owner, time and kind were changed, with its sum anew. -/
theorem loose_head {H name link : List Nat} {mode size kind x y kd : Nat} (r : HeadR H name mode size kind link) (bH : Bytes H) (hx : x < 256) (hy : y < 256) (hk : kd < 256) {H3 : List Nat} (e3 : H3 = put (put (put H 110 [x]) 140 [y]) 156 [kd]) :
    HeadR (put H3 148 (octS (Go.Tar.sumP H3) 6)) name mode size kd link ∧ Bytes (put H3 148 (octS (Go.Tar.sumP H3) 6)) ∧ Go.Tar.sumP H3 < 8 ^ 6 ∧ H3.length = 512 ∧ Bytes H3 := by
  have b1 : ∀ z, z < 256 → Bytes [z] := fun z hz w hw => by rw [List.mem_singleton.1 hw]; exact hz
  have step : ∀ (h : List Nat) (i : Nat) (s : List Nat), h.length = 512 → Bytes h → Bytes s → i + s.length ≤ 512 →
      (put h i s).length = 512 ∧ Bytes (put h i s) ∧ (∀ j n, j + n ≤ i ∨ i + s.length ≤ j → sub (put h i s) j n = sub h j n) ∧ sub (put h i s) i s.length = s := fun h i s lh bh bs hi =>
    ⟨by rw [put_len (by omega), lh], put_bytes bh bs i, fun j n q => by
      rcases q with q | q
      · exact sub_put_lt q (by omega)
      · exact sub_put_gt q (by omega), sub_put_eq (by omega)⟩
  obtain ⟨l1, B1, E1, V1⟩ := step H 110 [x] r.len bH (b1 _ hx) (by simp)
  generalize put H 110 [x] = H1 at *
  obtain ⟨l2, B2, E2, V2⟩ := step H1 140 [y] l1 B1 (b1 _ hy) (by simp)
  generalize put H1 140 [y] = H2 at *
  obtain ⟨l3, B3, E3, V3⟩ := step H2 156 [kd] l2 B2 (b1 _ hk) (by simp)
  rw [← e3] at *
  clear e3
  have sl : Go.Tar.sumP H3 < 8 ^ 6 := by
    have q1 := sum_le (B3.take 148)
    have q2 := sum_le (B3.drop 156)
    rw [List.length_take] at q1
    rw [List.length_drop] at q2
    unfold Go.Tar.sumP
    omega
  have s6 : (octS (Go.Tar.sumP H3) 6).length = 6 := octS_len _ _
  obtain ⟨l4, B4, E4, V4⟩ := step H3 148 (octS (Go.Tar.sumP H3) 6) l3 B3 (octS_b _ _) (by omega)
  have sp := sum_put6 (b := H3) (s := octS (Go.Tar.sumP H3) 6) (by omega) (by omega)
  rw [s6] at E4 V4
  simp only [List.length_singleton] at E1 E2 E3 V3
  have A : ∀ j n, (j + n ≤ 148 ∨ 154 ≤ j) → (j + n ≤ 156 ∨ 157 ≤ j) → (j + n ≤ 140 ∨ 141 ≤ j) → (j + n ≤ 110 ∨ 111 ≤ j) → sub (put H3 148 (octS (Go.Tar.sumP H3) 6)) j n = sub H j n := fun j n h1 h2 h3 h4 => by
    rw [E4 _ _ h1, E3 _ _ h2, E2 _ _ h3, E1 _ _ h4]
  refine ⟨⟨l4, ?_, ?_, ?_, ?_, by rw [sp]; exact sl, ?_, ?_, ?_, ?_⟩, B4, sl, l3, B3⟩
  · rw [A _ _ (by omega) (by omega) (by omega) (by omega)]; exact r.nm
  · rw [A _ _ (by omega) (by omega) (by omega) (by omega)]; exact r.md
  · rw [A _ _ (by omega) (by omega) (by omega) (by omega)]; exact r.sz
  · have c0 := r.ck
    rw [show (8 : Nat) = 6 + 2 from rfl, sub_add] at c0
    have c1 : sub H 154 2 = [0, 32] := by
      have lc : (sub H 148 6).length = 6 := by
        unfold sub
        rw [List.length_take, List.length_drop, r.len]
        rfl
      exact (List.append_inj c0 (by rw [lc, octS_len])).2
    rw [show (8 : Nat) = 6 + 2 from rfl, sub_add, V4, sp, A 154 2 (by omega) (by omega) (by omega) (by omega), c1]
  · have := getD_sub (put H3 148 (octS (Go.Tar.sumP H3) 6)) 156 (by omega)
    rw [E4 _ _ (by omega), V3] at this
    simpa using this.symm
  · rw [A _ _ (by omega) (by omega) (by omega) (by omega)]; exact r.lk
  · rw [A _ _ (by omega) (by omega) (by omega) (by omega)]; exact r.mg
  · rw [A _ _ (by omega) (by omega) (by omega) (by omega)]; exact r.fr
theorem oneP_lenZ {e : Ent} (ok : okEnt e) (b : EntB e) : (oneP e).length ≤ 1023 + 32 * szE e := by
  have lH := headP_len (name := e.name) (link := e.link) e.mode.toNat e.data.length (kindP e) b.name b.link (kind_cases ok).2.2
  have lX := headP_len (name := paxS) (link := []) 0 (moreP e).length 120 bytes_paxS (by intro x hx; cases hx) (by decide)
  have ml := more_len ok
  have es : szE e = 1 + e.name.length + e.link.length + e.data.length := rfl
  unfold oneP
  rw [List.length_append, List.length_append, lH, fill_len]
  split
  · rename_i ne
    have : 101 ≤ e.name.length + e.link.length := by
      rcases Nat.lt_or_ge 100 (e.name.length + e.link.length) with q | q
      · exact q
      · exact absurd (by
          unfold moreP
          rw [if_neg (by omega), if_neg (by omega)]
          rfl) ne
    rw [List.length_append, lX, fill_len]
    omega
  · simp only [List.length_nil]
    omega
theorem bodyP_lenZ : ∀ l : List Ent, (∀ e ∈ l, okEnt e ∧ EntB e) → (bodyP l).length ≤ 1023 * l.length + 32 * szL l
  | [], _ => by simp [bodyP]
  | e :: l, h => by
    have h1 := oneP_lenZ (h e (by simp)).1 (h e (by simp)).2
    have h2 := bodyP_lenZ l fun x hx => h x (by simp [hx])
    have e1 : bodyP (e :: l) = oneP e ++ bodyP l := by simp [bodyP]
    have e2 : szL (e :: l) = szE e + szL l := by simp [szL]
    rw [e1, e2, List.length_append, List.length_cons]
    omega
theorem zeros_one (k : Nat) : zerosP (List.replicate k 0 ++ [1]) = false := by
  unfold zerosP
  rw [List.all_append]
  simp [isZ]
theorem rep_1024 (k : Nat) : List.replicate 1024 0 ++ List.replicate k 0 = List.replicate 512 0 ++ List.replicate (512 + k) (0 : Nat) := by
  rw [List.replicate_append_replicate, List.replicate_append_replicate]
  congr 1
  omega
/-- What was written, with more bytes 0, and with a byte behind. -/
theorem read_more {l : List Ent} (he : ∀ e ∈ l, okEnt e ∧ EntB e) (hc : l.length ≤ 256) (k : Nat) :
    readE ((bodyP l).length / 512 + 1) { b := writeP l ++ List.replicate k 0, path := [], link := [], told := false, list := [] } = some (some l) ∧
    readE ((bodyP l).length / 512 + 1) { b := writeP l ++ List.replicate k 0 ++ [1], path := [], link := [], told := false, list := [] } = some none := by
  have a1 := read_bodyE (List.replicate (512 + k) 0) l [] _ he (by simpa using hc) (Nat.le_refl _)
  have a2 := read_bodyE (List.replicate (512 + k) 0 ++ [1]) l [] _ he (by simpa using hc) (Nat.le_refl _)
  rw [zeros_rep, if_pos rfl, List.nil_append] at a1
  rw [zeros_one, if_neg (by simp)] at a2
  have e1 : writeP l ++ List.replicate k 0 = bodyP l ++ (List.replicate 512 0 ++ List.replicate (512 + k) 0) := by
    rw [writeP, List.append_assoc, rep_1024]
  rw [e1]
  refine ⟨a1, ?_⟩
  rw [List.append_assoc, List.append_assoc]
  exact a2
/-- The first head changed. -/
theorem read_changed {e : Ent} {l : List Ent} {H : List Nat} {kd : Nat} (he : ∀ x ∈ e :: l, okEnt x ∧ EntB x) (hc : (e :: l).length ≤ 256) (nm : moreP e = []) (r : HeadR H e.name e.mode.toNat e.data.length kd e.link) (k1 : kindOfT kd = some e.kind) (k2 : kd ≠ 120) (k : Nat) :
    readE ((bodyP l).length / 512 + 1 + 1) { b := H ++ (fillP e.data ++ (bodyP l ++ (List.replicate 1024 0 ++ List.replicate k 0))), path := [], link := [], told := false, list := [] } = some (some (e :: l)) ∧
    readE ((bodyP l).length / 512 + 1 + 1) { b := H ++ (fillP e.data ++ (bodyP l ++ (List.replicate 1024 0 ++ List.replicate k 0))) ++ [1], path := [], link := [], told := false, list := [] } = some none := by
  have a1 := read_loose (List.replicate (512 + k) 0) he hc nm r k1 k2 (Nat.le_refl _)
  have a2 := read_loose (List.replicate (512 + k) 0 ++ [1]) he hc nm r k1 k2 (Nat.le_refl _)
  rw [zeros_rep, if_pos rfl] at a1
  rw [zeros_one, if_neg (by simp)] at a2
  rw [rep_1024]
  refine ⟨a1, ?_⟩
  rw [List.append_assoc, List.append_assoc, List.append_assoc, List.append_assoc]
  exact a2
theorem write_first {e : Ent} {l : List Ent} (nm : moreP e = []) (k : Nat) : writeP (e :: l) ++ List.replicate k 0 = headP e.name e.mode.toNat e.data.length (kindP e) e.link ++ (fillP e.data ++ (bodyP l ++ (List.replicate 1024 0 ++ List.replicate k 0))) := by
  have e1 : bodyP (e :: l) = oneP e ++ bodyP l := by simp [bodyP]
  have e2 : oneP e = headP e.name e.mode.toNat e.data.length (kindP e) e.link ++ fillP e.data := by
    rw [oneP, if_neg (by simp [nm]), List.nil_append]
  rw [writeP, e1, e2]
  simp only [List.append_assoc]
theorem write_pax {e : Ent} {l : List Ent} (nm : moreP e ≠ []) (k : Nat) : ∃ t, writeP (e :: l) ++ List.replicate k 0 = headP paxS 0 (moreP e).length 120 [] ++ t := by
  have e1 : bodyP (e :: l) = oneP e ++ bodyP l := by simp [bodyP]
  have e2 : oneP e = headP paxS 0 (moreP e).length 120 [] ++ (fillP (moreP e) ++ (headP e.name e.mode.toNat e.data.length (kindP e) e.link ++ fillP e.data)) := by
    rw [oneP, if_pos nm]; simp
  rw [writeP, e1, e2]
  simp only [List.append_assoc]
  exact ⟨_, rfl⟩
theorem rep_b (k : Nat) : Bytes (List.replicate k 0) := fun x hx => by rw [List.eq_of_mem_replicate hx]; decide
end Go.Proofs.YtflfhbnflcfmgaaGreatDoor
