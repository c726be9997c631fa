/- What the functions that make numbers' bytes, and hold bytes against bytes, come to. Conditions: each names its own. -/
import Derived.Test.YtnecdbclhdbaoaaSWa
set_option linter.unusedSimpArgs false
set_option linter.unusedVariables false
set_option maxRecDepth 100000
namespace Go.Proofs.Ytnecdbclhdbaoaa
open Go Go.SL Go.Pure

theorem replicate_nv (k : IntKind) (n : Nat) : List.replicate n (Value.int k 0) = nv k (List.replicate n 0) := by simp [nv]

theorem le_step (n v i : Nat) (hi : i < n) : ((le n v).take i ++ List.replicate (n - i) 0).set i (v / 256 ^ i % 256) = (le n v).take (i + 1) ++ List.replicate (n - (i + 1)) 0 := by
  have hl : ((le n v).take i).length = i := by rw [List.length_take, le_len]; omega
  have hlt : i < (le n v).length := by rw [le_len]; exact hi
  obtain ⟨d, hd⟩ : ∃ d, n - i = d + 1 := ⟨n - i - 1, by omega⟩
  rw [hd, List.set_append_right _ _ (by omega), hl, Nat.sub_self, List.replicate_succ, List.set_cons_zero, List.take_succ_eq_append_getElem hlt]
  have : (le n v)[i] = v / 256 ^ i % 256 := by
    have := le_get n v i hi
    rw [List.getD_eq_getElem?_getD, List.getElem?_eq_getElem hlt] at this
    exact this
  rw [this, List.append_assoc, show n - (i + 1) = d by omega]
  rfl

theorem T_word_little {h : Hp} {K : Value → Hp → Prop} (v n : Nat) (hv : v < 2 ^ 64) (hn : n ≤ 8) (h0 : 0 < n) (k : ∀ r h', Nn h t_uint8 .u8 r h' (le n v) → K r h') : Cn P n_word_little #[.int .u64 v, .int .i64 n] h K := by
  refine F_word_little ?_
  unfold s_word_little
  refine aw_make u_Sl_uint8 nfo_uint8 rfl (Nat.le_refl n) (by omega) (by omega) fun r h1 hw => ?_
  obtain ⟨b, c, f, hb, hc, rfl, _, _⟩ := hw.form h0
  rw [replicate_nv] at hw
  refine Lp_mk (fun m vs h' => ∃ i : Nat, i + m = n ∧ New h t_uint8 1 (.slice (some ⟨b, 0, none⟩) n c) h' (nv .u8 ((le n v).take i ++ List.replicate (n - i) 0)) n ∧ vs = [.int .i64 (i : Int)]) n ⟨0, by omega, by simpa using hw, rfl⟩ ?_
  clear hw
  rintro m vs h2 ⟨i, hi, hw, rfl⟩
  simp (disch := omega) only [GL, RL, wi64]
  split
  · rename_i hlt
    simp only [decide_eq_true_eq, Int.ofNat_lt] at hlt
    simp (disch := omega) only [GL, RL, wi64]
    refine aw_storeN (i := i) z_uint8 hw (by omega) (by rfl) fun h3 hw3 => ?_
    refine ⟨_, .refl _, m - 1, by omega, i + 1, by omega, ?_, rfl⟩
    have e1 : min (8 * (i : Int)).toNat IntKind.u64.bits = 8 * i := by simp only [IntKind.bits]; omega
    rw [e1, fdivp, wu8, nv_set, ← pow256, le_step n v i hlt] at hw3
    exact hw3
  · rename_i hge
    simp only [decide_eq_true_eq, Int.ofNat_lt] at hge
    obtain rfl : i = n := by omega
    refine k _ _ ?_
    rw [Nat.sub_self, List.replicate_zero, List.append_nil, List.take_of_length_le (by rw [le_len]; omega)] at hw
    unfold Nn
    rw [le_len]
    exact hw

theorem T_word_Put64 {h : Hp} {K : Value → Hp → Prop} (v : Nat) (hv : v < 2 ^ 64) (k : ∀ r h', Nn h t_uint8 .u8 r h' (le 8 v) → K r h') : Cn P n_word_Put64 #[.int .u64 v] h K := by
  refine F_word_Put64 ?_
  unfold s_word_Put64
  exact T_word_little v 8 hv (by omega) (by omega) k
theorem T_word_Put32 {h : Hp} {K : Value → Hp → Prop} (v : Nat) (hv : v < 2 ^ 32) (k : ∀ r h', Nn h t_uint8 .u8 r h' (le 4 v) → K r h') : Cn P n_word_Put32 #[.int .u32 v] h K := by
  refine F_word_Put32 ?_
  unfold s_word_Put32
  simp (disch := omega) only [GL, RL, wu64i]
  exact T_word_little v 4 (by omega) (by omega) (by omega) k

theorem T_orlopref01_Little {h : Hp} {K : Value → Hp → Prop} (v n : Nat) (hv : v < 2 ^ 64) (hn : n ≤ 8) (k : ∀ r h', Nn h t_uint8 .u8 r h' (le n v) → K r h') : Cn P n_orlopref01_Little #[.int .u64 v, .int .i64 n] h K := by
  refine F_orlopref01_Little ?_
  unfold s_orlopref01_Little
  refine Lp_mk (fun m vs h' => ∃ (i w : Nat) (r : Value), i + m = n ∧ w < 2 ^ 64 ∧ Nn h t_uint8 .u8 r h' ((le n v).take i) ∧ (le n v).drop i = le (n - i) w ∧ vs = [r, .int .u64 (w : Int), .int .i64 (i : Int)]) n ⟨0, v, _, by omega, hv, Nn.nil .., rfl, rfl⟩ ?_
  rintro m vs h2 ⟨i, w, r, hi, hw64, hw, hd, rfl⟩
  simp (disch := omega) only [GL, RL, wi64]
  split
  · rename_i hlt
    simp only [decide_eq_true_eq, Int.ofNat_lt] at hlt
    have e1 : (w : Int).tmod 256 = ((w % 256 : Nat) : Int) := by rw [Int.tmod_eq_emod_of_nonneg (by omega)]; omega
    have e2 : IntKind.u64.wrap ((w : Int).tdiv 256) = ((w / 256 : Nat) : Int) := by rw [Int.tdiv_eq_ediv_of_nonneg (by omega), wu64i (by omega) (by omega)]; omega
    rw [e1, wu8i (by omega) (by omega)]
    refine aw_lit (ps := [(0, _)]) u_Sl_uint8 z_uint8 zr_uint8 rfl (by omega) (by intro p hp; rw [List.mem_singleton.1 hp]; exact ⟨rfl, by omega⟩) fun x h3 hx hxe => ?_
    obtain ⟨rr, hrr, rfl, rfl⟩ := hxe
    have hwn := New.add hw hrr (.row t_uint8 (fillL [(0, Value.int .u8 ((w % 256 : Nat) : Int))] (List.replicate 1 (Value.int .u8 0))) 1 (some (0, 0)))
    refine aw_append u_Sl_uint8 u_Sl_uint8 nfo_uint8 rfl (by omega) hwn (New.rds hx) ?_ ?_ (le_fresh (hw.noneAt hrr)) fun v' h4 hw4 => ?_
    · intro y hy
      simp [fillL] at hy
      subst hy
      rfl
    · rw [List.length_take, le_len]; omega
    · refine ⟨_, .refl _, m - 1, by omega, i + 1, w / 256, v', by omega, by omega, ?_, ?_, by rw [e2]; rfl⟩
      · have hlt' : i < (le n v).length := by rw [le_len]; exact hlt
        obtain ⟨d, hdd⟩ : ∃ d, n - i = d + 1 := ⟨n - i - 1, by omega⟩
        rw [hdd, List.drop_eq_getElem_cons hlt'] at hd
        simp only [le, List.cons.injEq] at hd
        unfold Nn
        rw [List.take_succ_eq_append_getElem hlt', nv_app, hd.1, List.length_append]
        exact hw4
      · have hlt' : i < (le n v).length := by rw [le_len]; exact hlt
        obtain ⟨d, hdd⟩ : ∃ d, n - i = d + 1 := ⟨n - i - 1, by omega⟩
        rw [hdd, List.drop_eq_getElem_cons hlt'] at hd
        simp only [le, List.cons.injEq] at hd
        rw [hd.2, show n - (i + 1) = d by omega]
  · rename_i hge
    simp only [decide_eq_true_eq, Int.ofNat_lt] at hge
    obtain rfl : i = n := by omega
    rw [List.take_of_length_le (by rw [le_len]; omega)] at hw
    exact k _ _ hw

theorem T_orlopref01_Equal {h : Hp} {K : Value → Hp → Prop} {v w : Value} {l m : List Nat} (hv : Rn h .u8 v l) (hw : Rn h .u8 w m) (hl : l.length ≤ 9223372036854775807) (k : K (.bool (decide (l = m))) h) : Cn P n_orlopref01_Equal #[v, w] h K := by
  refine F_orlopref01_Equal ?_
  obtain ⟨a, c, rfl, hc⟩ := hv.shape
  obtain ⟨a', c', rfl, hc'⟩ := hw.shape
  unfold s_orlopref01_Equal
  simp (disch := omega) only [GL, RL]
  by_cases hlen : l.length = m.length
  · rw [if_neg (by simp [hlen])]
    refine Lp_mk (fun n vs h' => ∃ (i : Nat) (r : Value), i + n = l.length ∧ h' = h ∧ (∀ j, j < i → l.getD j 0 = m.getD j 0) ∧ vs = [r, .int .i64 (i : Int)]) l.length ⟨0, _, by omega, rfl, fun j hj => by omega, rfl⟩ ?_
    rintro n vs h2 ⟨i, r, hi, rfl, hs, rfl⟩
    simp (disch := omega) only [GL, RL]
    split
    · rename_i hlt
      simp only [decide_eq_true_eq, Int.ofNat_lt] at hlt
      obtain ⟨b, o, rfl, hy⟩ := hv.pos (by omega)
      obtain ⟨b', o', rfl, hy'⟩ := hw.pos (by omega)
      simp (disch := omega) only [GL, RL, hy i hlt, hy' i (by omega), wi64]
      split
      · rename_i hne
        have : l ≠ m := by rintro rfl; simp at hne
        simpa [this] using k
      · rename_i he
        refine ⟨_, .refl _, n - 1, by omega, i + 1, r, by omega, rfl, fun j hj => ?_, rfl⟩
        by_cases hji : j = i
        · subst hji
          simp only [bne_iff_ne, ne_eq, Decidable.not_not] at he
          omega
        · exact hs j (by omega)
    · rename_i hge
      simp only [decide_eq_true_eq, Int.ofNat_lt] at hge
      have : l = m := by
        apply List.ext_getElem hlen
        intro j h1 h2
        have := hs j (by omega)
        simpa [h1, h2] using this
      simpa [this] using k
  · rw [if_pos (by simp; omega)]
    have : l ≠ m := by rintro rfl; exact hlen rfl
    simpa [this] using k
end Go.Proofs.Ytnecdbclhdbaoaa
