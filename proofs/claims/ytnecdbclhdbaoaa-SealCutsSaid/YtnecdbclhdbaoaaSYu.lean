/- What the reference's cutting comes to. Conditions: each names its own. -/
import Derived.Test.YtnecdbclhdbaoaaSYl
import Derived.Test.YtnecdbclhdbaoaaSPm
set_option linter.unusedSimpArgs false
set_option linter.unusedVariables false
set_option maxRecDepth 100000
set_option maxHeartbeats 1000000
namespace Go.Proofs.Ytnecdbclhdbaoaa
open Go Go.SL Go.Pure

theorem pk_q {h : Hp} {m : Sem Value} {v : Value} (e : ∀ K : Value → Prop, q P h m K = K v) : peek P h m = some v := by
  obtain ⟨x, hx, e2⟩ := withVal_elim (K := fun x => x = v) ((e fun x => x = v).mpr rfl)
  rw [e2] at hx
  exact hx
/-- Values that are rows of bytes. -/
def PsV (R : Hp) (ws : List Value) (ps : List (List Nat)) : Prop := ws.length = ps.length ∧ ∀ (j : Nat) (p : List Nat), ps[j]? = some p → ∃ y, ws[j]? = some y ∧ Rn R .u8 y p
theorem PsV.mono {R R' : Hp} {ws : List Value} {ps : List (List Nat)} (a : PsV R ws ps) (c : Hp.cle R R') : PsV R' ws ps := ⟨a.1, fun j p e => let ⟨y, h1, h2⟩ := a.2 j p e; ⟨y, h1, h2.mono c⟩⟩
theorem PsV.nil (R : Hp) : PsV R [] [] := ⟨rfl, fun j p e => by simp at e⟩
theorem PsV.one {R : Hp} {y : Value} {p : List Nat} (r : Rn R .u8 y p) : PsV R [y] [p] := ⟨rfl, fun j q e => by
  match j, e with
  | 0, e => simp only [List.getElem?_cons_zero, Option.some.injEq] at e; subst e; exact ⟨y, rfl, r⟩
  | j + 1, e => simp at e⟩
theorem PsV.app {R : Hp} {ws xs : List Value} {ps qs : List (List Nat)} (a : PsV R ws ps) (b : PsV R xs qs) : PsV R (ws ++ xs) (ps ++ qs) := ⟨by rw [List.length_append, List.length_append, a.1, b.1], fun j p e => by
  by_cases hj : j < ps.length
  · rw [List.getElem?_append_left hj] at e
    rw [List.getElem?_append_left (by rw [a.1]; exact hj)]
    exact a.2 j p e
  · rw [List.getElem?_append_right (by omega)] at e
    rw [List.getElem?_append_right (by rw [a.1]; omega), a.1]
    exact b.2 _ p e⟩
theorem PsV.take {R : Hp} {ws : List Value} {ps : List (List Nat)} (a : PsV R ws ps) (i : Nat) : PsV R (ws.take i) (ps.take i) := ⟨by rw [List.length_take, List.length_take, a.1], fun j p e => by
  rw [List.getElem?_take] at e
  split at e
  · rename_i hj
    rw [List.getElem?_take, if_pos hj]
    exact a.2 j p e
  · cases e⟩
theorem PsV.drop {R : Hp} {ws : List Value} {ps : List (List Nat)} (a : PsV R ws ps) (i : Nat) : PsV R (ws.drop i) (ps.drop i) := ⟨by rw [List.length_drop, List.length_drop, a.1], fun j p e => by
  rw [List.getElem?_drop] at e ⊢
  exact a.2 _ p e⟩
theorem PsV.set {R : Hp} {ws : List Value} {ps : List (List Nat)} {y : Value} {p : List Nat} (a : PsV R ws ps) (i : Nat) (r : Rn R .u8 y p) : PsV R (ws.set i y) (ps.set i p) := ⟨by rw [List.length_set, List.length_set, a.1], fun j q e => by
  rw [List.getElem?_set] at e ⊢
  by_cases hij : i = j
  · subst hij
    rw [if_pos rfl] at e ⊢
    split at e
    · rename_i hi
      rw [if_pos (by rw [a.1]; exact hi)]
      cases e
      exact ⟨y, rfl, r⟩
    · cases e
  · rw [if_neg hij] at e ⊢
    exact a.2 j q e⟩
theorem PsV.flat {R : Hp} {ws : List Value} {ps : List (List Nat)} (a : PsV R ws ps) : ∀ y ∈ ws, SL.flat y = true := by
  intro y hy
  obtain ⟨j, hj, rfl⟩ := List.getElem_of_mem hy
  obtain ⟨z, h1, h2⟩ := a.2 j _ (List.getElem?_eq_getElem (by rw [← a.1]; exact hj))
  rw [List.getElem?_eq_getElem hj, Option.some.injEq] at h1
  rw [h1]
  exact rn_flat h2
/-- A row of rows of bytes, to read. -/
def Ps (R : Hp) (v : Value) (ps : List (List Nat)) : Prop := ∃ ws, Rds R 1 v ws ps.length ∧ PsV R ws ps
theorem Ps.mono {R R' : Hp} {v : Value} {ps : List (List Nat)} (a : Ps R v ps) (c : Hp.cle R R') : Ps R' v ps := let ⟨ws, h1, h2⟩ := a; ⟨ws, h1.mono c, h2.mono c⟩
theorem cutF_fuel (n : Nat) (hn : 0 < n) : ∀ (f g : Nat) (b : List Nat), b.length ≤ f → b.length ≤ g → cutF n f b = cutF n g b
  | 0, g, b, hf, _ => by
    have : b = [] := List.eq_nil_of_length_eq_zero (by omega)
    subst this
    cases g <;> simp [cutF]
  | f + 1, 0, b, _, hg => by
    have : b = [] := List.eq_nil_of_length_eq_zero (by omega)
    subst this
    simp [cutF]
  | f + 1, g + 1, b, hf, hg => by
    simp only [cutF]
    split
    · rw [cutF_fuel n hn f g _ (by rw [List.length_drop]; omega) (by rw [List.length_drop]; omega)]
    · rfl
theorem cutL_step {n : Nat} (hn : 0 < n) {b : List Nat} (h : n < b.length) : cutL n b = b.take n :: cutL n (b.drop n) := by
  unfold cutL
  obtain ⟨f, hf⟩ : ∃ f, b.length = f + 1 := ⟨b.length - 1, by omega⟩
  rw [hf]
  simp only [cutF]
  rw [if_pos h, cutF_fuel n hn f (b.drop n).length _ (by rw [List.length_drop]; omega) (Nat.le_refl _)]
theorem cutL_end {n : Nat} {b : List Nat} (h : b.length ≤ n) : cutL n b = [b] := by
  unfold cutL
  cases e : b.length with
  | zero => rfl
  | succ f => simp only [cutF]; rw [if_neg (by omega)]

section
variable {h : Hp} {K : Value → Hp → Prop}
theorem T_ref_Cut {R : Hp} {S : List Nat} {v : Value} {b : List Nat} (n : Nat) (w : Own R h S) (hn : 0 < n) (hn2 : n ≤ 1099511627776) (hv : Rn R .u8 v b) (hb : b.length ≤ 1099511627776)
    (k : ∀ v' R' h', Stp R h R' h' S S → Hp.ext h h' → Ps R' v' (cutL n b) → K v' h') : Cn P n_orlopref17_Cut #[v, .int .i64 (n : Int)] h K := by
  refine F_orlopref17_Cut ?_
  unfold s_orlopref17_Cut
  refine Lp_mk (fun m vs h' => ∃ (ps : List (List Nat)) (rest : List Nat) (vo vr : Value) (ws : List Value), m = rest.length ∧ ps ++ cutL n rest = cutL n b ∧ ps.length + rest.length ≤ b.length ∧ New h t_Sl_uint8 1 vo h' ws ps.length ∧ PsV R ws ps ∧ Rn R .u8 vr rest ∧ vs = [vo, vr]) b.length
    ⟨[], b, .slice none 0 0, v, [], rfl, rfl, by simp, ⟨rfl, .inl ⟨rfl, rfl, rfl⟩⟩, PsV.nil R, hv, rfl⟩ ?_
  rintro m vs h1 ⟨ps, rest, vo, vr, ws, rfl, hps, hlen, nw, pv, rr, rfl⟩
  obtain ⟨ar, cr, rfl, hcr⟩ := rr.shape
  have eg : decide (((n : Nat) : Int) < ((rest.length : Nat) : Int)) = decide (n < rest.length) := by rw [decide_eq_decide]; omega
  simp (disch := omega) only [GL, RL, eg]
  by_cases hlt : n < rest.length
  · simp only [hlt, decide_true, if_true]
    rw [q_slHi (hi := n) u_Sl_uint8 z_uint8 ar rest.length cr .i64 (by omega)]
    have r1 : Rn R .u8 (.slice (SL.cut ar cr 0 1) n cr) (rest.take n) := rn_hi rr (by omega)
    refine aw_lit (n := 1) (ps := [(0, _)]) u_Sl_Sl_uint8 z_Sl_uint8 zr_Sl_uint8 rfl (by omega) (by intro p hp; rw [List.mem_singleton.1 hp]; exact ⟨rfl, by show _ < 1; omega⟩) fun y h2 n2 _ => ?_
    have n2' : New h1 t_Sl_uint8 1 y h2 [.slice (SL.cut ar cr 0 1) n cr] 1 := n2
    refine aw_appendN u_Sl_Sl_uint8 u_Sl_Sl_uint8 nfo_Sl_uint8 rfl (by omega) nw n2' (by intro z hz; rw [List.mem_singleton.1 hz]; rfl) (by omega) fun vo' h3 n3 => ?_
    rw [q_slLo u_Sl_uint8 z_uint8 ar rest.length cr .i64 n (by omega) (by omega)]
    have r2 : Rn R .u8 (.slice (SL.cut ar cr n 1) (rest.length - n) (cr - n)) (rest.drop n) := by
      have := rr.cut n rest.length (by omega) (Nat.le_refl _)
      rwa [List.take_of_length_le (Nat.le_refl _)] at this
    refine ⟨h3, .refl _, (rest.drop n).length, by rw [List.length_drop]; omega, ps ++ [rest.take n], rest.drop n, vo', _, _, rfl, ?_, by rw [List.length_append, List.length_drop, List.length_singleton]; omega, by rw [List.length_append]; exact n3, pv.app (PsV.one r1), r2, rfl⟩
    rw [List.append_assoc, ← hps, cutL_step hn hlt]
    rfl
  · simp only [hlt, decide_false, Bool.false_eq_true, if_false]
    have fr : SL.flat (.slice ar rest.length cr) = true := rfl
    generalize Value.slice ar rest.length cr = vr at rr fr
    refine aw_lit (n := 1) (ps := [(0, vr)]) u_Sl_Sl_uint8 z_Sl_uint8 zr_Sl_uint8 rfl (by omega) (by intro p hp; rw [List.mem_singleton.1 hp]; exact ⟨fr, by show _ < 1; omega⟩) fun y h2 n2 _ => ?_
    have n2' : New h1 t_Sl_uint8 1 y h2 [vr] 1 := n2
    refine aw_appendN u_Sl_Sl_uint8 u_Sl_Sl_uint8 nfo_Sl_uint8 rfl (by omega) nw n2' (by intro z hz; rw [List.mem_singleton.1 hz]; exact fr) (by omega) fun vo' h3 n3 => ?_
    obtain ⟨R', s', q'⟩ := Stp.new w n3
    refine k vo' R' h3 s' n3.ext ?_
    rw [← hps, cutL_end (by omega)]
    exact ⟨_, by rw [List.length_append]; exact q', (pv.app (PsV.one rr)).mono s'.ext.cle⟩
end
end Go.Proofs.Ytnecdbclhdbaoaa
