/- What CryptBlind comes to. Conditions: each names its own. -/
import Derived.Test.YtnecdbclhdbaoaaSYr
set_option linter.unusedSimpArgs false
set_option linter.unusedVariables false
set_option maxRecDepth 100000
set_option maxHeartbeats 1000000
namespace Go.Proofs.Ytnecdbclhdbaoaa
open Go Go.SL Go.Pure

theorem idxOf_get {ts : List (List Nat)} {t : List Nat} {i : Nat} (e : ts.idxOf? t = some i) : ts[i]? = some t := by
  rw [List.idxOf?_eq_some_iff] at e
  obtain ⟨hi, e, _⟩ := e
  rw [List.getElem?_eq_getElem hi]
  simpa using e
theorem textsOf_idx (ts : List (List Nat)) (t : List Nat) : (textsOf ts t).idxOf? t = some (numOf ts t) := by
  unfold textsOf numOf
  cases e : ts.idxOf? t with
  | some i => simpa using e
  | none =>
    simp only [Option.isSome_none, Bool.false_eq_true, if_false, Option.getD_none]
    rw [idxOf_snoc, e]; simp
theorem textsOf_len (ts : List (List Nat)) (t : List Nat) : (textsOf ts t).length ≤ ts.length + 1 := by
  unfold textsOf; split <;> simp
theorem numOf_eq (ts : List (List Nat)) (x t : List Nat) : numOf ts x = numOf (textsOf ts x) t ↔ x = t := by
  have hx := textsOf_idx ts x
  have gx := idxOf_get hx
  constructor
  · intro e
    cases ht : (textsOf ts x).idxOf? t with
    | none =>
      have : numOf (textsOf ts x) t = (textsOf ts x).length := by unfold numOf; rw [ht]; rfl
      have lt := (List.getElem?_eq_some_iff.1 gx).1
      omega
    | some m =>
      have : numOf (textsOf ts x) t = m := by unfold numOf; rw [ht]; rfl
      have gm := idxOf_get ht
      rw [← this, ← e, gx] at gm
      exact Option.some.inj gm
  · rintro rfl
    have : numOf (textsOf ts x) x = numOf ts x := by
      rw [show numOf (textsOf ts x) x = ((textsOf ts x).idxOf? x).getD (textsOf ts x).length from rfl, hx]; rfl
    exact this.symm
theorem sumB_inj {n m : Nat} (hn : n < 18446744073709551616) (hm : m < 18446744073709551616) : sumB n = sumB m ↔ n = m := by
  constructor
  · intro e
    have e : bg 8 n = bg 8 m := List.append_cancel_left e
    have := congrArg bval e
    rw [bval_bg, bval_bg] at this
    have p8 : (256 : Nat) ^ 8 = 18446744073709551616 := rfl
    rw [p8] at this
    omega
  · rintro rfl; rfl
theorem sumB_bytes (n : Nat) : Bytes (sumB n) := by
  intro x hx
  unfold sumB at hx
  rcases List.mem_append.1 hx with q | q
  · rcases List.mem_append.1 q with q | q
    · simp at q; omega
    · rw [List.mem_replicate] at q; omega
  · exact bg_bytes 8 n x q
theorem q_neqB {h : Hp} {K : Value → Prop} (x y : Operand) (a : Bool) : q P h (eqop .neq t_bool x y (.bool a) (.bool a)) K = K (.bool false) := by
  cases a
  · exact q_of (by kernel_rfl) K
  · exact q_of (by kernel_rfl) K
theorem CrAt.book {R h : Hp} {p : Nat} {ts : List (List Nat)} {bs : List Box} {S : List Nat} (c : CrAt R h (.iface t_Pt_crypt_book (.pointer (some ⟨p, 0, none⟩))) (.book ts bs) S) : BookAt R h p ts bs S := by
  obtain ⟨p', e, hB⟩ := c
  simp only [Value.iface.injEq, Value.pointer.injEq, Option.some.injEq, Addr.mk.injEq, true_and, and_true] at e
  subst e
  exact hB
/-- Rows of bytes, in a row. -/
def RowsAt (R : Hp) (v : Value) (n : Nat) : Prop :=
  ∃ a c, v = .slice a n c ∧ n ≤ c ∧ (n = 0 ∨ ∃ b o, a = some ⟨b, o, none⟩ ∧ ∀ i, i < n → ∃ y l, R.cell ⟨b, o + i, none⟩ = some y ∧ Rn R .u8 y l ∧ Bytes l)
theorem RowsAt.mono {R R' : Hp} {v : Value} {n : Nat} (A : RowsAt R v n) (c : Hp.cle R R') : RowsAt R' v n := by
  obtain ⟨a, m, h2, h3, h4⟩ := A
  refine ⟨a, m, h2, h3, ?_⟩
  rcases h4 with h0 | ⟨b, o, h5, h6⟩
  · exact .inl h0
  · exact .inr ⟨b, o, h5, fun i hi => let ⟨y, l, e, r, bl⟩ := h6 i hi; ⟨y, l, c _ _ e, r.mono c, bl⟩⟩
end Go.Proofs.Ytnecdbclhdbaoaa
