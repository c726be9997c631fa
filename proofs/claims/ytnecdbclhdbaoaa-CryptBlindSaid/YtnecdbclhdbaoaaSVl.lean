/- Asks of the crypts in a row, as they are handed in; the law's row: CryptBack. Conditions: each names its own. -/
import Derived.Test.YtnecdbclhdbaoaaSYr
import Derived.Test.YtnecdbclhdbaoaaSVk
set_option linter.unusedSimpArgs false
set_option linter.unusedVariables false
set_option maxRecDepth 100000
namespace Go.Proofs.Ytnecdbclhdbaoaa
open Go Go.SL Go.Pure
open Go.ChangeShapes Go.WideShapes Go.ChangeAt Go.RowKit

theorem asks_open {H : Type} {enc : TypeId × Value → H} {w : World} {v : Value} {d : DataW H} {p : List MemPlace} (hv : ∃ a n c, v = .slice a n c) (h : DataW.Trod enc P w 0 (fun _ => true) true t_Sl_orloplaw12_Ask v d p) :
    ∃ asks : List AskV, AsksAt (readAll w) v asks ∧ asks.length ≤ 9223372036854775807 := by
  obtain ⟨a, n, c, rfl⟩ := hv
  obtain ⟨fuel, hf⟩ := h
  rcases DataW.trod_slice u_Sl_orloplaw12_Ask hf with ⟨hcs, _⟩ | ⟨a', len, cap, elems, rest, m, _, hcs, _, _, hl, hm, hlen, hel, _, _⟩
  · have hcs : [Value.slice a n c] = [.slice none 0 0] := hcs
    simp only [List.cons.injEq, and_true] at hcs
    rw [hcs]
    exact ⟨[], ⟨fun i x e => by simp at e, none, 0, rfl, Nat.le_refl _, .inl rfl⟩, by simp⟩
  · have hcs : [Value.slice a n c] = [.slice (some a') len cap] := hcs
    simp only [List.cons.injEq, and_true] at hcs
    rw [hcs]
    have hc : P.cellsOf t_orloplaw12_Ask = 46 := by kernel_rfl
    have each : ∀ i, i < len → ∃ x : AskV, AskV.ok (readAll w) x ∧ x.cells.length = 46 ∧ ∀ j y, x.cells[j]? = some y → w.cell? ((a'.add (i * 46)).add j) = some y := by
      intro i hi
      have h1 := hel i hi
      rw [hc, List.getElem?_eq_getElem (by omega), Option.bind_eq_some_iff] at h1
      obtain ⟨cs, hcs, htr⟩ := h1
      obtain ⟨_, hlen, hcell⟩ := World.cells?_some hcs
      obtain ⟨key, nonce, vb, vt, b, t, e, lk, ln, bk, bn, hb, ht⟩ := ask12_cells hlen htr
      refine ⟨⟨key, nonce, vb, vt, b, t⟩, ⟨lk, ln, bk, bn, hb.1, hb.2, ht.1, ht.2⟩, askC_len lk ln, fun j y ey => ?_⟩
      have hj : cs[j]? = some y := by rw [e]; exact ey
      have hlt := (List.getElem?_eq_some_iff.1 hj).1
      rw [hcell j (by omega)]
      exact hj
    obtain ⟨f, hfn⟩ : ∃ f : Nat → AskV, ∀ i, i < len → AskV.ok (readAll w) (f i) ∧ (f i).cells.length = 46 ∧ ∀ j y, (f i).cells[j]? = some y → w.cell? ((a'.add (i * 46)).add j) = some y := by
      refine ⟨fun i => if q : i < len then (each i q).choose else ⟨[], [], .slice none 0 0, .slice none 0 0, [], []⟩, fun i hi => ?_⟩
      simp only [hi, dif_pos]
      exact (each i hi).choose_spec
    have hget : ∀ (i : Nat) (x : AskV), ((List.range len).map f)[i]? = some x → i < len ∧ x = f i := by
      intro i x e
      have hi : i < len := by simpa using (List.getElem?_eq_some_iff.1 e).1
      rw [List.getElem?_map, List.getElem?_range hi] at e
      exact ⟨hi, by simpa using e.symm⟩
    have ll : ((List.range len).map f).length = len := by simp
    have hm' : cap ≤ 9223372036854775807 := Nat.le_trans hm (by decide)
    refine ⟨(List.range len).map f, ⟨fun i x e => ?_, some a', cap, by rw [ll], by rw [ll]; exact hl, ?_⟩, by rw [ll]; omega⟩
    · obtain ⟨hi, rfl⟩ := hget i x e
      exact (hfn i hi).1
    · by_cases h0 : len = 0
      · exact .inl (by rw [ll]; exact h0)
      · right
        obtain ⟨_, l46, c0⟩ := hfn 0 (by omega)
        have hc0 := c0 0 _ (List.getElem?_eq_getElem (by omega))
        obtain ⟨b, o, sp⟩ := a'
        have hsp : sp = none := by
          cases sp with
          | none => rfl
          | some s =>
            unfold World.cell? Addr.add at hc0
            dsimp only at hc0
            split at hc0 <;> simp at hc0
        subst hsp
        refine ⟨b, o, rfl, fun i x e j y ey => ?_⟩
        obtain ⟨hi, rfl⟩ := hget i x e
        have := (hfn i hi).2.2 j y ey
        rw [add_off, add_off] at this
        exact readAll_cell this

namespace cryptBack
theorem lifted (os : Os) (started : os.Started) (H : Type) (enc : TypeId × Value → H) :
    ReturnsInHanded {} Try.checked os n_orloplaw12_CryptBack .any (Rows.cryptBackSpec.pre6 enc Try.prog Try.f10 Rows.cryptBackRow.domain false) (Rows.cryptBackSpec.post enc Try.prog Try.f10 false true false false) := by
  refine returnsInHanded_of_change_sized (C := Try.checked) ownNone started (by kernel_rfl) Try.func10
    (ChangeSpec.witness6 (enc := enc) (C := Try.checked) false ⟨#[], #[.bool false, .slice none 0 0], []⟩ 8 (by kernel_rfl) (by kernel_rfl) (by kernel_rfl) (by kernel_rfl)) ?_
  intro W base args ds gs before hval0 hW hcnd hsz0 _
  have hval : ∀ (j : Nat) t v, Try.f10.params[j]? = some t → args[j]? = some v → Value.okWide Try.prog W .any base t v := hval0
  have hW' := hW
  obtain ⟨p, q, hA0, hV, rfl, hfz, hnd⟩ := hW
  have hA : DataW.TrodAll enc Try.prog W 0 (fun _ => true) true Try.f10.params.toList args.toList ds p := hA0
  rw [Try.params10] at hA hval
  obtain ⟨v0, vs0, d0, ds0, p0, q0, hargs, rfl, rfl, h0, r0⟩ := trodAll_cons hA
  obtain ⟨v1, vs1, d1, ds1, p1, q1, rfl, rfl, rfl, h1, r1⟩ := trodAll_cons r0
  obtain ⟨rfl, rfl, rfl⟩ := trodAll_nil r1
  obtain rfl : args = #[v0, v1] := by cases args; simp_all
  obtain ⟨rfl, rfl⟩ := trodVars_none hV
  have lt0 : ∀ x ∈ p0, x.block < W.heap.size := by obtain ⟨m, hm⟩ := h0; exact DataW.trod_lt m _ _ _ hm
  have lt1 : ∀ x ∈ p1, x.block < W.heap.size := by obtain ⟨m, hm⟩ := h1; exact DataW.trod_lt m _ _ _ hm
  obtain ⟨ideal, rfl⟩ := okWide_bool Try.underlying4 (hval 0 4 v0 rfl rfl)
  obtain ⟨asks, A, _⟩ := asks_open (okWide_slice Try.underlying62 (hval 1 62 v1 rfl rfl)) h1
  clear hA0 hval0 hsz0
  refine (tells_true (T_CryptBack ideal A (K := fun v _ => v = .bool true) fun _ => rfl)).mono fun e W' ⟨he, bel⟩ => ?_
  subst he
  exact ⟨_, rfl, _, _, _, [], _, [], hW', trodAll_mk1 (shut_bool Try.underlying4 _), (trodAll_cons_mk (Below.trod laidOut (by kernel_rfl) (of_decide_eq_true (by kernel_rfl)) h0 bel lt0) (trodAll_cons_mk (Below.trod laidOut (by kernel_rfl) (of_decide_eq_true (by kernel_rfl)) h1 bel lt1) trodAll_mk0)), rfl, bel.frame _, fun h => by cases h⟩
theorem over : Rows.cryptBackRow.holds Try.pinned (OpenSpec.ofChange Rows.cryptBackSpec) :=
  OpenClaim.holds_of_wide 10 Try.f10 rfl rfl rfl rfl rfl rfl rfl ⟨rfl, rfl, rfl, rfl, rfl⟩ rfl rfl rfl rfl rfl (by kernel_rfl) Try.func10 (by kernel_rfl)
    (of_decide_eq_true (by kernel_rfl)) (by unfold Func.isWrapper; first | (rw [if_pos (by decide +kernel)]; kernel_rfl) | (rw [if_neg (by decide +kernel)]; exact ⟨rfl, rfl⟩))
    (fun os started H enc _ => lifted os started H enc)
theorem proved : Rows.CryptBackSaid := over
#print axioms proved
end cryptBack
/-- The row, under a short name. -/
theorem cryptBack_holds : Rows.CryptBackSaid := cryptBack.proved
end Go.Proofs.Ytnecdbclhdbaoaa
