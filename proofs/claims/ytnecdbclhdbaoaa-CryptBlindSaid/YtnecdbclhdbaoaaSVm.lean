/- Rows of bytes, as they are handed in; the law's row: CryptBlind. Conditions: each names its own. -/
import Derived.Test.YtnecdbclhdbaoaaSYt
import Derived.Test.YtnecdbclhdbaoaaSVl
set_option linter.unusedSimpArgs false
set_option linter.unusedVariables false
set_option maxRecDepth 100000
namespace Go.Proofs.Ytnecdbclhdbaoaa
open Go Go.SL Go.Pure
open Go.ChangeShapes Go.WideShapes Go.ChangeAt Go.RowKit

theorem rows_open {H : Type} {enc : TypeId × Value → H} {w : World} {v : Value} {d : DataW H} {p : List MemPlace} (hv : ∃ a n c, v = .slice a n c) (h : DataW.Trod enc P w 0 (fun _ => true) true t_Sl_Sl_uint8 v d p) :
    ∃ n, RowsAt (readAll w) v n := by
  obtain ⟨a, n, c, rfl⟩ := hv
  obtain ⟨fuel, hf⟩ := h
  rcases DataW.trod_slice u_Sl_Sl_uint8 hf with ⟨hcs, _⟩ | ⟨a', len, cap, elems, rest, m, _, hcs, _, _, hl, hm, hlen, hel, _, _⟩
  · have hcs : [Value.slice a n c] = [.slice none 0 0] := hcs
    simp only [List.cons.injEq, and_true] at hcs
    rw [hcs]
    exact ⟨0, none, 0, rfl, Nat.le_refl _, .inl rfl⟩
  · have hcs : [Value.slice a n c] = [.slice (some a') len cap] := hcs
    simp only [List.cons.injEq, and_true] at hcs
    rw [hcs]
    have hc : P.cellsOf t_Sl_uint8 = 1 := by kernel_rfl
    have each : ∀ i, i < len → ∃ y l, w.cell? (a'.add i) = some y ∧ Rn (readAll w) .u8 y l ∧ Bytes l := by
      intro i hi
      have h1 := hel i hi
      rw [hc, Nat.mul_one, List.getElem?_eq_getElem (by omega), Option.bind_eq_some_iff] at h1
      obtain ⟨cs, hcs, htr⟩ := h1
      obtain ⟨_, hlen, hcell⟩ := World.cells?_some hcs
      match cs, hlen with
      | [y], _ =>
        obtain ⟨l, hr, hb⟩ := rn_open htr
        refine ⟨y, l, ?_, hr, hb⟩
        have := hcell 0 (by omega)
        have e0 : (a'.add i).add 0 = a'.add i := by
          obtain ⟨b, o, sp⟩ := a'
          cases sp <;> simp [Addr.add]
        rw [e0] at this
        simpa using this
    refine ⟨len, some a', cap, rfl, hl, ?_⟩
    by_cases h0 : len = 0
    · exact .inl h0
    · right
      obtain ⟨y, l, hc0, _⟩ := each 0 (by omega)
      obtain ⟨b, o, sp⟩ := a'
      have hsp : sp = none := by
        cases sp with
        | none => rfl
        | some s =>
          unfold World.cell? Addr.add at hc0
          dsimp only at hc0
          split at hc0 <;> simp at hc0
      subst hsp
      refine ⟨b, o, rfl, fun i hi => ?_⟩
      obtain ⟨y, l, e, r, bl⟩ := each i hi
      rw [add_off] at e
      exact ⟨y, l, readAll_cell e, r, bl⟩

namespace cryptBlind
theorem lifted (os : Os) (started : os.Started) (H : Type) (enc : TypeId × Value → H) :
    ReturnsInHanded {} Try.checked os n_orloplaw12_CryptBlind .any (Rows.cryptBlindSpec.pre6 enc Try.prog Try.f11 Rows.cryptBlindRow.domain false) (Rows.cryptBlindSpec.post enc Try.prog Try.f11 false true false false) := by
  refine returnsInHanded_of_change_sized (C := Try.checked) ownNone started (by kernel_rfl) Try.func11
    (ChangeSpec.witness6 (enc := enc) (C := Try.checked) false ⟨#[], #[.slice none 0 0, .slice none 0 0], []⟩ 8 (by kernel_rfl) (by kernel_rfl) (by kernel_rfl) (by kernel_rfl)) ?_
  intro W base args ds gs before hval0 hW hcnd hsz0 _
  have hval : ∀ (j : Nat) t v, Try.f11.params[j]? = some t → args[j]? = some v → Value.okWide Try.prog W .any base t v := hval0
  have hW' := hW
  obtain ⟨p, q, hA0, hV, rfl, hfz, hnd⟩ := hW
  have hA : DataW.TrodAll enc Try.prog W 0 (fun _ => true) true Try.f11.params.toList args.toList ds p := hA0
  rw [Try.params11] at hA hval
  obtain ⟨v0, vs0, d0, ds0, p0, q0, hargs, rfl, rfl, h0, r0⟩ := trodAll_cons hA
  obtain ⟨v1, vs1, d1, ds1, p1, q1, rfl, rfl, rfl, h1, r1⟩ := trodAll_cons r0
  obtain ⟨rfl, rfl, rfl⟩ := trodAll_nil r1
  obtain rfl : args = #[v0, v1] := by cases args; simp_all
  obtain ⟨rfl, rfl⟩ := trodVars_none hV
  have lt0 : ∀ x ∈ p0, x.block < W.heap.size := by obtain ⟨m, hm⟩ := h0; exact DataW.trod_lt m _ _ _ hm
  have lt1 : ∀ x ∈ p1, x.block < W.heap.size := by obtain ⟨m, hm⟩ := h1; exact DataW.trod_lt m _ _ _ hm
  obtain ⟨asks, A, _⟩ := asks_open (okWide_slice Try.underlying62 (hval 0 62 v0 rfl rfl)) h0
  obtain ⟨no, O⟩ := rows_open (okWide_slice Try.underlying36 (hval 1 36 v1 rfl rfl)) h1
  clear hA0 hval0 hsz0
  refine (tells_true (T_CryptBlind A O (K := fun v _ => v = .bool true) fun _ => rfl)).mono fun e W' ⟨he, bel⟩ => ?_
  subst he
  exact ⟨_, rfl, _, _, _, [], _, [], hW', trodAll_mk1 (shut_bool Try.underlying4 _), (trodAll_cons_mk (Below.trod laidOut (by kernel_rfl) (of_decide_eq_true (by kernel_rfl)) h0 bel lt0) (trodAll_cons_mk (Below.trod laidOut (by kernel_rfl) (of_decide_eq_true (by kernel_rfl)) h1 bel lt1) trodAll_mk0)), rfl, bel.frame _, fun h => by cases h⟩
theorem over : Rows.cryptBlindRow.holds Try.pinned (OpenSpec.ofChange Rows.cryptBlindSpec) :=
  OpenClaim.holds_of_wide 11 Try.f11 rfl rfl rfl rfl rfl rfl rfl ⟨rfl, rfl, rfl, rfl, rfl⟩ rfl rfl rfl rfl rfl (by kernel_rfl) Try.func11 (by kernel_rfl)
    (of_decide_eq_true (by kernel_rfl)) (by unfold Func.isWrapper; first | (rw [if_pos (by decide +kernel)]; kernel_rfl) | (rw [if_neg (by decide +kernel)]; exact ⟨rfl, rfl⟩))
    (fun os started H enc _ => lifted os started H enc)
theorem proved : Rows.CryptBlindSaid := over
#print axioms proved
end cryptBlind
/-- The row, under a short name. -/
theorem cryptBlind_holds : Rows.CryptBlindSaid := cryptBlind.proved
end Go.Proofs.Ytnecdbclhdbaoaa
