/- An ask of sealed layers, as it is handed in. Conditions: each names its own. -/
import Derived.Test.YtnecdbclhdbaoaaSYk
import Derived.Test.YtnecdbclhdbaoaaSVg
set_option linter.unusedSimpArgs false
set_option linter.unusedVariables false
set_option maxRecDepth 100000
namespace Go.Proofs.Ytnecdbclhdbaoaa
open Go Go.SL Go.Pure
open Go.ChangeShapes Go.WideShapes Go.ChangeAt Go.RowKit

theorem trod_fields {H : Type} {enc : TypeId × Value → H} {w : World} {base : Nat} {spare : Nat → Bool} {held : Bool} {t : TypeId} {fs : List Field} {fuel : Nat} {cs : List Value} {x : DataW H × List MemPlace} (ht : P.underlying t = some (.struct fs.toArray)) (h : DataW.trod enc P w base spare held fuel t cs = some x) :
    ∃ n, ∀ (j : Nat) (f : Field), fs[j]? = some f → ∃ y, DataW.trod enc P w base spare held n f.type ((cs.drop f.offset).take (P.cellsOf f.type)) = some y := by
  obtain ⟨xs, n, _, rfl, hl, hlen, hf⟩ := DataW.trod_struct ht h
  refine ⟨n, fun j f hj => ?_⟩
  have := hf j f (by simpa using hj)
  have hlt : j < xs.length := by
    have := (List.getElem?_eq_some_iff.1 hj).1
    simp at hlen
    omega
  exact ⟨_, this.trans (List.getElem?_eq_getElem hlt)⟩
theorem array5 {α : Type} {cs : Array α} (h : cs.size = 5) : ∃ c0 c1 c2 c3 c4, cs = #[c0, c1, c2, c3, c4] := by
  obtain ⟨l⟩ := cs
  match l, h with
  | [c0, c1, c2, c3, c4], _ => exact ⟨c0, c1, c2, c3, c4, rfl⟩
theorem wf_i64 {n : Int} (h : (Lit.int .i64 n).wf = true) : -9223372036854775808 ≤ n ∧ n ≤ 9223372036854775807 := by simpa [Lit.wf, IntKind.min, IntKind.max, IntKind.signed, IntKind.bits] using h
theorem ask17_open {H : Type} {enc : TypeId × Value → H} {w : World} {v : Value} {d : DataW H} {p : List MemPlace} (hv : ∃ cs, v = .agg cs ∧ cs.size = P.cellsOf t_orloplaw17_Ask) (h : DataW.Trod enc P w 0 (fun _ => true) true t_orloplaw17_Ask v d p) :
    ∃ vk vp vx vl n, v = .agg #[vk, vp, vx, vl, .int .i64 n] ∧ (-9223372036854775808 ≤ n ∧ n ≤ 9223372036854775807) ∧ ∃ k p x l : List Nat, (Rn (readAll w) .u8 vk k ∧ Bytes k) ∧ (Rn (readAll w) .u8 vp p ∧ Bytes p) ∧ (Rn (readAll w) .u8 vx x ∧ Bytes x) ∧ (Rn (readAll w) .u8 vl l ∧ Bytes l) := by
  obtain ⟨cs, rfl, hs⟩ := hv
  obtain ⟨vk, vp, vx, vl, vn, rfl⟩ := array5 (hs.trans (show P.cellsOf t_orloplaw17_Ask = 5 by kernel_rfl))
  obtain ⟨fuel, hf⟩ := h
  obtain ⟨f0, f1, f2, f3, f4, hu, e0, e1, e2, e3, e4⟩ : ∃ f0 f1 f2 f3 f4 : Field, P.underlying t_orloplaw17_Ask = some (.struct [f0, f1, f2, f3, f4].toArray) ∧ (f0.type = t_Sl_uint8 ∧ f0.offset = 0) ∧ (f1.type = t_Sl_uint8 ∧ f1.offset = 1) ∧ (f2.type = t_Sl_uint8 ∧ f2.offset = 2) ∧ (f3.type = t_Sl_uint8 ∧ f3.offset = 3) ∧ (f4.type = t_int ∧ f4.offset = 4) := by
    refine ⟨_, _, _, _, _, Try.underlying24, ?_⟩
    decide
  obtain ⟨n, hq⟩ := trod_fields hu hf
  obtain ⟨y0, h0⟩ := hq 0 f0 rfl
  obtain ⟨y1, h1⟩ := hq 1 f1 rfl
  obtain ⟨y2, h2⟩ := hq 2 f2 rfl
  obtain ⟨y3, h3⟩ := hq 3 f3 rfl
  obtain ⟨y4, h4⟩ := hq 4 f4 rfl
  have hc : P.cellsOf t_Sl_uint8 = 1 := by kernel_rfl
  have hci : P.cellsOf t_int = 1 := by kernel_rfl
  rw [e0.1, e0.2, hc] at h0
  rw [e1.1, e1.2, hc] at h1
  rw [e2.1, e2.2, hc] at h2
  rw [e3.1, e3.2, hc] at h3
  rw [e4.1, e4.2, hci] at h4
  obtain ⟨k, hk⟩ := rn_open (v := vk) h0
  obtain ⟨p, hp⟩ := rn_open (v := vp) h1
  obtain ⟨x, hx⟩ := rn_open (v := vx) h2
  obtain ⟨l, hl⟩ := rn_open (v := vl) h3
  obtain ⟨m, hm, _, hw⟩ := DataW.trod_int u_int h4
  have hm : [vn] = [.int .i64 m] := hm
  obtain rfl : vn = .int .i64 m := by simpa using hm
  exact ⟨vk, vp, vx, vl, m, rfl, wf_i64 hw, k, p, x, l, hk, hp, hx, hl⟩
end Go.Proofs.Ytnecdbclhdbaoaa
