/- The law's row: SealCuts. Conditions: none. -/
import Derived.Test.YtnecdbclhdbaoaaSYw
import Derived.Test.YtnecdbclhdbaoaaSVh
set_option linter.unusedSimpArgs false
set_option linter.unusedVariables false
set_option maxRecDepth 100000
namespace Go.Proofs.Ytnecdbclhdbaoaa
open Go Go.SL Go.Pure
open Go.ChangeShapes Go.WideShapes Go.ChangeAt Go.RowKit

theorem nat_of_u8 {z : Int} (h : (Lit.int .u8 z).wf = true) : ∃ k : Nat, z = (k : Int) ∧ k < 256 := by
  have : 0 ≤ z ∧ z < 256 := by
    simp [Lit.wf, IntKind.min, IntKind.max, IntKind.signed, IntKind.bits] at h
    omega
  exact ⟨z.toNat, by omega, by omega⟩
theorem nat_of_u16 {z : Int} (h : (Lit.int .u16 z).wf = true) : ∃ k : Nat, z = (k : Int) ∧ k < 65536 := by
  have : 0 ≤ z ∧ z < 65536 := by
    simp [Lit.wf, IntKind.min, IntKind.max, IntKind.signed, IntKind.bits] at h
    omega
  exact ⟨z.toNat, by omega, by omega⟩
theorem array3 {α : Type} {cs : Array α} (h : cs.size = 3) : ∃ c0 c1 c2, cs = #[c0, c1, c2] := by
  obtain ⟨l⟩ := cs
  match l, h with
  | [c0, c1, c2], _ => exact ⟨c0, c1, c2, rfl⟩
/-- A cut, as it is handed in. -/
theorem cut17_open {H : Type} {enc : TypeId × Value → H} {w : World} {v : Value} {d : DataW H} {p : List MemPlace} (hv : ∃ cs, v = .agg cs ∧ cs.size = P.cellsOf t_orloplaw17_Cut) (h : DataW.Trod enc P w 0 (fun _ => true) true t_orloplaw17_Cut v d p) :
    ∃ kind A B : Nat, v = .agg #[.int .u8 (kind : Int), .int .u16 (A : Int), .int .u8 (B : Int)] ∧ kind < 256 ∧ A < 65536 ∧ B < 256 := by
  obtain ⟨cs, rfl, hs⟩ := hv
  obtain ⟨v0, v1, v2, rfl⟩ := array3 (hs.trans (show P.cellsOf t_orloplaw17_Cut = 3 by kernel_rfl))
  obtain ⟨fuel, hf⟩ := h
  obtain ⟨f0, f1, f2, hu, e0, e1, e2⟩ : ∃ f0 f1 f2 : Field, P.underlying t_orloplaw17_Cut = some (.struct [f0, f1, f2].toArray) ∧ (f0.type = t_uint8 ∧ f0.offset = 0) ∧ (f1.type = t_uint16 ∧ f1.offset = 1) ∧ (f2.type = t_uint8 ∧ f2.offset = 2) := by
    refine ⟨_, _, _, Try.underlying27, ?_⟩
    decide
  obtain ⟨n, hq⟩ := trod_fields hu hf
  obtain ⟨y0, h0⟩ := hq 0 f0 rfl
  obtain ⟨y1, h1⟩ := hq 1 f1 rfl
  obtain ⟨y2, h2⟩ := hq 2 f2 rfl
  have hc : P.cellsOf t_uint8 = 1 := by kernel_rfl
  have hc16 : P.cellsOf t_uint16 = 1 := by kernel_rfl
  rw [e0.1, e0.2, hc] at h0
  rw [e1.1, e1.2, hc16] at h1
  rw [e2.1, e2.2, hc] at h2
  obtain ⟨m0, g0, _, w0⟩ := DataW.trod_int u_uint8 h0
  obtain ⟨m1, g1, _, w1⟩ := DataW.trod_int u_uint16 h1
  obtain ⟨m2, g2, _, w2⟩ := DataW.trod_int u_uint8 h2
  have G0 : [v0] = [.int .u8 m0] := g0
  have G1 : [v1] = [.int .u16 m1] := g1
  have G2 : [v2] = [.int .u8 m2] := g2
  obtain rfl : v0 = .int .u8 m0 := by simpa using G0
  obtain rfl : v1 = .int .u16 m1 := by simpa using G1
  obtain rfl : v2 = .int .u8 m2 := by simpa using G2
  obtain ⟨k0, rfl, b0⟩ := nat_of_u8 w0
  obtain ⟨k1, rfl, b1⟩ := nat_of_u16 w1
  obtain ⟨k2, rfl, b2⟩ := nat_of_u8 w2
  exact ⟨k0, k1, k2, rfl, b0, b1, b2⟩
namespace sealCuts
theorem lifted (os : Os) (started : os.Started) (H : Type) (enc : TypeId × Value → H) :
    ReturnsInHanded {} Try.checked os n_orloplaw17_SealCuts .any (Rows.sealCutsSpec.pre6 enc Try.prog Try.f3 Rows.sealCutsRow.domain false) (Rows.sealCutsSpec.post enc Try.prog Try.f3 false true false false) := by
  refine returnsInHanded_of_change_sized (C := Try.checked) ownNone started (by kernel_rfl) Try.func3
    (ChangeSpec.witness6 (enc := enc) (C := Try.checked) false ⟨#[], #[.agg #[.slice none 0 0, .slice none 0 0, .slice none 0 0, .slice none 0 0, .int .i64 0], .agg #[.int .u8 0, .int .u16 0, .int .u8 0]], []⟩ 8 (by kernel_rfl) (by kernel_rfl) (by kernel_rfl) (by kernel_rfl)) ?_
  intro W base args ds gs before hval0 hW hcnd hsz0 _
  have hval : ∀ (j : Nat) t v, Try.f3.params[j]? = some t → args[j]? = some v → Value.okWide Try.prog W .any base t v := hval0
  have hW' := hW
  obtain ⟨p, q, hA0, hV, rfl, hfz, hnd⟩ := hW
  have hA : DataW.TrodAll enc Try.prog W 0 (fun _ => true) true Try.f3.params.toList args.toList ds p := hA0
  rw [Try.params3] at hA hval
  obtain ⟨v0, vs0, d0, ds0, p0, q0, hargs, rfl, rfl, h0, r0⟩ := trodAll_cons hA
  obtain ⟨v1, vs1, d1, ds1, p1, q1, rfl, rfl, rfl, h1, r1⟩ := trodAll_cons r0
  obtain ⟨rfl, rfl, rfl⟩ := trodAll_nil r1
  obtain rfl : args = #[v0, v1] := by cases args; simp_all
  obtain ⟨rfl, rfl⟩ := trodVars_none hV
  have lt0 : ∀ x ∈ p0, x.block < W.heap.size := by obtain ⟨m, hm⟩ := h0; exact DataW.trod_lt m _ _ _ hm
  obtain ⟨vk, vp, vx, vl, n, rfl, hn, k, pr, x, l, hk, hp, hx, hl⟩ := ask17_open (okWide_struct Try.underlying24 (hval 0 24 v0 rfl rfl)) h0
  have lt1 : ∀ x ∈ p1, x.block < W.heap.size := by obtain ⟨m, hm⟩ := h1; exact DataW.trod_lt m _ _ _ hm
  obtain ⟨kind, A, B, rfl, hkd, hA1, hB1⟩ := cut17_open (okWide_struct Try.underlying27 (hval 1 27 v1 rfl rfl)) h1
  clear hA0 hval0 hsz0
  refine (tells_true (T_SealCuts kind A B hkd hA1 hB1 hk.1 hp.1 hx.1 hl.1 hk.2 hp.2 hx.2 hl.2 hn (K := fun v _ => v = .bool true) fun _ => rfl)).mono fun e W' ⟨he, bel⟩ => ?_
  subst he
  exact ⟨_, rfl, _, _, _, [], _, [], hW', trodAll_mk1 (shut_bool Try.underlying4 _), (trodAll_cons_mk (Below.trod laidOut (by kernel_rfl) (of_decide_eq_true (by kernel_rfl)) h0 bel lt0) (trodAll_cons_mk (Below.trod laidOut (by kernel_rfl) (of_decide_eq_true (by kernel_rfl)) h1 bel lt1) trodAll_mk0)), rfl, bel.frame _, fun h => by cases h⟩
theorem over : Rows.sealCutsRow.holds Try.pinned (OpenSpec.ofChange Rows.sealCutsSpec) :=
  OpenClaim.holds_of_wide 3 Try.f3 rfl rfl rfl rfl rfl rfl rfl ⟨rfl, rfl, rfl, rfl, rfl⟩ rfl rfl rfl rfl rfl (by kernel_rfl) Try.func3 (by kernel_rfl)
    (of_decide_eq_true (by kernel_rfl)) (by unfold Func.isWrapper; first | (rw [if_pos (by decide +kernel)]; kernel_rfl) | (rw [if_neg (by decide +kernel)]; exact ⟨rfl, rfl⟩))
    (fun os started H enc _ => lifted os started H enc)
theorem proved : Rows.SealCutsSaid := over
#print axioms proved
end sealCuts
/-- The row, under a short name. -/
theorem sealCuts_holds : Rows.SealCutsSaid := sealCuts.proved
end Go.Proofs.Ytnecdbclhdbaoaa
