/- An ask of the crypts, as it is handed in; the law's row: CryptOthers. Conditions: each names its own. -/
import Derived.Test.YtnecdbclhdbaoaaSYp
import Derived.Test.YtnecdbclhdbaoaaSVh
set_option linter.unusedSimpArgs false
set_option linter.unusedVariables false
set_option maxRecDepth 100000
namespace Go.Proofs.Ytnecdbclhdbaoaa
open Go Go.SL Go.Pure
open Go.ChangeShapes Go.WideShapes Go.ChangeAt Go.RowKit

/-- An array of bytes. -/
theorem arr_open {H : Type} {enc : TypeId × Value → H} {w : World} {base : Nat} {spare : Nat → Bool} {held : Bool} {fuel n : Nat} {t : TypeId} {cs : List Value} {x : DataW H × List MemPlace} (ht : P.underlying t = some (.array n t_uint8)) (hn : P.cellsOf t = n)
    (h : DataW.trod enc P w base spare held fuel t cs = some x) : ∃ l : List Nat, cs = nv .u8 l ∧ l.length = n ∧ Bytes l := by
  obtain ⟨xs, m, _, _, hlen, hl, hel⟩ := DataW.trod_array ht h
  rw [hn] at hlen
  have hc : P.cellsOf t_uint8 = 1 := by kernel_rfl
  have each : ∀ i, i < n → ∃ k : Nat, k < 256 ∧ cs[i]? = some (.int .u8 (k : Int)) := by
    intro i hi
    have h1 := hel i hi
    rw [hc, Nat.mul_one, List.getElem?_eq_getElem (by omega)] at h1
    obtain ⟨z, hz, _, hw⟩ := DataW.trod_int u_uint8 h1
    rw [List.drop_eq_getElem_cons (by omega), List.take_succ_cons, List.take_zero] at hz
    simp only [List.cons.injEq, and_true] at hz
    have : 0 ≤ z ∧ z < 256 := by
      simp [Lit.wf, IntKind.min, IntKind.max, IntKind.signed, IntKind.bits] at hw
      omega
    refine ⟨z.toNat, by omega, ?_⟩
    rw [List.getElem?_eq_getElem (by omega), hz, Int.toNat_of_nonneg this.1]
  clear hel hl h
  have key : ∀ (n : Nat) (cs : List Value), cs.length = n → (∀ i, i < n → ∃ k : Nat, k < 256 ∧ cs[i]? = some (.int .u8 (k : Int))) → ∃ l : List Nat, cs = nv .u8 l ∧ l.length = n ∧ Bytes l := by
    intro n
    induction n with
    | zero => intro cs hl _; exact ⟨[], List.eq_nil_of_length_eq_zero hl, rfl, by intro y hy; cases hy⟩
    | succ n ih =>
      intro cs hl he
      match cs, hl with
      | c :: cs, hl =>
        obtain ⟨k, hk, e⟩ := he 0 (by omega)
        obtain ⟨l, el, ll, bl⟩ := ih cs (by simpa using hl) fun i hi => by simpa using he (i + 1) (by omega)
        simp only [List.getElem?_cons_zero, Option.some.injEq] at e
        refine ⟨k :: l, by rw [e, el]; rfl, by simp [ll], ?_⟩
        intro y hy
        rcases List.mem_cons.1 hy with rfl | hy
        · exact hk
        · exact bl y hy
  exact key n cs hlen each

theorem okWide_arr {P : Program} {w : World} {r : Reach} {base : Nat} {t e : TypeId} {n : Nat} {v : Value} (ht : P.underlying t = some (.array n e)) (h : Value.okWide P w r base t v) : ∃ cs, v = .agg cs ∧ cs.size = P.cellsOf t := by
  simp only [Value.okWide, ht] at h
  obtain ⟨cs, h1, h2, _⟩ := h
  exact ⟨cs, h1, h2⟩
/-- The cells of an ask of the crypts. -/
theorem ask12_cells {H : Type} {enc : TypeId × Value → H} {w : World} {fuel : Nat} {cs : List Value} {x : DataW H × List MemPlace} (hl : cs.length = 46) (h : DataW.trod enc P w 0 (fun _ => true) true fuel t_orloplaw12_Ask cs = some x) :
    ∃ (key nonce : List Nat) (vb vt : Value) (b t : List Nat), cs = askC key nonce vb vt ∧ key.length = 32 ∧ nonce.length = 12 ∧ Bytes key ∧ Bytes nonce ∧ (Rn (readAll w) .u8 vb b ∧ Bytes b) ∧ (Rn (readAll w) .u8 vt t ∧ Bytes t) := by
  obtain ⟨f0, f1, f2, f3, hu, e0, e1, e2, e3⟩ : ∃ f0 f1 f2 f3 : Field, P.underlying t_orloplaw12_Ask = some (.struct [f0, f1, f2, f3].toArray) ∧ (f0.type = t_32_uint8 ∧ f0.offset = 0) ∧ (f1.type = t_12_uint8 ∧ f1.offset = 32) ∧ (f2.type = t_Sl_uint8 ∧ f2.offset = 44) ∧ (f3.type = t_Sl_uint8 ∧ f3.offset = 45) := by
    refine ⟨_, _, _, _, Try.underlying66, ?_⟩
    decide
  obtain ⟨n, hq⟩ := trod_fields hu h
  obtain ⟨y0, h0⟩ := hq 0 f0 rfl
  obtain ⟨y1, h1⟩ := hq 1 f1 rfl
  obtain ⟨y2, h2⟩ := hq 2 f2 rfl
  obtain ⟨y3, h3⟩ := hq 3 f3 rfl
  have hc : P.cellsOf t_Sl_uint8 = 1 := by kernel_rfl
  have c32 : P.cellsOf t_32_uint8 = 32 := by kernel_rfl
  have c12 : P.cellsOf t_12_uint8 = 12 := by kernel_rfl
  rw [e0.1, e0.2, c32] at h0
  rw [e1.1, e1.2, c12] at h1
  rw [e2.1, e2.2, hc] at h2
  rw [e3.1, e3.2, hc] at h3
  obtain ⟨key, ek, lk, bk⟩ := arr_open u_32_uint8 c32 h0
  obtain ⟨nonce, en, ln, bn⟩ := arr_open u_12_uint8 c12 h1
  rw [List.drop_eq_getElem_cons (by omega), List.take_succ_cons, List.take_zero] at h2 h3
  obtain ⟨b, hb⟩ := rn_open h2
  obtain ⟨t, ht⟩ := rn_open h3
  refine ⟨key, nonce, cs[44], cs[45], b, t, ?_, lk, ln, bk, bn, hb, ht⟩
  unfold askC
  have e1 : cs.drop 44 = [cs[44], cs[45]] := by rw [List.drop_eq_getElem_cons (by omega), List.drop_eq_getElem_cons (by omega), List.drop_of_length_le (by omega)]
  have e2 := List.take_append_drop 12 (cs.drop 32)
  rw [List.drop_drop] at e2
  rw [← ek, ← en, List.drop_zero, List.append_assoc, ← e1, e2, List.take_append_drop]
theorem ask12_open {H : Type} {enc : TypeId × Value → H} {w : World} {v : Value} {d : DataW H} {p : List MemPlace} (hv : ∃ cs, v = .agg cs ∧ cs.size = P.cellsOf t_orloplaw12_Ask) (h : DataW.Trod enc P w 0 (fun _ => true) true t_orloplaw12_Ask v d p) :
    ∃ (key nonce : List Nat) (vb vt : Value) (b t : List Nat), v = .agg (askC key nonce vb vt).toArray ∧ key.length = 32 ∧ nonce.length = 12 ∧ Bytes key ∧ Bytes nonce ∧ (Rn (readAll w) .u8 vb b ∧ Bytes b) ∧ (Rn (readAll w) .u8 vt t ∧ Bytes t) := by
  obtain ⟨cs, rfl, hs⟩ := hv
  have hs : cs.size = 46 := hs.trans (by kernel_rfl)
  obtain ⟨fuel, hf⟩ := h
  obtain ⟨key, nonce, vb, vt, b, t, e, r⟩ := ask12_cells (cs := cs.toList) (by rw [Array.length_toList]; exact hs) hf
  exact ⟨key, nonce, vb, vt, b, t, by rw [← e], r⟩

namespace cryptOthers
theorem lifted (os : Os) (started : os.Started) (H : Type) (enc : TypeId × Value → H) :
    ReturnsInHanded {} Try.checked os n_orloplaw12_CryptOthers .any (Rows.cryptOthersSpec.pre6 enc Try.prog Try.f12 Rows.cryptOthersRow.domain false) (Rows.cryptOthersSpec.post enc Try.prog Try.f12 false true false false) := by
  refine returnsInHanded_of_change_sized (C := Try.checked) ownNone started (by kernel_rfl) Try.func12
    (ChangeSpec.witness6 (enc := enc) (C := Try.checked) false ⟨#[], #[.agg (askC (List.replicate 32 0) (List.replicate 12 0) (.slice none 0 0) (.slice none 0 0)).toArray, .agg #[.int .u8 0, .int .u8 0, .int .u8 0]], []⟩ 8 (by kernel_rfl) (by kernel_rfl) (by kernel_rfl) (by kernel_rfl)) ?_
  intro W base args ds gs before hval0 hW hcnd hsz0 _
  have hval : ∀ (j : Nat) t v, Try.f12.params[j]? = some t → args[j]? = some v → Value.okWide Try.prog W .any base t v := hval0
  have hW' := hW
  obtain ⟨p, q, hA0, hV, rfl, hfz, hnd⟩ := hW
  have hA : DataW.TrodAll enc Try.prog W 0 (fun _ => true) true Try.f12.params.toList args.toList ds p := hA0
  rw [Try.params12] at hA hval
  obtain ⟨v0, vs0, d0, ds0, p0, q0, hargs, rfl, rfl, h0, r0⟩ := trodAll_cons hA
  obtain ⟨v1, vs1, d1, ds1, p1, q1, rfl, rfl, rfl, h1, r1⟩ := trodAll_cons r0
  obtain ⟨rfl, rfl, rfl⟩ := trodAll_nil r1
  obtain rfl : args = #[v0, v1] := by cases args; simp_all
  obtain ⟨rfl, rfl⟩ := trodVars_none hV
  have lt0 : ∀ x ∈ p0, x.block < W.heap.size := by obtain ⟨m, hm⟩ := h0; exact DataW.trod_lt m _ _ _ hm
  have lt1 : ∀ x ∈ p1, x.block < W.heap.size := by obtain ⟨m, hm⟩ := h1; exact DataW.trod_lt m _ _ _ hm
  obtain ⟨key, nonce, vb, vt, b, t, rfl, lk, ln, bk, bn, hb, ht⟩ := ask12_open (okWide_struct Try.underlying66 (hval 0 66 v0 rfl rfl)) h0
  obtain ⟨cs, rfl, hs⟩ := okWide_arr Try.underlying69 (hval 1 69 v1 rfl rfl)
  obtain ⟨fuel, hf⟩ := h1
  obtain ⟨l, el, ll, bl⟩ := arr_open u_3_uint8 (by kernel_rfl) (cs := cs.toList) hf
  match l, ll, bl, el with
  | [x, y, z], _, bl, el =>
    have hx : x < 256 := bl x (by simp)
    have hy : y < 256 := bl y (by simp)
    have hz : z < 256 := bl z (by simp)
    have ec : cs = #[.int .u8 (x : Int), .int .u8 (y : Int), .int .u8 (z : Int)] := by
      have := congrArg List.toArray el
      simpa [nv] using this
    subst ec
    have h1 : DataW.Trod enc Try.prog W 0 (fun _ => true) true 69 (.agg #[.int .u8 (x : Int), .int .u8 (y : Int), .int .u8 (z : Int)]) d1 p1 := ⟨fuel, hf⟩
    clear hA0 hval0 hsz0
    refine (tells_true (T_CryptOthers x y z hx hy hz lk ln bk bn hb.1 ht.1 hb.2 ht.2 (K := fun v _ => v = .bool true) fun _ => rfl)).mono fun e W' ⟨he, bel⟩ => ?_
    subst he
    exact ⟨_, rfl, _, _, _, [], _, [], hW', trodAll_mk1 (shut_bool Try.underlying4 _), (trodAll_cons_mk (Below.trod laidOut (by kernel_rfl) (of_decide_eq_true (by kernel_rfl)) h0 bel lt0) (trodAll_cons_mk (Below.trod laidOut (by kernel_rfl) (of_decide_eq_true (by kernel_rfl)) h1 bel lt1) trodAll_mk0)), rfl, bel.frame _, fun h => by cases h⟩
theorem over : Rows.cryptOthersRow.holds Try.pinned (OpenSpec.ofChange Rows.cryptOthersSpec) :=
  OpenClaim.holds_of_wide 12 Try.f12 rfl rfl rfl rfl rfl rfl rfl ⟨rfl, rfl, rfl, rfl, rfl⟩ rfl rfl rfl rfl rfl (by kernel_rfl) Try.func12 (by kernel_rfl)
    (of_decide_eq_true (by kernel_rfl)) (by unfold Func.isWrapper; first | (rw [if_pos (by decide +kernel)]; kernel_rfl) | (rw [if_neg (by decide +kernel)]; exact ⟨rfl, rfl⟩))
    (fun os started H enc _ => lifted os started H enc)
theorem proved : Rows.CryptOthersSaid := over
#print axioms proved
end cryptOthers
/-- The row, under a short name. -/
theorem cryptOthers_holds : Rows.CryptOthersSaid := cryptOthers.proved
end Go.Proofs.Ytnecdbclhdbaoaa
