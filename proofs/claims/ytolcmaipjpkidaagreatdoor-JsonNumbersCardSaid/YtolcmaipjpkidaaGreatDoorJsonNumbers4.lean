/- jsonNumbers_holds jsonNumbers proved lifted over: part 4 of its proof; each part's own remarks stand with its declarations. Conditions: each lemma names its own. -/
import Derived.Test.YtolcmaipjpkidaaGreatDoorJsonNumbers3
import Derived.Test.YtolcmaipjpkidaaGreatDoorRows
import Derived.WalkKit
import Derived.ProofKit
import Derived.OpenShut
import Derived.ShutString
import Derived.ChangeOld
import Derived.Below
import Derived.Carry
import Derived.SizedLaws
import Derived.Lib.SmallJoins
import Derived.LaidHandle
import Derived.MakeChecks
import Derived.Test.YtolcmaipjpkidaaGreatDoorCards
import Derived.Test.YtolcmaipjpkidaaGreatDoorTie
import Derived.LaidMore
import Derived.Lay
import Derived.Stop.Joined
import Derived.SevenTiedAt
set_option linter.unusedSimpArgs false
set_option linter.unusedVariables false
set_option linter.unusedSimpArgs false
set_option linter.unusedVariables false
set_option maxRecDepth 100000
namespace Go.Proofs.YtolcmaipjpkidaaGreatDoor
open Go Go.SL Go.Pure
open Go.ChangeShapes Go.WideShapes Go.ChangeAt Go.RowKit
/-- All cells that lie in memory, to read. -/
def readAll (w : World) : Hp := fun b => match w.heap[b]? with
  | some (.cells c e _) => some (.row e c.toList c.size none)
  | _ => none
theorem readAll_sat (w : World) : (readAll w).sat w := by
  intro b o e
  unfold readAll at e
  split at e
  · rename_i c el f hb
    cases e
    refine ⟨_, hb, rfl, rfl, by simp, fun i v hv => by simpa using hv, fun f hf => by cases hf⟩
  · cases e
theorem readAll_own (w : World) (b : Nat) : ¬ (readAll w).own b := by
  rintro ⟨o, e, hr⟩
  unfold readAll at e
  split at e
  · cases e; cases hr
  · cases e
theorem readAll_cell {w : World} {b o : Nat} {v : Value} (e : w.cell? ⟨b, o, none⟩ = some v) : (readAll w).cell ⟨b, o, none⟩ = some v := by
  unfold World.cell? at e
  unfold Hp.cell readAll
  dsimp only at e ⊢
  split at e
  · rename_i c el f hb
    rw [hb]
    simpa using e
  · cases e
theorem below_of {w w' : World} {h' : Hp} (f : Fr (readAll w) h' w w') : Below w.heap.size w w' :=
  ⟨f.os, f.tape, f.output, f.size, fun k hk => f.keep k hk (readAll_own w k)⟩
theorem ownNone : ownKnob Tryz.prog.godebug = none := by kernel_rfl
/-- The walk of a statement that tells true. -/
theorem tells_true {f : FuncId} {args : Array Value} {w : World} (c : Cn P f args (readAll w) fun v _ => v = .bool true) : Calls P f args w fun e w' => e = .returned (.bool true) ∧ Below w.heap.size w w' :=
  (c.2 w (readAll_sat w)).mono fun e w' ⟨v, h', he, _, f', hv⟩ => ⟨by rw [he, hv], below_of f'⟩
end Go.Proofs.YtolcmaipjpkidaaGreatDoor
set_option linter.unusedSimpArgs false
set_option linter.unusedVariables false
set_option maxRecDepth 100000
set_option maxHeartbeats 1000000
namespace Go.Proofs.YtolcmaipjpkidaaGreatDoor
open Go Go.SL Go.Pure Go.Js
section
variable {W : World} {t : Nat} {cs : List Value} {fuel : Nat} {p : List MemPlace} {ds : List (DataW Unit)} {d : DataW Unit}
theorem dFld {fs : Array Field} (ht : P.underlying t = some (.struct fs)) (h : DataW.trod (fun _ => ()) P W 0 (fun _ => true) false fuel t cs = some (.agg ds, p)) {i ft off : Nat} (hf : (fs[i]?).map (fun f => (f.type, f.offset)) = some (ft, off)) (hd : ds[i]? = some d) :
    ∃ n q, DataW.trod (fun _ => ()) P W 0 (fun _ => true) false n ft ((cs.drop off).take (P.cellsOf ft)) = some (d, q) := by
  obtain ⟨xs, n, rfl, hx, hlen, hn, hel⟩ := DataW.trod_struct ht h
  rw [Option.map_eq_some_iff] at hf
  obtain ⟨f, hf, e⟩ := hf
  obtain ⟨rfl, rfl⟩ := Prod.mk.inj e
  have h0 := hel i f hf
  simp only [Prod.mk.injEq, DataW.agg.injEq] at hx
  rw [hx.1, List.getElem?_map, Option.map_eq_some_iff] at hd
  obtain ⟨y, hy, rfl⟩ := hd
  rw [hy] at h0
  exact ⟨n, y.2, h0⟩
theorem dElt {n e : Nat} (ht : P.underlying t = some (.array n e)) (h : DataW.trod (fun _ => ()) P W 0 (fun _ => true) false fuel t cs = some (.agg ds, p)) {i c : Nat} (hc : P.cellsOf e = c) (hi : i < n) (hd : ds[i]? = some d) :
    ∃ m q, DataW.trod (fun _ => ()) P W 0 (fun _ => true) false m e ((cs.drop (i * c)).take c) = some (d, q) := by
  subst hc
  obtain ⟨xs, m, rfl, hx, hlen, hn, hel⟩ := DataW.trod_array ht h
  have h0 := hel i hi
  simp only [Prod.mk.injEq, DataW.agg.injEq] at hx
  rw [hx.1, List.getElem?_map, Option.map_eq_some_iff] at hd
  obtain ⟨y, hy, rfl⟩ := hd
  rw [hy] at h0
  exact ⟨m, y.2, h0⟩
theorem dInt {k : IntKind} {z : Int} (ht : P.underlying t = some (.int k)) (h : DataW.trod (fun _ => ()) P W 0 (fun _ => true) false fuel t cs = some (.lit (.int k z), p)) : cs = [.int k z] := by
  obtain ⟨n, rfl, e, _⟩ := DataW.trod_int ht h
  simp only [Prod.mk.injEq, DataW.lit.injEq, Lit.int.injEq, true_and] at e
  rw [e.1]
theorem dCell {a b : Nat} {v : Value} (h : (cs.drop a).take b = [v]) : cs[a]? = some v := by
  have := congrArg (fun l => l[0]?) h
  rw [← Nat.add_zero a, ← List.getElem?_drop]
  cases hc : cs.drop a with
  | nil => rw [hc] at h; cases b <;> simp at h
  | cons x r =>
    rw [hc] at h
    cases b with
    | zero => simp at h
    | succ b => simp at h; simp [h.1]
/-- A slice that a table is: its rows, in memory. -/
theorem dSl {e c : Nat} {ds : List (DataW Unit)} (ht : P.underlying t = some (.slice e)) (hc : P.cellsOf e = c) (h0 : 0 < c) (hn : ds ≠ []) (h : DataW.trod (fun _ => ()) P W 0 (fun _ => true) false fuel t cs = some (.slice ds [], p)) :
    ∃ b o cap, cs = [.slice (some ⟨b, o, none⟩) ds.length cap] ∧ ds.length ≤ cap ∧ ∀ i d, ds[i]? = some d → ∃ m q ys, ys.length = c ∧ DataW.trod (fun _ => ()) P W 0 (fun _ => true) false m e ys = some (d, q) ∧ ∀ j y, ys[j]? = some y → (readAll W).cell ⟨b, o + i * c + j, none⟩ = some y := by
  subst hc
  rcases DataW.trod_slice ht h with ⟨_, e1⟩ | ⟨a', len, cap, elems, rest, m, _, rfl, hx, _, hl, hm, hlen, hel, _, _⟩
  · simp at e1
  · simp only [Prod.mk.injEq, DataW.slice.injEq] at hx
    obtain ⟨⟨rfl, _⟩, _⟩ := hx
    have each : ∀ i, i < len → ∃ ys : List Value, ys.length = P.cellsOf e ∧ (DataW.trod (fun _ => ()) P W 0 (fun _ => true) false m e ys = elems[i]?) ∧ ∀ j y, ys[j]? = some y → W.cell? ((a'.add (i * P.cellsOf e)).add j) = some y := by
      intro i hi
      have h1 := hel i hi
      rw [List.getElem?_eq_getElem (by omega), Option.bind_eq_some_iff] at h1
      obtain ⟨ys, hcs, htr⟩ := h1
      obtain ⟨_, hlen', hcell⟩ := World.cells?_some hcs
      refine ⟨ys, hlen', by rw [htr, List.getElem?_eq_getElem], fun j y ey => ?_⟩
      have hlt := (List.getElem?_eq_some_iff.1 ey).1
      rw [hcell j (by omega)]
      exact ey
    have hpos : 0 < len := by
      rw [← hlen]
      exact List.length_pos_iff.2 fun q => hn (by rw [q]; rfl)
    obtain ⟨ys0, l0, _, c0⟩ := each 0 hpos
    have hc0 := c0 0 _ (List.getElem?_eq_getElem (by omega))
    obtain ⟨b, o, sp⟩ := a'
    have hsp : sp = none := by
      cases sp with
      | none => rfl
      | some s =>
        unfold World.cell? Addr.add at hc0
        dsimp only at hc0
        split at hc0 <;> simp at hc0
    subst hsp
    refine ⟨b, o, cap, by rw [List.length_map, hlen], by rw [List.length_map, hlen]; exact hl, fun i d hd => ?_⟩
    rw [List.getElem?_map, Option.map_eq_some_iff] at hd
    obtain ⟨y, hy, rfl⟩ := hd
    have hi : i < len := by rw [← hlen]; exact (List.getElem?_eq_some_iff.1 hy).1
    obtain ⟨ys, l1, tr, cl⟩ := each i hi
    rw [hy] at tr
    refine ⟨m, y.2, ys, l1, tr, fun j z hz => ?_⟩
    have := cl j z hz
    rw [add_off, add_off] at this
    exact readAll_cell this
end
end Go.Proofs.YtolcmaipjpkidaaGreatDoor
set_option linter.unusedSimpArgs false
set_option linter.unusedVariables false
set_option maxRecDepth 100000
set_option maxHeartbeats 1000000
namespace Go.Proofs.YtolcmaipjpkidaaGreatDoor
open Go Go.SL Go.Pure Go.Js
abbrev laidJ : List (String × DataW Unit) := Rows.jsonReadsRow.laid
theorem gPow15 : Tryz.prog.globalNamed "internal/strconv.uint64pow10" = some gl_internal_strconv_uint64pow10 := by kernel_rfl
theorem gAcc15 : Tryz.prog.globalNamed "unicode/utf8.acceptRanges" = some gl_unicode_utf8_acceptRanges := by kernel_rfl
theorem gFst15 : Tryz.prog.globalNamed "unicode/utf8.first" = some gl_unicode_utf8_first := by kernel_rfl
theorem gCas15 : Tryz.prog.globalNamed "unicode.CaseRanges" = some gl_unicode_CaseRanges := by kernel_rfl
theorem tPow15 : (Tryz.prog.globals[gl_internal_strconv_uint64pow10]?).map (·.type) = some t_20_uint64 := by kernel_rfl
theorem tAcc15 : (Tryz.prog.globals[gl_unicode_utf8_acceptRanges]?).map (·.type) = some t_16_utf8_acceptRange := by kernel_rfl
theorem tFst15 : (Tryz.prog.globals[gl_unicode_utf8_first]?).map (·.type) = some t_256_uint8 := by kernel_rfl
theorem tCas15 : (Tryz.prog.globals[gl_unicode_CaseRanges]?).map (·.type) = some t_Sl_unicode_CaseRange := by kernel_rfl
theorem fst_datum : ∀ i, i < 256 → ((Go.Pinned.numbers .u8 Go.Pinned.utf8FirstZ : List (DataW Unit))[i]?) = some (.lit (.int .u8 ((fstT i : Nat) : Int))) := by
  have key : ∀ i, i < 256 → Go.Pinned.utf8FirstZ[i]? = some (fstT i) := by decide +kernel
  intro i hi
  show (Go.Pinned.utf8FirstZ.map _)[i]? = _
  rw [List.getElem?_map, key i hi]
  rfl
theorem st_case : ∃ fs, P.underlying t_unicode_CaseRange = some (.struct fs) ∧ (fs[0]?).map (fun f => (f.type, f.offset)) = some (t_uint32, 0) ∧ (fs[1]?).map (fun f => (f.type, f.offset)) = some (t_uint32, 1) ∧ (fs[2]?).map (fun f => (f.type, f.offset)) = some (t_unicode_d, 2) :=
  ⟨match P.underlying t_unicode_CaseRange with | some (.struct fs) => fs | _ => #[], by kernel_rfl, by kernel_rfl, by kernel_rfl, by kernel_rfl⟩
theorem st_acc : ∃ fs, P.underlying t_utf8_acceptRange = some (.struct fs) ∧ (fs[0]?).map (fun f => (f.type, f.offset)) = some (t_uint8, 0) ∧ (fs[1]?).map (fun f => (f.type, f.offset)) = some (t_uint8, 1) :=
  ⟨match P.underlying t_utf8_acceptRange with | some (.struct fs) => fs | _ => #[], by kernel_rfl, by kernel_rfl, by kernel_rfl⟩
theorem un_d : P.underlying t_unicode_d = some (.array 3 t_int32) := by kernel_rfl
def accDs : List (DataW Unit) := (List.range 16).map fun i => .agg [.lit (.int .u8 (((accT.getD i (0, 0)).1 : Nat) : Int)), .lit (.int .u8 (((accT.getD i (0, 0)).2 : Nat) : Int))]
def powDs : List (DataW Unit) := (List.range 20).map fun i => .lit (.int .u64 ((10 ^ i : Nat) : Int))
theorem acc_datum : (Rows.laid_unicode_utf8_acceptRanges : DataW Unit) = .agg accDs := by kernel_rfl
theorem pow_datum : (Rows.laid_internal_strconv_uint64pow10 : DataW Unit) = .agg powDs := by kernel_rfl
theorem accs_get (i : Nat) (hi : i < 16) : accDs[i]? = some (.agg [.lit (.int .u8 (((accT.getD i (0, 0)).1 : Nat) : Int)), .lit (.int .u8 (((accT.getD i (0, 0)).2 : Nat) : Int))]) := by
  unfold accDs
  rw [List.getElem?_map, List.getElem?_range hi]
  rfl
theorem pows_get (i : Nat) (hi : i < 20) : powDs[i]? = some (.lit (.int .u64 ((10 ^ i : Nat) : Int))) := by
  unfold powDs
  rw [List.getElem?_map, List.getElem?_range hi]
  rfl
theorem tab_of_laid {W : World} (h : laidMetH Tryz.prog laidJ W) : Tab (readAll W) ∧ Pow (readAll W) := by
  rw [MakeChecks.laidMetH_plain _ _ _ (by kernel_rfl)] at h
  obtain ⟨ps, ⟨g0, t0, cs0, f0, p0, q0, hg0, ht0, hv0, hd0, ⟨g1, t1, cs1, f1, p1, q1, hg1, ht1, hv1, hd1, ⟨g2, t2, cs2, f2, p2, q2, hg2, ht2, hv2, hd2, ⟨g3, t3, cs3, f3, p3, q3, hg3, ht3, hv3, hd3, ⟨g4, t4, cs4, f4, p4, q4, hg4, ht4, hv4, hd4, ⟨g5, t5, cs5, f5, p5, q5, hg5, ht5, hv5, hd5, ⟨g6, t6, cs6, f6, p6, q6, hg6, ht6, hv6, hd6, ⟨g7, t7, cs7, f7, p7, q7, hg7, ht7, hv7, hd7, _, _⟩, _⟩, _⟩, _⟩, _⟩, _⟩, _⟩, _⟩, _, _⟩ := h
  obtain rfl := Option.some.inj (gPow15.symm.trans hg2)
  obtain rfl := Option.some.inj (gAcc15.symm.trans hg3)
  obtain rfl := Option.some.inj (gCas15.symm.trans hg6)
  obtain rfl := Option.some.inj (gFst15.symm.trans hg7)
  obtain rfl := Option.some.inj (tPow15.symm.trans ht2)
  obtain rfl := Option.some.inj (tAcc15.symm.trans ht3)
  obtain rfl := Option.some.inj (tCas15.symm.trans ht6)
  obtain rfl := Option.some.inj (tFst15.symm.trans ht7)
  have c8 : P.cellsOf t_uint8 = 1 := by kernel_rfl
  have c64 : P.cellsOf t_uint64 = 1 := by kernel_rfl
  have cac : P.cellsOf t_utf8_acceptRange = 2 := by kernel_rfl
  have ccr : P.cellsOf t_unicode_CaseRange = 5 := by kernel_rfl
  have c32 : P.cellsOf t_uint32 = 1 := by kernel_rfl
  have ci32 : P.cellsOf t_int32 = 1 := by kernel_rfl
  have cd : P.cellsOf t_unicode_d = 3 := by kernel_rfl
  refine ⟨⟨fun i hi => readAll_cell ?_, fun i hi => ?_, ?_⟩, fun i hi => readAll_cell ?_⟩
  · rw [World.var?_cell gFst15 hv7]
    obtain ⟨m, q, e⟩ := dElt u_256_uint8 (show DataW.trod (fun _ => ()) P W 0 (fun _ => true) false f7 t_256_uint8 cs7.toList = some (.agg (Go.Pinned.numbers .u8 Go.Pinned.utf8FirstZ), p7) from hd7) c8 hi (fst_datum i hi)
    have := dCell (dInt u_uint8 e)
    simpa using this
  · obtain ⟨fs, hu, hf0, hf1⟩ := st_acc
    have hd := accs_get i hi
    obtain ⟨m, q, e⟩ := dElt u_16_utf8_acceptRange (show DataW.trod (fun _ => ()) P W 0 (fun _ => true) false f3 t_16_utf8_acceptRange cs3.toList = some (.agg accDs, p3) by rw [← acc_datum]; exact hd3) cac hi hd
    obtain ⟨m1, q1, e1⟩ := dFld hu e hf0 (d := .lit (.int .u8 (((accT.getD i (0, 0)).1 : Nat) : Int))) rfl
    obtain ⟨m2, q2, e2⟩ := dFld hu e hf1 (d := .lit (.int .u8 (((accT.getD i (0, 0)).2 : Nat) : Int))) rfl
    have r1 := dCell (dInt u_uint8 e1)
    have r2 := dCell (dInt u_uint8 e2)
    rw [List.getElem?_take_of_lt (by omega), List.getElem?_drop] at r1 r2
    exact ⟨readAll_cell (by rw [World.var?_cell gAcc15 hv3]; simpa using r1), readAll_cell (by rw [World.var?_cell gAcc15 hv3]; simpa using r2)⟩
  · obtain ⟨fs, hu, hf0, hf1, hf2⟩ := st_case
    have hd : DataW.trod (fun _ => ()) P W 0 (fun _ => true) false f6 t_Sl_unicode_CaseRange cs6.toList = some (.slice (Go.Pinned.caseRows.map Go.Pinned.caseRange) [], p6) := hd6
    obtain ⟨b, o, cap, ec, lc, hrow⟩ := dSl u_Sl_unicode_CaseRange ccr (by omega) (fun q => by have := congrArg List.length q; rw [List.length_map] at this; revert this; decide +kernel) hd
    rw [List.length_map] at ec lc
    refine ⟨b, o, cap, lc, readAll_cell (by rw [World.var?_cell gCas15 hv6]; have := congrArg (fun l => l[0]?) ec; simpa using this), fun i x hx => ?_⟩
    obtain ⟨m, q, ys, ly, tr, cl⟩ := hrow i _ (by rw [List.getElem?_map, hx]; rfl)
    obtain ⟨m1, q1, e1⟩ := dFld hu tr hf0 (d := .lit (.int .u32 x.1)) rfl
    obtain ⟨m2, q2, e2⟩ := dFld hu tr hf1 (d := .lit (.int .u32 x.2.1)) rfl
    obtain ⟨m3, q3, e3⟩ := dFld hu tr hf2 (d := .agg [.lit (.int .i32 x.2.2.1), .lit (.int .i32 x.2.2.2.1), .lit (.int .i32 x.2.2.2.2)]) rfl
    obtain ⟨m4, q4, e4⟩ := dElt un_d e3 ci32 (i := 1) (by omega) (d := .lit (.int .i32 x.2.2.2.1)) rfl
    have r1 := dCell (dInt u_uint32 e1)
    have r2 := dCell (dInt u_uint32 e2)
    have r3 := dCell (dInt u_int32 e4)
    rw [cd, List.getElem?_take_of_lt (by omega), List.getElem?_drop] at r3
    have z1 := cl 0 _ r1
    have z3 := cl 3 _ r3
    exact ⟨z1, cl 1 _ r2, z3⟩
  · rw [World.var?_cell gPow15 hv2]
    obtain ⟨m, q, e⟩ := dElt u_20_uint64 (show DataW.trod (fun _ => ()) P W 0 (fun _ => true) false f2 t_20_uint64 cs2.toList = some (.agg powDs, p2) by rw [← pow_datum]; exact hd2) c64 hi (pows_get i hi)
    have := dCell (dInt u_uint64 e)
    simpa using this
end Go.Proofs.YtolcmaipjpkidaaGreatDoor
set_option linter.unusedSimpArgs false
set_option linter.unusedVariables false
set_option maxRecDepth 100000
namespace Go.Proofs.YtolcmaipjpkidaaGreatDoor
open Go Go.SL Go.Pure
open Go.ChangeShapes Go.WideShapes Go.ChangeAt Go.RowKit
namespace jsonNumbers
theorem laid_met (os : Os) (args : Array Value) : laidMetH Tryz.prog Rows.jsonNumbersRow.laid ((World.laidAll Tryz.prog os Rows.jsonNumbersRow.laid).forCall (fun _ _ => 0) ⟨#[], args, []⟩).memory := by
  rw [MakeChecks.laidMetH_plain _ _ _ (by kernel_rfl)]
  exact laidMet_laidAll _ (by kernel_rfl) (by kernel_rfl)
theorem lifted (os : Os) (started : os.Started) (H : Type) (enc : TypeId × Value → H) :
    ReturnsInHanded {} Tryz.checked os n_orloplaw15_JsonNumbers .any (fun w args => (Rows.jsonNumbersSpec.pre enc Tryz.prog Tryz.f5 [] false w args ∧ laidMetH Tryz.prog Rows.jsonNumbersRow.laid w) ∧ sizedMet enc Tryz.prog Tryz.f5 (OpenSpec.ofChange Rows.jsonNumbersSpec) false w args)
      (Rows.jsonNumbersSpec.post enc Tryz.prog Tryz.f5 false true false false) := by
  refine returnsInHanded_of_change_and (C := Tryz.checked) (X := fun w _ => laidMetH Tryz.prog Rows.jsonNumbersRow.laid w) (fun _ _ _ hh h => h.of_heap hh) ownNone started (by kernel_rfl) Tryz.func5
    (ChangeSpec.witness_shaped (enc := enc) (C := Tryz.checked) (os := os) (X := fun w _ => laidMetH Tryz.prog Rows.jsonNumbersRow.laid w) false (World.laidAll Tryz.prog os Rows.jsonNumbersRow.laid) #[.int .i64 0, .int .u32 0] 8 (World.laidAll_os ..) (World.shaped_of_ZipB (by kernel_rfl) (by kernel_rfl)) (by kernel_rfl) (by kernel_rfl) (by kernel_rfl) (laid_met os _)) ?_
  intro W base args ds gs before hval0 hW _ hsz0 hL _
  have hval : ∀ (j : Nat) t v, Tryz.f5.params[j]? = some t → args[j]? = some v → Value.okWide Tryz.prog W .any base t v := hval0
  have hW' := hW
  obtain ⟨p, q, hA0, hV, rfl, hfz, hnd⟩ := hW
  have hA : DataW.TrodAll enc Tryz.prog W 0 (fun _ => true) true Tryz.f5.params.toList args.toList ds p := hA0
  rw [Tryz.params5] at hA hval
  obtain ⟨v0, vs0, d0, ds0, p0, q0, hargs, rfl, rfl, h0, r0⟩ := trodAll_cons hA
  obtain ⟨v1, vs1, d1, ds1, p1, q1, rfl, rfl, rfl, h1, r1⟩ := trodAll_cons r0
  obtain ⟨rfl, rfl, rfl⟩ := trodAll_nil r1
  obtain rfl : args = #[v0, v1] := by cases args; simp_all
  obtain ⟨rfl, rfl⟩ := trodVars_none hV
  obtain ⟨n0, rfl, rfl, rfl, w0⟩ := open_int Tryz.underlying2 (hval 0 2 v0 rfl rfl) h0
  have hw0 : -9223372036854775808 ≤ n0 ∧ n0 ≤ 9223372036854775807 := by
    simp [Lit.wf, IntKind.min, IntKind.max, IntKind.signed, IntKind.bits] at w0
    omega
  obtain ⟨x1, rfl, rfl, rfl, w1⟩ := open_int Tryz.underlying38 (hval 1 38 v1 rfl rfl) h1
  have hw1 : 0 ≤ x1 ∧ x1 < 4294967296 := by
    simp [Lit.wf, IntKind.min, IntKind.max, IntKind.signed, IntKind.bits] at w1
    omega
  obtain ⟨n1, rfl⟩ : ∃ o : Nat, x1 = (o : Int) := ⟨x1.toNat, by omega⟩
  have T0 := tab_of_laid (W := W) hL
  clear hA0 hval0 hsz0
  refine (tells_true (T_JsonNumbers (K := fun v _ => v = .bool true) T0.1 T0.2 (by omega) (by omega) fun _ => rfl)).mono fun e W' ⟨he, bel⟩ => ?_
  subst he
  exact ⟨_, rfl, _, _, _, [], _, [], hW', trodAll_mk1 (shut_bool Tryz.underlying4 _), (trodAll_cons_mk (shut_int Tryz.underlying2 w0) (trodAll_cons_mk (shut_int Tryz.underlying38 w1) trodAll_mk0)), rfl, bel.frame _, fun h => by cases h⟩
theorem over : Rows.jsonNumbersRow.holds Tryz.pinned (OpenSpec.ofChange Rows.jsonNumbersSpec) :=
  OpenClaim.holds_of_wide 5 Tryz.f5 rfl rfl rfl rfl rfl rfl rfl ⟨rfl, rfl, rfl, rfl, rfl⟩ rfl rfl rfl rfl rfl (by kernel_rfl) Tryz.func5 (by kernel_rfl)
    (of_decide_eq_true (by kernel_rfl)) (by unfold Func.isWrapper; first | (rw [if_pos (by decide +kernel)]; kernel_rfl) | (rw [if_neg (by decide +kernel)]; exact ⟨rfl, rfl⟩))
    (fun os started H enc _ => lifted os started H enc)
theorem proved : Rows.JsonNumbersCardSaid :=
  Claim7.holds_tied_plain_at .later [] [.data, .data, .data, .data, .sentinel, .sentinel, .pinned, .pinned] true (true, "984915d52a11ad6d43a4841d8998c66ab362931bf101cad0c51e0099ee1e103f") true
    over (fun _ h => by cases h) (by kernel_rfl) (fun _ h => by cases h) jsonNumbers_row_tie rfl ⟨rfl, rfl⟩ (by kernel_rfl) rfl
    (fun f fn hf hfn => by
      obtain rfl : f = 5 := Option.some.inj ((show Tryz.prog.funcNamed "orlop/orloplaw15.JsonNumbers" = some 5 by kernel_rfl).symm.trans hf) |>.symm
      obtain rfl : fn = Tryz.f5 := (Option.some.inj (Tryz.func5.symm.trans hfn)).symm
      exact ⟨by kernel_rfl, fun j t ht => by
        rw [Tryz.params5] at ht
        have hm : t ∈ [2, 38] := by simpa using Array.mem_of_getElem? ht
        have hall : ([2, 38].all fun u => !Tryz.prog.wantsStandIn u) = true := by kernel_rfl
        exact (show Tryz.prog.wantsStandIn t = false by simpa using List.all_eq_true.1 hall t hm)⟩)
    (by kernel_rfl)
end jsonNumbers
/-- The card, under a short name. -/
theorem jsonNumbers_holds : Rows.JsonNumbersCardSaid := jsonNumbers.proved
end Go.Proofs.YtolcmaipjpkidaaGreatDoor
