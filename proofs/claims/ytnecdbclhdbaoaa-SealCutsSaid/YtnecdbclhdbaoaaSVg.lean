/- A law's row: what stands in memory at the call, told in the small logic; what is left. Conditions: each names its own. -/
import Derived.Test.YtnecdbclhdbaoaaSWo
import Derived.Test.YtnecdbclhdbaoaaRows
import Derived.WalkKit
import Derived.ProofKit
import Derived.OpenShut
import Derived.ShutString
import Derived.ChangeOld
import Derived.Below
import Derived.Carry
import Derived.SizedLaws
import Derived.Lib.SmallJoins
set_option linter.unusedSimpArgs false
set_option linter.unusedVariables false
set_option maxRecDepth 100000
namespace Go.Proofs.Ytnecdbclhdbaoaa
open Go Go.SL Go.Pure
open Go.ChangeShapes Go.WideShapes Go.ChangeAt Go.RowKit

/-- All cells that lie in memory, to read. -/
def readAll (w : World) : Hp := fun b => match w.heap[b]? with
  | some (.cells c e _) => some (.row e c.toList c.size none)
  | _ => none
theorem readAll_sat (w : World) : (readAll w).sat w := by
  intro b o e
  unfold readAll at e
  split at e
  · rename_i c el f hb
    cases e
    refine ⟨_, hb, rfl, rfl, by simp, fun i v hv => by simpa using hv, fun f hf => by cases hf⟩
  · cases e
theorem readAll_own (w : World) (b : Nat) : ¬ (readAll w).own b := by
  rintro ⟨o, e, hr⟩
  unfold readAll at e
  split at e
  · cases e; cases hr
  · cases e
theorem readAll_cell {w : World} {b o : Nat} {v : Value} (e : w.cell? ⟨b, o, none⟩ = some v) : (readAll w).cell ⟨b, o, none⟩ = some v := by
  unfold World.cell? at e
  unfold Hp.cell readAll
  dsimp only at e ⊢
  split at e
  · rename_i c el f hb
    rw [hb]
    simpa using e
  · cases e
theorem below_of {w w' : World} {h' : Hp} (f : Fr (readAll w) h' w w') : Below w.heap.size w w' :=
  ⟨f.os, f.tape, f.output, f.size, fun k hk => f.keep k hk (readAll_own w k)⟩

/-- A slice of bytes, as it is handed in. -/
theorem rn_open {H : Type} {enc : TypeId × Value → H} {w : World} {fuel : Nat} {v : Value} {x : DataW H × List MemPlace} (h : DataW.trod enc P w 0 (fun _ => true) true fuel t_Sl_uint8 [v] = some x) :
    ∃ l : List Nat, Rn (readAll w) .u8 v l ∧ Bytes l := by
  rcases Go.ChangeShapes.open_ints u_Sl_uint8 u_uint8 (by kernel_rfl) h with ⟨hcs, _⟩ | ⟨a, len, cap, zs, hcs, _, hl, hm, hz, _, hcell, hwz⟩
  · simp only [List.cons.injEq, and_true] at hcs
    subst hcs
    exact ⟨[], rn_nil _ _, by intro y hy; cases hy⟩
  · simp only [List.cons.injEq, and_true] at hcs
    subst hcs
    simp only [if_true] at hz
    have hnn : ∀ n ∈ zs, 0 ≤ n ∧ n < 256 := fun n hn => by
      have := hwz n hn
      simp [Lit.wf, IntKind.min, IntKind.max, IntKind.signed, IntKind.bits] at this
      omega
    have ll : ((zs.take len).map Int.toNat).length = len := by rw [List.length_map, List.length_take]; omega
    refine ⟨(zs.take len).map Int.toNat, ⟨by rw [nv_len]; omega, some a, cap, by rw [ll], by omega, ?_⟩, ?_⟩
    · rw [ll]
      by_cases h0 : len = 0
      · exact .inl h0
      · right
        have hc0 := hcell 0 (by omega)
        obtain ⟨b, o, sp⟩ := a
        have hsp : sp = none := by
          cases sp with
          | none => rfl
          | some s =>
            unfold World.cell? Addr.add at hc0
            dsimp only at hc0
            split at hc0 <;> simp at hc0
        subst hsp
        refine ⟨b, o, rfl, fun i x hx => ?_⟩
        have hi : i < len := by
          have := (List.getElem?_eq_some_iff.1 hx).1
          rwa [nv_len, ll] at this
        rw [nv_getD _ _ _ (by rw [ll]; exact hi)] at hx
        cases hx
        have hci := hcell i (by omega)
        rw [add_off] at hci
        have hz' : zs.getD i 0 = (((zs.take len).map Int.toNat).getD i 0 : Nat) := by
          have hiz : i < zs.length := by omega
          have := hnn zs[i] (List.getElem_mem hiz)
          simp [List.getD_eq_getElem?_getD, hiz, hi]
          omega
        rw [hz'] at hci
        exact readAll_cell hci
    · intro y hy
      obtain ⟨n, hn, rfl⟩ := List.mem_map.1 hy
      have := hnn n (List.mem_of_mem_take hn)
      omega

theorem slice_open {H : Type} {enc : TypeId × Value → H} {w : World} {v : Value} {d : DataW H} {p : List MemPlace} (hv : ∃ a len cap, v = .slice a len cap) (h : DataW.Trod enc P w 0 (fun _ => true) true t_Sl_uint8 v d p) :
    ∃ l : List Nat, Rn (readAll w) .u8 v l ∧ Bytes l := by
  obtain ⟨a, n, c, rfl⟩ := hv
  obtain ⟨fuel, hf⟩ := h
  exact rn_open hf
theorem ownNone : ownKnob Try.prog.godebug = none := by kernel_rfl
theorem laidOut : laidOutB Try.prog = true := by kernel_rfl
/-- The walk of a statement that tells true. -/
theorem tells_true {f : FuncId} {args : Array Value} {w : World} (c : Cn P f args (readAll w) fun v _ => v = .bool true) : Calls P f args w fun e w' => e = .returned (.bool true) ∧ Below w.heap.size w w' :=
  (c.2 w (readAll_sat w)).mono fun e w' ⟨v, h', he, _, f', hv⟩ => ⟨by rw [he, hv], below_of f'⟩

end Go.Proofs.Ytnecdbclhdbaoaa
