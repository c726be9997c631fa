/- Asks of the crypts in a row; one of them is taken. Conditions: each names its own. -/
import Derived.Test.YtnecdbclhdbaoaaSYp
set_option linter.unusedSimpArgs false
set_option linter.unusedVariables false
set_option maxRecDepth 100000
set_option maxHeartbeats 1000000
namespace Go.Proofs.Ytnecdbclhdbaoaa
open Go Go.SL Go.Pure

/-- An ask, as it stands in memory. -/
structure AskV where
  key : List Nat
  nonce : List Nat
  vb : Value
  vt : Value
  b : List Nat
  t : List Nat
def AskV.cells (a : AskV) : List Value := askC a.key a.nonce a.vb a.vt
structure AskV.ok (R : Hp) (a : AskV) : Prop where
  lk : a.key.length = 32
  ln : a.nonce.length = 12
  bk : Bytes a.key
  bn : Bytes a.nonce
  rb : Rn R .u8 a.vb a.b
  bb : Bytes a.b
  rt : Rn R .u8 a.vt a.t
  bt : Bytes a.t
theorem AskV.ok.mono {R R' : Hp} {a : AskV} (o : AskV.ok R a) (c : Hp.cle R R') : AskV.ok R' a := ⟨o.lk, o.ln, o.bk, o.bn, o.rb.mono c, o.bb, o.rt.mono c, o.bt⟩
/-- Asks in a row. -/
def AsksAt (R : Hp) (v : Value) (asks : List AskV) : Prop :=
  (∀ (i : Nat) (x : AskV), asks[i]? = some x → AskV.ok R x) ∧ ∃ a c, v = .slice a asks.length c ∧ asks.length ≤ c ∧ (asks.length = 0 ∨ ∃ b o, a = some ⟨b, o, none⟩ ∧ ∀ (i : Nat) (x : AskV), asks[i]? = some x → ∀ (j : Nat) (y : Value), x.cells[j]? = some y → R.cell ⟨b, o + i * 46 + j, none⟩ = some y)
theorem AsksAt.mono {R R' : Hp} {v : Value} {asks : List AskV} (A : AsksAt R v asks) (c : Hp.cle R R') : AsksAt R' v asks := by
  obtain ⟨h1, a, n, h2, h3, h4⟩ := A
  refine ⟨fun i x e => (h1 i x e).mono c, a, n, h2, h3, ?_⟩
  rcases h4 with h0 | ⟨b, o, h5, h6⟩
  · exact .inl h0
  · exact .inr ⟨b, o, h5, fun i x e j y ey => c _ _ (h6 i x e j y ey)⟩
theorem AsksAt.shape {R : Hp} {v : Value} {asks : List AskV} (A : AsksAt R v asks) : ∃ a c, v = .slice a asks.length c ∧ asks.length ≤ c := let ⟨_, a, c, e, hc, _⟩ := A; ⟨a, c, e, hc⟩

section
variable {h : Hp} {K : Value → Hp → Prop}
/-- An ask is taken out of a row, into a row of its own. -/
theorem aw_askAt {R : Hp} {S : List Nat} {v : Value} {asks : List AskV} {i : Nat} {x : AskV} (w : Own R h S) (A : AsksAt R v asks) (hi : asks[i]? = some x) {F : Value → Hp → Prop}
    (k : ∀ r R' h', Stp R h R' h' S S → Hp.ext h h' → Ask12 R' r x.key x.nonce x.vb x.vt → F (.pointer (some ⟨r, 0, none⟩)) h') :
    q P h (Instr.indexAt t_Sl_orloplaw12_Ask v (.int .i64 (i : Int))) fun t31 => q P h (Instr.loadAt t_orloplaw12_Ask t31) fun t32 => aw P (Instr.alloc t_orloplaw12_Ask true (.tuple #[])) (fun t8 h => aw P (Instr.storeAt t_orloplaw12_Ask t8 t32) (fun _ h => F t8 h) h) h := by
  obtain ⟨ok, a, c, rfl, hc, hA⟩ := A
  have hlt : i < asks.length := (List.getElem?_eq_some_iff.1 hi).1
  rcases hA with h0 | ⟨b, o, rfl, hcl⟩
  · omega
  have o1 := ok i x hi
  have lc : x.cells.length = 46 := askC_len o1.lk o1.ln
  rw [q_idxS u_Sl_orloplaw12_Ask sz_ask12 ⟨b, o, none⟩ asks.length c .i64 i (by omega) (by omega), Int.toNat_natCast, add_off]
  rw [q_ldAgg (ys := x.cells) u_orloplaw12_Ask rfl (by rw [lc]; exact sz_ask12) (b := b) (o := o + i * 46) (fun j y e => w.sub.cle _ _ (hcl i x hi j y e))]
  refine aw_allocL (askC (List.replicate 32 0) (List.replicate 12 0) (.slice none 0 0) (.slice none 0 0)) zr_ask12 rfl fun r hr => ?_
  have l46 : (askC (List.replicate 32 0) (List.replicate 12 0) (.slice none 0 0) (.slice none 0 0)).length = 46 := askC_len (by simp) (by simp)
  rw [l46]
  refine aw_storeRow (ys := x.cells) (by rw [lc]; exact sz_ask12) (Hp.set_same ..) (by rw [l46, lc]) (askC_flat (rn_flat o1.rb) (rn_flat o1.rt)) (fun i _ => by simp) ?_
  rw [Hp.set_set]
  exact k r _ _ (Stp.block _ w hr) (ext_set _ hr) ⟨_, Hp.set_same ..⟩
end
end Go.Proofs.Ytnecdbclhdbaoaa
