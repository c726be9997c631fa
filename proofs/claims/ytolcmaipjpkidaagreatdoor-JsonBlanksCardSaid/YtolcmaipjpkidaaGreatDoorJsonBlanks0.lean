/- jsonBlanks_holds jsonBlanks proved lifted over: part 0 of its proof; each part's own remarks stand with its declarations. Conditions: each lemma names its own. -/
import Derived.Orders
import Derived.KernelRfl
import Derived.Tactics
import Derived.TacticsIn
import Derived.RangeFuncRecord
import Derived.OrdersIn
import Derived.Scope
import Derived.RecoverIn
set_option linter.unusedSimpArgs false
set_option linter.unusedVariables false
set_option maxRecDepth 100000
set_option maxHeartbeats 1000000
namespace Go.SL
open Go
/-- What is known of a block: a row of cells (its first values, its size, its frozen range where it may be written), or another object. -/
inductive AObj where
  | row (elem : TypeId) (vals : List Value) (cap : Nat) (fz : Option (Nat × Nat))
  | obj (o : Obj)
def isCells : Obj → Bool
  | .cells .. => true
  | _ => false
def AObj.models : AObj → Obj → Prop
  | .row e vs cap fz, .cells c e' f' => e' = e ∧ c.size = cap ∧ vs.length ≤ cap ∧ (∀ (i : Nat) (v : Value), vs[i]? = some v → c[i]? = some v) ∧ (∀ f, fz = some f → f' = f)
  | .row .., _ => False
  | .obj o, o' => o' = o ∧ isCells o = false
def AObj.rw : AObj → Bool
  | .row _ _ _ fz => fz.isSome
  | .obj _ => true
abbrev Hp := Nat → Option AObj
def Hp.set (h : Hp) (b : Nat) (o : AObj) : Hp := fun b' => if b' = b then some o else h b'
def Hp.own (h : Hp) (b : Nat) : Prop := ∃ o, h b = some o ∧ o.rw = true
def Hp.sat (h : Hp) (w : World) : Prop := ∀ b o, h b = some o → ∃ x, w.heap[b]? = some x ∧ o.models x
/-- From one world to a later one: what isn't ours to write stays. -/
structure Fr (h h' : Hp) (w w' : World) : Prop where
  os : w'.os = w.os
  tape : w'.tape = w.tape
  output : w'.output = w.output
  size : w.heap.size ≤ w'.heap.size
  keep : ∀ b, b < w.heap.size → ¬ h.own b → w'.heap[b]? = w.heap[b]?
  dom : ∀ b, h'.own b → h.own b ∨ w.heap.size ≤ b
theorem Fr.refl (h : Hp) (w : World) : Fr h h w w := ⟨rfl, rfl, rfl, Nat.le_refl _, fun _ _ _ => rfl, fun _ hb => .inl hb⟩
theorem Fr.trans {h h1 h2 : Hp} {w w1 w2 : World} (a : Fr h h1 w w1) (b : Fr h1 h2 w1 w2) : Fr h h2 w w2 where
  os := b.os.trans a.os
  tape := b.tape.trans a.tape
  output := b.output.trans a.output
  size := Nat.le_trans a.size b.size
  keep := fun i hi hn => by
    have h1n : ¬ h1.own i := fun q => by
      rcases a.dom i q with q | q
      · exact hn q
      · omega
    rw [b.keep i (Nat.lt_of_lt_of_le hi a.size) h1n, a.keep i hi hn]
  dom := fun i q => by
    rcases b.dom i q with q | q
    · exact a.dom i q
    · exact .inr (Nat.le_trans a.size q)
/-- Less is known: of a row fewer values, or not that it may be written. -/
def AObj.le : AObj → AObj → Prop
  | .row e vs cap fz, .row e' vs' cap' fz' => e = e' ∧ cap = cap' ∧ vs <+: vs' ∧ (fz = fz' ∨ fz = none)
  | .obj o, .obj o' => o = o'
  | _, _ => False
theorem AObj.le.refl (o : AObj) : AObj.le o o := by
  cases o
  · exact ⟨rfl, rfl, List.prefix_refl _, .inl rfl⟩
  · rfl
theorem AObj.le.models {o o' : AObj} (l : AObj.le o o') {x : Obj} (m : o'.models x) : o.models x := by
  cases o <;> cases o' <;> simp only [AObj.le] at l
  · obtain ⟨rfl, rfl, ⟨z, rfl⟩, hf⟩ := l
    cases x <;> simp only [AObj.models] at m ⊢
    obtain ⟨h1, h2, h3, h4, h5⟩ := m
    refine ⟨h1, h2, by simp at h3; omega, fun i v hv => h4 i v ?_, fun f hf' => h5 f ?_⟩
    · have : i < _ := (List.getElem?_eq_some_iff.1 hv).1
      rw [List.getElem?_append_left this]; exact hv
    · rcases hf with rfl | rfl
      · exact hf'
      · cases hf'
  · subst l; exact m
theorem AObj.le.rw {o o' : AObj} (l : AObj.le o o') (r : o.rw = true) : o'.rw = true := by
  cases o <;> cases o' <;> simp only [AObj.le] at l
  · obtain ⟨_, _, _, rfl | rfl⟩ := l
    · exact r
    · cases r
  · rfl
def Hp.le (h h' : Hp) : Prop := ∀ b o, h b = some o → ∃ o', h' b = some o' ∧ o.le o'
theorem Hp.le.refl (h : Hp) : Hp.le h h := fun _ o e => ⟨o, e, .refl o⟩
theorem Hp.le.sat {h h' : Hp} {w : World} (l : Hp.le h h') (s : h'.sat w) : h.sat w := fun b o e =>
  let ⟨o', e', m⟩ := l b o e
  let ⟨x, hx, mx⟩ := s b o' e'
  ⟨x, hx, m.models mx⟩
theorem Hp.le.own {h h' : Hp} (l : Hp.le h h') {b : Nat} (o : h.own b) : h'.own b :=
  let ⟨x, e, r⟩ := o
  let ⟨o', e', m⟩ := l b x e
  ⟨o', e', m.rw r⟩
theorem Fr.weaken {h h' h'' : Hp} {w w' : World} (a : Fr h h' w w') (l : Hp.le h'' h') : Fr h h'' w w' :=
  { a with dom := fun b q => a.dom b (l.own q) }
theorem Fr.drew {h : Hp} {w : World} (n : Nat) : Fr h h w { w with drawn := n } := ⟨rfl, rfl, rfl, Nat.le_refl _, fun _ _ _ => rfl, fun _ hb => .inl hb⟩
@[simp] theorem Hp.set_same (h : Hp) (b : Nat) (o : AObj) : (h.set b o) b = some o := by simp [Hp.set]
theorem Hp.set_ne (h : Hp) {b b' : Nat} (o : AObj) (n : b' ≠ b) : (h.set b o) b' = h b' := by simp [Hp.set, n]
theorem Hp.set_set (h : Hp) (b : Nat) (o o' : AObj) : (h.set b o).set b o' = h.set b o' := by
  funext i; simp only [Hp.set]; split <;> rfl
theorem Hp.set_comm (h : Hp) {b b' : Nat} (o o' : AObj) (n : b ≠ b') : (h.set b o).set b' o' = (h.set b' o').set b o := by
  funext i; simp only [Hp.set]
  by_cases h1 : i = b
  · subst h1; rw [if_neg n, if_pos rfl, if_pos rfl]
  · by_cases h2 : i = b'
    · subst h2; rw [if_pos rfl, if_neg h1, if_pos rfl]
    · rw [if_neg h2, if_neg h1, if_neg h1, if_neg h2]
def Hp.cell (h : Hp) (a : Addr) : Option Value :=
  if a.spot.isSome then none else
  match h a.block with
  | some (.row _ vs _ _) => vs[a.off]?
  | _ => none
/-- A cell is written: one whose value is known, or the first beyond. -/
def Hp.put (h : Hp) (a : Addr) (v : Value) : Option Hp :=
  if a.spot.isSome then none else
  match h a.block with
  | some (.row e vs cap (some f)) =>
    if f.1 ≤ a.off ∧ a.off < f.2 then none
    else if a.off < vs.length then some (h.set a.block (.row e (vs.set a.off v) cap (some f)))
    else if a.off = vs.length ∧ a.off < cap then some (h.set a.block (.row e (vs ++ [v]) cap (some f)))
    else none
  | _ => none
def Hp.shape (h : Hp) (r : Nat) : Option (Option (TypeId × Nat)) :=
  match h r with
  | some (.row e _ cap _) => some (some (e, cap))
  | some (.obj _) => some none
  | none => none
def frz (f : Nat × Nat) (off n : Nat) : Nat × Nat := if f.1 == f.2 then (off, off + n) else (min f.1 off, max f.2 (off + n))
def Hp.freeze (h : Hp) (a : Addr) (n : Nat) : Option Hp :=
  if n = 0 then some h else
  match h a.block with
  | some (.row e vs cap (some f)) => some (h.set a.block (.row e vs cap (some (frz f a.off n))))
  | _ => none
def Hp.frozen (h : Hp) (a : Addr) : Option Bool :=
  match h a.block with
  | some (.row _ _ _ (some f)) => some (f.1 ≤ a.off && a.off < f.2)
  | some (.obj _) => some false
  | _ => none
def flat : Value → Bool
  | .agg _ | .tuple _ => false
  | _ => true
def absOf : Obj → AObj
  | .cells c e f => .row e c.toList c.size (some f)
  | o => .obj o
theorem absOf_models (o : Obj) : (absOf o).models o := by
  cases o <;> simp [absOf, AObj.models, isCells]
theorem cell_sound {h : Hp} {w : World} (s : h.sat w) {a : Addr} {v : Value} (e : h.cell a = some v) : w.cell? a = some v := by
  unfold Hp.cell at e
  split at e
  · cases e
  · rename_i hs
    split at e
    · rename_i el vs cap fz hb
      obtain ⟨x, hx, hm⟩ := s _ _ hb
      cases x <;> simp only [AObj.models] at hm
      rename_i c e' f'
      simp [World.cell?, hx, hs, hm.2.2.2.1 _ _ e]
    · cases e
theorem Fr.keepAll {h : Hp} {w w' : World} (b : Nat) (hb : h.own b) (x : Obj) (e : w' = { w with heap := w.heap.setIfInBounds b x }) (o : AObj) : Fr h (h.set b o) w w' := by
  subst e
  refine ⟨rfl, rfl, rfl, by simp, fun i hi hn => ?_, fun i q => ?_⟩
  · have : b ≠ i := fun e => hn (e ▸ hb)
    simp [Array.getElem?_setIfInBounds_ne this]
  · by_cases e : i = b
    · subst e; exact .inl hb
    · obtain ⟨y, hy, hr⟩ := q
      rw [Hp.set_ne _ _ e] at hy
      exact .inl ⟨y, hy, hr⟩
theorem sat_set {h : Hp} {w : World} (s : h.sat w) {b : Nat} (hb : b < w.heap.size) {x : Obj} {o : AObj} (m : o.models x) :
    (h.set b o).sat { w with heap := w.heap.setIfInBounds b x } := by
  intro i y hy
  by_cases e : i = b
  · subst e
    rw [Hp.set_same] at hy
    cases hy
    exact ⟨x, by simp [hb], m⟩
  · rw [Hp.set_ne _ _ e] at hy
    obtain ⟨z, hz, hm⟩ := s i y hy
    exact ⟨z, by simp [Array.getElem?_setIfInBounds_ne (Ne.symm e), hz], hm⟩
theorem sat_lt {h : Hp} {w : World} (s : h.sat w) {b : Nat} {o : AObj} (e : h b = some o) : b < w.heap.size := by
  obtain ⟨x, hx, _⟩ := s b o e
  exact (Array.getElem?_eq_some_iff.1 hx).1
theorem modify_eq {xs : Array Obj} {b : Nat} {x : Obj} (hx : xs[b]? = some x) (f : Obj → Obj) : xs.modify b f = xs.setIfInBounds b (f x) := by
  have hlt : b < xs.size := (Array.getElem?_eq_some_iff.1 hx).1
  have he : xs[b] = x := by simpa [Array.getElem?_eq_getElem hlt] using hx
  apply Array.ext_getElem?
  intro i
  rw [Array.getElem?_modify, Array.getElem?_setIfInBounds]
  split
  · rename_i hi; subst hi; simp [hlt, he]
  · rfl
theorem setCell_eq {w : World} {b off : Nat} {c : Array Value} {e : TypeId} {f : Nat × Nat} (hx : w.heap[b]? = some (.cells c e f)) (v : Value) :
    w.setCell ⟨b, off, none⟩ v = { w with heap := w.heap.setIfInBounds b (.cells (c.setIfInBounds off v) e f) } := by
  unfold World.setCell
  rw [modify_eq hx]
  rfl
theorem put_sound {h h' : Hp} {w : World} (s : h.sat w) {a : Addr} {v : Value} (e : h.put a v = some h') :
    (∃ u, w.cell? a = some u) ∧ w.frozen? a = false ∧ h'.sat (w.setCell a v) ∧ Fr h h' w (w.setCell a v) := by
  unfold Hp.put at e
  split at e
  · cases e
  · rename_i hs
    obtain ⟨b, off, spot⟩ := a
    cases spot with
    | some _ => simp at hs
    | none =>
    dsimp only at e
    split at e
    · rename_i el vs cap f hb
      obtain ⟨x, hx, hm⟩ := s _ _ hb
      cases x <;> simp only [AObj.models] at hm
      rename_i c e' f'
      obtain ⟨rfl, hc, hl, hv, hf⟩ := hm
      obtain rfl := hf f rfl
      have hlt := sat_lt s hb
      have hown : h.own b := ⟨_, hb, rfl⟩
      split at e
      · cases e
      rename_i hfz
      have hfr : w.frozen? ⟨b, off, none⟩ = false := by
        simp only [World.frozen?, hx]
        simp only [Bool.and_eq_false_iff, decide_eq_false_iff_not]
        by_cases h1 : f'.1 ≤ off
        · exact .inr fun h2 => hfz ⟨h1, h2⟩
        · exact .inl h1
      split at e
      · rename_i ho
        cases e
        refine ⟨⟨c[off]'(by omega), by simp [World.cell?, hx, show off < c.size by omega]⟩, hfr, ?_, ?_⟩
        · rw [setCell_eq hx]
          refine sat_set s hlt ⟨rfl, by simpa using hc, by simpa using hl, fun i u hu => ?_, fun _ hf => (Option.some.inj hf)⟩
          rw [Array.getElem?_setIfInBounds]
          rw [List.getElem?_set] at hu
          split
          · rename_i hi
            subst hi
            rw [if_pos rfl, if_pos ho] at hu
            simp [show off < c.size by omega, Option.some.inj hu]
          · rename_i hi
            rw [if_neg hi] at hu
            exact hv i u hu
        · rw [setCell_eq hx]
          exact Fr.keepAll b hown _ rfl _
      · rename_i ho
        split at e
        · rename_i hn
          obtain ⟨rfl, hcap⟩ := hn
          cases e
          refine ⟨⟨c[vs.length]'(by omega), by simp [World.cell?, hx, show vs.length < c.size by omega]⟩, hfr, ?_, ?_⟩
          · rw [setCell_eq hx]
            refine sat_set s hlt ⟨rfl, by simpa using hc, by simp; omega, fun i u hu => ?_, fun _ hf => (Option.some.inj hf)⟩
            rw [Array.getElem?_setIfInBounds]
            split
            · rename_i hi
              subst hi
              simp at hu
              simp [show vs.length < c.size by omega, hu]
            · rename_i hi
              rcases Nat.lt_or_ge i vs.length with hlt' | hge
              · rw [List.getElem?_append_left hlt'] at hu
                exact hv i u hu
              · have : i - vs.length ≠ 0 := by omega
                rw [List.getElem?_append_right hge] at hu
                obtain ⟨k, hk⟩ : ∃ k, i - vs.length = k + 1 := ⟨i - vs.length - 1, by omega⟩
                simp [hk] at hu
          · rw [setCell_eq hx]
            exact Fr.keepAll b hown _ rfl _
        · cases e
    · cases e
theorem shape_sound {h : Hp} {w : World} (s : h.sat w) {r : Nat} {x : Option (TypeId × Nat)} (e : h.shape r = some x) : w.shape? r = x := by
  unfold Hp.shape at e
  split at e
  · rename_i el vs cap fz hb
    obtain ⟨y, hy, hm⟩ := s _ _ hb
    cases y <;> simp only [AObj.models] at hm
    cases e
    simp [World.shape?, hy, hm.1, hm.2.1]
  · rename_i o hb
    obtain ⟨y, hy, hm⟩ := s _ _ hb
    obtain ⟨rfl, hc⟩ := hm
    cases e
    cases y <;> first | (simp [World.shape?, hy]; done) | simp [isCells] at hc
  · cases e
theorem frozen_sound {h : Hp} {w : World} (s : h.sat w) {a : Addr} {x : Bool} (e : h.frozen a = some x) : w.frozen? a = x := by
  unfold Hp.frozen at e
  split at e
  · rename_i el vs cap f hb
    obtain ⟨y, hy, hm⟩ := s _ _ hb
    cases y <;> simp only [AObj.models] at hm
    cases e
    have := hm.2.2.2.2 f rfl
    subst this
    simp [World.frozen?, hy]
  · rename_i o hb
    obtain ⟨y, hy, hm⟩ := s _ _ hb
    obtain ⟨rfl, hc⟩ := hm
    cases e
    cases y <;> first | (simp [World.frozen?, hy]; done) | simp [isCells] at hc
  · cases e
theorem freeze_sound {h h' : Hp} {w : World} (s : h.sat w) {a : Addr} {n : Nat} (e : h.freeze a n = some h') :
    h'.sat (w.freeze a n) ∧ Fr h h' w (w.freeze a n) := by
  unfold Hp.freeze at e
  split at e
  · rename_i hn
    cases e
    simp only [World.freeze, hn, if_true]
    exact ⟨s, Fr.refl _ _⟩
  · rename_i hn
    split at e
    · rename_i el vs cap f hb
      cases e
      obtain ⟨y, hy, hm⟩ := s _ _ hb
      cases y <;> simp only [AObj.models] at hm
      rename_i c e' f'
      obtain ⟨rfl, hc, hl, hv, hf⟩ := hm
      obtain rfl := hf f rfl
      have hlt := sat_lt s hb
      have : w.freeze a n = { w with heap := w.heap.setIfInBounds a.block (.cells c e' (frz f' a.off n)) } := by
        simp only [World.freeze, hn, if_false]
        rw [modify_eq hy]
        rfl
      rw [this]
      exact ⟨sat_set s hlt ⟨rfl, hc, hl, hv, fun _ hf => Option.some.inj hf⟩, Fr.keepAll _ ⟨_, hb, rfl⟩ _ rfl _⟩
    · cases e
theorem new_sound {h : Hp} {w : World} (s : h.sat w) (o : Obj) :
    h w.heap.size = none ∧ (h.set w.heap.size (absOf o)).sat { w with heap := w.heap.push o } ∧ Fr h (h.set w.heap.size (absOf o)) w { w with heap := w.heap.push o } := by
  have hn : h w.heap.size = none := by
    cases e : h w.heap.size with
    | none => rfl
    | some x => exact absurd (sat_lt s e) (Nat.lt_irrefl _)
  refine ⟨hn, fun i y hy => ?_, ⟨rfl, rfl, rfl, by simp, fun i hi _ => ?_, fun i q => ?_⟩⟩
  · by_cases e : i = w.heap.size
    · subst e
      rw [Hp.set_same] at hy
      cases hy
      exact ⟨o, by simp, absOf_models o⟩
    · rw [Hp.set_ne _ _ e] at hy
      obtain ⟨z, hz, hm⟩ := s i y hy
      have := sat_lt s hy
      exact ⟨z, by simp only [Array.getElem?_push, hz]; rw [if_neg (by omega)], hm⟩
  · simp [Array.getElem?_push, show i ≠ w.heap.size by omega]
  · by_cases e : i = w.heap.size
    · exact .inr (by omega)
    · obtain ⟨y, hy, hr⟩ := q
      rw [Hp.set_ne _ _ e] at hy
      exact .inl ⟨y, hy, hr⟩
/-- What an instruction's tree comes to, by what is known. -/
def awp (P : Program) {α : Type} : Sem α → (α → Hp → Prop) → Hp → Prop
  | .pure a, K, h => K a h
  | .load _ a k, K, h => match h.cell a with
    | some v => awp P (k v) K h
    | none => False
  | .store _ a v k, K, h => flat v = true ∧ match h.put a v with
    | some h' => awp P k K h'
    | none => False
  | .new o k, K, h => ∀ r, h r = none → awp P (k r) K (h.set r (absOf o))
  | .shape r k, K, h => match h.shape r with
    | some x => awp P (k x) K h
    | none => False
  | .freeze a n k, K, h => match h.freeze a n with
    | some h' => awp P k K h'
    | none => False
  | .frozen a k, K, h => match h.frozen a with
    | some b => awp P (k b) K h
    | none => False
  | .getObj r k, K, h => match h r with
    | some (.obj o) => awp P (k o) K h
    | _ => False
  | .setObj r o k, K, h => match h r with
    | some (.obj _) => isCells o = false ∧ awp P k K (h.set r (.obj o))
    | _ => False
  | .choose q k, K, h => if q.forced = true then awp P (k 0) K h else ∀ t, awp P (k (q.cut t)) K h
  | .sys _ _, _, _ => False
  | .program k, K, h => awp P (k P) K h
  | .mark _ k, K, h => awp P k K h
  | .halt _, _, _ => False
theorem awp_run (P : Program) {α : Type} (s : Sem α) : ∀ (K : α → Hp → Prop) (h : Hp) (w : World), h.sat w → awp P s K h →
    ∃ a w' h', s.run P w = .ok a w' ∧ h'.sat w' ∧ Fr h h' w w' ∧ K a h' := by
  induction s with
  | pure a => exact fun K h w s k => ⟨a, w, h, rfl, s, Fr.refl _ _, k⟩
  | load m a k ih =>
    intro K h w s q
    simp only [awp] at q
    split at q
    · rename_i v hv
      obtain ⟨x, w', h', hr, rest⟩ := ih v K h w s q
      exact ⟨x, w', h', by simp only [Sem.run, cell_sound s hv]; exact hr, rest⟩
    · exact q.elim
  | store m a v k ih =>
    intro K h w s q
    simp only [awp] at q
    obtain ⟨hf, q⟩ := q
    split at q
    · rename_i h1 hp
      obtain ⟨⟨u, hu⟩, hz, s1, f1⟩ := put_sound s hp
      obtain ⟨x, w', h', hr, s', f', kk⟩ := ih K h1 _ s1 q
      refine ⟨x, w', h', ?_, s', f1.trans f', kk⟩
      rw [← hr]
      cases v <;> first | (simp only [Sem.run, hu, hz]; rfl) | simp [flat] at hf
    · exact q.elim
  | new o k ih =>
    intro K h w s q
    obtain ⟨hn, s1, f1⟩ := new_sound s o
    obtain ⟨x, w', h', hr, s', f', kk⟩ := ih w.heap.size K _ _ s1 (q _ hn)
    exact ⟨x, w', h', hr, s', f1.trans f', kk⟩
  | shape r k ih =>
    intro K h w s q
    simp only [awp] at q
    split at q
    · rename_i x hx
      obtain ⟨y, w', h', hr, rest⟩ := ih x K h w s q
      exact ⟨y, w', h', by simp only [Sem.run, shape_sound s hx]; exact hr, rest⟩
    · exact q.elim
  | freeze a n k ih =>
    intro K h w s q
    simp only [awp] at q
    split at q
    · rename_i h1 hp
      obtain ⟨s1, f1⟩ := freeze_sound s hp
      obtain ⟨x, w', h', hr, s', f', kk⟩ := ih K h1 _ s1 q
      exact ⟨x, w', h', hr, s', f1.trans f', kk⟩
    · exact q.elim
  | frozen a k ih =>
    intro K h w s q
    simp only [awp] at q
    split at q
    · rename_i x hx
      obtain ⟨y, w', h', hr, rest⟩ := ih x K h w s q
      exact ⟨y, w', h', by simp only [Sem.run, frozen_sound s hx]; exact hr, rest⟩
    · exact q.elim
  | getObj r k ih =>
    intro K h w s q
    simp only [awp] at q
    split at q
    · rename_i o hb
      obtain ⟨y, hy, rfl, hc⟩ := s _ _ hb
      obtain ⟨z, w', h', hr, rest⟩ := ih y K h w s q
      refine ⟨z, w', h', ?_, rest⟩
      rw [← hr]
      simp only [Sem.run, hy]
      cases y <;> first | rfl | simp [isCells] at hc
    · exact q.elim
  | setObj r o k ih =>
    intro K h w s q
    simp only [awp] at q
    split at q
    · rename_i o' hb
      obtain ⟨hc', q⟩ := q
      obtain ⟨y, hy, rfl, hc⟩ := s _ _ hb
      have hlt := sat_lt s hb
      have s1 : (h.set r (.obj o)).sat { w with heap := w.heap.setIfInBounds r o } := sat_set s hlt ⟨rfl, hc'⟩
      obtain ⟨z, w', h', hr, s', f', kk⟩ := ih K _ _ s1 q
      refine ⟨z, w', h', ?_, s', (Fr.keepAll r ⟨_, hb, rfl⟩ _ rfl _).trans f', kk⟩
      rw [← hr]
      simp only [Sem.run, hy]
      cases y <;> first | rfl | simp [isCells] at hc
    · exact q.elim
  | choose q k ih =>
    intro K h w s r
    simp only [awp] at r
    split at r
    · rename_i hq
      obtain ⟨z, w', h', hr, rest⟩ := ih 0 K h w s r
      exact ⟨z, w', h', by simp only [Sem.run, hq, if_true]; exact hr, rest⟩
    · rename_i hq
      obtain ⟨z, w', h', hr, s', f', kk⟩ := ih (q.cut (w.tape w.drawn q)) K h { w with drawn := w.drawn + 1 } s (r _)
      exact ⟨z, w', h', by simp only [Sem.run, hq]; exact hr, s', (Fr.drew _).trans f', kk⟩
  | sys c k ih => exact fun K h w s q => q.elim
  | program k ih =>
    intro K h w s q
    exact ih P K h w s q
  | mark m k ih =>
    intro K h w s q
    exact ih K h w s q
  | halt x => exact fun K h w s q => q.elim
theorem awp_mono (P : Program) {α : Type} (s : Sem α) : ∀ (K K' : α → Hp → Prop) (h : Hp), (∀ a h, K a h → K' a h) → awp P s K h → awp P s K' h := by
  induction s with
  | pure a => exact fun K K' h m q => m _ _ q
  | load m a k ih => intro K K' h m q; simp only [awp] at q ⊢; split at q <;> first | exact ih _ _ _ _ m q | exact q.elim
  | store m a v k ih => intro K K' h m q; simp only [awp] at q ⊢; refine ⟨q.1, ?_⟩; have q := q.2; split at q <;> first | exact ih _ _ _ m q | exact q.elim
  | new o k ih => exact fun K K' h m q r hr => ih r K K' _ m (q r hr)
  | shape r k ih => intro K K' h m q; simp only [awp] at q ⊢; split at q <;> first | exact ih _ _ _ _ m q | exact q.elim
  | freeze a n k ih => intro K K' h m q; simp only [awp] at q ⊢; split at q <;> first | exact ih _ _ _ m q | exact q.elim
  | frozen a k ih => intro K K' h m q; simp only [awp] at q ⊢; split at q <;> first | exact ih _ _ _ _ m q | exact q.elim
  | getObj r k ih => intro K K' h m q; simp only [awp] at q ⊢; split at q <;> first | exact ih _ _ _ _ m q | exact q.elim
  | setObj r o k ih => intro K K' h m q; simp only [awp] at q ⊢; split at q <;> first | exact ⟨q.1, ih _ _ _ m q.2⟩ | exact q.elim
  | choose q k ih => intro K K' h m r; simp only [awp] at r ⊢; split <;> rename_i hq <;> simp only [hq, if_true, if_false, Bool.false_eq_true] at r <;> first | exact ih _ _ _ _ m r | exact fun t => ih _ _ _ _ m (r t)
  | sys c k ih => exact fun K K' h m q => q.elim
  | program k ih => exact fun K K' h m q => ih P K K' h m q
  | mark x k ih => exact fun K K' h m q => ih K K' h m q
  | halt x => exact fun K K' h m q => q.elim
theorem awp_bind (P : Program) {α β : Type} (s : Sem α) (f : α → Sem β) : ∀ (K : β → Hp → Prop) (h : Hp),
    awp P (s.bind f) K h = awp P s (fun a h => awp P (f a) K h) h := by
  induction s with
  | pure a => intro K h; rfl
  | load m a k ih => intro K h; simp only [Sem.bind, awp]; split <;> first | exact ih _ _ _ | rfl
  | store m a v k ih => intro K h; simp only [Sem.bind, awp]; congr 1; split <;> first | exact ih _ _ | rfl
  | new o k ih => intro K h; simp only [Sem.bind, awp, ih]
  | shape r k ih => intro K h; simp only [Sem.bind, awp]; split <;> first | exact ih _ _ _ | rfl
  | freeze a n k ih => intro K h; simp only [Sem.bind, awp]; split <;> first | exact ih _ _ | rfl
  | frozen a k ih => intro K h; simp only [Sem.bind, awp]; split <;> first | exact ih _ _ _ | rfl
  | getObj r k ih => intro K h; simp only [Sem.bind, awp]; split <;> first | exact ih _ _ _ | rfl
  | setObj r o k ih => intro K h; simp only [Sem.bind, awp]; split <;> first | (congr 1; exact ih _ _) | rfl
  | choose q k ih => intro K h; simp only [Sem.bind, awp, ih]
  | sys c k ih => intro K h; rfl
  | program k ih => intro K h; exact ih _ _ _
  | mark m k ih => intro K h; exact ih _ _
  | halt x => intro K h; rfl
/-- What a tree that only reads tells. -/
def peek (P : Program) (h : Hp) {α : Type} : Sem α → Option α
  | .pure a => some a
  | .load _ a k => match h.cell a with
    | some v => peek P h (k v)
    | none => none
  | .shape r k => match h.shape r with
    | some x => peek P h (k x)
    | none => none
  | .frozen a k => match h.frozen a with
    | some b => peek P h (k b)
    | none => none
  | .getObj r k => match h r with
    | some (.obj o) => peek P h (k o)
    | _ => none
  | .program k => peek P h (k P)
  | .mark _ k => peek P h k
  | _ => none
theorem peek_run (P : Program) {h : Hp} {α : Type} (s : Sem α) : ∀ (w : World) (a : α), h.sat w → peek P h s = some a → s.run P w = .ok a w := by
  induction s with
  | pure a => intro w x s q; cases q; rfl
  | load m a k ih =>
    intro w x s q; simp only [peek] at q; split at q
    · rename_i v hv; simp only [Sem.run, cell_sound s hv]; exact ih _ _ _ s q
    · cases q
  | shape r k ih =>
    intro w x s q; simp only [peek] at q; split at q
    · rename_i v hv; simp only [Sem.run, shape_sound s hv]; exact ih _ _ _ s q
    · cases q
  | frozen a k ih =>
    intro w x s q; simp only [peek] at q; split at q
    · rename_i v hv; simp only [Sem.run, frozen_sound s hv]; exact ih _ _ _ s q
    · cases q
  | getObj r k ih =>
    intro w x s q; simp only [peek] at q; split at q
    · rename_i o hb
      obtain ⟨y, hy, rfl, hc⟩ := s _ _ hb
      have := ih y _ _ s q
      rw [← this]
      simp only [Sem.run, hy]
      cases y <;> first | rfl | simp [isCells] at hc
    · cases q
  | program k ih => exact fun w x s q => ih P _ _ s q
  | mark m k ih => exact fun w x s q => ih _ _ s q
  | store m a v k ih => intro w x s q; cases q
  | new o k ih => intro w x s q; cases q
  | freeze a n k ih => intro w x s q; cases q
  | setObj r o k ih => intro w x s q; cases q
  | choose q k ih => intro w x s q; cases q
  | sys c k ih => intro w x s q; cases q
  | halt x => intro w x s q; cases q
theorem peek_bind (P : Program) (h : Hp) {α β : Type} (s : Sem α) (f : α → Sem β) : peek P h (s.bind f) = (peek P h s).bind fun a => peek P h (f a) := by
  induction s with
  | pure a => rfl
  | load m a k ih => simp only [Sem.bind, peek]; split <;> first | exact ih _ | rfl
  | shape r k ih => simp only [Sem.bind, peek]; split <;> first | exact ih _ | rfl
  | frozen a k ih => simp only [Sem.bind, peek]; split <;> first | exact ih _ | rfl
  | getObj r k ih => simp only [Sem.bind, peek]; split <;> first | exact ih _ | rfl
  | program k ih => exact ih _
  | mark m k ih => exact ih
  | _ => rfl
theorem peek_awp (P : Program) {h : Hp} {α : Type} (s : Sem α) : ∀ (a : α) (K : α → Hp → Prop), peek P h s = some a → awp P s K h = K a h := by
  induction s with
  | pure a => intro x K q; cases q; rfl
  | load m a k ih => intro x K q; simp only [peek] at q; simp only [awp]; split at q <;> first | exact ih _ _ _ q | cases q
  | shape r k ih => intro x K q; simp only [peek] at q; simp only [awp]; split at q <;> first | exact ih _ _ _ q | cases q
  | frozen a k ih => intro x K q; simp only [peek] at q; simp only [awp]; split at q <;> first | exact ih _ _ _ q | cases q
  | getObj r k ih => intro x K q; simp only [peek] at q; simp only [awp]; split at q <;> first | exact ih _ _ _ q | cases q
  | program k ih => exact fun x K q => ih _ _ _ q
  | mark m k ih => exact fun x K q => ih _ _ q
  | store m a v k ih => intro x K q; cases q
  | new o k ih => intro x K q; cases q
  | freeze a n k ih => intro x K q; cases q
  | setObj r o k ih => intro x K q; cases q
  | choose q k ih => intro x K q; cases q
  | sys c k ih => intro x K q; cases q
  | halt y => intro x K q; cases q
def Callable (P : Program) (f : FuncId) : Prop := ∃ fn, P.funcs[f]? = some fn ∧ fn.body.isNone = false ∧ (fn.name == "runtime.NumGoroutine") = false
/-- A call comes back, and what is then known. -/
def Cn (P : Program) (f : FuncId) (args : Array Value) (h : Hp) (K : Value → Hp → Prop) : Prop :=
  Callable P f ∧ ∀ w, h.sat w → Calls P f args w fun e w' => ∃ v h', e = .returned v ∧ h'.sat w' ∧ Fr h h' w w' ∧ K v h'
theorem Cn.mono {P : Program} {f : FuncId} {args : Array Value} {h : Hp} {K K' : Value → Hp → Prop} (q : Cn P f args h K) (m : ∀ v h, K v h → K' v h) : Cn P f args h K' :=
  ⟨q.1, fun w s => (q.2 w s).mono fun _ _ ⟨v, h', e, s', f', k⟩ => ⟨v, h', e, s', f', m _ _ k⟩⟩
theorem Cn.weaken {P : Program} {f : FuncId} {args : Array Value} {h h' : Hp} {K : Value → Hp → Prop} (l : Hp.le h h') (q : Cn P f args h K) : Cn P f args h' K :=
  ⟨q.1, fun w s => (q.2 w (l.sat s)).mono fun _ _ ⟨v, h1, e, s', f', k⟩ => ⟨v, h1, e, s', ⟨f'.os, f'.tape, f'.output, f'.size, fun b hb hn => f'.keep b hb fun o => hn (l.own o), fun b hb => (f'.dom b hb).imp l.own id⟩, k⟩⟩
theorem awp_call {P : Program} {f : FuncId} (c : Callable P f) (args : Array Value) (K : Next → Hp → Prop) (h : Hp) : awp P (callFunc f args) K h = K (.enter f args) h := by
  obtain ⟨fn, hf, hb, hn⟩ := c
  show awp P (match P.funcs[f]? with
    | none => _
    | some fn => _) K h = _
  rw [hf]
  dsimp only
  rw [if_neg (by simp [hn]), if_neg (by simp [hb])]
  rfl
/-- A round of a range over a function comes back, and what is then known. -/
def Rd (P : Program) (l : Nat) (f : FuncId) (tmps : Array Value) (assign body : Code) (h : Hp) (K : Value → Hp → Prop) : Prop :=
  ∀ w, h.sat w → RoundIn Fence.wide 0 P l f tmps assign body w fun e w' => ∃ v h', e = .returned v ∧ h'.sat w' ∧ Fr h h' w w' ∧ K v h'
theorem Rd.mono {P : Program} {l : Nat} {f : FuncId} {tmps : Array Value} {assign body : Code} {h : Hp} {K K' : Value → Hp → Prop} (q : Rd P l f tmps assign body h K) (m : ∀ v h, K v h → K' v h) : Rd P l f tmps assign body h K' :=
  fun w s => (q w s).mono fun _ _ ⟨v, h', e, s', f', k⟩ => ⟨v, h', e, s', f', m _ _ k⟩
def nextP (P : Program) (K : Value → Hp → Prop) (n : Next) (h : Hp) : Prop :=
  match n with
  | .value v => K v h
  | .skip => K undef h
  | .enter f args => Cn P f args h K
  | .round l f tmps assign body => Rd P l f tmps assign body h K
  | _ => False
/-- What stands in a place: a value, or nothing, the operation having been passed over. -/
inductive EV where
  | val (v : Value)
  | skipped
def EV.get : EV → Value
  | .val v => v
  | .skipped => undef
abbrev Env := List (Nat × EV)
def ev (env : Env) : Operand → Value
  | .tmp t => match env.lookup t with
    | some x => x.get
    | none => undef
  | .const v => v
  | .global g => .pointer (some ⟨g, 0, none⟩)
  | .func f => .func (.func f) #[] #[]
def Env.pute (env : Env) (d : Option Nat) (x : EV) : Env :=
  match d with
  | some d => (d, x) :: env
  | none => env
def Env.put (env : Env) (d : Option Nat) (v : Value) : Env := env.pute d (.val v)
def Env.skip (env : Env) (d : Option Nat) : Env := env.pute d .skipped
def Env.has (env : Env) : Operand → Bool
  | .tmp t => (env.lookup t).isSome
  | _ => true
def noSel : Op → Bool
  | .select .. => false
  | _ => true
def fits (N : Nat) (env : Env) (o : Oper) : Bool :=
  o.op.operands.all env.has && (match o.dst with | some d => decide (d < N) | none => true) && noSel o.op
def Env.ok (env : Env) (N : Nat) (ds : List Deferred) (a : Act) : Prop := a.tmps.size = N ∧ a.defers = ds ∧ ∀ t x, env.lookup t = some x → a.tmps[t]? = some x.get
theorem Env.ok.eval {env : Env} {N : Nat} {ds : List Deferred} {a : Act} (k : env.ok N ds a) {x : Operand} (hx : env.has x = true) : a.eval x = ev env x := by
  cases x with
  | tmp t =>
    simp only [Env.has, Option.isSome_iff_exists] at hx
    obtain ⟨v, hv⟩ := hx
    have := k.2.2 t v hv
    simp [Act.eval, ev, hv, this]
  | _ => rfl
theorem Env.ok.exec {env : Env} {N : Nat} {ds : List Deferred} {a : Act} (k : env.ok N ds a) {o : Oper} (hf : fits N env o = true) : execOp a.eval o = execOp (ev env) o := by
  simp only [fits, Bool.and_eq_true] at hf
  refine execOp_congr o (fun cs b e => ?_) fun x hx => k.eval (by have := Array.all_eq_true_iff_forall_mem.1 hf.1.1 x hx; exact this)
  have := hf.2
  rw [e] at this
  cases this
theorem Env.ok.pute {env : Env} {N : Nat} {ds : List Deferred} {a : Act} (k : env.ok N ds a) {d : Option Nat} (hd : ∀ x, d = some x → x < N) (v : EV) : (env.pute d v).ok N ds (a.put d v.get) := by
  cases d with
  | none => exact k
  | some d =>
    have hlt := hd d rfl
    refine ⟨by simp [Act.put, k.1], k.2.1, fun t u ht => ?_⟩
    simp only [Env.pute, List.lookup_cons] at ht
    simp only [Act.put]
    by_cases e : t = d
    · subst e
      simp at ht
      simp [k.1, hlt, ht]
    · have : (t == d) = false := by simp [e]
      rw [this] at ht
      simp [Array.getElem?_setIfInBounds_ne (Ne.symm e), k.2.2 t u ht]
theorem Env.ok.put {env : Env} {N : Nat} {ds : List Deferred} {a : Act} (k : env.ok N ds a) {d : Option Nat} (hd : ∀ x, d = some x → x < N) (v : Value) : (env.put d v).ok N ds (a.put d v) := k.pute hd (.val v)
theorem Env.ok.skip {env : Env} {N : Nat} {ds : List Deferred} {a : Act} (k : env.ok N ds a) {d : Option Nat} (hd : ∀ x, d = some x → x < N) : (env.skip d).ok N ds (a.put d undef) := k.pute hd .skipped
theorem fits_dst {N : Nat} {env : Env} {o : Oper} (hf : fits N env o = true) : ∀ x, o.dst = some x → x < N := by
  intro x hx
  simp only [fits, Bool.and_eq_true, hx, decide_eq_true_eq] at hf
  exact hf.1.2
/-- A test of a value. -/
def cnd (v : Value) (X Y : Prop) : Prop :=
  match v with
  | .bool b => if b = true then X else Y
  | _ => False
def gd (v : Value) (want : Bool) (X Y : Prop) : Prop :=
  match v with
  | .bool b => if b = want then X else Y
  | _ => False
/-- Is the operation run? X: it is; Y: it is passed over. -/
def guardP (ops : Array Oper) (env : Env) (o : Oper) (X Y : Env → Prop) : Prop :=
  match o.guard with
  | none => X env
  | some (j, want) => match (ops[j]?).bind (·.dst) with
    | none => Y env
    | some t => match env.lookup t with
      | some (.val v) => gd v want (X ((t, .val (.bool want)) :: env)) (Y ((t, .val (.bool !want)) :: env))
      | some .skipped => Y env
      | none => False
theorem Env.ok.learn {env : Env} {N : Nat} {ds : List Deferred} {a : Act} (k : env.ok N ds a) {t : Nat} {v : Value} (h : a.tmps[t]? = some v) : Env.ok ((t, .val v) :: env) N ds a := by
  refine ⟨k.1, k.2.1, fun u x hx => ?_⟩
  rw [List.lookup_cons] at hx
  by_cases e : u = t
  · subst e
    simp at hx
    subst hx
    exact h
  · have : (u == t) = false := by simp [e]
    rw [this] at hx
    exact k.2.2 u x hx
theorem guardP_sound {ops : Array Oper} {env : Env} {N : Nat} {ds : List Deferred} {a : Act} (k : env.ok N ds a) {o : Oper} {X Y : Env → Prop} (g : guardP ops env o X Y) :
    ∃ env', Env.ok env' N ds a ∧ ((Region.wanted o (yielded ops a.tmps) = true ∧ X env') ∨ (Region.wanted o (yielded ops a.tmps) = false ∧ Y env')) := by
  unfold guardP at g
  unfold Region.wanted
  cases hg : o.guard with
  | none => rw [hg] at g; exact ⟨env, k, .inl ⟨rfl, g⟩⟩
  | some p =>
    obtain ⟨j, want⟩ := p
    simp only [hg] at g
    simp only [yielded]
    cases hd : (ops[j]?).bind (·.dst) with
    | none => simp only [hd] at g; exact ⟨env, k, .inr ⟨by simp, g⟩⟩
    | some t =>
      simp only [hd] at g
      cases hl : env.lookup t with
      | none => rw [hl] at g; exact g.elim
      | some x =>
        have ht := k.2.2 t x hl
        rw [hl] at g
        simp only [Option.bind_some, ht]
        cases x with
        | skipped => exact ⟨env, k, .inr ⟨by simp [EV.get, undef], g⟩⟩
        | val v =>
          simp only [EV.get] at ht ⊢
          cases v <;> first | exact g.elim | skip
          case bool b =>
            simp only [gd] at g
            split at g
            · rename_i e
              subst e
              exact ⟨_, k.learn ht, .inl ⟨by simp, g⟩⟩
            · rename_i e
              have hb : b = !want := by cases b <;> cases want <;> simp_all
              subst hb
              exact ⟨_, k.learn ht, .inr ⟨by simp, g⟩⟩
/-- An operation that only reads, by its kind. -/
def quiet (P : Program) : Op → Bool
  | .move _ | .assign _ | .pick .. | .load .. | .nilCheck _ | .binOp .. | .unOp .. | .makeInterface .. | .makeFunc .. | .extract .. | .field .. | .fieldAddr ..
  | .index .. | .indexAddr .. | .slice .. | .lookup .. | .typeAssert .. | .build .. => true
  | .convert _ dst _ => match P.underlying dst with
    | some (.slice _) => false
    | _ => true
  | .call { callee := .builtin b, .. } => match b with
    | .len | .cap | .min | .max => true
    | _ => false
  | _ => false
def nilCk : Value → Sem Value
  | .pointer (some a) => .pure (.pointer (some a))
  | .iface t v => .pure (.iface t v)
  | .func (.func f) x y => .pure (.func (.func f) x y)
  | .func (.method name) x y => match (x[0]? : Option Value) with
    | some (.iface t w) => .program fun p => (nilAhead (p.types.size + Made.depth) t w name).bind fun r => if (r != some false) = true then .halt (.stuck "") else .pure (.func (.method name) x y)
    | _ => .halt (.stuck "")
  | _ => .halt (.stuck "")
def eqop (op : BinOp) (t : TypeId) (x y : Operand) (a b : Value) : Sem Value := (eqGuard op t x y a b).bind fun _ => binOp op t a b
/-- What an operation is: a value's tree, a writing, a call. -/
inductive Kd where
  | now (v : Value)
  | pick (c a b : Value)
  | val (s : Sem Value)
  | unit (s : Sem Unit)
  | dyn (f : Value) (args : List Value)
  | raw (s : Sem Next)
  | bad
def kindOf (r : Operand → Value) (o : Oper) : Kd :=
  match o.op with
  | .move x | .assign x => .now (r x)
  | .pick c a b => .pick (r c) (r a) (r b)
  | .alloc e => .val (Instr.alloc e true (.tuple #[]))
  | .box e x => .val (Instr.box e (r x))
  | .build t ps => .val (Instr.build t (ps.toList.map fun p => (p.1, r p.2)).toArray)
  | .buildSlice t n ps => .val (Instr.buildSlice t n (ps.toList.map fun p => (p.1, r p.2)).toArray)
  | .load t a => .val (Instr.loadAt t (r a))
  | .store t a x => .unit (Instr.storeAt t (r a) (r x))
  | .nilCheck x => .val (nilCk (r x))
  | .binOp op t x y _ => .val (match op with
    | .eql | .neq => eqop op t x y (r x) (r y)
    | op => binOp op t (r x) (r y))
  | .unOp op _ x => .val (Op.unary op (r x))
  | .convert src dst x => .val (convert src dst (r x))
  | .sliceToArrayPointer arr x => .val (Instr.arrayAt arr (r x))
  | .makeInterface t x => .val (Instr.makeInterface t (r x))
  | .makeFunc fn a b => .now (.func fn (a.toList.map r).toArray (b.toList.map r).toArray)
  | .makeMap t x => .val (Instr.makeMap t (x.map r))
  | .makeSlice t l c => .val (Instr.makeSlice t (r l) (r c))
  | .slice t x lo hi mx => .val (Instr.sliceAt t (r x) (lo.map r) (hi.map r) (mx.map r))
  | .fieldAddr s x f => .val (Instr.fieldAt s (r x) f)
  | .field t x f => .val (Instr.field t (r x) f)
  | .indexAddr t x i => .val (Instr.indexAt t (r x) (r i))
  | .index t x i => .val (Instr.index t (r x) (r i))
  | .lookup t x i ok => .val (Instr.lookup t (r x) (r i) ok)
  | .mapUpdate t m k x | .insert t m k x => .unit (Instr.mapUpdate t (r m) (r k) (r x))
  | .mapEntry t m k => .val (Instr.mapEntry t (r m) (r k))
  | .entryStore t m s x => .unit (Instr.entryStore t (r m) (r s) (r x))
  | .range t x => .val (Instr.range t (r x))
  | .next it s => .val (Instr.next (r it) s o.type)
  | .entry it => .val (Instr.entry (r it))
  | .typeAssert x t u ok => .val (Instr.typeAssert (r x) t u ok)
  | .extract t i => .val (Instr.extract (r t) i)
  | .call c => match c.callee with
    | .builtin b => match b with
      | .append => .val (Builtin.append_ c.argTypes o.type (c.args.toList.map r).toArray)
      | .cap => .val (Builtin.cap_ c.argTypes o.type (c.args.toList.map r).toArray)
      | .clear => .val (Builtin.clear_ c.argTypes o.type (c.args.toList.map r).toArray)
      | .copy => .val (Builtin.copy_ c.argTypes o.type (c.args.toList.map r).toArray)
      | .delete => .val (Builtin.delete_ c.argTypes o.type (c.args.toList.map r).toArray)
      | .len => .val (Builtin.len_ c.argTypes o.type (c.args.toList.map r).toArray)
      | .max => .val (Builtin.max_ c.argTypes o.type (c.args.toList.map r).toArray)
      | .min => .val (Builtin.min_ c.argTypes o.type (c.args.toList.map r).toArray)
      | .unsafeSliceData => .val (Builtin.unsafeSliceData_ c.argTypes o.type (c.args.toList.map r).toArray)
      | .unsafeString => .val (Builtin.unsafeString_ c.argTypes o.type (c.args.toList.map r).toArray)
      | _ => .bad
    | .value f => .dyn (r f) (c.args.toList.map r)
    | .invoke x name => .raw (callMethod (r x) name (c.args.toList.map r).toArray)
  | _ => .bad
theorem arr_map {α β : Type} (x : Array α) (f : α → β) : (x.toList.map f).toArray = x.map f := by
  apply Array.ext'; rw [Array.toList_map]
def withVal (x : Option Value) (K : Value → Prop) : Prop :=
  match x with
  | some v => K v
  | none => False
@[simp] theorem withVal_some (v : Value) (K : Value → Prop) : withVal (some v) K = K v := rfl
theorem withVal_of {x : Option Value} {v : Value} {K : Value → Prop} (e : x = some v) (k : K v) : withVal x K := by subst e; exact k
theorem withVal_elim {x : Option Value} {K : Value → Prop} (q : withVal x K) : ∃ v, x = some v ∧ K v := by
  cases x with
  | none => exact q.elim
  | some v => exact ⟨v, rfl, q⟩
def toNext (s : Sem Value) : Sem Next := s.bind fun v => .pure (.value v)
theorem toNext_awp {P : Program} {s : Sem Value} {K : Next → Hp → Prop} {h : Hp} (q : awp P s (fun v h => K (.value v) h) h) : awp P (toNext s) K h := by
  unfold toNext; rw [awp_bind]; exact q
theorem toNext_peek {P : Program} {s : Sem Value} {h : Hp} {v : Value} (q : peek P h s = some v) : peek P h (toNext s) = some (.value v) := by
  unfold toNext; rw [peek_bind, q]; rfl
/-- The tree of an operation that tells a value. -/
theorem kind_val {r : Operand → Value} {o : Oper} {s : Sem Value} (e : kindOf r o = .val s) :
    (∀ (P : Program) (K : Next → Hp → Prop) (h : Hp), awp P s (fun v h => K (.value v) h) h → awp P (execOp r o) K h) ∧
    (∀ (P : Program) (h : Hp) (v : Value), peek P h s = some v → peek P h (execOp r o) = some (.value v)) := by
  have key : execOp r o = toNext s → (∀ (P : Program) (K : Next → Hp → Prop) (h : Hp), awp P s (fun v h => K (.value v) h) h → awp P (execOp r o) K h) ∧
    (∀ (P : Program) (h : Hp) (v : Value), peek P h s = some v → peek P h (execOp r o) = some (.value v)) := fun e => by
    rw [e]
    exact ⟨fun P K h q => toNext_awp q, fun P h v q => toNext_peek q⟩
  obtain ⟨dst, op, type, pos, after, guard⟩ := o
  cases op <;> simp only [kindOf] at e <;> first | cases e | skip
  case nilCheck x =>
    simp only [execOp]
    generalize r x = y
    cases y <;> first | exact ⟨fun P K h q => q.elim, fun P h v q => by cases q⟩ | skip
    case pointer a => cases a <;> first | exact ⟨fun P K h q => q.elim, fun P h v q => by cases q⟩ | exact ⟨fun P K h q => q, fun P h v q => by cases q; rfl⟩
    case iface t v => exact ⟨fun P K h q => q, fun P h v q => by cases q; rfl⟩
    case func fn x y =>
      cases fn <;> first | exact ⟨fun P K h q => q.elim, fun P h v q => by cases q⟩ | exact ⟨fun P K h q => q, fun P h v q => by cases q; rfl⟩ | skip
      case method name =>
        simp only [nilCk]
        split
        · rename_i t w hx
          refine ⟨fun P K h q => ?_, fun P h v q => ?_⟩
          · have q : awp P ((nilAhead (P.types.size + Made.depth) t w name).bind fun r => if (r != some false) = true then .halt (.stuck "") else .pure (.func (.method name) x y)) (fun v h => K (.value v) h) h := q
            rw [hx]
            show awp P ((nilAhead (P.types.size + Made.depth) t w name).bind _) K h
            rw [awp_bind] at q ⊢
            refine awp_mono P _ _ _ h (fun r h1 z => ?_) q
            by_cases hr : (r != some false) = true
            · rw [if_pos hr] at z; exact z.elim
            · rw [if_neg hr] at z
              rw [if_neg hr]
              exact z
          · have q : peek P h ((nilAhead (P.types.size + Made.depth) t w name).bind fun r => if (r != some false) = true then .halt (.stuck "") else .pure (.func (.method name) x y)) = some v := q
            rw [hx]
            show peek P h ((nilAhead (P.types.size + Made.depth) t w name).bind _) = _
            rw [peek_bind] at q ⊢
            cases hr : peek P h (nilAhead (P.types.size + Made.depth) t w name) with
            | none => rw [hr] at q; cases q
            | some r =>
              rw [hr] at q
              simp only [Option.bind_some] at q ⊢
              by_cases hr : (r != some false) = true
              · rw [if_pos hr] at q; cases q
              · rw [if_neg hr] at q
                cases q
                rw [if_neg hr]
                rfl
        · exact ⟨fun P K h q => q.elim, fun P h v q => by cases q⟩
  case call c =>
    obtain ⟨callee, args, at_⟩ := c
    cases callee with
    | builtin b => cases b <;> simp only at e <;> cases e <;> refine key ?_ <;> simp only [execOp, resolve, arr_map] <;> rfl
    | value f => cases e
    | invoke x n => cases e
  case binOp op t x y u => cases op <;> exact key rfl
  all_goals refine key ?_; simp only [execOp, arr_map]; rfl
theorem kind_unit {r : Operand → Value} {o : Oper} {s : Sem Unit} (e : kindOf r o = .unit s) : execOp r o = s.bind fun _ => .pure .skip := by
  obtain ⟨dst, op, type, pos, after, guard⟩ := o
  cases op <;> simp only [kindOf] at e <;> first | cases e | skip
  case call c =>
    obtain ⟨callee, args, at_⟩ := c
    cases callee with
    | builtin b => cases b <;> cases e
    | value f => cases e
    | invoke x n => cases e
  all_goals rfl
theorem kind_now {r : Operand → Value} {o : Oper} {v : Value} (e : kindOf r o = .now v) : execOp r o = .pure (.value v) := by
  obtain ⟨dst, op, type, pos, after, guard⟩ := o
  cases op <;> simp only [kindOf] at e <;> first | cases e | skip
  case call c =>
    obtain ⟨callee, args, at_⟩ := c
    cases callee with
    | builtin b => cases b <;> cases e
    | value f => cases e
    | invoke x n => cases e
  case makeFunc fn a b => simp only [execOp, arr_map]; rfl
  all_goals rfl
theorem kind_pick {r : Operand → Value} {o : Oper} {c a b : Value} (e : kindOf r o = .pick c a b) {t : Bool} (hc : c = .bool t) : execOp r o = .pure (.value (cond t a b)) := by
  obtain ⟨dst, op, type, pos, after, guard⟩ := o
  cases op <;> simp only [kindOf] at e <;> first | cases e | skip
  case call c =>
    obtain ⟨callee, args, at_⟩ := c
    cases callee with
    | builtin b => cases b <;> cases e
    | value f => cases e
    | invoke x n => cases e
  case pick c' a' b' =>
    simp only [execOp, hc]
    cases t <;> rfl
theorem kind_raw {r : Operand → Value} {o : Oper} {s : Sem Next} (e : kindOf r o = .raw s) : execOp r o = s := by
  obtain ⟨dst, op, type, pos, after, guard⟩ := o
  cases op <;> simp only [kindOf] at e <;> first | cases e | skip
  case call c =>
    obtain ⟨callee, args, at_⟩ := c
    cases callee with
    | builtin b => cases b <;> cases e
    | value f => cases e
    | invoke x n =>
      cases e
      simp only [execOp, resolve, arr_map]
      show Go.invoke (.fn (.method n) #[]) (#[r x] ++ Array.map r args) = _
      have h0 : (#[r x] ++ Array.map r args)[0]? = some (r x) := by
        rw [Array.getElem?_append_left (by simp)]
        rfl
      have h1 : (#[r x] ++ Array.map r args).extract 1 (#[r x] ++ Array.map r args).size = Array.map r args := by
        apply Array.ext'
        simp [List.take_of_length_le]
      unfold Go.invoke
      rw [h0]
      dsimp only
      rw [h1]
theorem kind_dyn {r : Operand → Value} {o : Oper} {v : Value} {args : List Value} (e : kindOf r o = .dyn v args) {g : FuncId} {x y : Array Value} (hv : v = .func (.func g) x y) :
    execOp r o = callFunc g (x.toList ++ args ++ y.toList).toArray := by
  obtain ⟨dst, op, type, pos, after, guard⟩ := o
  cases op <;> simp only [kindOf] at e <;> first | cases e | skip
  case call c =>
    obtain ⟨callee, asn, at_⟩ := c
    cases callee with
    | builtin b => cases b <;> cases e
    | value f =>
      simp only [Kd.dyn.injEq] at e
      obtain ⟨e1, rfl⟩ := e
      have : (x.toList ++ asn.toList.map r ++ y.toList).toArray = (x ++ asn.map r) ++ y := by
        apply Array.ext'
        simp
      rw [this]
      simp only [execOp, resolve, e1, hv, Deferred.ofValue]
      rfl
    | invoke x n => cases e
theorem kind_dynY {r : Operand → Value} {o : Oper} {v : Value} {args : List Value} (e : kindOf r o = .dyn v args) {l : Nat} {x y : Array Value} (hv : v = .func (.yield l) x y) :
    execOp r o = Instr.yield l (x.toList ++ args).toArray := by
  obtain ⟨dst, op, type, pos, after, guard⟩ := o
  cases op <;> simp only [kindOf] at e <;> first | cases e | skip
  case call c =>
    obtain ⟨callee, asn, at_⟩ := c
    cases callee with
    | builtin b => cases b <;> cases e
    | value f =>
      simp only [Kd.dyn.injEq] at e
      obtain ⟨e1, rfl⟩ := e
      have : (x.toList ++ asn.toList.map r).toArray = x ++ asn.map r := by
        apply Array.ext'
        simp
      rw [this]
      simp only [execOp, resolve, e1, hv, Deferred.ofValue]
      rfl
    | invoke x n => cases e
theorem kind_nodefer {r : Operand → Value} {o : Oper} (e : kindOf r o ≠ .bad) : ∀ c, o.op ≠ .defer c := by
  intro c h
  obtain ⟨dst, op, type, pos, after, guard⟩ := o
  subst h
  exact e rfl
def q (P : Program) (h : Hp) (s : Sem Value) (K : Value → Prop) : Prop := withVal (peek P h s) K
theorem q_of {P : Program} {h : Hp} {s : Sem Value} {v : Value} (e : peek P h s = some v) (K : Value → Prop) : q P h s K = K v := by unfold q; rw [e]; rfl
/-- Is a function one that the model tells by itself? -/
def extB (P : Program) (g : FuncId) : Bool := match P.funcs[g]? with
  | some fn => fn.body.isNone
  | none => false
/-- A call of one that the model tells by itself. -/
def nextV (K : Value → Hp → Prop) (n : Next) (h : Hp) : Prop := match n with
  | .value v => K v h
  | _ => False
def exP (P : Program) (g : FuncId) (args : Array Value) (h : Hp) (K : Value → Hp → Prop) : Prop := awp P (callFunc g args) (nextV K) h
theorem exP_of {P : Program} {g : FuncId} {args : Array Value} {h : Hp} {K : Value → Hp → Prop} {v : Value} (e : peek P h (callFunc g args) = some (.value v)) : exP P g args h K = K v h := by unfold exP; rw [peek_awp P _ _ _ e]; rfl
theorem exP_mono {P : Program} {g : FuncId} {args : Array Value} {h : Hp} {K K' : Value → Hp → Prop} (m : ∀ v h, K v h → K' v h) (q : exP P g args h K) : exP P g args h K' :=
  awp_mono P _ _ _ h (fun n _ k => by cases n <;> first | exact m _ _ k | exact k.elim) q
theorem exP_next {P : Program} {g : FuncId} {args : Array Value} {h : Hp} {K : Value → Hp → Prop} {N : Next → Hp → Prop} (m : ∀ v h, K v h → N (.value v) h) (q : exP P g args h K) : awp P (callFunc g args) N h :=
  awp_mono P _ _ _ h (fun n _ k => by cases n <;> first | exact m _ _ k | exact k.elim) q
/-- A call of a function's value. -/
def callP (P : Program) (v : Value) (args : List Value) (h : Hp) (K : Value → Hp → Prop) : Prop :=
  match v with
  | .func (.func g) x y => if extB P g = true then exP P g (x.toList ++ args ++ y.toList).toArray h K else Cn P g (x.toList ++ args ++ y.toList).toArray h K
  | .func (.yield l) x _ => awp P (Instr.yield l (x.toList ++ args).toArray) (nextP P K) h
  | _ => False
theorem nextP_mono {P : Program} {K K' : Value → Hp → Prop} (m : ∀ v h, K v h → K' v h) {n : Next} {h : Hp} (q : nextP P K n h) : nextP P K' n h := by
  cases n <;> simp only [nextP] at q ⊢ <;> first | exact m _ _ q | exact q.mono m
theorem callP_mono {P : Program} {v : Value} {args : List Value} {h : Hp} {K K' : Value → Hp → Prop} (m : ∀ v h, K v h → K' v h) (q : callP P v args h K) : callP P v args h K' := by
  unfold callP at *
  split at q
  · split at q
    · rename_i hx
      rw [if_pos hx]
      exact exP_mono m q
    · rename_i hx
      rw [if_neg hx]
      exact q.mono m
  · exact awp_mono P _ _ _ h (fun _ _ k => nextP_mono m k) q
  · exact q.elim
theorem callP_exec {P : Program} {r : Operand → Value} {o : Oper} {v : Value} {args : List Value} {h : Hp} {K : Value → Hp → Prop} (e : kindOf r o = .dyn v args) (q : callP P v args h K) : awp P (execOp r o) (nextP P K) h := by
  unfold callP at q
  split at q
  · split at q
    · rw [kind_dyn e rfl]
      exact exP_next (fun _ _ k => k) q
    · rw [kind_dyn e rfl, awp_call q.1]
      exact q
  · rw [kind_dynY e rfl]
    exact q
  · exact q.elim
def pickP (c a b : Value) (K : Value → Prop) : Prop :=
  match c with
  | .bool t => K (cond t a b)
  | _ => False
theorem pickP_elim {c a b : Value} {K : Value → Prop} (q : pickP c a b K) : ∃ t, c = .bool t ∧ K (cond t a b) := by
  unfold pickP at q
  split at q
  · exact ⟨_, rfl, q⟩
  · exact q.elim
theorem pkN_run {P : Program} {h : Hp} {r : Operand → Value} {o : Oper} {s : Sem Value} (e : kindOf r o = .val s) {v : Value} (p : peek P h s = some v) {w : World} (hs : h.sat w) :
    (execOp r o).run P w = .ok (.value v) w := peek_run P _ w _ hs ((kind_val e).2 P h v p)
/-- A tree, what is known behind it made less at will. -/
def aw (P : Program) {α : Type} (s : Sem α) (K : α → Hp → Prop) (h : Hp) : Prop := awp P s (fun v h' => ∃ h0, Hp.le h0 h' ∧ K v h0) h
theorem aw_mono {P : Program} {α : Type} {s : Sem α} {K K' : α → Hp → Prop} {h : Hp} (m : ∀ v h, K v h → K' v h) (z : aw P s K h) : aw P s K' h :=
  awp_mono P s _ _ h (fun _ _ ⟨h0, l, k⟩ => ⟨h0, l, m _ _ k⟩) z
theorem aw_of {P : Program} {α : Type} {s : Sem α} {K : α → Hp → Prop} {h : Hp} (z : awp P s K h) : aw P s K h := awp_mono P s _ _ h (fun _ h' k => ⟨h', .refl _, k⟩) z
def stepP (P : Program) (N : Nat) (env : Env) (o : Oper) (h : Hp) (K : Value → Hp → Prop) : Prop :=
  if fits N env o = true then
    match kindOf (ev env) o with
    | .now v => K v h
    | .pick c a b => pickP c a b (fun v => K v h)
    | .val s => if quiet P o.op = true then q P h s (fun v => K v h) else aw P s K h
    | .unit s => aw P s (fun _ h => K undef h) h
    | .dyn f args => callP P f args h K
    | .raw s => aw P s (nextP P K) h
    | .bad => False
  else False
/-- The fence that lets all in, a round's frame or none. -/
abbrev Fz (ro : Option Nat) : Fence := { fn := fun _ => True, depth := none, alive := false, round := ro }
theorem nextP_sound {P : Program} {o : Oper} {a : Act} {w w1 : World} {h h1 : Hp} {n : Next} {K : Value → Hp → Prop} {next : Act → World → Prop} {Q : Exit → Act → World → Prop} {ro : Option Nat} (hd : ∀ c, o.op ≠ .defer c)
    (hr : (execOp a.eval o).run P w = .ok n w1) (s1 : h1.sat w1) (f1 : Fr h h1 w w1) (q : nextP P K n h1)
    (m : ∀ v w' h', h'.sat w' → Fr h h' w w' → K v h' → next (a.put o.dst v) w') : o.wpIn (Fz ro) 0 P a w next Q := by
  refine ⟨fun _ _ => trivial, ?_⟩
  rw [Oper.semAt_eq _ _ _ hd, hr]
  cases n <;> simp only [nextP] at q <;> first | exact q.elim | skip
  case value v => exact m v w1 h1 s1 f1 q
  case skip => exact m undef w1 h1 s1 f1 q
  case enter f args =>
    refine ⟨fun e => (by cases e), CallsIn.mono (callsIn_wide.2 (q.2 w1 s1)) ?_⟩
    rintro e w' ⟨v, h', rfl, s', f', k⟩
    exact m v w' h' s' (f1.trans f') k
  case round l f tmps assign body =>
    refine ⟨fun e => (by cases e), RoundIn.mono (q w1 s1) ?_⟩
    rintro e w' ⟨v, h', rfl, s', f', k⟩
    exact m v w' h' s' (f1.trans f') k
theorem stepP_exec {P : Program} {N : Nat} {env : Env} {o : Oper} {h : Hp} {K : Value → Hp → Prop} (q : stepP P N env o h K) :
    fits N env o = true ∧ (∀ c, o.op ≠ .defer c) ∧ awp P (execOp (ev env) o) (fun n h' => ∃ h0, Hp.le h0 h' ∧ nextP P K n h0) h := by
  unfold stepP at q
  split at q
  · rename_i hf
    refine ⟨hf, kind_nodefer (r := ev env) (fun e => by rw [e] at q; exact q), ?_⟩
    split at q
    · rename_i v e
      rw [kind_now e]
      exact ⟨h, .refl _, q⟩
    · rename_i c a b e
      obtain ⟨t, hc, q⟩ := pickP_elim q
      rw [kind_pick e hc]
      exact ⟨h, .refl _, q⟩
    · rename_i s e
      split at q
      · obtain ⟨v, p, q⟩ := withVal_elim q
        rw [peek_awp P _ _ _ ((kind_val e).2 P h v p)]
        exact ⟨h, .refl _, q⟩
      · exact (kind_val e).1 P _ h q
    · rename_i s e
      rw [kind_unit e, awp_bind]
      exact q
    · rename_i f args e
      exact awp_mono P _ _ _ h (fun _ h' k => ⟨h', .refl _, k⟩) (callP_exec e q)
    · rename_i s e
      rw [kind_raw e]
      exact q
    · exact q.elim
  · exact q.elim
theorem stepP_sound {P : Program} {N : Nat} {env : Env} {o : Oper} {ds : List Deferred} {a : Act} {w : World} {h : Hp} {K : Value → Hp → Prop} {next : Act → World → Prop} {Q : Exit → Act → World → Prop} {ro : Option Nat}
    (k : env.ok N ds a) (s : h.sat w) (q : stepP P N env o h K)
    (m : ∀ v w' h', h'.sat w' → Fr h h' w w' → K v h' → next (a.put o.dst v) w') : (∀ x, o.dst = some x → x < N) ∧ o.wpIn (Fz ro) 0 P a w next Q := by
  obtain ⟨hf, hd, q⟩ := stepP_exec q
  refine ⟨fits_dst hf, ?_⟩
  rw [← k.exec hf] at q
  obtain ⟨n, w1, h1, hr, s1, f1, h0, l, q⟩ := awp_run P _ _ _ _ s q
  exact nextP_sound hd hr (l.sat s1) (f1.weaken l) q m
theorem stepP_mono {P : Program} {N : Nat} {env : Env} {o : Oper} {h : Hp} {K K' : Value → Hp → Prop} (m : ∀ v h, K v h → K' v h) (q : stepP P N env o h K) : stepP P N env o h K' := by
  unfold stepP at *
  split
  · rename_i hf
    rw [if_pos hf] at q
    split at q
    · exact m _ _ q
    · obtain ⟨t, hc, q⟩ := pickP_elim q
      subst hc
      exact m _ _ q
    · split at q
      · rename_i hq
        rw [if_pos hq]
        obtain ⟨v, p, q⟩ := withVal_elim q
        exact withVal_of p (m _ _ q)
      · rename_i hq
        rw [if_neg hq]
        exact aw_mono m q
    · exact aw_mono (fun _ h => m _ h) q
    · exact callP_mono m q
    · exact aw_mono (fun _ _ q => nextP_mono m q) q
    · exact q.elim
  · rename_i hf
    rw [if_neg hf] at q
    exact q.elim
def dstOk (N : Nat) (o : Oper) : Bool := match o.dst with | some d => decide (d < N) | none => true
theorem dstOk_spec {N : Nat} {o : Oper} (h : dstOk N o = true) : ∀ x, o.dst = some x → x < N := by
  intro x hx
  simpa [dstOk, hx] using h
def vcOps (P : Program) (N : Nat) (ops : Array Oper) (Q : Env → Hp → Prop) : List Oper → Env → Hp → Prop
  | [], env, h => Q env h
  | o :: rest, env, h => guardP ops env o (fun env => stepP P N env o h fun v h' => vcOps P N ops Q rest (env.put o.dst v) h')
      (fun env => if dstOk N o = true then vcOps P N ops Q rest (env.skip o.dst) h else False)
theorem vcOps_sound {P : Program} {N : Nat} {ops : Array Oper} {Q : Env → Hp → Prop} {R : Exit → Act → World → Prop} {h0 : Hp} {w0 : World} {ds : List Deferred} {ro : Option Nat}
    (m : ∀ env h a w, env.ok N ds a → h.sat w → Fr h0 h w0 w → Q env h → R .normal a w) (l : List Oper) :
    ∀ env h a w, Env.ok env N ds a → h.sat w → Fr h0 h w0 w → vcOps P N ops Q l env h → wpListIn (Fz ro) 0 P ops R l a w := by
  induction l with
  | nil => exact fun env h a w k s f q => m env h a w k s f q
  | cons o rest ih =>
    intro env h a w k s f q
    obtain ⟨env', k, ⟨hw, q⟩ | ⟨hw, q⟩⟩ := guardP_sound k q
    · refine wpListIn_step fun K hK => ?_
      rw [if_pos hw]
      by_cases hd : ∀ x, o.dst = some x → x < N
      · exact (stepP_sound k s q fun v w' h' s' f' k' => hK _ _ (ih _ _ _ _ (k.put hd v) s' (f.trans f') k')).2
      · exact absurd (stepP_sound (next := fun _ _ => True) (Q := R) (ro := none) k s q fun _ _ _ _ _ _ => trivial).1 hd
    · split at q
      case isFalse => exact q.elim
      rename_i hd
      refine wpListIn_step fun K hK => ?_
      rw [if_neg (by simp [hw])]
      refine ⟨fun _ _ => trivial, ?_⟩
      exact hK _ _ (ih _ _ _ _ (k.skip (dstOk_spec hd)) s f q)
def emp : Hp := fun _ => none
theorem emp_sat (w : World) : emp.sat w := fun _ _ e => by cases e
abbrev JE := Nat × Sem Next × Value
def dmask (o : Oper) : Nat := o.after.toList.foldr (fun e s => if Region.binds .any e then 2 ^ e.on ||| s else s) 0
def cmask (B : List Nat) (o : Oper) : Nat := o.after.toList.foldr (fun e s => if Region.binds .any e then 2 ^ e.on ||| (B.getD e.on 0 ||| s) else s) 0
theorem dmask_spec (o : Oper) (k : Nat) : (dmask o).testBit k = true ↔ ∃ e ∈ o.after, Region.binds .any e = true ∧ e.on = k := by
  unfold dmask
  have : ∀ l : List Edge, (l.foldr (fun e s => if Region.binds .any e then 2 ^ e.on ||| s else s) 0).testBit k = true ↔ ∃ e ∈ l, Region.binds .any e = true ∧ e.on = k := by
    intro l
    induction l with
    | nil => simp
    | cons e l ih =>
      simp only [List.foldr_cons, List.mem_cons, exists_eq_or_imp]
      split
      · rename_i hb
        simp [Nat.testBit_or, Nat.testBit_two_pow, hb, ih]
      · rename_i hb
        simp [hb, ih]
  rw [this]
  simp
theorem cmask_spec {B : List Nat} (o : Oper) (k : Nat) : (cmask B o).testBit k = true ↔ ∃ e ∈ o.after, Region.binds .any e = true ∧ (e.on = k ∨ (B.getD e.on 0).testBit k = true) := by
  unfold cmask
  have : ∀ l : List Edge, (l.foldr (fun e s => if Region.binds .any e then 2 ^ e.on ||| (B.getD e.on 0 ||| s) else s) 0).testBit k = true ↔ ∃ e ∈ l, Region.binds .any e = true ∧ (e.on = k ∨ (B.getD e.on 0).testBit k = true) := by
    intro l
    induction l with
    | nil => simp
    | cons e l ih =>
      simp only [List.foldr_cons, List.mem_cons, exists_eq_or_imp]
      split
      · rename_i hb
        simp only [Nat.testBit_or, Nat.testBit_two_pow, hb, Bool.or_eq_true, decide_eq_true_eq, true_and, ih, or_assoc]
      · rename_i hb
        rw [ih]
        simp only [hb, false_and, false_or, Bool.false_eq_true]
  rw [this]
  simp
def chkB (ops : List Oper) (B : List Nat) : Bool := ops.zipIdx.all fun (o, j) => B.getD j 0 == cmask B o
def quietI (P : Program) (ops : Array Oper) (i : Nat) : Bool := match ops[i]? with | some o => quiet P o.op | none => false
def tied (B : List Nat) (j i : Nat) : Bool := (B.getD j 0).testBit i
def chkA (ops : Array Oper) (B : List Nat) : Bool :=
  ops.toList.zipIdx.all fun (x, i) => ops.toList.zipIdx.all fun (y, j) => i == j || tied B i j || tied B j i || x.apart ops y
def keepE (P : Program) (ops : Array Oper) (B : List Nat) (j : Nat) (e : JE) : Bool := quietI P ops j || !tied B j e.1
def condJ (P : Program) (J : List JE) (w : World) : Prop := ∀ e ∈ J, e.2.1.run P w = .ok (.value e.2.2) w
section
variable (ro : Option Nat) (P : Program) (ops : Array Oper) (B : List Nat) (Q : Exit → Act → World → Prop)
def wpJ : Nat → List JE → Array Bool → Act → World → Prop
  | 0, J, listed, a, w => condJ P J w ∧ Region.ready .any ops listed = [] ∧ Q .normal a w
  | fuel + 1, J, listed, a, w => condJ P J w ∧ (Region.ready .any ops listed = [] → Q .normal a w) ∧
    ∀ j ∈ Region.ready .any ops listed, wpOpIn (Fz ro) 0 P ops Q j (wpJ fuel (J.filter (keepE P ops B j)) (listed.setIfInBounds j true)) a w
end
section
variable {ro : Option Nat} {P : Program} {ops : Array Oper} {B : List Nat} {Q : Exit → Act → World → Prop}
theorem wpJ_cond : ∀ {fuel : Nat} {J : List JE} {listed : Array Bool} {a : Act} {w : World}, wpJ ro P ops B Q fuel J listed a w → condJ P J w
  | 0, _, _, _, _, h => h.1
  | _ + 1, _, _, _, _, h => h.1
theorem wpJ_any : ∀ (fuel : Nat) (J : List JE) (listed : Array Bool) (a : Act) (w : World), wpJ ro P ops B Q fuel J listed a w → wpAnyIn (Fz ro) 0 P .any ops Q fuel listed a w
  | 0, _, _, _, _, h => h.2
  | fuel + 1, _, _, _, _, h => ⟨h.2.1, fun j hj => wpOpIn_mono (fun _ _ q => wpJ_any fuel _ _ _ _ q) (h.2.2 j hj)⟩
theorem wpJ_sub : ∀ (fuel : Nat) (J J' : List JE) (listed : Array Bool) (a : Act) (w : World), (∀ e ∈ J, e ∈ J') → wpJ ro P ops B Q fuel J' listed a w → wpJ ro P ops B Q fuel J listed a w
  | 0, _, _, _, _, _, m, h => ⟨fun e he => h.1 e (m e he), h.2⟩
  | fuel + 1, J, J', _, _, _, m, h => ⟨fun e he => h.1 e (m e he), h.2.1, fun j hj => wpOpIn_mono (fun _ _ q => wpJ_sub fuel _ _ _ _ _ (fun e he => by
      rw [List.mem_filter] at he ⊢
      exact ⟨m e he.1, he.2⟩) q) (h.2.2 j hj)⟩
def Clo (B : List Nat) (listed : Array Bool) : Prop := ∀ k k', listed.getD k false = true → tied B k k' = true → listed.getD k' false = true
theorem chkB_spec {B : List Nat} (h : chkB ops.toList B = true) {j : Nat} {o : Oper} (hj : ops[j]? = some o) {k : Nat} :
    tied B j k = true ↔ ∃ e ∈ o.after, Region.binds .any e = true ∧ (e.on = k ∨ tied B e.on k = true) := by
  have : B.getD j 0 = cmask B o := by
    unfold chkB at h
    rw [List.all_eq_true] at h
    have hm : (o, j) ∈ ops.toList.zipIdx := by
      rw [List.mem_zipIdx_iff_getElem?]
      simpa using hj
    have := h _ hm
    simpa using this
  unfold tied
  rw [this]
  exact cmask_spec o k
theorem chkA_spec {B : List Nat} (h : chkA ops B = true) {i j : Nat} {x y : Oper} (hi : ops[i]? = some x) (hj : ops[j]? = some y) (hne : i ≠ j) (h1 : tied B i j = false) (h2 : tied B j i = false) :
    x.apart ops y = true := by
  unfold chkA at h
  rw [List.all_eq_true] at h
  have hm : (x, i) ∈ ops.toList.zipIdx := by rw [List.mem_zipIdx_iff_getElem?]; simpa using hi
  have hn : (y, j) ∈ ops.toList.zipIdx := by rw [List.mem_zipIdx_iff_getElem?]; simpa using hj
  have := h _ hm
  simp only at this
  rw [List.all_eq_true] at this
  have := this _ hn
  simpa [hne, h1, h2] using this
theorem ready_pred {B : List Nat} (hB : chkB ops.toList B = true) {listed : Array Bool} (c : Clo B listed) {j k : Nat} (hj : j ∈ Region.ready .any ops listed) (t : tied B j k = true) : listed.getD k false = true := by
  obtain ⟨_, o, ho, hall⟩ := mem_ready.1 hj
  obtain ⟨e, he, hb, hk⟩ := (chkB_spec hB ho).1 t
  have := hall e he hb
  rcases hk with rfl | hk
  · exact this
  · exact c _ _ this hk
theorem getD_set {listed : Array Bool} {i k : Nat} (h : (listed.setIfInBounds i true).getD k false = true) : k = i ∨ listed.getD k false = true := by
  by_cases e : i = k
  · exact .inl e.symm
  · rw [getD_set_ne false e] at h; exact .inr h
theorem Clo.step {B : List Nat} (hB : chkB ops.toList B = true) {listed : Array Bool} (c : Clo B listed) {j : Nat} (hj : j ∈ Region.ready .any ops listed) : Clo B (listed.setIfInBounds j true) := by
  intro k k' hk t
  rcases getD_set hk with rfl | hk
  · exact getD_set_true (ready_pred hB c hj t)
  · exact getD_set_true (c k k' hk t)
theorem unlisted {listed : Array Bool} {i : Nat} (h : listed.getD i true = false) : ¬ listed.getD i false = true := by
  rcases Nat.lt_or_ge i listed.size with h' | h'
  · simp [h'] at h ⊢; exact h
  · simp [Array.getElem?_eq_none h'] at h
/-- What an operation that was run ahead tells, told again. -/
def Tells (ops : Array Oper) (oi : Oper) (s : Sem Next) (v : Value) (a : Act) : Prop :=
  (Region.wanted oi (yielded ops a.tmps) = true ∧ execOp a.eval oi = s) ∨ (Region.wanted oi (yielded ops a.tmps) = false ∧ v = undef)
theorem Tells.wpOp {i : Nat} {oi : Oper} {s : Sem Next} {v : Value} {a : Act} {w : World} (hd : ∀ c, oi.op ≠ .defer c) (hi : ops[i]? = some oi) (t : Tells ops oi s v a) (hr : s.run P w = .ok (.value v) w)
    {K : Act → World → Prop} (k : K (a.put oi.dst v) w) : wpOpIn (Fz ro) 0 P ops Q i K a w := by
  unfold Go.wpOpIn
  simp only [hi]
  rcases t with ⟨hw, he⟩ | ⟨hw, rfl⟩
  · simp only [hw, if_true, Oper.wpIn, Oper.semAt_eq _ _ _ hd, he, hr, Oper.uponIn]; exact ⟨fun _ _ => trivial, k⟩
  · simp only [hw, Bool.false_eq_true, if_false]; exact ⟨fun _ _ => trivial, k⟩
theorem Tells.same {oi : Oper} {s : Sem Next} {v : Value} {a a' : Act} (t : Tells ops oi s v a) (he : execOp a'.eval oi = execOp a.eval oi)
    (hw : Region.wanted oi (yielded ops a'.tmps) = Region.wanted oi (yielded ops a.tmps)) : Tells ops oi s v a' := by
  unfold Tells at *
  rw [he, hw]
  exact t
theorem wpOp_putJ {j : Nat} {oi oj : Oper} {s : Sem Next} {v : Value} (hj : ops[j]? = some oj) (hap : oi.apart ops oj = true)
    (hsi : ∀ cs b, oi.op ≠ .select cs b) (hsj : ∀ cs b, oj.op ≠ .select cs b) (hdj : ∀ c, oj.op ≠ .defer c)
    (hQ : ∀ c a w, Q (.panic c) (a.put oi.dst v) w → Q (.panic c) a w) {K : Act → World → Prop} {a : Act} {w : World}
    (hy : Tells ops oi s v a) (h : wpOpIn (Fz ro) 0 P ops Q j K (a.put oi.dst v) w) :
    wpOpIn (Fz ro) 0 P ops Q j (fun a' w' => Tells ops oi s v a' ∧ K (a'.put oi.dst v) w') a w := by
  obtain ⟨h1, h2, h3⟩ := Oper.apart_spec hap
  have keep : ∀ (a : Act), Tells ops oi s v a → ∀ u, Tells ops oi s v (a.put oj.dst u) := fun a hy u =>
    hy.same (execOp_put oi hsi a oj.dst u h3) (wanted_put oi a oj.dst u h3)
  have keepD : ∀ d, Tells ops oi s v { a with defers := d :: a.defers } := fun d => hy.same rfl rfl
  unfold wpOpIn at *
  simp only [hj] at *
  rw [wanted_put oj a oi.dst v h1] at h
  split
  · rename_i hw
    simp only [hw, if_true] at h
    unfold Oper.wpIn at *
    refine ⟨fun _ _ => trivial, ?_⟩
    have h := h.2
    rw [Oper.semAt_eq _ _ _ hdj, execOp_put oj hsj a oi.dst v h1] at h
    rw [Oper.semAt_eq _ _ _ hdj]
    generalize (execOp a.eval oj).run P w = r at *
    cases r with
    | ok n w' =>
      cases n <;> simp only [Oper.uponIn] at h ⊢
      case value u => exact ⟨keep a hy u, by rw [← Act.put_comm a v u h2]; exact h⟩
      case skip => exact ⟨keep a hy _, by rw [← Act.put_comm a v undef h2]; exact h⟩
      case defer d =>
        refine ⟨keep _ (keepD d) _, ?_⟩
        rw [← Act.put_comm _ v undef h2, ← Act.put_defers]
        exact h
      case enter f args =>
        refine ⟨h.1, CallsIn.mono h.2 fun e w'' he => ?_⟩
        cases e with
        | returned u => exact ⟨keep a hy u, by rw [← Act.put_comm a v u h2]; exact he⟩
        | panicked c => exact hQ _ _ _ he
        | outgrown => exact he
      case row row args => exact ⟨h.1, RowsIn.mono h.2 fun u w'' he => ⟨keep a hy u, by rw [← Act.put_comm a v u h2]; exact he⟩⟩
      case round l f tmps assign body =>
        refine ⟨h.1, RoundIn.mono h.2 fun e w'' he => ?_⟩
        cases e with
        | returned u => exact ⟨keep a hy u, by rw [← Act.put_comm a v u h2]; exact he⟩
        | panicked c => exact hQ _ _ _ he
        | outgrown => exact he
    | halt x w' =>
      cases x <;> simp only [Oper.uponIn] at h ⊢
      case panic u => exact hQ _ _ _ h
  · rename_i hw
    simp only [hw] at h
    exact ⟨fun _ _ => trivial, keep a hy _, by rw [← Act.put_comm a v undef h2]; exact h.2⟩
theorem wpJ_first {i : Nat} {oi : Oper} {s : Sem Next} {v : Value} (hB : chkB ops.toList B = true) (hA : chkA ops B = true) (hsel : Region.noSelect ops = true) (hdf : ∀ (j : Nat) (o : Oper), ops[j]? = some o → ∀ c, o.op ≠ .defer c)
    (hi : ops[i]? = some oi) (hq : quietI P ops i = true) (hQ : ∀ c a w, Q (.panic c) (a.put oi.dst v) w → Q (.panic c) a w) :
    ∀ (fuel : Nat) (J : List JE) (listed : Array Bool) (a : Act) (w : World), Clo B listed → i ∈ Region.ready .any ops listed →
      s.run P w = .ok (.value v) w → Tells ops oi s v a →
      wpJ ro P ops B Q fuel ((i, s, v) :: J) (listed.setIfInBounds i true) (a.put oi.dst v) w → wpJ ro P ops B Q (fuel + 1) J listed a w := by
  have hfilt : ∀ J : List JE, J.filter (keepE P ops B i) = J := fun J => List.filter_eq_self.2 fun e _ => by simp [keepE, hq]
  intro fuel
  induction fuel with
  | zero =>
    intro J listed a w c hr hrun ht H
    refine ⟨fun e he => H.1 e (List.mem_cons_of_mem _ he), fun h => (by rw [h] at hr; cases hr), fun j hj => ?_⟩
    by_cases hji : j = i
    · subst hji
      refine ht.wpOp (hdf _ _ hi) hi hrun ?_
      rw [hfilt]
      exact wpJ_sub 0 _ _ _ _ _ (fun e he => List.mem_cons_of_mem _ he) H
    · have := ready_mono hj hji
      rw [H.2.1] at this
      cases this
  | succ fuel ih =>
    intro J listed a w c hr hrun ht H
    refine ⟨fun e he => H.1 e (List.mem_cons_of_mem _ he), fun h => (by rw [h] at hr; cases hr), fun j hj => ?_⟩
    by_cases hji : j = i
    · subst hji
      refine ht.wpOp (hdf _ _ hi) hi hrun ?_
      rw [hfilt]
      exact wpJ_sub _ _ _ _ _ _ (fun e he => List.mem_cons_of_mem _ he) H
    · have h1 := H.2.2 j (ready_mono hj hji)
      obtain ⟨hjun, oj, hoj, _⟩ := mem_ready.1 hj
      have hiun := unlisted (mem_ready.1 hr).1
      have t1 : tied B j i = false := by
        cases t : tied B j i with
        | false => rfl
        | true => exact absurd (ready_pred hB c hj t) hiun
      have t2 : tied B i j = false := by
        cases t : tied B i j with
        | false => rfl
        | true => exact absurd (ready_pred hB c hr t) (unlisted hjun)
      have hap := chkA_spec hA hi hoj (Ne.symm hji) t2 t1
      have h2 := wpOp_putJ hoj hap (Region.noSelect_spec hsel i oi · · hi) (Region.noSelect_spec hsel j oj · · hoj) (hdf _ _ hoj) hQ ht h1
      have hkeep : ((i, s, v) :: J).filter (keepE P ops B j) = (i, s, v) :: J.filter (keepE P ops B j) := by
        rw [List.filter_cons]
        simp [keepE, t1]
      refine wpOpIn_mono (fun a' w' h3 => ?_) h2
      rw [hkeep] at h3
      refine ih _ (listed.setIfInBounds j true) a' w' (c.step hB hj) (ready_mono hr (Ne.symm hji)) ?_ h3.1 ?_
      · exact wpJ_cond h3.2 (i, s, v) (List.mem_cons_self ..)
      · rw [Array.setIfInBounds_comm _ _ hji]
        exact h3.2
end
/-- Does what it tells hang on memory? -/
def readsMem : Op → Bool
  | .load .. | .lookup .. | .convert .. => true
  | .binOp op _ _ _ _ => match op with
    | .eql | .neq => true
    | _ => false
  | .call _ => true
  | .fieldAddr .. | .slice .. | .typeAssert .. => true
  | _ => false
def allP (f : Nat → Prop) : List Nat → Prop
  | [] => True
  | [x] => f x
  | x :: xs => f x ∧ allP f xs
theorem allP_spec {f : Nat → Prop} : ∀ {l : List Nat}, allP f l → ∀ x ∈ l, f x
  | [], _, x, h => by cases h
  | [y], q, x, h => by rw [List.mem_singleton.1 h]; exact q
  | y :: z :: l, q, x, h => by
    rcases List.mem_cons.1 h with rfl | h
    · exact q.1
    · exact allP_spec q.2 x h
abbrev VE := Nat × Sem Value × Value
def recheck (P : Program) (h : Hp) : List VE → Prop → Prop
  | [], R => R
  | e :: J, R => peek P h e.2.1 = some e.2.2 ∧ recheck P h J R
theorem recheck_spec {P : Program} {h : Hp} {R : Prop} : ∀ {J : List VE}, recheck P h J R → (∀ e ∈ J, peek P h e.2.1 = some e.2.2) ∧ R
  | [], q => ⟨fun e he => (by cases he), q⟩
  | x :: J, q => ⟨fun e he => by
      rcases List.mem_cons.1 he with rfl | he
      · exact q.1
      · exact (recheck_spec q.2).1 e he, (recheck_spec q.2).2⟩
theorem recheck_mk {P : Program} {h : Hp} {R : Prop} : ∀ {J : List VE}, (∀ e ∈ J, peek P h e.2.1 = some e.2.2) → R → recheck P h J R
  | [], _, r => r
  | x :: _, q, r => ⟨q x (List.mem_cons_self ..), recheck_mk (fun e he => q e (List.mem_cons_of_mem _ he)) r⟩
def readyM (ms : List Nat) (m i : Nat) : Bool := !m.testBit i && (ms.getD i 0 &&& m == ms.getD i 0)
def keepV (P : Program) (ops : Array Oper) (B : List Nat) (j : Nat) (e : VE) : Bool := quietI P ops j || !tied B j e.1
section
variable (P : Program) (N : Nat) (ops : Array Oper) (B ms qs : List Nat) (Q : Env → Hp → Prop)
/-- ms: each operation's own forerunners; qs: those that only read -/
def vcD : Nat → Nat → List VE → Env → Hp → Prop
  | 0, m, _, env, h => if ((List.range ops.size).filter (readyM ms m)).isEmpty = true then Q env h else False
  | fuel + 1, m, J, env, h =>
    match qs.find? (readyM ms m) with
    | some i => match ops[i]? with
      | some o => guardP ops env o
          (fun env => if fits N env o = true then
            match kindOf (ev env) o with
            | .now v => vcD fuel (m ||| 2 ^ i) J (env.put o.dst v) h
            | .pick c a b => pickP c a b fun v => vcD fuel (m ||| 2 ^ i) J (env.put o.dst v) h
            | .val s => if readsMem o.op = true then q P h s fun v => vcD fuel (m ||| 2 ^ i) ((i, s, v) :: J) (env.put o.dst v) h
                else q P emp s fun v => vcD fuel (m ||| 2 ^ i) J (env.put o.dst v) h
            | _ => False
           else False)
          (fun env => if dstOk N o = true then vcD fuel (m ||| 2 ^ i) J (env.skip o.dst) h else False)
      | none => False
    | none => match (List.range ops.size).filter (readyM ms m) with
      | [] => Q env h
      | rs => allP (fun j => match ops[j]? with
        | some o => guardP ops env o
            (fun env => stepP P N env o h fun v h' => recheck P h' (J.filter (keepV P ops B j)) (vcD fuel (m ||| 2 ^ j) (J.filter (keepV P ops B j)) (env.put o.dst v) h'))
            (fun env => if dstOk N o = true then vcD fuel (m ||| 2 ^ j) (J.filter (keepV P ops B j)) (env.skip o.dst) h else False)
        | none => False) rs
end
def Mrel (ops : Array Oper) (m : Nat) (listed : Array Bool) : Prop := listed.size = ops.size ∧ ∀ i, listed.getD i false = m.testBit i
theorem Mrel.step {ops : Array Oper} {m : Nat} {listed : Array Bool} (r : Mrel ops m listed) {i : Nat} (hi : i < ops.size) : Mrel ops (m ||| 2 ^ i) (listed.setIfInBounds i true) := by
  refine ⟨by simp [r.1], fun k => ?_⟩
  rw [Nat.testBit_or, Nat.testBit_two_pow]
  by_cases e : i = k
  · subst e; simp [r.1, hi]
  · rw [getD_set_ne false e, r.2 k]; simp [e]
theorem readyM_iff {ops : Array Oper} {ms : List Nat} (hm : ms = ops.toList.map dmask) {m : Nat} {listed : Array Bool} (r : Mrel ops m listed) {i : Nat} (hi : i < ops.size) :
    readyM ms m i = true ↔ i ∈ Region.ready .any ops listed := by
  rw [mem_ready]
  have hg : ops[i]? = some ops[i] := by simp [hi]
  have hd : ms.getD i 0 = dmask ops[i] := by subst hm; simp [List.getD_eq_getElem?_getD, hi]
  unfold readyM
  rw [hd, Bool.and_eq_true, Bool.not_eq_true', beq_iff_eq]
  have hl : listed.getD i true = false ↔ m.testBit i = false := by
    rw [← r.2 i]
    have : i < listed.size := by rw [r.1]; exact hi
    simp [this]
  rw [hl]
  refine and_congr_right fun _ => ?_
  constructor
  · intro h
    refine ⟨_, hg, fun e he hb => ?_⟩
    rw [r.2]
    have h1 : (dmask ops[i]).testBit e.on = true := (dmask_spec _ _).2 ⟨e, he, hb, rfl⟩
    rw [← h, Nat.testBit_and, Bool.and_eq_true] at h1
    exact h1.2
  · rintro ⟨o, ho, hall⟩
    rw [hg] at ho
    cases ho
    apply Nat.eq_of_testBit_eq
    intro k
    rw [Nat.testBit_and]
    cases h1 : (dmask ops[i]).testBit k with
    | false => rfl
    | true =>
      obtain ⟨e, he, hb, rfl⟩ := (dmask_spec _ _).1 h1
      rw [← r.2, hall e he hb]
      rfl
/-- An entry of the machine's list, by one of ours or by a tree that asks no memory. -/
def Known (P : Program) (J : List VE) (e : JE) : Prop :=
  ∃ s : Sem Value, ((e.1, s, e.2.2) ∈ J ∨ peek P emp s = some e.2.2) ∧ ∀ (h : Hp) (v : Value), peek P h s = some v → peek P h e.2.1 = some (.value v)
theorem vcD_sound {P : Program} {N : Nat} {ops : Array Oper} {B ms qs : List Nat} {Q : Env → Hp → Prop} {R : Exit → Act → World → Prop} {h0 : Hp} {w0 : World} {ro : Option Nat} {ds : List Deferred}
    (hB : chkB ops.toList B = true) (hA : chkA ops B = true) (hsel : Region.noSelect ops = true) (hdf : ∀ (j : Nat) (o : Oper), ops[j]? = some o → ∀ c, o.op ≠ .defer c) (hms : ms = ops.toList.map dmask) (hqs : ∀ i ∈ qs, quietI P ops i = true)
    (hR : ∀ c a w, ¬ R (.panic c) a w)
    (mQ : ∀ env h a w, Env.ok env N ds a → h.sat w → Fr h0 h w0 w → Q env h → R .normal a w) :
    ∀ (fuel m : Nat) (J : List VE) (Jf : List JE) (listed : Array Bool) (env : Env) (h : Hp) (a : Act) (w : World),
      Mrel ops m listed → Clo B listed → Env.ok env N ds a → h.sat w → Fr h0 h w0 w → (∀ e ∈ Jf, Known P J e) → (∀ e ∈ J, peek P h e.2.1 = some e.2.2) →
      vcD P N ops B ms qs Q fuel m J env h → wpJ ro P ops B R fuel Jf listed a w := by
  intro fuel
  have hcond : ∀ (J : List VE) (Jf : List JE) (h : Hp) (w : World), h.sat w → (∀ e ∈ Jf, Known P J e) → (∀ e ∈ J, peek P h e.2.1 = some e.2.2) → condJ P Jf w := by
    intro J Jf h w s h1 h2 e he
    obtain ⟨t, q | q, m⟩ := h1 e he
    · exact peek_run P _ w _ s (m h _ (h2 _ q))
    · exact peek_run P _ w _ (emp_sat w) (m emp _ q)
  induction fuel with
  | zero =>
    intro m J Jf listed env h a w r c k s f h1 h2 q
    simp only [vcD] at q
    split at q
    case isFalse => exact q.elim
    rename_i he
    rw [List.isEmpty_iff] at he
    refine ⟨hcond J Jf h w s h1 h2, ?_, mQ _ _ _ _ k s f q⟩
    rw [List.eq_nil_iff_forall_not_mem]
    intro i hi
    have hlt : i < ops.size := by
      obtain ⟨_, o, ho, _⟩ := mem_ready.1 hi
      exact (Array.getElem?_eq_some_iff.1 ho).1
    have : i ∈ (List.range ops.size).filter (readyM ms m) := by
      rw [List.mem_filter]
      exact ⟨List.mem_range.2 hlt, (readyM_iff hms r hlt).2 hi⟩
    rw [he] at this
    cases this
  | succ fuel ih =>
    intro m J Jf listed env h a w r c k s f h1 h2 q
    simp only [vcD] at q
    split at q
    · rename_i i hf
      have hrd := List.find?_some hf
      have hmem := List.mem_of_find?_eq_some hf
      split at q
      · rename_i o ho
        have hlt : i < ops.size := (Array.getElem?_eq_some_iff.1 ho).1
        have hir := (readyM_iff hms r hlt).1 hrd
        have r' := r.step hlt
        obtain ⟨env', k, ⟨hw, q⟩ | ⟨hw, q⟩⟩ := guardP_sound k q
        · split at q
          · rename_i hfit
            split at q
            · rename_i v ek
              have hx : execOp a.eval o = .pure (.value v) := by rw [k.exec hfit, kind_now ek]
              refine wpJ_first (s := .pure (.value v)) (v := v) hB hA hsel hdf ho (hqs i hmem) (fun c a w z => (hR _ _ _ z).elim) fuel Jf listed a w c hir rfl (.inl ⟨hw, hx⟩) ?_
              refine ih (m ||| 2 ^ i) J _ _ _ h _ w r' (c.step hB hir) (k.put (fits_dst hfit) v) s f ?_ h2 q
              intro x hx
              rcases List.mem_cons.1 hx with rfl | hx
              · exact ⟨.pure v, .inr rfl, fun h u q => by cases q; rfl⟩
              · exact h1 x hx
            · rename_i cc ca cb ek
              obtain ⟨t, hc, q⟩ := pickP_elim q
              have hx : execOp a.eval o = .pure (.value (cond t ca cb)) := by rw [k.exec hfit, kind_pick ek hc]
              refine wpJ_first (s := .pure (.value (cond t ca cb))) (v := cond t ca cb) hB hA hsel hdf ho (hqs i hmem) (fun c a w z => (hR _ _ _ z).elim) fuel Jf listed a w c hir rfl (.inl ⟨hw, hx⟩) ?_
              refine ih (m ||| 2 ^ i) J _ _ _ h _ w r' (c.step hB hir) (k.put (fits_dst hfit) _) s f ?_ h2 q
              intro x hx
              rcases List.mem_cons.1 hx with rfl | hx
              · exact ⟨.pure (cond t ca cb), .inr rfl, fun h u q => by cases q; rfl⟩
              · exact h1 x hx
            · rename_i t ek
              split at q
              · obtain ⟨v, e, q⟩ := withVal_elim q
                refine wpJ_first (s := execOp (ev env') o) (v := v) hB hA hsel hdf ho (hqs i hmem) (fun c a w z => (hR _ _ _ z).elim) fuel Jf listed a w c hir (pkN_run ek e s) (.inl ⟨hw, k.exec hfit⟩) ?_
                refine ih (m ||| 2 ^ i) _ _ _ _ h _ w r' (c.step hB hir) (k.put (fits_dst hfit) v) s f ?_ ?_ q
                · intro x hx
                  rcases List.mem_cons.1 hx with rfl | hx
                  · exact ⟨t, .inl (List.mem_cons_self ..), (kind_val ek).2 P⟩
                  · obtain ⟨t', q | q, m⟩ := h1 x hx
                    · exact ⟨t', .inl (List.mem_cons_of_mem _ q), m⟩
                    · exact ⟨t', .inr q, m⟩
                · intro x hx
                  rcases List.mem_cons.1 hx with rfl | hx
                  · exact e
                  · exact h2 x hx
              · obtain ⟨v, e, q⟩ := withVal_elim q
                refine wpJ_first (s := execOp (ev env') o) (v := v) hB hA hsel hdf ho (hqs i hmem) (fun c a w z => (hR _ _ _ z).elim) fuel Jf listed a w c hir (pkN_run ek e (emp_sat w)) (.inl ⟨hw, k.exec hfit⟩) ?_
                refine ih (m ||| 2 ^ i) _ _ _ _ h _ w r' (c.step hB hir) (k.put (fits_dst hfit) v) s f ?_ h2 q
                intro x hx
                rcases List.mem_cons.1 hx with rfl | hx
                · exact ⟨t, .inr e, (kind_val ek).2 P⟩
                · exact h1 x hx
            · exact q.elim
          · exact q.elim
        · split at q
          case isFalse => exact q.elim
          rename_i hd
          refine wpJ_first (s := .pure (.value undef)) (v := undef) hB hA hsel hdf ho (hqs i hmem) (fun c a w z => (hR _ _ _ z).elim) fuel Jf listed a w c hir rfl (.inr ⟨hw, rfl⟩) ?_
          refine ih (m ||| 2 ^ i) J _ _ _ h _ w r' (c.step hB hir) (k.skip (dstOk_spec hd)) s f ?_ h2 q
          intro x hx
          rcases List.mem_cons.1 hx with rfl | hx
          · exact ⟨.pure undef, .inr rfl, fun h v q => by cases q; rfl⟩
          · exact h1 x hx
      · exact q.elim
    · have hready : ∀ i ∈ Region.ready .any ops listed, i ∈ (List.range ops.size).filter (readyM ms m) := by
        intro i hi
        have hlt : i < ops.size := by
          obtain ⟨_, o, ho, _⟩ := mem_ready.1 hi
          exact (Array.getElem?_eq_some_iff.1 ho).1
        rw [List.mem_filter]
        exact ⟨List.mem_range.2 hlt, (readyM_iff hms r hlt).2 hi⟩
      refine ⟨hcond J Jf h w s h1 h2, ?_⟩
      split at q
      · rename_i hnil
        have : Region.ready .any ops listed = [] := by
          rw [List.eq_nil_iff_forall_not_mem]
          intro i hi
          have := hready i hi
          rw [hnil] at this
          cases this
        rw [this]
        exact ⟨fun _ => mQ _ _ _ _ k s f q, fun j hj => by cases hj⟩
      · rename_i rs hne
        refine ⟨fun he => ?_, fun j hj => ?_⟩
        · cases hrs : (List.range ops.size).filter (readyM ms m) with
          | nil => exact absurd hrs (by assumption)
          | cons x xs =>
            have hx : x ∈ (List.range ops.size).filter (readyM ms m) := by rw [hrs]; exact List.mem_cons_self ..
            rw [List.mem_filter] at hx
            have := (readyM_iff hms r (List.mem_range.1 hx.1)).1 hx.2
            rw [he] at this
            cases this
        · have q := allP_spec q j (hready j hj)
          split at q
          · rename_i o ho
            have hlt : j < ops.size := (Array.getElem?_eq_some_iff.1 ho).1
            have r' := r.step hlt
            have c' := c.step hB hj
            have hJ : ∀ e ∈ Jf.filter (keepE P ops B j), Known P (J.filter (keepV P ops B j)) e := by
              intro e he
              rw [List.mem_filter] at he
              obtain ⟨t', q | q, m⟩ := h1 e he.1
              · exact ⟨t', .inl (List.mem_filter.2 ⟨q, he.2⟩), m⟩
              · exact ⟨t', .inr q, m⟩
            unfold wpOpIn
            simp only [ho]
            obtain ⟨env', k, ⟨hw, q⟩ | ⟨hw, q⟩⟩ := guardP_sound k q
            · rw [if_pos hw]
              refine (stepP_sound k s q fun v w' h' s' f' k' => ?_).2
              obtain ⟨h2', q⟩ := recheck_spec k'
              exact ih (m ||| 2 ^ j) _ _ _ _ h' _ w' r' c' (k.put (fits_dst (stepP_exec (by assumption)).1) v) s' (f.trans f') hJ h2' q
            · split at q
              case isFalse => exact q.elim
              rename_i hd
              rw [if_neg (by simp [hw])]
              refine ⟨fun _ _ => trivial, ?_⟩
              refine ih (m ||| 2 ^ j) _ _ _ _ h _ w r' c' (k.skip (dstOk_spec hd)) s f hJ (fun e he => h2 e (List.mem_filter.1 he).1) q
          · exact q.elim
theorem lk_cons {β : Type} (p : Nat × β) (l : List (Nat × β)) (t : Nat) : (p :: l).lookup t = if (t == p.1) = true then some p.2 else l.lookup t := by
  obtain ⟨k, b⟩ := p
  rw [List.lookup_cons]
  cases t == k <;> rfl
inductive Ex where
  | normal
  | exit (id : Nat)
  | ret
def Ex.to : Ex → Exit
  | .normal => .normal
  | .exit id => .exit id
  | .ret => .ret
def dsts (ops : Array Oper) : List Nat := ops.toList.filterMap (·.dst)
def assigned : Code → List Nat
  | .region _ ops _ => dsts ops
  | .seq a b => assigned a ++ assigned b
  | .cond _ a b => assigned a ++ assigned b
  | .block _ a => assigned a
  | .loop a => assigned a
  | .scope a => assigned a
  | _ => []
def noDef : Op → Bool
  | .defer _ => false
  | _ => true
theorem noDef_spec {ops : Array Oper} (h : (ops.toList.all fun o => noDef o.op) = true) (j : Nat) (o : Oper) (ho : ops[j]? = some o) (c : Call) : o.op ≠ .defer c := by
  intro e
  have := List.all_eq_true.1 h o (by simpa using Array.mem_of_getElem? ho)
  rw [e] at this
  cases this
def Hp.del (h : Hp) (b : Nat) : Hp := fun i => if i = b then none else h i
def clos (l : List Oper) : List Nat := l.foldl (fun B o => B ++ [cmask B o]) []
def quietL (P : Program) (l : List Oper) : List Nat := l.zipIdx.filterMap fun p => if quiet P p.1.op = true then some p.2 else none
/-- A region whose order is open. -/
def vcR (P : Program) (N : Nat) (ops : Array Oper) (Q : Env → Hp → Prop) (env : Env) (h : Hp) : Prop :=
  if (chkB ops.toList (clos ops.toList) && chkA ops (clos ops.toList) && Region.noSelect ops && ops.toList.all fun o => noDef o.op) = true then
    vcD P N ops (clos ops.toList) (ops.toList.map dmask) (quietL P ops.toList) Q ops.size 0 [] env h
  else False
def valsOf (L : List Nat) (env : Env) : List Value := L.map fun s => ev env (.tmp s)
def headOf (L : List Nat) (vs : List Value) : Env := L.zipIdx.map fun p => (p.1, .val (vs.getD p.2 undef))
/-- A loop: by what holds at its head, on values and memory, with a number that goes down. -/
def Lp (vals : List Value) (h : Hp) (body : (List Value → Hp → Prop) → List Value → Hp → Prop) : Prop :=
  ∃ I : Nat → List Value → Hp → Prop, (∃ h0, Hp.le h0 h ∧ ∃ n, I n vals h0) ∧ ∀ n vs h1, I n vs h1 → body (fun vs' h2 => ∃ h0, Hp.le h0 h2 ∧ ∃ m, m < n ∧ I m vs' h0) vs h1
def loopP (body : (Ex → Env → Hp → Prop) → Env → Hp → Prop) (asn : List Nat) (Q : Ex → Env → Hp → Prop) (env : Env) (h : Hp) : Prop :=
  Lp (valsOf (asn.eraseDups.filter fun s => (env.lookup s).isSome) env) h fun nx vs h1 =>
    body (fun e env' h2 => match e with
        | .normal => if ((asn.eraseDups.filter fun s => (env.lookup s).isSome).all fun s => (env'.lookup s).isSome) = true then
            nx (valsOf (asn.eraseDups.filter fun s => (env.lookup s).isSome) env') h2 else False
        | e => Q e env' h2)
      (headOf (asn.eraseDups.filter fun s => (env.lookup s).isSome) vs ++ env.filter fun p => !asn.contains p.1) h1
def envP (ps : List Nat) (args : List Value) (env : Env) : Env := (ps.zip args).foldl (fun e p => (p.1, .val p.2) :: e) env
def allArgs : Nat → (List Value → Prop) → Prop
  | 0, F => F []
  | n + 1, F => ∀ v, allArgs n fun l => F (v :: l)
theorem allArgs_of : ∀ (n : Nat) (F : List Value → Prop), (∀ l, l.length = n → F l) → allArgs n F
  | 0, _, h => h [] rfl
  | n + 1, _, h => fun v => allArgs_of n _ fun l hl => h (v :: l) (by simp [hl])
def anyP {α : Type} : List α → (α → Prop) → Prop
  | [], _ => False
  | [x], f => f x
  | x :: xs, f => f x ∨ anyP xs f
theorem anyP_elim {α : Type} {f : α → Prop} : ∀ {l : List α}, anyP l f → ∃ x ∈ l, f x
  | [], h => h.elim
  | [x], h => ⟨x, List.mem_singleton.2 rfl, h⟩
  | x :: y :: l, h => h.elim (fun h => ⟨x, List.mem_cons_self .., h⟩) fun h => let ⟨z, hz, q⟩ := anyP_elim h; ⟨z, List.mem_cons_of_mem _ hz, q⟩
theorem anyP_mono {α : Type} {f g : α → Prop} (m : ∀ x, f x → g x) : ∀ {l : List α}, anyP l f → anyP l g
  | [], h => h
  | [x], h => m x h
  | x :: _ :: _, h => h.imp (m x) (anyP_mono m)
/-- The ways out of a round's body. -/
def leaves : Code → List (Option Code × Ex)
  | .exit i => [(some (.exit i), .exit i)]
  | .ret => [(some .ret, .ret)]
  | .seq a b => leaves a ++ leaves b
  | .cond _ a b => leaves a ++ leaves b
  | .block id a => (leaves a).filter fun p => match p.2 with
    | .exit i => i != id
    | _ => true
  | .loop a => leaves a
  | .scope a => leaves a
  | _ => []
def out : Ex → Option Code
  | .normal => none
  | .exit i => some (.exit i)
  | .ret => some .ret
theorem leaves_out (c : Code) : ∀ p ∈ leaves c, p.1 = out p.2 := by
  induction c with
  | exit i => simp [leaves, out]
  | ret => simp [leaves, out]
  | seq a b iha ihb => exact fun p hp => (List.mem_append.1 hp).elim (iha p) (ihb p)
  | cond x a b iha ihb => exact fun p hp => (List.mem_append.1 hp).elim (iha p) (ihb p)
  | block id a ih => intro p hp; exact ih p (List.mem_filter.1 hp).1
  | loop a ih => exact ih
  | scope a ih => exact ih
  | _ => intro p hp; cases hp
def iterP (P : Program) (v : Value) (args : List Value) (h : Hp) (K : Value → Hp → Prop) : Prop :=
  match v with
  | .func (.func f) x y => Cn P f (x.toList ++ args ++ y.toList).toArray h K
  | _ => False
/-- A range over a function. L: the loop's record, o: what stands there; the function's contract is asked for, yield's own being given. -/
def rangeP (P : Program) (g : Operand) (ps : List Nat) (lv : List (Option Code × Ex)) (assign body : (Ex → Env → Hp → Prop) → Env → Hp → Prop) (Q : Ex → Env → Hp → Prop) (env : Env) (h : Hp) : Prop :=
  ∀ (L : Nat) (o : LoopState → Option Code → AObj), h L = none →
    (allArgs ps.length fun args => ∀ (h' : Hp) (K : Value → Hp → Prop), h' L = some (o .ready none) →
      (assign (fun e env1 h1 => match e with
        | .normal => body (fun e _ h2 => h2 L = some (o .busy none) ∧ match e with
          | .normal => K (.bool true) (h2.set L (o .ready none))
          | .ret => K (.bool false) (h2.set L (o .done (some .ret)))
          | .exit i => K (.bool false) (h2.set L (o .done (some (.exit i))))) env1 (h1.set L (o .busy none))
        | _ => False) (envP ps args env) (h'.del L)) →
      callP P (.func (.yield L) #[] #[]) args h' K) →
    iterP P (ev env g) [.func (.yield L) #[] #[]] (h.set L (o .ready none)) fun _ h2 =>
        anyP ((none, .normal) :: lv) fun p => ∃ st, st ≠ .busy ∧ h2 L = some (o st p.1) ∧ Q p.2 env (h2.del L)
def vc (P : Program) (N : Nat) (top : Bool) : Code → (Ex → Env → Hp → Prop) → Env → Hp → Prop
  | .skip, Q => Q .normal
  | .label _, Q => Q .normal
  | .region _ ops draw, Q => match draw with
    | false => vcOps P N ops (Q .normal) ops.toList
    | true => vcR P N ops (Q .normal)
  | .seq a b, Q => vc P N top a fun e => match e with
    | .normal => vc P N top b Q
    | e => Q e
  | .cond c x y, Q => fun env h => if env.has c = true then cnd (ev env c) (vc P N top x Q env h) (vc P N top y Q env h) else False
  | .block id c, Q => vc P N top c fun e => match e with
    | .exit i => if i = id then Q .normal else Q (.exit i)
    | e => Q e
  | .loop c, Q => loopP (vc P N top c) (assigned c) Q
  | .exit id, Q => Q (.exit id)
  | .ret, Q => Q .ret
  | .scope c, Q => if top = true then vc P N top c Q else fun _ _ => False
  | .rangeFunc g ps a b, Q => fun env h => if (top && env.has g && ps.toList.all fun p => decide (p < N)) = true then rangeP P g ps.toList (leaves b) (vc P N false a) (vc P N false b) Q env h else False
  | _, _ => fun _ _ => False
/-! ### What isn't assigned stays -/
def Kept (L : List Nat) (env env' : Env) : Prop := ∀ t, t ∉ L → env'.lookup t = env.lookup t
theorem Kept.refl (L : List Nat) (env : Env) : Kept L env env := fun _ _ => rfl
theorem Kept.pute {L : List Nat} {env env' : Env} (k : Kept L env env') {d : Option Nat} (hd : ∀ x, d = some x → x ∈ L) (v : EV) : Kept L env (env'.pute d v) := by
  cases d with
  | none => exact k
  | some d =>
    intro t ht
    have : (t == d) = false := by
      simp only [beq_eq_false_iff_ne]
      exact fun e => ht (e ▸ hd d rfl)
    simp only [Env.pute, List.lookup_cons, this]
    exact k t ht
theorem Kept.put {L : List Nat} {env env' : Env} (k : Kept L env env') {d : Option Nat} (hd : ∀ x, d = some x → x ∈ L) (v : Value) : Kept L env (env'.put d v) := k.pute hd _
theorem Kept.skip {L : List Nat} {env env' : Env} (k : Kept L env env') {d : Option Nat} (hd : ∀ x, d = some x → x ∈ L) : Kept L env (env'.skip d) := k.pute hd _
theorem Kept.mono {L L' : List Nat} {env env' : Env} (k : Kept L env env') (m : ∀ x ∈ L, x ∈ L') : Kept L' env env' := fun t ht => k t fun h => ht (m t h)
theorem Kept.trans {L : List Nat} {e1 e2 e3 : Env} (a : Kept L e1 e2) (b : Kept L e2 e3) : Kept L e1 e3 := fun t ht => (b t ht).trans (a t ht)
theorem gd_mono {v : Value} {want : Bool} {X X' Y Y' : Prop} (hX : X → X') (hY : Y → Y') (g : gd v want X Y) : gd v want X' Y' := by
  unfold gd at *
  cases v <;> first | exact g.elim | exact hY g | skip
  case bool b =>
    dsimp only at g ⊢
    split at g
    · rename_i hb; rw [if_pos hb]; exact hX g
    · rename_i hb; rw [if_neg hb]; exact hY g
theorem guardP_mono {ops : Array Oper} {env : Env} {o : Oper} {L : List Nat} {e0 : Env} (hl : ∀ (j : Nat) (o : Oper), ops[j]? = some o → ∀ d, o.dst = some d → d ∈ L) (k : Kept L e0 env) {X X' Y Y' : Env → Prop}
    (hX : ∀ env, Kept L e0 env → X env → X' env) (hY : ∀ env, Kept L e0 env → Y env → Y' env) (g : guardP ops env o X Y) : guardP ops env o X' Y' := by
  unfold guardP at *
  cases hg : o.guard with
  | none => simp only [hg] at g ⊢; exact hX _ k g
  | some p =>
    obtain ⟨j, want⟩ := p
    simp only [hg] at g ⊢
    cases hd : (ops[j]?).bind (·.dst) with
    | none => simp only [hd] at g ⊢; exact hY _ k g
    | some t =>
      have ht : t ∈ L := by
        cases hj : ops[j]? with
        | none => rw [hj] at hd; cases hd
        | some oj => rw [hj] at hd; exact hl j oj hj t hd
      simp only [hd] at g ⊢
      cases hl : env.lookup t with
      | none => rw [hl] at g; exact g.elim
      | some x =>
        rw [hl] at g
        cases x with
        | skipped => exact hY _ k g
        | val v => exact gd_mono (hX _ (k.pute (d := some t) (by rintro _ ⟨⟩; exact ht) _)) (hY _ (k.pute (d := some t) (by rintro _ ⟨⟩; exact ht) _)) g
theorem vcOps_kept {P : Program} {N : Nat} {ops : Array Oper} {Q Q' : Env → Hp → Prop} {L : List Nat} {e0 : Env} (m : ∀ env h, Kept L e0 env → Q env h → Q' env h)
    (hall : ∀ (j : Nat) (o : Oper), ops[j]? = some o → ∀ d, o.dst = some d → d ∈ L) (l : List Oper) (hl : ∀ o ∈ l, ∀ d, o.dst = some d → d ∈ L) :
    ∀ env h, Kept L e0 env → vcOps P N ops Q l env h → vcOps P N ops Q' l env h := by
  induction l with
  | nil => exact fun env h k q => m env h k q
  | cons o rest ih =>
    intro env h k q
    have ho := hl o (List.mem_cons_self ..)
    have hr := fun o' h' => hl o' (List.mem_cons_of_mem _ h')
    refine guardP_mono hall k (fun env k q => stepP_mono (fun v h' q => ih hr _ _ (k.put ho v) q) q) (fun env k q => ?_) q
    split at q
    · rename_i hd; rw [if_pos hd]; exact ih hr _ _ (k.skip ho) q
    · exact q.elim
theorem allP_mono {f g : Nat → Prop} (m : ∀ x, f x → g x) : ∀ {l : List Nat}, allP f l → allP g l
  | [], _ => trivial
  | [x], q => m x q
  | x :: _ :: _, q => ⟨m x q.1, allP_mono m q.2⟩
theorem vcD_kept {P : Program} {N : Nat} {ops : Array Oper} {B ms qs : List Nat} {Q Q' : Env → Hp → Prop} {L : List Nat} {e0 : Env} (m : ∀ env h, Kept L e0 env → Q env h → Q' env h)
    (hl : ∀ (i : Nat) (o : Oper), ops[i]? = some o → ∀ d, o.dst = some d → d ∈ L) :
    ∀ fuel mk J env h, Kept L e0 env → vcD P N ops B ms qs Q fuel mk J env h → vcD P N ops B ms qs Q' fuel mk J env h := by
  intro fuel
  induction fuel with
  | zero =>
    intro mk J env h k q
    simp only [vcD] at q ⊢
    split at q
    · rename_i he; rw [if_pos he]; exact m env h k q
    · exact q.elim
  | succ fuel ih =>
    intro mk J env h k q
    simp only [vcD] at q ⊢
    split
    · rename_i i hf
      rw [hf] at q
      dsimp only at q
      split
      · rename_i o ho
        rw [ho] at q
        have hd := hl i o ho
        refine guardP_mono hl k (fun env k q => ?_) (fun env k q => (by split at q <;> first | exact q.elim | (rename_i hdk; rw [if_pos hdk]; exact ih _ _ _ _ (k.skip hd) q))) q
        split
        · rename_i hfit
          rw [if_pos hfit] at q
          split at q
          · exact ih _ _ _ _ (k.put hd _) q
          · obtain ⟨t, hc, q⟩ := pickP_elim q
            subst hc
            exact ih _ _ _ _ (k.put hd _) q
          · split at q
            · rename_i hrm
              obtain ⟨v, e, q⟩ := withVal_elim q
              rw [if_pos hrm, q_of e]
              exact ih _ _ _ _ (k.put hd v) q
            · rename_i hrm
              obtain ⟨v, e, q⟩ := withVal_elim q
              rw [if_neg hrm, q_of e]
              exact ih _ _ _ _ (k.put hd v) q
          · exact q.elim
        · rename_i hfit
          rw [if_neg hfit] at q
          exact q
      · rename_i ho
        rw [ho] at q
        exact q
    · rename_i hf
      rw [hf] at q
      dsimp only at q
      split
      · rename_i he
        rw [he] at q
        exact m env h k q
      · split at q
        · exfalso; simp_all
        · refine allP_mono (fun j q => ?_) q
          split
          · rename_i o ho
            rw [ho] at q
            have hd := hl j o ho
            refine guardP_mono hl k (fun env k q => stepP_mono (fun v h' q => ?_) q) (fun env k q => (by split at q <;> first | exact q.elim | (rename_i hdk; rw [if_pos hdk]; exact ih _ _ _ _ (k.skip hd) q))) q
            obtain ⟨q1, q2⟩ := recheck_spec q
            exact recheck_mk q1 (ih _ _ _ _ (k.put hd v) q2)
          · rename_i ho
            rw [ho] at q
            exact q
theorem mem_dsts {ops : Array Oper} {o : Oper} (ho : o ∈ ops.toList) {d : Nat} (hd : o.dst = some d) : d ∈ dsts ops := List.mem_filterMap.2 ⟨o, ho, hd⟩
theorem lookup_filter (asn : List Nat) (env : Env) (t : Nat) (ht : t ∉ asn) : (env.filter fun p => !asn.contains p.1).lookup t = env.lookup t := by
  induction env with
  | nil => rfl
  | cons p env ih =>
    simp only [List.filter_cons]
    by_cases hp : asn.contains p.1 = true
    · have hne : (t == p.1) = false := by
        simp only [beq_eq_false_iff_ne]
        rintro rfl
        exact ht (by simpa using hp)
      rw [if_neg (by rw [hp]; simp), ih, lk_cons, hne]
      rfl
    · rw [if_pos (by simpa using hp), lk_cons, lk_cons, ih]
theorem lookup_append (a b : Env) (t : Nat) : (a ++ b).lookup t = (a.lookup t).or (b.lookup t) := by
  induction a with
  | nil => simp
  | cons p a ih =>
    rw [List.cons_append, lk_cons, lk_cons, ih]
    split <;> rfl
theorem lookup_headOf {L : List Nat} {vs : List Value} {t : Nat} {v : EV} (h : (headOf L vs).lookup t = some v) : ∃ i, L[i]? = some t ∧ v = .val (vs.getD i undef) := by
  unfold headOf at h
  have : ∀ (l : List (Nat × Nat)), (∀ p ∈ l, L[p.2]? = some p.1) → (l.map fun p => (p.1, EV.val (vs.getD p.2 undef))).lookup t = some v → ∃ i, L[i]? = some t ∧ v = .val (vs.getD i undef) := by
    intro l
    induction l with
    | nil => intro _ hh; cases hh
    | cons p l ih =>
      intro hl hh
      rw [List.map_cons, lk_cons] at hh
      split at hh
      · rename_i e
        simp only [beq_iff_eq] at e
        exact ⟨p.2, by rw [e]; exact hl p (List.mem_cons_self ..), (Option.some.inj hh).symm⟩
      · exact ih (fun p hp => hl p (List.mem_cons_of_mem _ hp)) hh
  refine this _ (fun p hp => ?_) h
  have := List.mem_zipIdx_iff_getElem?.1 hp
  exact this
theorem headOf_none {L : List Nat} {vs : List Value} {t : Nat} (ht : t ∉ L) : (headOf L vs).lookup t = none := by
  cases h : (headOf L vs).lookup t with
  | none => rfl
  | some v =>
    obtain ⟨i, hi, _⟩ := lookup_headOf h
    exact absurd (List.mem_of_getElem? hi) ht
theorem headKept (asn : List Nat) (L : List Nat) (hL : ∀ x ∈ L, x ∈ asn) (env : Env) (vs : List Value) : Kept asn env (headOf L vs ++ env.filter fun p => !asn.contains p.1) := by
  intro t ht
  rw [lookup_append, headOf_none (fun h => ht (hL t h)), lookup_filter asn env t ht]
  rfl
theorem vc_kept {P : Program} {N : Nat} {top : Bool} (c : Code) : ∀ (L : List Nat) (e0 : Env) (Q Q' : Ex → Env → Hp → Prop) (env : Env) (h : Hp), (∀ x ∈ assigned c, x ∈ L) → Kept L e0 env →
    (∀ e env h, Kept L e0 env → Q e env h → Q' e env h) → vc P N top c Q env h → vc P N top c Q' env h := by
  induction c with
  | skip => exact fun L e0 Q Q' env h _ k m q => m _ _ _ k q
  | label l => exact fun L e0 Q Q' env h _ k m q => m _ _ _ k q
  | exit l => exact fun L e0 Q Q' env h _ k m q => m _ _ _ k q
  | ret => exact fun L e0 Q Q' env h _ k m q => m _ _ _ k q
  | goto l => exact fun L e0 Q Q' env h _ k m q => q.elim
  | refuse l => exact fun L e0 Q Q' env h _ k m q => q.elim
  | rangeFunc f p a b =>
    intro L e0 Q Q' env h _ k m q
    simp only [vc] at q ⊢
    split at q
    · rename_i hc
      rw [if_pos hc]
      intro L1 o hL hY
      have q := q L1 o hL hY
      unfold iterP at q ⊢
      split at q
      · exact q.mono fun _ h2 z => anyP_mono (fun p ⟨st, h1, h2, h3⟩ => ⟨st, h1, h2, m _ _ _ k h3⟩) z
      · exact q.elim
    · exact q.elim
  | region id ops draw =>
    intro L e0 Q Q' env h hL k m q
    cases draw with
    | false => exact vcOps_kept (m .normal) (fun i o ho d hd => hL d (mem_dsts (by simpa using Array.mem_of_getElem? ho) hd)) _ (fun o ho d hd => hL d (mem_dsts ho hd)) env h k q
    | true =>
      simp only [vc, vcR] at q ⊢
      split at q
      · rename_i hc
        rw [if_pos hc]
        exact vcD_kept (m .normal) (fun i o ho d hd => hL d (mem_dsts (by simpa using Array.mem_of_getElem? ho) hd)) _ _ _ _ _ k q
      · exact q.elim
  | seq a b iha ihb =>
    intro L e0 Q Q' env h hL k m q
    refine iha L e0 _ _ env h (fun x hx => hL x (List.mem_append_left _ hx)) k (fun e env h k q => ?_) q
    cases e with
    | normal => exact ihb L e0 Q Q' env h (fun x hx => hL x (List.mem_append_right _ hx)) k m q
    | exit id => exact m _ _ _ k q
    | ret => exact m _ _ _ k q
  | cond c x y ihx ihy =>
    intro L e0 Q Q' env h hL k m q
    simp only [vc] at q ⊢
    split at q
    · rename_i hc
      rw [if_pos hc]
      unfold cnd at q ⊢
      split at q
      · split at q
        · rename_i hb; rw [if_pos hb]; exact ihx L e0 Q Q' env h (fun x hx => hL x (List.mem_append_left _ hx)) k m q
        · rename_i hb; rw [if_neg hb]; exact ihy L e0 Q Q' env h (fun x hx => hL x (List.mem_append_right _ hx)) k m q
      · exact q.elim
    · exact q.elim
  | block id c ih =>
    intro L e0 Q Q' env h hL k m q
    refine ih L e0 _ _ env h hL k (fun e env h k q => ?_) q
    cases e with
    | normal => exact m _ _ _ k q
    | exit i =>
      dsimp only at q ⊢
      split at q
      · rename_i e; rw [if_pos e]; exact m _ _ _ k q
      · rename_i e; rw [if_neg e]; exact m _ _ _ k q
    | ret => exact m _ _ _ k q
  | scope c ih =>
    intro L e0 Q Q' env h hL k m q
    simp only [vc] at q ⊢
    split at q
    · rename_i ht; rw [if_pos ht]; exact ih L e0 Q Q' env h hL k m q
    · exact q.elim
  | loop c ih =>
    intro L e0 Q Q' env h hL k m q
    obtain ⟨I, h0, hI⟩ := q
    refine ⟨I, h0, fun n vs h1 hi => ih L e0 _ _ _ _ hL ?_ (fun e env' h2 k q => ?_) (hI n vs h1 hi)⟩
    · refine k.trans (Kept.mono (headKept (assigned c) _ (fun x hx => ?_) env vs) hL)
      have := (List.mem_filter.1 hx).1
      exact List.mem_eraseDups.1 this
    · cases e with
      | normal => exact q
      | exit id => exact m _ _ _ k q
      | ret => exact m _ _ _ k q
/-! ### That it suffices -/
theorem least {p : Nat → Prop} (h : ∃ n, p n) : ∃ n, p n ∧ ∀ m, p m → n ≤ m := by
  obtain ⟨n, hn⟩ := h
  induction n using Nat.strongRecOn with
  | _ n ih =>
    by_cases q : ∃ m, m < n ∧ p m
    · obtain ⟨m, hm, pm⟩ := q
      exact ih m hm pm
    · exact ⟨n, hn, fun m pm => Nat.le_of_not_lt fun hlt => q ⟨m, hlt, pm⟩⟩
theorem clo_nil (B : List Nat) (n : Nat) : Clo B (Array.replicate n false) := by
  intro k k' hk _
  exfalso
  rcases Nat.lt_or_ge k n with h | h
  · simp [h] at hk
  · simp [Nat.not_lt.2 h] at hk
theorem mrel_nil (ops : Array Oper) : Mrel ops 0 (Array.replicate ops.size false) := by
  refine ⟨by simp, fun i => ?_⟩
  rw [Nat.zero_testBit]
  rcases Nat.lt_or_ge i ops.size with h | h
  · simp [h]
  · simp [Nat.not_lt.2 h]
theorem le_none {h h' : Hp} (l : Hp.le h h') {b : Nat} (e : h' b = none) : h b = none := by
  cases hb : h b with
  | none => rfl
  | some o => obtain ⟨o', e', _⟩ := l b o hb; rw [e] at e'; cases e'
theorem le_set {h h' : Hp} (l : Hp.le h h') {b : Nat} {o : AObj} : Hp.le (h.set b o) (h'.set b o) := by
  intro i x hx
  by_cases e : i = b
  · subst e; rw [Hp.set_same] at hx ⊢; exact ⟨x, hx, .refl _⟩
  · rw [Hp.set_ne _ _ e] at hx ⊢; exact l i x hx
theorem AObj.le.trans {a b c : AObj} (x : AObj.le a b) (y : AObj.le b c) : AObj.le a c := by
  cases a <;> cases b <;> simp only [AObj.le] at x <;> cases c <;> simp only [AObj.le] at y ⊢
  · obtain ⟨rfl, rfl, p, f⟩ := x
    obtain ⟨rfl, rfl, p', f'⟩ := y
    refine ⟨rfl, rfl, p.trans p', ?_⟩
    rcases f with rfl | rfl
    · exact f'
    · exact .inr rfl
  · exact x.trans y
theorem Hp.le.trans {a b c : Hp} (x : Hp.le a b) (y : Hp.le b c) : Hp.le a c := fun i o e =>
  let ⟨o', e', l⟩ := x i o e
  let ⟨o2, e2, l2⟩ := y i o' e'
  ⟨o2, e2, l.trans l2⟩
theorem le_fresh {h : Hp} {r : Nat} {o : AObj} (hr : h r = none) : Hp.le h (h.set r o) := fun i x e => by
  have : i ≠ r := by rintro rfl; rw [hr] at e; cases e
  exact ⟨x, by rw [Hp.set_ne _ _ this]; exact e, .refl _⟩
theorem Hp.del_ne (h : Hp) {b i : Nat} (n : i ≠ b) : (h.del b) i = h i := by simp [Hp.del, n]
theorem Hp.del_same (h : Hp) (b : Nat) : (h.del b) b = none := by simp [Hp.del]
theorem del_sat {h : Hp} {w : World} (s : h.sat w) (L : Nat) (x : Obj) : (h.del L).sat (w.putObj L x) := by
  intro i o e
  have hi : i ≠ L := by rintro rfl; rw [Hp.del_same] at e; cases e
  rw [Hp.del_ne _ hi] at e
  obtain ⟨y, hy, hm⟩ := s i o e
  exact ⟨y, by rw [World.putObj_heap_other hi]; exact hy, hm⟩
theorem del_sat0 {h : Hp} {w : World} (s : h.sat w) (L : Nat) : (h.del L).sat w := by
  intro i o e
  have hi : i ≠ L := by rintro rfl; rw [Hp.del_same] at e; cases e
  rw [Hp.del_ne _ hi] at e
  exact s i o e
/-- What isn't known, and is no cells, isn't known later, and lies as it lay. -/
theorem none_keep {h h' : Hp} {w w' : World} (f : Fr h h' w w') (s' : h'.sat w') {b : Nat} {o : Obj} (hb : h b = none) (hw : w.heap[b]? = some o) (hc : isCells o = false) : h' b = none ∧ w'.heap[b]? = some o := by
  have hlt : b < w.heap.size := (Array.getElem?_eq_some_iff.1 hw).1
  have hno : ¬ h.own b := by rintro ⟨x, e, _⟩; rw [hb] at e; cases e
  have hk : w'.heap[b]? = some o := by rw [f.keep b hlt hno]; exact hw
  refine ⟨?_, hk⟩
  cases e : h' b with
  | none => rfl
  | some x =>
    obtain ⟨y, hy, hm⟩ := s' b x e
    rw [hk] at hy
    cases hy
    cases x with
    | row e vs cap fz => cases o <;> first | exact hm.elim | cases hc
    | obj o' =>
      rcases f.dom b ⟨_, e, rfl⟩ with q | q
      · exact absurd q hno
      · omega
theorem none_put {h : Hp} {w : World} (s : h.sat w) {L : Nat} (hL : h L = none) (x : Obj) : h.sat (w.putObj L x) := by
  intro i o e
  have hi : i ≠ L := by rintro rfl; rw [hL] at e; cases e
  obtain ⟨y, hy, hm⟩ := s i o e
  exact ⟨y, by rw [World.putObj_heap_other hi]; exact hy, hm⟩
/-- Marks of ranges over functions. -/
def mark (D : Nat) : Deferred := { target := .collected D, args := #[] }
def Mks (B : Nat) (h : Hp) (w : World) (ds : List Deferred) : Prop :=
  ∃ Ls : List Nat, ds = Ls.map mark ∧ Ls.Nodup ∧ ∀ D ∈ Ls, B ≤ D ∧ h D = none ∧ w.heap[D]? = some (.deferred (some []))
theorem Mks.step {B : Nat} {h h' : Hp} {w w' : World} {ds : List Deferred} (k : Mks B h w ds) (f : Fr h h' w w') (s' : h'.sat w') : Mks B h' w' ds := by
  obtain ⟨Ls, e, n, q⟩ := k
  exact ⟨Ls, e, n, fun D hD => ⟨(q D hD).1, none_keep f s' (q D hD).2.1 (q D hD).2.2 rfl⟩⟩
def Ok (B N : Nat) (env : Env) (h : Hp) (a : Act) (w : World) : Prop := h.sat w ∧ B ≤ w.heap.size ∧ ∃ ds, Env.ok env N ds a ∧ Mks B h w ds
theorem Ok.step {B N : Nat} {env' : Env} {h h' : Hp} {a' : Act} {w w' : World} {ds : List Deferred} (k : B ≤ w.heap.size) (mk : Mks B h w ds) (k' : Env.ok env' N ds a') (s' : h'.sat w') (f : Fr h h' w w') : Ok B N env' h' a' w' :=
  ⟨s', Nat.le_trans k f.size, ds, k', mk.step f s'⟩
theorem Ok.weaken {B N : Nat} {env : Env} {h h0 : Hp} {a : Act} {w : World} (k : Ok B N env h a w) (l : Hp.le h0 h) : Ok B N env h0 a w := by
  obtain ⟨s, hB, ds, ke, Ls, e, n, q⟩ := k
  exact ⟨l.sat s, hB, ds, ke, Ls, e, n, fun D hD => ⟨(q D hD).1, le_none l (q D hD).2.1, (q D hD).2.2⟩⟩
theorem envP_ok {N : Nat} : ∀ (ps : List Nat) (args : List Value) (env : Env) (tmps : Array Value), (∀ p ∈ ps, p < N) → tmps.size = N → (∀ t x, env.lookup t = some x → tmps[t]? = some x.get) →
    Env.ok (envP ps args env) N [] { tmps := (ps.zip args).foldl (fun t p => t.setIfInBounds p.1 p.2) tmps, defers := [] } := by
  intro ps
  induction ps with
  | nil => exact fun args env tmps _ hs he => ⟨hs, rfl, he⟩
  | cons p ps ih =>
    intro args env tmps hp hs he
    cases args with
    | nil => exact ⟨hs, rfl, he⟩
    | cons v args =>
      have k0 : Env.ok env N [] { tmps := tmps, defers := [] } := ⟨hs, rfl, he⟩
      have k1 := k0.put (d := some p) (by rintro _ ⟨⟩; exact hp p (List.mem_cons_self ..)) v
      exact ih args ((p, .val v) :: env) (tmps.setIfInBounds p v) (fun q hq => hp q (List.mem_cons_of_mem _ hq)) (by simpa using hs) k1.2.2
theorem zip_fold (ps : Array Nat) (args : List Value) (tmps : Array Value) : (ps.zip args.toArray).foldl (fun t (p, v) => t.setIfInBounds p v) tmps = (ps.toList.zip args).foldl (fun t p => t.setIfInBounds p.1 p.2) tmps := by
  rw [← Array.foldl_toList, Array.toList_zip]
theorem pk_callFunc {P : Program} {f : FuncId} (c : Callable P f) (args : Array Value) (h : Hp) : peek P h (callFunc f args) = some (.enter f args) := by
  obtain ⟨fn, hf, hb, hn⟩ := c
  show peek P h (match P.funcs[f]? with
    | none => _
    | some fn => _) = _
  rw [hf]
  dsimp only
  rw [if_neg (by simp [hn]), if_neg (by simp [hb])]
  rfl
abbrev VcSound (P : Program) (N : Nat) (c : Code) : Prop := ∀ (top : Bool) (ro : Option Nat) (B : Nat), (top = true → ro = none) → ∀ (Q : Ex → Env → Hp → Prop) (env : Env) (h : Hp) (a : Act) (w : World) (R : Exit → Act → World → Prop),
    Ok B N env h a w → vc P N top c Q env h → (∀ c a w, ¬ R (.panic c) a w) →
    (∀ e env' h' a' w', Ok B N env' h' a' w' → Fr h h' w w' → Q e env' h' → R e.to a' w') → c.wpIn (Fz ro) 0 P R a w
theorem round_sound {P : Program} {N : Nat} {x b : Code} (iha : VcSound P N x) (ihb : VcSound P N b) {env : Env} {L : Nat} {ps : Array Nat} {hps : ∀ p ∈ ps.toList, p < N} {tmps : Array Value} (hs : tmps.size = N)
    (he : ∀ t x, env.lookup t = some x → tmps[t]? = some x.get) (rec : LoopState → Option Code → Loop) (hr : ∀ st pe, rec st pe = { state := st, pending := pe, fn := (rec st pe).fn, tmps := tmps, params := ps, assign := x, body := b, defers := (rec st pe).defers })
    (hf : ∃ fn D, ∀ st pe, (rec st pe).fn = fn ∧ (rec st pe).defers = D) (args : List Value) (h' : Hp) (K : Value → Hp → Prop) (hl : h' L = some (.obj (.loop (rec .ready none)))) (hlen : args.length = ps.toList.length)
    (qa : vc P N false x (fun e env1 h1 => match e with
        | .normal => vc P N false b (fun e _ h2 => h2 L = some (.obj (.loop (rec .busy none))) ∧ match e with
          | .normal => K (.bool true) (h2.set L (.obj (.loop (rec .ready none))))
          | .ret => K (.bool false) (h2.set L (.obj (.loop (rec .done (some .ret)))))
          | .exit i => K (.bool false) (h2.set L (.obj (.loop (rec .done (some (.exit i))))))) env1 (h1.set L (.obj (.loop (rec .busy none))))
        | _ => False) (envP ps.toList args env) (h'.del L)) : callP P (.func (.yield L) #[] #[]) args h' K := by
  obtain ⟨fn, D, hf⟩ := hf
  have hrec : ∀ st pe, rec st pe = { state := st, pending := pe, fn := fn, tmps := tmps, params := ps, assign := x, body := b, defers := D } := fun st pe => by
    have := hr st pe
    rw [(hf st pe).1, (hf st pe).2] at this
    exact this
  show awp P (Instr.yield L args.toArray) (nextP P K) h'
  have hg : peek P h' (Instr.getLoop L) = some (rec .ready none) := by
    show peek P h' (Sem.bind (getObj L) _) = _
    rw [peek_bind]
    have : peek P h' (getObj L) = some (.loop (rec .ready none)) := by simp [peek, getObj, hl]
    rw [this]
    rfl
  show awp P (Sem.bind (Instr.getLoop L) _) _ h'
  rw [awp_bind, peek_awp P _ _ _ hg]
  dsimp only
  have hsz : args.toArray.size = (rec .ready none).params.size := by rw [hrec]; simpa using hlen
  show awp P (if args.toArray.size ≠ (rec .ready none).params.size then _ else _) _ h'
  rw [if_neg (by simp [hsz])]
  rw [hrec]
  show Rd P L fn ((ps.zip args.toArray).foldl (fun t (p, v) => t.setIfInBounds p v) tmps) x b h' K
  rw [zip_fold]
  intro w' s'
  have k0 := envP_ok ps.toList args env tmps hps hs he
  have hx0 : w'.heap[L]? = some (.loop (rec .ready none)) := by
    obtain ⟨y, hy, hm⟩ := s' L _ hl
    rw [hy, hm.1]
  refine roundIn_of_wpIn trivial ?_
  refine iha false (some L) 0 (by simp) _ _ (h'.del L) _ w' _ ⟨del_sat0 s' L, Nat.zero_le _, [], k0, [], rfl, List.nodup_nil, by simp⟩ qa (fun c a w z => z) (fun e env1 h1 a1 w2 k1 f1 q1 => ?_)
  cases e with
  | exit i => exact q1.elim
  | ret => exact q1.elim
  | normal =>
    obtain ⟨s1, _, ds, ke1, Ls, rfl, hn, hLs⟩ := k1
    obtain ⟨hn1, hx1⟩ := none_keep f1 s1 (Hp.del_same h' L) hx0 rfl
    refine ⟨_, run_beginRound hx1 (by rw [hrec]), ?_⟩
    have hlt1 : L < w2.heap.size := (Array.getElem?_eq_some_iff.1 hx1).1
    have hbz : ({ rec .ready none with state := .busy } : Loop) = rec .busy none := by rw [hrec, hrec]
    rw [hbz]
    refine ihb false (some L) 0 (by simp) _ env1 (h1.set L (.obj (.loop (rec .busy none)))) a1 _ _ ⟨sat_set s1 hlt1 ⟨rfl, rfl⟩, Nat.zero_le _, _, ke1, Ls, rfl, hn, fun D hD => ?_⟩ q1 (fun c a w z => z) (fun e env2 h2 a2 w4 k2 f2 q2 => ?_)
    · have hne : D ≠ L := by rintro rfl; have := (hLs D hD).2.2; rw [hx1] at this; cases this
      refine ⟨Nat.zero_le _, by rw [Hp.set_ne _ _ hne]; exact (hLs D hD).2.1, ?_⟩
      rw [World.putObj_heap_other hne]
      exact (hLs D hD).2.2
    · obtain ⟨q0, q2⟩ := q2
      have hx2 : w4.heap[L]? = some (.loop (rec .busy none)) := by
        obtain ⟨y, hy, hm⟩ := k2.1 L _ q0
        rw [hy, hm.1]
      have hlt2 : L < w4.heap.size := (Array.getElem?_eq_some_iff.1 hx2).1
      have fin : ∀ (r : Loop), (h2.set L (.obj (.loop r))).sat (w4.putObj L (.loop r)) ∧ Fr h' (h2.set L (.obj (.loop r))) w' (w4.putObj L (.loop r)) := by
        intro r
        refine ⟨sat_set k2.1 hlt2 ⟨rfl, rfl⟩, ⟨f2.os.trans f1.os, f2.tape.trans f1.tape, f2.output.trans f1.output, ?_, fun i hi hno => ?_, fun i hi => ?_⟩⟩
        · have := f1.size; have := f2.size; simp at *; omega
        · have hiL : i ≠ L := by rintro rfl; exact hno ⟨_, hl, rfl⟩
          have hno0 : ¬ (h'.del L).own i := by rintro ⟨y, e, hr⟩; rw [Hp.del_ne _ hiL] at e; exact hno ⟨y, e, hr⟩
          have hlt' : i < w2.heap.size := Nat.lt_of_lt_of_le hi f1.size
          have hno1 : ¬ (h1.set L (.obj (.loop (rec .busy none)))).own i := fun q => by
            obtain ⟨y, e, hr⟩ := q
            rw [Hp.set_ne _ _ hiL] at e
            rcases f1.dom i ⟨y, e, hr⟩ with q | q
            · exact hno0 q
            · omega
          rw [World.putObj_heap_other hiL, f2.keep i (by simpa using hlt') hno1, World.putObj_heap_other hiL, f1.keep i hi hno0]
        · by_cases hiL : i = L
          · subst hiL; exact .inl ⟨_, hl, rfl⟩
          · obtain ⟨y, e, hr⟩ := hi
            rw [Hp.set_ne _ _ hiL] at e
            rcases f2.dom i ⟨y, e, hr⟩ with q | q
            · obtain ⟨y, e, hr⟩ := q
              rw [Hp.set_ne _ _ hiL] at e
              rcases f1.dom i ⟨y, e, hr⟩ with q | q
              · obtain ⟨y, e, hr⟩ := q
                rw [Hp.del_ne _ hiL] at e
                exact .inl ⟨y, e, hr⟩
              · exact .inr q
            · have := f1.size; simp at q; exact .inr (by omega)
      cases e with
      | normal =>
        refine ⟨_, _, run_endRound none hx2, _, _, rfl, (fin _).1, (fin _).2, ?_⟩
        dsimp only at q2
        rw [hrec] at q2 ⊢
        exact q2
      | ret =>
        refine ⟨_, _, run_endRound (some .ret) hx2, _, _, rfl, (fin _).1, (fin _).2, ?_⟩
        dsimp only at q2
        rw [hrec] at q2 ⊢
        exact q2
      | exit i =>
        refine ⟨_, _, run_endRound (some (.exit i)) hx2, _, _, rfl, (fin _).1, (fin _).2, ?_⟩
        dsimp only at q2
        rw [hrec] at q2 ⊢
        exact q2
theorem range_sound {P : Program} {N : Nat} {g : Operand} {ps : Array Nat} {x b : Code} (iha : VcSound P N x) (ihb : VcSound P N b) : VcSound P N (.rangeFunc g ps x b) := by
  intro top ro B ht Q env h a w R k q hR m
  simp only [vc] at q
  split at q
  case isFalse => exact q.elim
  rename_i hc
  simp only [Bool.and_eq_true] at hc
  obtain ⟨⟨htop, hg⟩, hps⟩ := hc
  obtain rfl := ht htop
  obtain ⟨s, hB, ds, ke, Ls, rfl, hn, hLs⟩ := k
  refine wpIn_rangeFunc fun fn _ => ?_
  obtain ⟨rec, hrec⟩ : ∃ rec : LoopState → Option Code → Loop, rec = fun st pe => { state := st, pending := pe, fn, tmps := a.tmps, params := ps, assign := x, body := b, defers := w.heap.size } := ⟨_, rfl⟩
  obtain ⟨hn0, s0, f0⟩ := new_sound s (.deferred (some []))
  obtain ⟨hn1, s1, f1⟩ := new_sound s0 (.loop (rec .ready none))
  have hsz : (w.heap.push (.deferred (some []))).size = w.heap.size + 1 := by simp
  dsimp only at hn1 s1 f1
  rw [hsz] at hn1 s1 f1
  obtain ⟨w1, hw1⟩ : ∃ w1 : World, (w.alloc (.deferred (some []))).alloc (.loop (rec .ready none)) = w1 := ⟨_, rfl⟩
  have hL : h (w.heap.size + 1) = none := by rw [Hp.set_ne _ _ (by omega)] at hn1; exact hn1
  have le : Hp.le (h.set (w.heap.size + 1) (.obj (.loop (rec .ready none)))) ((h.set w.heap.size (absOf (.deferred (some [])))).set (w.heap.size + 1) (.obj (.loop (rec .ready none)))) := le_set (le_fresh hn0)
  have s2 : (h.set (w.heap.size + 1) (.obj (.loop (rec .ready none)))).sat w1 := by rw [← hw1]; exact le.sat s1
  have f2 : Fr h (h.set (w.heap.size + 1) (.obj (.loop (rec .ready none)))) w w1 := by rw [← hw1]; exact (f0.trans f1).weaken le
  have hD : w1.heap[w.heap.size]? = some (.deferred (some [])) := by
    rw [← hw1]
    show ((w.heap.push _).push _)[w.heap.size]? = _
    simp [Array.getElem?_push]
  have hz1 : w1.heap.size = w.heap.size + 2 := by rw [← hw1]; show ((w.heap.push _).push _).size = _; simp
  have q := q (w.heap.size + 1) (fun st pe => .obj (.loop (rec st pe))) hL (allArgs_of _ _ fun args hlen h' K hl hh => by
    refine round_sound (hps := fun p hp => by simpa using List.all_eq_true.1 hps p hp) iha ihb ke.1 ke.2.2 rec (fun st pe => by rw [hrec]) ⟨fn, w.heap.size, fun st pe => by rw [hrec]; exact ⟨rfl, rfl⟩⟩ args h' K hl hlen hh)
  unfold iterP at q
  split at q
  case h_2 => exact q.elim
  rename_i f y z hgv
  refine ⟨w.heap.size + 1, [mark w.heap.size], w1, { target := .fn (.func f) z, args := y ++ #[.func (.yield (w.heap.size + 1)) #[] #[]] }, w1, f, (y.toList ++ [Value.func (.yield (w.heap.size + 1)) #[] #[]] ++ z.toList).toArray, w1,
    ?_, ?_, fun _ _ => trivial, ?_, fun e => (by cases e), ?_⟩
  · rw [← hw1, hrec]; exact run_enterLoop_outer _ _ _ _ _
  · simp only [resolve, ke.eval hg, hgv, Deferred.ofValue]
    rw [show Array.map a.eval #[Operand.const (Value.func (.yield (w.heap.size + 1)) #[] #[])] = #[Value.func (.yield (w.heap.size + 1)) #[] #[]] from by simp [Act.eval]]
    rfl
  · have e1 : (y.toList ++ [Value.func (.yield (w.heap.size + 1)) #[] #[]] ++ z.toList).toArray = (y ++ #[.func (.yield (w.heap.size + 1)) #[] #[]]) ++ z := by
      apply Array.ext'; simp
    rw [e1]
    exact peek_run P _ _ _ (emp_sat w1) (pk_callFunc q.1 _ emp)
  · refine CallsIn.mono (callsIn_wide.2 (q.2 w1 s2)) ?_
    rintro e w3 ⟨v, h2, rfl, s3, f3, qq⟩
    obtain ⟨⟨pe, ex⟩, hmem, st, hst, hl2, q2⟩ := anyP_elim qq
    dsimp only at hl2 q2
    have hpe : pe = out ex := by
      rcases List.mem_cons.1 hmem with e | hm
      · cases e; rfl
      · exact leaves_out b _ hm
    obtain ⟨y2, hy2, hm2⟩ := s3 _ _ hl2
    obtain rfl := hm2.1
    have hrs : (rec st pe).state = st := by rw [hrec]
    have hrp : (rec st pe).pending = pe := by rw [hrec]
    obtain ⟨X, hend⟩ : ∃ X, (Instr.endLoop (w.heap.size + 1)).run P w3 = .ok pe (w3.putObj (w.heap.size + 1) X) := ⟨_, by
      have hend := run_endLoop (P := P) hy2 (by rw [hrs]; exact hst)
      rw [hrp] at hend
      exact hend⟩
    refine ⟨pe, _, hend, ?_⟩
    have hDne : w.heap.size ≠ w.heap.size + 1 := by omega
    have k5 : Ok B N env (h2.del (w.heap.size + 1)) { a with defers := [mark w.heap.size] ++ a.defers } (w3.putObj (w.heap.size + 1) X) := by
      refine ⟨del_sat s3 _ _, ?_, _, ⟨ke.1, rfl, ke.2.2⟩, w.heap.size :: Ls, by rw [ke.2.1]; rfl, ?_, ?_⟩
      · have := f3.size; simp only [World.putObj_size]; omega
      · refine List.nodup_cons.2 ⟨fun hm => ?_, hn⟩
        have := (Array.getElem?_eq_some_iff.1 (hLs _ hm).2.2).1
        omega
      · intro D hD'
        rcases List.mem_cons.1 hD' with rfl | hD'
        · obtain ⟨n3, x3⟩ := none_keep f3 s3 (by rw [Hp.set_ne _ _ hDne]; exact hn0) hD rfl
          exact ⟨hB, by rw [Hp.del_ne _ hDne]; exact n3, by rw [World.putObj_heap_other hDne]; exact x3⟩
        · obtain ⟨hBD, hnD, hxD⟩ := hLs D hD'
          have hltD : D < w.heap.size := (Array.getElem?_eq_some_iff.1 hxD).1
          have hne : D ≠ w.heap.size + 1 := by omega
          obtain ⟨n2, x2⟩ := none_keep f2 s2 hnD hxD rfl
          obtain ⟨n3, x3⟩ := none_keep f3 s3 n2 x2 rfl
          exact ⟨hBD, by rw [Hp.del_ne _ hne]; exact n3, by rw [World.putObj_heap_other hne]; exact x3⟩
    have f5 : Fr h (h2.del (w.heap.size + 1)) w (w3.putObj (w.heap.size + 1) X) := by
      refine ⟨f3.os.trans f2.os, f3.tape.trans f2.tape, f3.output.trans f2.output, ?_, fun i hi hno => ?_, fun i hi => ?_⟩
      · have := f3.size; simp only [World.putObj_size]; omega
      · have hne : i ≠ w.heap.size + 1 := by omega
        have hno2 : ¬ (h.set (w.heap.size + 1) (.obj (.loop (rec .ready none)))).own i := by
          rintro ⟨y, e, hr⟩; rw [Hp.set_ne _ _ hne] at e; exact hno ⟨y, e, hr⟩
        rw [World.putObj_heap_other hne, f3.keep i (by omega) hno2, f2.keep i hi hno]
      · obtain ⟨y, e, hr⟩ := hi
        have hne : i ≠ w.heap.size + 1 := by rintro rfl; rw [Hp.del_same] at e; cases e
        rw [Hp.del_ne _ hne] at e
        rcases f3.dom i ⟨y, e, hr⟩ with ⟨y, e, hr⟩ | q
        · rw [Hp.set_ne _ _ hne] at e; exact .inl ⟨y, e, hr⟩
        · exact .inr (by omega)
    subst hpe
    cases ex with
    | normal => exact m .normal _ _ _ _ k5 f5 q2
    | ret => exact wpIn_ret (m .ret _ _ _ _ k5 f5 q2)
    | exit i => exact wpIn_exit (m (.exit i) _ _ _ _ k5 f5 q2)
theorem vc_sound {P : Program} {N : Nat} (hm : P.follows .mixedOrders = true) (c : Code) : VcSound P N c := by
  induction c with
  | skip => exact fun top ro B ht Q env h a w R k q _ m => wpIn_skip (m .normal env h a w k (Fr.refl _ _) q)
  | label l => exact fun top ro B ht Q env h a w R k q _ m => wpIn_label (m .normal env h a w k (Fr.refl _ _) q)
  | exit l => exact fun top ro B ht Q env h a w R k q _ m => wpIn_exit (m (.exit l) env h a w k (Fr.refl _ _) q)
  | ret => exact fun top ro B ht Q env h a w R k q _ m => wpIn_ret (m .ret env h a w k (Fr.refl _ _) q)
  | goto l => exact fun top ro B ht Q env h a w R k q _ m => q.elim
  | refuse l => exact fun top ro B ht Q env h a w R k q _ m => q.elim
  | rangeFunc f p x b iha ihb => exact range_sound iha ihb
  | region id ops draw =>
    intro top ro B ht Q env h a w R k q hR m
    cases draw with
    | false => 
      obtain ⟨s, hB, ds, ke, mk⟩ := k
      exact wpIn_region_list (vcOps_sound (ds := ds) (fun env' h' a' w' k' s' f' q' => m .normal env' h' a' w' (.step hB mk k' s' f') f' q') _ env h a w ke s (Fr.refl _ _) q)
    | true =>
      simp only [vc, vcR] at q
      split at q
      · rename_i hc
        simp only [Bool.and_eq_true] at hc
        obtain ⟨s, hB, ds, ke, mk⟩ := k
        refine wpIn_region_any hm (wpJ_any (B := clos ops.toList) _ [] _ _ _ ?_)
        refine vcD_sound (ds := ds) hc.1.1.1 hc.1.1.2 hc.1.2 (noDef_spec hc.2) rfl ?_ hR (fun env' h' a' w' k' s' f' q' => m .normal env' h' a' w' (.step hB mk k' s' f') f' q') ops.size 0 [] [] _ env h a { w with drawn := w.drawn + 1 } (mrel_nil ops) (clo_nil _ _) ke s (Fr.drew _) (fun e he => by cases he) (fun e he => by cases he) q
        intro i hi
        obtain ⟨p, hp, e⟩ := List.mem_filterMap.1 hi
        split at e
        · rename_i hq
          cases e
          have := List.mem_zipIdx_iff_getElem?.1 hp
          simp only [quietI]
          rw [show ops[p.2]? = some p.1 by simpa using this]
          exact hq
        · cases e
      · exact q.elim
  | seq x y ihx ihy =>
    intro top ro B ht Q env h a w R k q hR m
    refine wpIn_seq (ihx top ro B ht _ env h a w _ k q (fun c a w z => hR _ _ _ z) (fun e env' h' a' w' k' f' q' => ?_))
    cases e with
    | normal => exact ihy top ro B ht Q env' h' a' w' R k' q' hR (fun e env2 h2 a2 w2 k2 f2 q2 => m e env2 h2 a2 w2 k2 (f'.trans f2) q2)
    | exit id => exact m _ _ _ _ _ k' f' q'
    | ret => exact m _ _ _ _ _ k' f' q'
  | cond c x y ihx ihy =>
    intro top ro B ht Q env h a w R k q hR m
    simp only [vc] at q
    split at q
    · rename_i hc
      unfold cnd at q
      split at q
      · rename_i b hb
        refine wpIn_cond (t := b) (by obtain ⟨_, _, ds, ke, _⟩ := k; rw [ke.eval hc]; exact hb) ?_
        split at q
        · rename_i e; rw [if_pos e]; exact ihx top ro B ht Q env h a w R k q hR m
        · rename_i e; rw [if_neg e]; exact ihy top ro B ht Q env h a w R k q hR m
      · exact q.elim
    · exact q.elim
  | block id c ih =>
    intro top ro B ht Q env h a w R k q hR m
    refine wpIn_block (ih top ro B ht _ env h a w _ k q (fun c a w z => hR _ _ _ z) (fun e env' h' a' w' k' f' q' => ?_))
    cases e with
    | normal => exact m _ _ _ _ _ k' f' q'
    | exit i =>
      dsimp only at q'
      show if i = id then R .normal a' w' else R (.exit i) a' w'
      split at q'
      · rename_i e; rw [if_pos e]; exact m _ _ _ _ _ k' f' q'
      · rename_i e; rw [if_neg e]; exact m _ _ _ _ _ k' f' q'
    | ret => exact m _ _ _ _ _ k' f' q'
  | scope c ih =>
    intro top ro B ht Q env h a w R k q hR m
    simp only [vc] at q
    split at q
    case isFalse => exact q.elim
    rename_i htop
    obtain rfl := ht htop
    refine wpIn_wide.2 (wp_scope_straight ((wpIn_wide (n := 0)).1 (ih top none B ht Q env h a w _ k q (fun c a w z => hR _ _ _ z) (fun e env' h' a' w' k' f' q' => ?_))))
    cases e <;> exact m _ _ _ _ _ k' f' q'
  | loop c ih =>
    intro top ro B ht Q env h a w R k q hR m
    obtain ⟨I, ⟨hs0, ls0, n0, h0⟩, hI⟩ := q
    generalize hL : ((assigned c).eraseDups.filter fun s => (env.lookup s).isSome) = L at *
    have hLa : ∀ x ∈ L, x ∈ assigned c := fun x hx => by
      subst hL
      exact List.mem_eraseDups.1 (List.mem_filter.1 hx).1
    let p : Act → World → Nat → Prop := fun a1 w1 n => ∃ vs h1, Ok B N (headOf L vs ++ env.filter fun p => !(assigned c).contains p.1) h1 a1 w1 ∧ Fr h h1 w w1 ∧ I n vs h1
    let μ : Act → World → Nat := fun a1 w1 => open Classical in if q : ∃ n, p a1 w1 n then Classical.choose (least q) else 0
    have hμ : ∀ a1 w1, (∃ n, p a1 w1 n) → p a1 w1 (μ a1 w1) ∧ ∀ m, p a1 w1 m → μ a1 w1 ≤ m := by
      intro a1 w1 q
      have : μ a1 w1 = Classical.choose (least q) := dif_pos q
      rw [this]
      exact Classical.choose_spec (least q)
    have okHead0 : ∀ (env' : Env) (a' : Act) (ds : List Deferred), Env.ok env' N ds a' → Kept (assigned c) env env' → (∀ s ∈ L, (env'.lookup s).isSome = true) → Env.ok (headOf L (valsOf L env') ++ env.filter fun p => !(assigned c).contains p.1) N ds a' := by
      intro env' a' ds k' kp hs
      refine ⟨k'.1, k'.2.1, fun t v hv => ?_⟩
      rw [lookup_append] at hv
      cases hh : (headOf L (valsOf L env')).lookup t with
      | some u =>
        rw [hh] at hv
        obtain ⟨i, hi, hu⟩ := lookup_headOf hh
        have hlt : i < L.length := (List.getElem?_eq_some_iff.1 hi).1
        have hsome := hs t (List.mem_of_getElem? hi)
        obtain ⟨x, hx⟩ := Option.isSome_iff_exists.1 hsome
        have e1 : (valsOf L env').getD i undef = x.get := by
          simp only [valsOf, List.getD_eq_getElem?_getD, List.getElem?_map, hi, Option.map_some, Option.getD_some, ev, hx]
        rw [e1] at hu
        cases hv
        rw [hu]
        exact k'.2.2 t x hx
      | none =>
        rw [hh, Option.none_or] at hv
        have hnot : t ∉ assigned c := by
          intro ht
          have : ∀ l : Env, ((l.filter fun p => !(assigned c).contains p.1).lookup t) = none := by
            intro l
            induction l with
            | nil => rfl
            | cons p l ih =>
              simp only [List.filter_cons]
              split
              · rename_i hp
                rw [lk_cons]
                have : (t == p.1) = false := by
                  simp only [beq_eq_false_iff_ne]
                  rintro rfl
                  simp [ht] at hp
                rw [this]
                exact ih
              · exact ih
          rw [this] at hv
          cases hv
        rw [lookup_filter _ _ _ hnot] at hv
        rw [← kp t hnot] at hv
        exact k'.2.2 t v hv
    have okHead : ∀ (env' : Env) (h' : Hp) (a' : Act) (w' : World), Ok B N env' h' a' w' → Kept (assigned c) env env' → (∀ s ∈ L, (env'.lookup s).isSome = true) → Ok B N (headOf L (valsOf L env') ++ env.filter fun p => !(assigned c).contains p.1) h' a' w' :=
      fun env' h' a' w' ⟨s, hB, ds, ke, mk⟩ kp hs => ⟨s, hB, ds, okHead0 env' a' ds ke kp hs, mk⟩
    have hstart : p a w n0 := by
      refine ⟨valsOf L env, hs0, (okHead env h a w k (Kept.refl _ _) ?_).weaken ls0, (Fr.refl _ _).weaken ls0, h0⟩
      intro x hx
      subst hL
      exact (List.mem_filter.1 hx).2
    refine wpIn_loop (fun a1 w1 => ∃ n, p a1 w1 n) μ ⟨n0, hstart⟩ (fun a1 w1 hp => ?_)
    obtain ⟨⟨vs, h1, k1, f1, i1⟩, hmin⟩ := hμ a1 w1 hp
    have q1 := hI _ vs h1 i1
    have q2 := vc_kept c (assigned c) env _ (fun e env' h2 => Kept (assigned c) env env' ∧ (match e with
          | .normal => if (L.all fun s => (env'.lookup s).isSome) = true then ∃ h0, Hp.le h0 h2 ∧ ∃ m, m < μ a1 w1 ∧ I m (valsOf L env') h0 else False
          | e => Q e env' h2)) _ _ (fun x hx => hx) (headKept (assigned c) L hLa env vs) (fun e env' h2 kp q => ⟨kp, q⟩) q1
    refine ih top ro B ht _ _ h1 a1 w1 _ k1 q2 (fun c a w z => hR _ _ _ z) (fun e env' h' a' w' k' f' q' => ?_)
    obtain ⟨kp, q'⟩ := q'
    cases e with
    | normal =>
      dsimp only at q'
      split at q'
      case isFalse => exact q'.elim
      rename_i hall
      obtain ⟨hw, lw, m', hlt, im⟩ := q'
      have pm : p a' w' m' := ⟨_, hw, (okHead env' h' a' w' k' kp (fun x hx => List.all_eq_true.1 hall x hx)).weaken lw, (f1.trans f').weaken lw, im⟩
      exact ⟨⟨m', pm⟩, Nat.lt_of_le_of_lt ((hμ a' w' ⟨m', pm⟩).2 m' pm) hlt⟩
    | exit id => exact m _ _ _ _ _ k' (f1.trans f') q'
    | ret => exact m _ _ _ _ _ k' (f1.trans f') q'
/-! ### A call -/
def rv (P : Program) (env : Env) (h : Hp) (r : ResultVar) (K : Value → Prop) : Prop :=
  match r with
  | .tmp t => match env.lookup t with
    | some x => K x.get
    | none => False
  | .cell a t => if env.has (.tmp a) = true then q P h ((asAddr (ev env (.tmp a))).bind (loadVar t)) K else False
def rvS (r : ResultVar) (tmps : Array Value) : Sem Value :=
  match r with
  | .tmp t => .pure (tmps.getD t undef)
  | .cell a t => (asAddr (tmps.getD a undef)).bind (loadVar t)
theorem rv_sound {P : Program} {env : Env} {N : Nat} {ds : List Deferred} {a : Act} (k : env.ok N ds a) {h : Hp} {r : ResultVar} {K : Value → Prop} (z : rv P env h r K) : ∃ v, peek P h (rvS r a.tmps) = some v ∧ K v := by
  cases r with
  | tmp t =>
    unfold rv at z
    dsimp only at z
    split at z
    · rename_i x hx
      exact ⟨_, by simp [rvS, peek, k.2.2 t x hx], z⟩
    · exact z.elim
  | cell b t =>
    unfold rv at z
    dsimp only at z
    split at z
    · rename_i hb
      obtain ⟨v, e, z⟩ := withVal_elim z
      have := k.eval hb
      simp only [Act.eval] at this
      exact ⟨v, by rw [← e, rvS, this], z⟩
    · exact z.elim
def retL (P : Program) (rs : List ResultVar) (K : Value → Prop) (env : Env) (h : Hp) : Prop :=
  match rs with
  | [] => K (.tuple #[])
  | [r] => rv P env h r K
  | [r, s] => rv P env h r fun x => rv P env h s fun y => K (.tuple #[x, y])
  | [r, s, u] => rv P env h r fun x => rv P env h s fun y => rv P env h u fun z => K (.tuple #[x, y, z])
  | [r, s, u, o] => rv P env h r fun x => rv P env h s fun y => rv P env h u fun z => rv P env h o fun n => K (.tuple #[x, y, z, n])
  | _ => False
theorem res_eq (fn : Func) (tmps : Array Value) : results fn tmps = (fn.results.mapM fun r => rvS r tmps).bind fun vs => .pure (if h : vs.size = 1 then vs[0] else .tuple vs) := by
  unfold results
  have : (fun r : ResultVar => (match r with
    | .tmp t => pure (tmps.getD t undef)
    | .cell a t => do loadVar t (← asAddr (tmps.getD a undef)) : Sem Value)) = fun r => rvS r tmps := by
    funext r
    cases r <;> rfl
  rw [← this]
  rfl
theorem pk_bind {P : Program} {h : Hp} {α β : Type} {s : Sem α} {f : α → Sem β} {x : α} (e : peek P h s = some x) : peek P h (s >>= f) = peek P h (f x) := by
  show peek P h (Sem.bind s f) = _
  rw [peek_bind, e]
  rfl
theorem retL_sound {P : Program} {fn : Func} {env : Env} {N : Nat} {ds : List Deferred} {a : Act} (k : env.ok N ds a) {h : Hp} {w : World} (s : h.sat w) {K : Value → Prop} (z : retL P fn.results.toList K env h) :
    ∃ v, (results fn a.tmps).run P w = .ok v w ∧ K v := by
  obtain ⟨rs, hrs⟩ : ∃ rs, fn.results.toList = rs := ⟨_, rfl⟩
  have hfr : fn.results = rs.toArray := by rw [← hrs]
  rw [hrs] at z
  have fin : ∀ vs : List Value, peek P h (rs.toArray.mapM fun r => rvS r a.tmps) = some vs.toArray → (results fn a.tmps).run P w = .ok (if h : vs.toArray.size = 1 then vs.toArray[0] else .tuple vs.toArray) w := by
    intro vs e
    refine peek_run P _ w _ s ?_
    rw [res_eq, hfr, peek_bind, e]
    rfl
  unfold retL at z
  split at z
  · exact ⟨_, fin [] (by simp [peek]; rfl), z⟩
  · rename_i r
    obtain ⟨x, ex, z⟩ := rv_sound k z
    refine ⟨_, fin [x] ?_, z⟩
    simp only [List.mapM_toArray, List.mapM_cons, List.mapM_nil]
    show peek P h (Sem.bind _ _) = _
    rw [peek_bind]
    simp only [List.mapM_cons, List.mapM_nil, pk_bind ex]
    rfl
  · rename_i r1 r2
    obtain ⟨x, ex, z⟩ := rv_sound k z
    obtain ⟨y, ey, z⟩ := rv_sound k z
    refine ⟨_, fin [x, y] ?_, z⟩
    simp only [List.mapM_toArray]
    show peek P h (Sem.bind _ _) = _
    rw [peek_bind]
    simp only [List.mapM_cons, List.mapM_nil, pk_bind ex, pk_bind ey, bind_assoc]
    rfl
  · rename_i r1 r2 r3
    obtain ⟨x, ex, z⟩ := rv_sound k z
    obtain ⟨y, ey, z⟩ := rv_sound k z
    obtain ⟨u, eu, z⟩ := rv_sound k z
    refine ⟨_, fin [x, y, u] ?_, z⟩
    simp only [List.mapM_toArray]
    show peek P h (Sem.bind _ _) = _
    rw [peek_bind]
    simp only [List.mapM_cons, List.mapM_nil, pk_bind ex, pk_bind ey, pk_bind eu, bind_assoc]
    rfl
  · rename_i r1 r2 r3 r4
    obtain ⟨x, ex, z⟩ := rv_sound k z
    obtain ⟨y, ey, z⟩ := rv_sound k z
    obtain ⟨u, eu, z⟩ := rv_sound k z
    obtain ⟨o, eo, z⟩ := rv_sound k z
    refine ⟨_, fin [x, y, u, o] ?_, z⟩
    simp only [List.mapM_toArray]
    show peek P h (Sem.bind _ _) = _
    rw [peek_bind]
    simp only [List.mapM_cons, List.mapM_nil, pk_bind ex, pk_bind ey, pk_bind eu, pk_bind eo, bind_assoc]
    rfl
  · exact z.elim
def env0 (args : List Value) : Env := args.zipIdx.map fun p => (p.2, .val p.1)
def retP (P : Program) (rs : List ResultVar) (K : Value → Hp → Prop) (e : Ex) (env : Env) (h : Hp) : Prop :=
  match e with
  | .exit _ => False
  | _ => retL P rs (fun v => K v h) env h
theorem env0_ok (args : List Value) (n : Nat) : Env.ok (env0 args) (args.length + n) [] { tmps := args.toArray ++ Array.replicate n undef, defers := [] } := by
  refine ⟨by simp, rfl, fun t v h => ?_⟩
  have : args[t]? = some v.get := by
    unfold env0 at h
    have : ∀ l : List (Value × Nat), (∀ p ∈ l, args[p.2]? = some p.1) → (l.map fun p => (p.2, EV.val p.1)).lookup t = some v → args[t]? = some v.get := by
      intro l
      induction l with
      | nil => intro _ hh; cases hh
      | cons p l ih =>
        intro hl hh
        rw [List.map_cons, lk_cons] at hh
        split at hh
        · rename_i e
          simp only [beq_iff_eq] at e
          rw [e, hl p (List.mem_cons_self ..), ← Option.some.inj hh]
          rfl
        · exact ih (fun p hp => hl p (List.mem_cons_of_mem _ hp)) hh
    exact this _ (fun p hp => List.mem_zipIdx_iff_getElem?.1 hp) h
  have hlt : t < args.length := (List.getElem?_eq_some_iff.1 this).1
  rw [Array.getElem?_append_left (by simpa using hlt)]
  simpa using this
theorem mark_leave {P : Program} {fn : Func} {env : Env} {N : Nat} {ds : List Deferred} {a : Act} (k : env.ok N ds a) {h h' : Hp} {w : World} {K : Value → Hp → Prop} (z : retL P fn.results.toList (fun v => K v h') env h') :
    ∀ (Ls : List Nat) (w' : World), Ls.Nodup → (∀ D ∈ Ls, w.heap.size ≤ D ∧ h' D = none ∧ w'.heap[D]? = some (.deferred (some []))) → h'.sat w' → Fr h h' w w' →
      LeavesInM (Fz none) 0 P fn a.tmps (fun e w' => ∃ v h', e = .returned v ∧ h'.sat w' ∧ Fr h h' w w' ∧ K v h') (Ls.map mark) .returning w' := by
  intro Ls
  induction Ls with
  | nil =>
    intro w' _ _ s f
    obtain ⟨v, hv, q⟩ := retL_sound (fn := fn) (K := fun v => K v h') k s z
    exact ⟨v, hv, v, h', rfl, s, f, q⟩
  | cons D Ls ih =>
    intro w' hn hL s f
    obtain ⟨hd, hn⟩ := List.nodup_cons.1 hn
    obtain ⟨hB, hnD, hxD⟩ := hL D (List.mem_cons_self ..)
    refine ⟨by simp, .inl ⟨D, w'.putObj D (.deferred none), rfl, run_takeDeferred hxD, ih _ hn (fun E hE => ?_) (none_put s hnD _) ?_⟩⟩
    · obtain ⟨h1, h2, h3⟩ := hL E (List.mem_cons_of_mem _ hE)
      have hne : E ≠ D := by rintro rfl; exact hd hE
      exact ⟨h1, h2, by rw [World.putObj_heap_other hne]; exact h3⟩
    · refine ⟨f.os, f.tape, f.output, by simpa using f.size, fun i hi hno => ?_, f.dom⟩
      rw [World.putObj_heap_other (by omega)]
      exact f.keep i hi hno
theorem Cn_of {P : Program} {f : FuncId} {fn : Func} {c : Code} {args : List Value} {h : Hp} {K : Value → Hp → Prop} (hm : P.follows .mixedOrders = true) (hf : P.funcs[f]? = some fn) (hb : fn.body = some c)
    (hn : (fn.name == "runtime.NumGoroutine") = false) (hs : args.length ≤ fn.ntmps) (q : vc P fn.ntmps true c (retP P fn.results.toList K) (env0 args) h) : Cn P f args.toArray h K := by
  refine ⟨⟨fn, hf, by simp [hb], hn⟩, fun w s => (callsIn_wide (n := 0)).1 (callsIn_of_wp_marks (F := Fz none) hf hb trivial ?_)⟩
  have hok := env0_ok args (fn.ntmps - args.length)
  rw [Nat.add_sub_cancel' hs] at hok
  have hsz : args.toArray.size = args.length := by simp
  rw [hsz]
  refine wpIn_mono (Q := fun e a w' => match e with
      | .panic _ => False
      | e => bodyPostM (Fz none) 0 P fn (fun e w' => ∃ v h', e = .returned v ∧ h'.sat w' ∧ Fr h h' w w' ∧ K v h') e a w') ?_ (fun e a w z => by cases e <;> first | exact z | exact z.elim)
  refine vc_sound hm c true none w.heap.size (fun _ => rfl) _ _ h _ w _ ⟨s, Nat.le_refl _, [], hok, [], rfl, List.nodup_nil, by simp⟩ q (fun ch a w1 z => z) ?_
  · intro e env' h' a' w' k' f' q'
    obtain ⟨s', _, ds, ke, Ls, rfl, hn', hLs⟩ := k'
    cases e with
    | exit id => exact q'.elim
    | normal =>
      show LeavesInM _ _ _ _ _ _ a'.defers _ _
      rw [ke.2.1]
      exact mark_leave ke (K := K) q' Ls w' hn' hLs s' f'
    | ret =>
      show LeavesInM _ _ _ _ _ _ a'.defers _ _
      rw [ke.2.1]
      exact mark_leave ke (K := K) q' Ls w' hn' hLs s' f'
theorem Cn_ofs {P : Program} {f : FuncId} {fn : Func} {args : List Value} {h : Hp} {K : Value → Hp → Prop} {S : Prop} (hm : P.follows .mixedOrders = true) (hf : P.funcs[f]? = some fn)
    (hb : (fn.body.isSome && !(fn.name == "runtime.NumGoroutine") && decide (args.length ≤ fn.ntmps)) = true)
    (e : vc P fn.ntmps true (fn.body.getD .skip) (retP P fn.results.toList K) (env0 args) h = S) (s : S) : Cn P f args.toArray h K := by
  simp only [Bool.and_eq_true, Bool.not_eq_true', decide_eq_true_eq] at hb
  obtain ⟨c, hc⟩ := Option.isSome_iff_exists.1 hb.1.1
  refine Cn_of hm hf hc hb.1.2 hb.2 ?_
  rw [hc] at e
  subst e
  exact s
/-! ### Long codes, cut where several ways meet -/
/-- A code's outcome at the machine itself. -/
def SV (P : Program) (N : Nat) (c : Code) (Q : Ex → Env → Hp → Prop) (env : Env) (h : Hp) : Prop :=
  ∀ (B : Nat) (a : Act) (w : World) (R : Exit → Act → World → Prop), Ok B N env h a w → (∀ c a w, ¬ R (.panic c) a w) →
    (∀ e env' h' a' w', Ok B N env' h' a' w' → Fr h h' w w' → Q e env' h' → R e.to a' w') → c.wpIn (Fz none) 0 P R a w
theorem SV_vc {P : Program} {N : Nat} (hm : P.follows .mixedOrders = true) {c : Code} {Q : Ex → Env → Hp → Prop} {env : Env} {h : Hp} (q : vc P N true c Q env h) : SV P N c Q env h :=
  fun B a w R k hR m => vc_sound hm c true none B (fun _ => rfl) Q env h a w R k q hR m
theorem SV_sub {P : Program} {N : Nat} {c : Code} {Q : Ex → Env → Hp → Prop} {e1 e2 : Env} {h : Hp} (s : ∀ t x, e1.lookup t = some x → e2.lookup t = some x) (q : SV P N c Q e1 h) : SV P N c Q e2 h := by
  intro B a w R k hR m
  obtain ⟨s0, hB, ds, ke, mk⟩ := k
  exact q B a w R ⟨s0, hB, ds, ⟨ke.1, ke.2.1, fun t x hx => ke.2.2 t x (s t x hx)⟩, mk⟩ hR m
theorem SV_seq {P : Program} {N : Nat} {x y : Code} {Q : Ex → Env → Hp → Prop} {env : Env} {h : Hp} (q : SV P N x (fun e => match e with
    | .normal => SV P N y Q
    | e => Q e) env h) : SV P N (.seq x y) Q env h := by
  intro B a w R k hR m
  refine wpIn_seq (q B a w _ k (fun c a w z => hR _ _ _ z) (fun e env' h' a' w' k' f' q' => ?_))
  cases e with
  | normal => exact q' B a' w' R k' hR (fun e env2 h2 a2 w2 k2 f2 q2 => m e env2 h2 a2 w2 k2 (f'.trans f2) q2)
  | exit id => exact m _ _ _ _ _ k' f' q'
  | ret => exact m _ _ _ _ _ k' f' q'
def getVs : List Nat → Env → Option (List Value)
  | [], _ => some []
  | t :: L, env => match env.lookup t with
    | some (.val v) => (getVs L env).map (v :: ·)
    | _ => none
/-- What is needed of the values, where several ways meet. -/
def cutP (L : List Nat) (X : List Value → Prop) (env : Env) : Prop := match getVs L env with
  | some vs => X vs
  | none => False
theorem getVs_spec : ∀ {L : List Nat} {env : Env} {vs : List Value}, getVs L env = some vs → vs.length = L.length ∧ ∀ i t, L[i]? = some t → env.lookup t = some (.val (vs.getD i undef))
  | [], env, vs, h => by
    obtain rfl : [] = vs := Option.some.inj h
    exact ⟨rfl, fun i t e => by simp at e⟩
  | t :: L, env, vs, h => by
    rw [getVs] at h
    split at h
    · rename_i v hv
      obtain ⟨us, hu, rfl⟩ := Option.map_eq_some_iff.1 h
      obtain ⟨h1, h2⟩ := getVs_spec hu
      refine ⟨by simp [h1], fun i s e => ?_⟩
      match i with
      | 0 =>
        obtain rfl : t = s := Option.some.inj e
        exact hv
      | i + 1 => exact h2 i s e
    · cases h
theorem cut_seq {P : Program} {N : Nat} (hm : P.follows .mixedOrders = true) {x y : Code} {Q : Ex → Env → Hp → Prop} {env : Env} {h : Hp} {L : List Nat} {X : List Value → Hp → Prop} (hb : ∀ vs h, vs.length = L.length → X vs h → SV P N y Q (headOf L vs) h)
    (q : vc P N true x (fun e => match e with
      | .normal => fun env h => cutP L (fun vs => X vs h) env
      | e => Q e) env h) : SV P N (.seq x y) Q env h := by
  refine SV_seq ?_
  have key : ∀ env h, cutP L (fun vs => X vs h) env → SV P N y Q env h := by
    intro env h c
    unfold cutP at c
    split at c
    · rename_i vs hv
      obtain ⟨h1, h2⟩ := getVs_spec hv
      refine SV_sub (fun t x hx => ?_) (hb vs h h1 c)
      obtain ⟨i, hi, rfl⟩ := lookup_headOf hx
      exact h2 i t hi
    · exact c.elim
  intro B a w R k hR m
  refine SV_vc hm q B a w R k hR fun e env' h' a' w' k' f' q' => ?_
  refine m e env' h' a' w' k' f' ?_
  cases e with
  | normal => exact key _ _ q'
  | exit id => exact q'
  | ret => exact q'
def seqL : Code → Code
  | .seq a _ => a
  | c => c
def seqR : Code → Code
  | .seq _ b => b
  | c => c
theorem cut_at {P : Program} {N : Nat} (hm : P.follows .mixedOrders = true) {c : Code} (hc : c = .seq (seqL c) (seqR c)) {Q : Ex → Env → Hp → Prop} {env : Env} {h : Hp} (L : List Nat) (X : List Value → Hp → Prop) {S : Prop} (hb : ∀ vs h, vs.length = L.length → X vs h → SV P N (seqR c) Q (headOf L vs) h)
    (e : vc P N true (seqL c) (fun e => match e with
      | .normal => fun env h => cutP L (fun vs => X vs h) env
      | e => Q e) env h = S) (s : S) : SV P N c Q env h := by
  rw [hc]
  subst e
  exact cut_seq hm hb s
theorem SV_of {P : Program} {N : Nat} (hm : P.follows .mixedOrders = true) {c : Code} {Q : Ex → Env → Hp → Prop} {env : Env} {h : Hp} {S : Prop} (e : vc P N true c Q env h = S) (s : S) : SV P N c Q env h := by
  subst e
  exact SV_vc hm s
theorem Cn_sv {P : Program} {f : FuncId} {fn : Func} {args : List Value} {h : Hp} {K : Value → Hp → Prop} (hf : P.funcs[f]? = some fn)
    (hb : (fn.body.isSome && !(fn.name == "runtime.NumGoroutine") && decide (args.length ≤ fn.ntmps)) = true) (q : SV P fn.ntmps (fn.body.getD .skip) (retP P fn.results.toList K) (env0 args) h) : Cn P f args.toArray h K := by
  simp only [Bool.and_eq_true, Bool.not_eq_true', decide_eq_true_eq] at hb
  obtain ⟨c, hc⟩ := Option.isSome_iff_exists.1 hb.1.1
  obtain ⟨⟨_, hn⟩, hs⟩ := hb
  rw [hc] at q
  have q : SV P fn.ntmps c (retP P fn.results.toList K) (env0 args) h := q
  refine ⟨⟨fn, hf, by simp [hc], hn⟩, fun w s => (callsIn_wide (n := 0)).1 (callsIn_of_wp_marks (F := Fz none) hf hc trivial ?_)⟩
  have hok := env0_ok args (fn.ntmps - args.length)
  rw [Nat.add_sub_cancel' hs] at hok
  have hsz : args.toArray.size = args.length := by simp
  rw [hsz]
  refine wpIn_mono (Q := fun e a w' => match e with
      | .panic _ => False
      | e => bodyPostM (Fz none) 0 P fn (fun e w' => ∃ v h', e = .returned v ∧ h'.sat w' ∧ Fr h h' w w' ∧ K v h') e a w') ?_ (fun e a w z => by cases e <;> first | exact z | exact z.elim)
  refine q w.heap.size _ w _ ⟨s, Nat.le_refl _, [], hok, [], rfl, List.nodup_nil, by simp⟩ (fun ch a w1 z => z) ?_
  · intro e env' h' a' w' k' f' q'
    obtain ⟨s', _, ds, ke, Ls, rfl, hn', hLs⟩ := k'
    cases e with
    | exit id => exact q'.elim
    | normal =>
      show LeavesInM _ _ _ _ _ _ a'.defers _ _
      rw [ke.2.1]
      exact mark_leave ke (K := K) q' Ls w' hn' hLs s' f'
    | ret =>
      show LeavesInM _ _ _ _ _ _ a'.defers _ _
      rw [ke.2.1]
      exact mark_leave ke (K := K) q' Ls w' hn' hLs s' f'
/-- A panic's entry. -/
abbrev pe (v : Value) : PanicEntry := { v, recovered := false }
abbrev Zt := List PanicEntry → Hp → Prop
/-- A call comes back, or leaves by a panic. -/
def CnZ (P : Program) (Z : Zt) (f : FuncId) (args : Array Value) (h : Hp) (K : Value → Hp → Prop) : Prop :=
  Callable P f ∧ ∀ w, h.sat w → Calls P f args w fun e w' => (∃ v h', e = .returned v ∧ h'.sat w' ∧ Fr h h' w w' ∧ K v h') ∨ (∃ c h', e = .panicked c ∧ h'.sat w' ∧ Fr h h' w w' ∧ Z c h')
theorem CnZ_of {P : Program} {Z : Zt} {f : FuncId} {args : Array Value} {h : Hp} {K : Value → Hp → Prop} (q : Cn P f args h K) : CnZ P Z f args h K :=
  ⟨q.1, fun w s => (q.2 w s).mono fun e w' a => .inl a⟩
theorem CnZ.mono {P : Program} {Z Z' : Zt} {f : FuncId} {args : Array Value} {h : Hp} {K K' : Value → Hp → Prop} (q : CnZ P Z f args h K) (m : ∀ v h, K v h → K' v h) (mz : ∀ c h, Z c h → Z' c h) : CnZ P Z' f args h K' :=
  ⟨q.1, fun w s => (q.2 w s).mono fun e w' a => by
    rcases a with ⟨v, h', e1, s1, f1, k⟩ | ⟨c, h', e1, s1, f1, k⟩
    · exact .inl ⟨v, h', e1, s1, f1, m _ _ k⟩
    · exact .inr ⟨c, h', e1, s1, f1, mz _ _ k⟩⟩
theorem CnZ.weaken {P : Program} {Z : Zt} {f : FuncId} {args : Array Value} {h h' : Hp} {K : Value → Hp → Prop} (l : Hp.le h h') (q : CnZ P Z f args h K) : CnZ P Z f args h' K :=
  ⟨q.1, fun w s => (q.2 w (l.sat s)).mono fun e w' a => by
    have fr : ∀ {h1 : Hp}, Fr h h1 w w' → Fr h' h1 w w' := fun f => ⟨f.os, f.tape, f.output, f.size, fun b hb hn => f.keep b hb fun ho => hn (l.own ho), fun b hb => (f.dom b hb).imp_left l.own⟩
    rcases a with ⟨v, h1, e1, s1, f1, k⟩ | ⟨c, h1, e1, s1, f1, k⟩
    · exact .inl ⟨v, h1, e1, s1, fr f1, k⟩
    · exact .inr ⟨c, h1, e1, s1, fr f1, k⟩⟩
/-- What is known behind it may be made less. -/
theorem CnZ_wk {P : Program} {Z : Zt} {f : FuncId} {args : Array Value} {h : Hp} {K : Value → Hp → Prop} (q : CnZ P (fun c h' => ∃ h0, Hp.le h0 h' ∧ Z c h0) f args h (fun v h' => ∃ h0, Hp.le h0 h' ∧ K v h0)) : CnZ P Z f args h K :=
  ⟨q.1, fun w s => (q.2 w s).mono fun e w' a => by
    rcases a with ⟨v, h', e1, s1, f1, h0, l, k⟩ | ⟨c, h', e1, s1, f1, h0, l, k⟩
    · exact .inl ⟨v, h0, e1, l.sat s1, f1.weaken l, k⟩
    · exact .inr ⟨c, h0, e1, l.sat s1, f1.weaken l, k⟩⟩
/-- The value that an operation panics with. -/
def panicV (r : Operand → Value) (o : Oper) : Option Value :=
  match o.op with
  | .panic x => match r x with
    | .iface t u => some (.iface t u)
    | _ => none
  | _ => none
theorem panicV_run {P : Program} {r : Operand → Value} {o : Oper} {v : Value} (e : panicV r o = some v) (w : World) : (execOp r o).run P w = .halt (.panic v) w := by
  unfold panicV at e
  obtain ⟨dst, op, type, pos, after, guard⟩ := o
  cases op <;> simp only at e <;> first | cases e | skip
  case panic x =>
    split at e
    · rename_i t u hx
      cases e
      show Sem.run P (Sem.bind (Instr.panic (r x)) _) w = _
      rw [hx]
      rfl
    · cases e
theorem panicV_nodefer {r : Operand → Value} {o : Oper} {v : Value} (e : panicV r o = some v) : ∀ c, o.op ≠ .defer c := by
  intro c hc
  unfold panicV at e
  rw [hc] at e
  cases e
def nextZ (P : Program) (Z : Zt) (K : Value → Hp → Prop) (n : Next) (h : Hp) : Prop :=
  match n with
  | .value v => K v h
  | .skip => K undef h
  | .enter f args => CnZ P Z f args h K
  | _ => False
theorem nextZ_mono {P : Program} {Z : Zt} {K K' : Value → Hp → Prop} (m : ∀ v h, K v h → K' v h) {n : Next} {h : Hp} (q : nextZ P Z K n h) : nextZ P Z K' n h := by
  cases n <;> simp only [nextZ] at q ⊢ <;> first | exact m _ _ q | exact q.mono m (fun _ _ z => z)
/-- A call of a function's value. -/
def callZ (P : Program) (Z : Zt) (v : Value) (args : List Value) (h : Hp) (K : Value → Hp → Prop) : Prop :=
  match v with
  | .func (.func g) x y => if extB P g = true then exP P g (x.toList ++ args ++ y.toList).toArray h K else CnZ P Z g (x.toList ++ args ++ y.toList).toArray h K
  | _ => False
theorem callZ_mono {P : Program} {Z : Zt} {v : Value} {args : List Value} {h : Hp} {K K' : Value → Hp → Prop} (m : ∀ v h, K v h → K' v h) (q : callZ P Z v args h K) : callZ P Z v args h K' := by
  unfold callZ at *
  split at q
  · split at q
    · rename_i hx
      rw [if_pos hx]
      exact exP_mono m q
    · rename_i hx
      rw [if_neg hx]
      exact q.mono m (fun _ _ z => z)
  · exact q.elim
theorem callZ_exec {P : Program} {Z : Zt} {r : Operand → Value} {o : Oper} {v : Value} {args : List Value} {h : Hp} {K : Value → Hp → Prop} (e : kindOf r o = .dyn v args) (q : callZ P Z v args h K) : awp P (execOp r o) (nextZ P Z K) h := by
  unfold callZ at q
  split at q
  · split at q
    · rw [kind_dyn e rfl]
      exact exP_next (fun _ _ k => k) q
    · rw [kind_dyn e rfl, awp_call q.1]
      exact q
  · exact q.elim
def stepZ (P : Program) (Z : Zt) (N : Nat) (env : Env) (o : Oper) (h : Hp) (K : Value → Hp → Prop) : Prop :=
  if fits N env o = true then
    match kindOf (ev env) o with
    | .now v => K v h
    | .pick c a b => pickP c a b (fun v => K v h)
    | .val s => if quiet P o.op = true then q P h s (fun v => K v h) else aw P s K h
    | .unit s => aw P s (fun _ h => K undef h) h
    | .dyn f args => callZ P Z f args h K
    | .raw s => aw P s (nextZ P Z K) h
    | .bad => match panicV (ev env) o with
      | some v => Z [pe v] h
      | none => False
  else False
theorem nextZ_sound {P : Program} {Z : Zt} {o : Oper} {a : Act} {w w1 : World} {h h1 : Hp} {n : Next} {K : Value → Hp → Prop} {next : Act → World → Prop} {Q : Exit → Act → World → Prop} {ro : Option Nat} (hd : ∀ c, o.op ≠ .defer c)
    (hr : (execOp a.eval o).run P w = .ok n w1) (s1 : h1.sat w1) (f1 : Fr h h1 w w1) (q : nextZ P Z K n h1)
    (m : ∀ v w' h', h'.sat w' → Fr h h' w w' → K v h' → next (a.put o.dst v) w') (mz : ∀ c w' h', h'.sat w' → Fr h h' w w' → Z c h' → Q (.panic c) a w') : o.wpIn (Fz ro) 0 P a w next Q := by
  refine ⟨fun _ _ => trivial, ?_⟩
  rw [Oper.semAt_eq _ _ _ hd, hr]
  cases n <;> simp only [nextZ] at q <;> first | exact q.elim | skip
  case value v => exact m v w1 h1 s1 f1 q
  case skip => exact m undef w1 h1 s1 f1 q
  case enter f args =>
    refine ⟨fun e => (by cases e), CallsIn.mono (callsIn_wide.2 (q.2 w1 s1)) ?_⟩
    rintro e w' (⟨v, h', rfl, s', f', k⟩ | ⟨c, h', rfl, s', f', k⟩)
    · exact m v w' h' s' (f1.trans f') k
    · exact mz c w' h' s' (f1.trans f') k
/-- What a step comes to at the machine. -/
theorem stepZ_sound {P : Program} {Z : Zt} {N : Nat} {env : Env} {o : Oper} {ds : List Deferred} {a : Act} {w : World} {h : Hp} {K : Value → Hp → Prop} {next : Act → World → Prop} {Q : Exit → Act → World → Prop} {ro : Option Nat}
    (k : env.ok N ds a) (s : h.sat w) (q : stepZ P Z N env o h K)
    (m : ∀ v w' h', h'.sat w' → Fr h h' w w' → K v h' → next (a.put o.dst v) w') (mz : ∀ c w' h', h'.sat w' → Fr h h' w w' → Z c h' → Q (.panic c) a w') : (∀ x, o.dst = some x → x < N) ∧ o.wpIn (Fz ro) 0 P a w next Q := by
  unfold stepZ at q
  split at q
  case isFalse => exact q.elim
  rename_i hf
  refine ⟨fits_dst hf, ?_⟩
  have run : ∀ (n : Next → Hp → Prop), (∀ c, o.op ≠ .defer c) → awp P (execOp (ev env) o) (fun n h' => ∃ h0, Hp.le h0 h' ∧ nextZ P Z K n h0) h → o.wpIn (Fz ro) 0 P a w next Q := fun _ hd q => by
    rw [← k.exec hf] at q
    obtain ⟨n, w1, h1, hr, s1, f1, h0, l, q⟩ := awp_run P _ _ _ _ s q
    exact nextZ_sound hd hr (l.sat s1) (f1.weaken l) q m mz
  split at q
  · rename_i v e
    refine run (fun _ _ => True) (kind_nodefer (r := ev env) (by rw [e]; simp)) ?_
    rw [kind_now e]
    exact ⟨h, .refl _, q⟩
  · rename_i c x y e
    obtain ⟨t, hc, q⟩ := pickP_elim q
    refine run (fun _ _ => True) (kind_nodefer (r := ev env) (by rw [e]; simp)) ?_
    rw [kind_pick e hc]
    exact ⟨h, .refl _, q⟩
  · rename_i s' e
    refine run (fun _ _ => True) (kind_nodefer (r := ev env) (by rw [e]; simp)) ?_
    split at q
    · obtain ⟨v, p, q⟩ := withVal_elim q
      rw [peek_awp P _ _ _ ((kind_val e).2 P h v p)]
      exact ⟨h, .refl _, q⟩
    · exact (kind_val e).1 P _ h q
  · rename_i s' e
    refine run (fun _ _ => True) (kind_nodefer (r := ev env) (by rw [e]; simp)) ?_
    rw [kind_unit e, awp_bind]
    exact q
  · rename_i f args e
    exact run (fun _ _ => True) (kind_nodefer (r := ev env) (by rw [e]; simp)) (awp_mono P _ _ _ h (fun _ h' k => ⟨h', .refl _, k⟩) (callZ_exec e q))
  · rename_i s' e
    refine run (fun _ _ => True) (kind_nodefer (r := ev env) (by rw [e]; simp)) ?_
    rw [kind_raw e]
    exact q
  · split at q
    · rename_i v hv
      refine ⟨fun _ _ => trivial, ?_⟩
      have hd := panicV_nodefer hv
      have hr : (execOp a.eval o).run P w = .halt (.panic v) w := by rw [k.exec hf]; exact panicV_run hv w
      rw [Oper.semAt_eq _ _ _ hd, hr]
      exact mz _ w h s (.refl _ _) q
    · exact q.elim
theorem stepZ_mono {P : Program} {Z : Zt} {N : Nat} {env : Env} {o : Oper} {h : Hp} {K K' : Value → Hp → Prop} (m : ∀ v h, K v h → K' v h) (q : stepZ P Z N env o h K) : stepZ P Z N env o h K' := by
  unfold stepZ at *
  split
  · rename_i hf
    rw [if_pos hf] at q
    split at q
    · exact m _ _ q
    · obtain ⟨t, hc, q⟩ := pickP_elim q
      subst hc
      exact m _ _ q
    · split at q
      · rename_i hq
        rw [if_pos hq]
        obtain ⟨v, p, q⟩ := withVal_elim q
        exact withVal_of p (m _ _ q)
      · rename_i hq
        rw [if_neg hq]
        exact aw_mono m q
    · exact aw_mono (fun _ h => m _ h) q
    · exact callZ_mono m q
    · exact aw_mono (fun _ _ q => nextZ_mono m q) q
    · exact q
  · rename_i hf
    rw [if_neg hf] at q
    exact q.elim
theorem stepZ_fits {P : Program} {Z : Zt} {N : Nat} {env : Env} {o : Oper} {h : Hp} {K : Value → Hp → Prop} (q : stepZ P Z N env o h K) : fits N env o = true := by
  unfold stepZ at q
  split at q
  · assumption
  · exact q.elim
def vcOpsZ (P : Program) (Z : Zt) (N : Nat) (ops : Array Oper) (Q : Env → Hp → Prop) : List Oper → Env → Hp → Prop
  | [], env, h => Q env h
  | o :: rest, env, h => guardP ops env o (fun env => stepZ P Z N env o h fun v h' => vcOpsZ P Z N ops Q rest (env.put o.dst v) h')
      (fun env => if dstOk N o = true then vcOpsZ P Z N ops Q rest (env.skip o.dst) h else False)
theorem vcOpsZ_sound {P : Program} {Z : Zt} {N : Nat} {ops : Array Oper} {Q : Env → Hp → Prop} {R : Exit → Act → World → Prop} {h0 : Hp} {w0 : World} {ds : List Deferred} {ro : Option Nat}
    (m : ∀ env h a w, env.ok N ds a → h.sat w → Fr h0 h w0 w → Q env h → R .normal a w)
    (mz : ∀ env h c a w, Env.ok env N ds a → h.sat w → Fr h0 h w0 w → Z c h → R (.panic c) a w) (l : List Oper) :
    ∀ env h a w, Env.ok env N ds a → h.sat w → Fr h0 h w0 w → vcOpsZ P Z N ops Q l env h → wpListIn (Fz ro) 0 P ops R l a w := by
  induction l with
  | nil => exact fun env h a w k s f q => m env h a w k s f q
  | cons o rest ih =>
    intro env h a w k s f q
    obtain ⟨env', k, ⟨hw, q⟩ | ⟨hw, q⟩⟩ := guardP_sound k q
    · refine wpListIn_step fun K hK => ?_
      rw [if_pos hw]
      by_cases hd : ∀ x, o.dst = some x → x < N
      · exact (stepZ_sound k s q (fun v w' h' s' f' k' => hK _ _ (ih _ _ _ _ (k.put hd v) s' (f.trans f') k')) fun c w' h' s' f' z => mz _ _ c _ _ k s' (f.trans f') z).2
      · exact absurd (stepZ_sound (next := fun _ _ => True) (Q := fun _ _ _ => True) (ro := none) k s q (fun _ _ _ _ _ _ => trivial) fun _ _ _ _ _ _ => trivial).1 hd
    · split at q
      case isFalse => exact q.elim
      rename_i hd
      refine wpListIn_step fun K hK => ?_
      rw [if_neg (by simp [hw])]
      refine ⟨fun _ _ => trivial, ?_⟩
      exact hK _ _ (ih _ _ _ _ (k.skip (dstOk_spec hd)) s f q)
section
variable (P : Program) (Z : Zt) (N : Nat) (ops : Array Oper) (B ms qs : List Nat) (Q : Env → Hp → Prop)
/-- ms: each operation's own forerunners; qs: those that only read -/
def vcDZ : Nat → Nat → List VE → Env → Hp → Prop
  | 0, m, _, env, h => if ((List.range ops.size).filter (readyM ms m)).isEmpty = true then Q env h else False
  | fuel + 1, m, J, env, h =>
    match qs.find? (readyM ms m) with
    | some i => match ops[i]? with
      | some o => guardP ops env o
          (fun env => if fits N env o = true then
            match kindOf (ev env) o with
            | .now v => vcDZ fuel (m ||| 2 ^ i) J (env.put o.dst v) h
            | .pick c a b => pickP c a b fun v => vcDZ fuel (m ||| 2 ^ i) J (env.put o.dst v) h
            | .val s => if readsMem o.op = true then q P h s fun v => vcDZ fuel (m ||| 2 ^ i) ((i, s, v) :: J) (env.put o.dst v) h
                else q P emp s fun v => vcDZ fuel (m ||| 2 ^ i) J (env.put o.dst v) h
            | _ => False
           else False)
          (fun env => if dstOk N o = true then vcDZ fuel (m ||| 2 ^ i) J (env.skip o.dst) h else False)
      | none => False
    | none => match (List.range ops.size).filter (readyM ms m) with
      | [] => Q env h
      | rs => allP (fun j => match ops[j]? with
        | some o => guardP ops env o
            (fun env => stepZ P Z N env o h fun v h' => recheck P h' (J.filter (keepV P ops B j)) (vcDZ fuel (m ||| 2 ^ j) (J.filter (keepV P ops B j)) (env.put o.dst v) h'))
            (fun env => if dstOk N o = true then vcDZ fuel (m ||| 2 ^ j) (J.filter (keepV P ops B j)) (env.skip o.dst) h else False)
        | none => False) rs
end
theorem vcDZ_sound {P : Program} {Z : Zt} {N : Nat} {ops : Array Oper} {B ms qs : List Nat} {Q : Env → Hp → Prop} {R : Exit → Act → World → Prop} {h0 : Hp} {w0 : World} {ro : Option Nat} {ds : List Deferred}
    (hB : chkB ops.toList B = true) (hA : chkA ops B = true) (hsel : Region.noSelect ops = true) (hdf : ∀ (j : Nat) (o : Oper), ops[j]? = some o → ∀ c, o.op ≠ .defer c) (hms : ms = ops.toList.map dmask) (hqs : ∀ i ∈ qs, quietI P ops i = true)
    (hR : ∀ c env h a w, Env.ok env N ds a → h.sat w → Fr h0 h w0 w → Z c h → R (.panic c) a w) (hI : ∀ c a d v w, R (.panic c) (Act.put a d v) w → R (.panic c) a w)
    (mQ : ∀ env h a w, Env.ok env N ds a → h.sat w → Fr h0 h w0 w → Q env h → R .normal a w) :
    ∀ (fuel m : Nat) (J : List VE) (Jf : List JE) (listed : Array Bool) (env : Env) (h : Hp) (a : Act) (w : World),
      Mrel ops m listed → Clo B listed → Env.ok env N ds a → h.sat w → Fr h0 h w0 w → (∀ e ∈ Jf, Known P J e) → (∀ e ∈ J, peek P h e.2.1 = some e.2.2) →
      vcDZ P Z N ops B ms qs Q fuel m J env h → wpJ ro P ops B R fuel Jf listed a w := by
  intro fuel
  have hcond : ∀ (J : List VE) (Jf : List JE) (h : Hp) (w : World), h.sat w → (∀ e ∈ Jf, Known P J e) → (∀ e ∈ J, peek P h e.2.1 = some e.2.2) → condJ P Jf w := by
    intro J Jf h w s h1 h2 e he
    obtain ⟨t, q | q, m⟩ := h1 e he
    · exact peek_run P _ w _ s (m h _ (h2 _ q))
    · exact peek_run P _ w _ (emp_sat w) (m emp _ q)
  induction fuel with
  | zero =>
    intro m J Jf listed env h a w r c k s f h1 h2 q
    simp only [vcDZ] at q
    split at q
    case isFalse => exact q.elim
    rename_i he
    rw [List.isEmpty_iff] at he
    refine ⟨hcond J Jf h w s h1 h2, ?_, mQ _ _ _ _ k s f q⟩
    rw [List.eq_nil_iff_forall_not_mem]
    intro i hi
    have hlt : i < ops.size := by
      obtain ⟨_, o, ho, _⟩ := mem_ready.1 hi
      exact (Array.getElem?_eq_some_iff.1 ho).1
    have : i ∈ (List.range ops.size).filter (readyM ms m) := by
      rw [List.mem_filter]
      exact ⟨List.mem_range.2 hlt, (readyM_iff hms r hlt).2 hi⟩
    rw [he] at this
    cases this
  | succ fuel ih =>
    intro m J Jf listed env h a w r c k s f h1 h2 q
    simp only [vcDZ] at q
    split at q
    · rename_i i hf
      have hrd := List.find?_some hf
      have hmem := List.mem_of_find?_eq_some hf
      split at q
      · rename_i o ho
        have hlt : i < ops.size := (Array.getElem?_eq_some_iff.1 ho).1
        have hir := (readyM_iff hms r hlt).1 hrd
        have r' := r.step hlt
        obtain ⟨env', k, ⟨hw, q⟩ | ⟨hw, q⟩⟩ := guardP_sound k q
        · split at q
          · rename_i hfit
            split at q
            · rename_i v ek
              have hx : execOp a.eval o = .pure (.value v) := by rw [k.exec hfit, kind_now ek]
              refine wpJ_first (s := .pure (.value v)) (v := v) hB hA hsel hdf ho (hqs i hmem) (fun c a w z => hI _ _ _ _ _ z) fuel Jf listed a w c hir rfl (.inl ⟨hw, hx⟩) ?_
              refine ih (m ||| 2 ^ i) J _ _ _ h _ w r' (c.step hB hir) (k.put (fits_dst hfit) v) s f ?_ h2 q
              intro x hx
              rcases List.mem_cons.1 hx with rfl | hx
              · exact ⟨.pure v, .inr rfl, fun h u q => by cases q; rfl⟩
              · exact h1 x hx
            · rename_i cc ca cb ek
              obtain ⟨t, hc, q⟩ := pickP_elim q
              have hx : execOp a.eval o = .pure (.value (cond t ca cb)) := by rw [k.exec hfit, kind_pick ek hc]
              refine wpJ_first (s := .pure (.value (cond t ca cb))) (v := cond t ca cb) hB hA hsel hdf ho (hqs i hmem) (fun c a w z => hI _ _ _ _ _ z) fuel Jf listed a w c hir rfl (.inl ⟨hw, hx⟩) ?_
              refine ih (m ||| 2 ^ i) J _ _ _ h _ w r' (c.step hB hir) (k.put (fits_dst hfit) _) s f ?_ h2 q
              intro x hx
              rcases List.mem_cons.1 hx with rfl | hx
              · exact ⟨.pure (cond t ca cb), .inr rfl, fun h u q => by cases q; rfl⟩
              · exact h1 x hx
            · rename_i t ek
              split at q
              · obtain ⟨v, e, q⟩ := withVal_elim q
                refine wpJ_first (s := execOp (ev env') o) (v := v) hB hA hsel hdf ho (hqs i hmem) (fun c a w z => hI _ _ _ _ _ z) fuel Jf listed a w c hir (pkN_run ek e s) (.inl ⟨hw, k.exec hfit⟩) ?_
                refine ih (m ||| 2 ^ i) _ _ _ _ h _ w r' (c.step hB hir) (k.put (fits_dst hfit) v) s f ?_ ?_ q
                · intro x hx
                  rcases List.mem_cons.1 hx with rfl | hx
                  · exact ⟨t, .inl (List.mem_cons_self ..), (kind_val ek).2 P⟩
                  · obtain ⟨t', q | q, m⟩ := h1 x hx
                    · exact ⟨t', .inl (List.mem_cons_of_mem _ q), m⟩
                    · exact ⟨t', .inr q, m⟩
                · intro x hx
                  rcases List.mem_cons.1 hx with rfl | hx
                  · exact e
                  · exact h2 x hx
              · obtain ⟨v, e, q⟩ := withVal_elim q
                refine wpJ_first (s := execOp (ev env') o) (v := v) hB hA hsel hdf ho (hqs i hmem) (fun c a w z => hI _ _ _ _ _ z) fuel Jf listed a w c hir (pkN_run ek e (emp_sat w)) (.inl ⟨hw, k.exec hfit⟩) ?_
                refine ih (m ||| 2 ^ i) _ _ _ _ h _ w r' (c.step hB hir) (k.put (fits_dst hfit) v) s f ?_ h2 q
                intro x hx
                rcases List.mem_cons.1 hx with rfl | hx
                · exact ⟨t, .inr e, (kind_val ek).2 P⟩
                · exact h1 x hx
            · exact q.elim
          · exact q.elim
        · split at q
          case isFalse => exact q.elim
          rename_i hd
          refine wpJ_first (s := .pure (.value undef)) (v := undef) hB hA hsel hdf ho (hqs i hmem) (fun c a w z => hI _ _ _ _ _ z) fuel Jf listed a w c hir rfl (.inr ⟨hw, rfl⟩) ?_
          refine ih (m ||| 2 ^ i) J _ _ _ h _ w r' (c.step hB hir) (k.skip (dstOk_spec hd)) s f ?_ h2 q
          intro x hx
          rcases List.mem_cons.1 hx with rfl | hx
          · exact ⟨.pure undef, .inr rfl, fun h v q => by cases q; rfl⟩
          · exact h1 x hx
      · exact q.elim
    · have hready : ∀ i ∈ Region.ready .any ops listed, i ∈ (List.range ops.size).filter (readyM ms m) := by
        intro i hi
        have hlt : i < ops.size := by
          obtain ⟨_, o, ho, _⟩ := mem_ready.1 hi
          exact (Array.getElem?_eq_some_iff.1 ho).1
        rw [List.mem_filter]
        exact ⟨List.mem_range.2 hlt, (readyM_iff hms r hlt).2 hi⟩
      refine ⟨hcond J Jf h w s h1 h2, ?_⟩
      split at q
      · rename_i hnil
        have : Region.ready .any ops listed = [] := by
          rw [List.eq_nil_iff_forall_not_mem]
          intro i hi
          have := hready i hi
          rw [hnil] at this
          cases this
        rw [this]
        exact ⟨fun _ => mQ _ _ _ _ k s f q, fun j hj => by cases hj⟩
      · rename_i rs hne
        refine ⟨fun he => ?_, fun j hj => ?_⟩
        · cases hrs : (List.range ops.size).filter (readyM ms m) with
          | nil => exact absurd hrs (by assumption)
          | cons x xs =>
            have hx : x ∈ (List.range ops.size).filter (readyM ms m) := by rw [hrs]; exact List.mem_cons_self ..
            rw [List.mem_filter] at hx
            have := (readyM_iff hms r (List.mem_range.1 hx.1)).1 hx.2
            rw [he] at this
            cases this
        · have q := allP_spec q j (hready j hj)
          split at q
          · rename_i o ho
            have hlt : j < ops.size := (Array.getElem?_eq_some_iff.1 ho).1
            have r' := r.step hlt
            have c' := c.step hB hj
            have hJ : ∀ e ∈ Jf.filter (keepE P ops B j), Known P (J.filter (keepV P ops B j)) e := by
              intro e he
              rw [List.mem_filter] at he
              obtain ⟨t', q | q, m⟩ := h1 e he.1
              · exact ⟨t', .inl (List.mem_filter.2 ⟨q, he.2⟩), m⟩
              · exact ⟨t', .inr q, m⟩
            unfold wpOpIn
            simp only [ho]
            obtain ⟨env', k, ⟨hw, q⟩ | ⟨hw, q⟩⟩ := guardP_sound k q
            · rw [if_pos hw]
              refine (stepZ_sound k s q (fun v w' h' s' f' k' => ?_) fun c w' h' s' f' z => hR c _ h' _ w' k s' (f.trans f') z).2
              obtain ⟨h2', q⟩ := recheck_spec k'
              exact ih (m ||| 2 ^ j) _ _ _ _ h' _ w' r' c' (k.put (fits_dst (stepZ_fits (by assumption))) v) s' (f.trans f') hJ h2' q
            · split at q
              case isFalse => exact q.elim
              rename_i hd
              rw [if_neg (by simp [hw])]
              refine ⟨fun _ _ => trivial, ?_⟩
              refine ih (m ||| 2 ^ j) _ _ _ _ h _ w r' c' (k.skip (dstOk_spec hd)) s f hJ (fun e he => h2 e (List.mem_filter.1 he).1) q
          · exact q.elim
def vcRZ (P : Program) (Z : Zt) (N : Nat) (ops : Array Oper) (Q : Env → Hp → Prop) (env : Env) (h : Hp) : Prop :=
  if (chkB ops.toList (clos ops.toList) && chkA ops (clos ops.toList) && Region.noSelect ops && ops.toList.all fun o => noDef o.op) = true then
    vcDZ P Z N ops (clos ops.toList) (ops.toList.map dmask) (quietL P ops.toList) Q ops.size 0 [] env h
  else False
def vcZ (P : Program) (Z : Zt) (N : Nat) : Code → (Ex → Env → Hp → Prop) → Env → Hp → Prop
  | .skip, Q => Q .normal
  | .label _, Q => Q .normal
  | .region _ ops draw, Q => match draw with
    | false => vcOpsZ P Z N ops (Q .normal) ops.toList
    | true => vcRZ P Z N ops (Q .normal)
  | .seq a b, Q => vcZ P Z N a fun e => match e with
    | .normal => vcZ P Z N b Q
    | e => Q e
  | .cond c x y, Q => fun env h => if env.has c = true then cnd (ev env c) (vcZ P Z N x Q env h) (vcZ P Z N y Q env h) else False
  | .block id c, Q => vcZ P Z N c fun e => match e with
    | .exit i => if i = id then Q .normal else Q (.exit i)
    | e => Q e
  | .loop c, Q => loopP (vcZ P Z N c) (assigned c) Q
  | .exit id, Q => Q (.exit id)
  | .ret, Q => Q .ret
  | .scope c, Q => vcZ P Z N c Q
  | _, _ => fun _ _ => False
theorem vcOpsZ_kept {P : Program} {Z : Zt} {N : Nat} {ops : Array Oper} {Q Q' : Env → Hp → Prop} {L : List Nat} {e0 : Env} (m : ∀ env h, Kept L e0 env → Q env h → Q' env h)
    (hall : ∀ (j : Nat) (o : Oper), ops[j]? = some o → ∀ d, o.dst = some d → d ∈ L) (l : List Oper) (hl : ∀ o ∈ l, ∀ d, o.dst = some d → d ∈ L) :
    ∀ env h, Kept L e0 env → vcOpsZ P Z N ops Q l env h → vcOpsZ P Z N ops Q' l env h := by
  induction l with
  | nil => exact fun env h k q => m env h k q
  | cons o rest ih =>
    intro env h k q
    have ho := hl o (List.mem_cons_self ..)
    have hr := fun o' h' => hl o' (List.mem_cons_of_mem _ h')
    refine guardP_mono hall k (fun env k q => stepZ_mono (fun v h' q => ih hr _ _ (k.put ho v) q) q) (fun env k q => ?_) q
    split at q
    · rename_i hd; rw [if_pos hd]; exact ih hr _ _ (k.skip ho) q
    · exact q.elim
theorem vcDZ_kept {P : Program} {Z : Zt} {N : Nat} {ops : Array Oper} {B ms qs : List Nat} {Q Q' : Env → Hp → Prop} {L : List Nat} {e0 : Env} (m : ∀ env h, Kept L e0 env → Q env h → Q' env h)
    (hl : ∀ (i : Nat) (o : Oper), ops[i]? = some o → ∀ d, o.dst = some d → d ∈ L) :
    ∀ fuel mk J env h, Kept L e0 env → vcDZ P Z N ops B ms qs Q fuel mk J env h → vcDZ P Z N ops B ms qs Q' fuel mk J env h := by
  intro fuel
  induction fuel with
  | zero =>
    intro mk J env h k q
    simp only [vcDZ] at q ⊢
    split at q
    · rename_i he; rw [if_pos he]; exact m env h k q
    · exact q.elim
  | succ fuel ih =>
    intro mk J env h k q
    simp only [vcDZ] at q ⊢
    split
    · rename_i i hf
      rw [hf] at q
      dsimp only at q
      split
      · rename_i o ho
        rw [ho] at q
        have hd := hl i o ho
        refine guardP_mono hl k (fun env k q => ?_) (fun env k q => (by split at q <;> first | exact q.elim | (rename_i hdk; rw [if_pos hdk]; exact ih _ _ _ _ (k.skip hd) q))) q
        split
        · rename_i hfit
          rw [if_pos hfit] at q
          split at q
          · exact ih _ _ _ _ (k.put hd _) q
          · obtain ⟨t, hc, q⟩ := pickP_elim q
            subst hc
            exact ih _ _ _ _ (k.put hd _) q
          · split at q
            · rename_i hrm
              obtain ⟨v, e, q⟩ := withVal_elim q
              rw [if_pos hrm, q_of e]
              exact ih _ _ _ _ (k.put hd v) q
            · rename_i hrm
              obtain ⟨v, e, q⟩ := withVal_elim q
              rw [if_neg hrm, q_of e]
              exact ih _ _ _ _ (k.put hd v) q
          · exact q.elim
        · rename_i hfit
          rw [if_neg hfit] at q
          exact q
      · rename_i ho
        rw [ho] at q
        exact q
    · rename_i hf
      rw [hf] at q
      dsimp only at q
      split
      · rename_i he
        rw [he] at q
        exact m env h k q
      · split at q
        · exfalso; simp_all
        · refine allP_mono (fun j q => ?_) q
          split
          · rename_i o ho
            rw [ho] at q
            have hd := hl j o ho
            refine guardP_mono hl k (fun env k q => stepZ_mono (fun v h' q => ?_) q) (fun env k q => (by split at q <;> first | exact q.elim | (rename_i hdk; rw [if_pos hdk]; exact ih _ _ _ _ (k.skip hd) q))) q
            obtain ⟨q1, q2⟩ := recheck_spec q
            exact recheck_mk q1 (ih _ _ _ _ (k.put hd v) q2)
          · rename_i ho
            rw [ho] at q
            exact q
theorem vcZ_kept {P : Program} {Z : Zt} {N : Nat} (c : Code) : ∀ (L : List Nat) (e0 : Env) (Q Q' : Ex → Env → Hp → Prop) (env : Env) (h : Hp), (∀ x ∈ assigned c, x ∈ L) → Kept L e0 env →
    (∀ e env h, Kept L e0 env → Q e env h → Q' e env h) → vcZ P Z N c Q env h → vcZ P Z N c Q' env h := by
  induction c with
  | skip => exact fun L e0 Q Q' env h _ k m q => m _ _ _ k q
  | label l => exact fun L e0 Q Q' env h _ k m q => m _ _ _ k q
  | exit l => exact fun L e0 Q Q' env h _ k m q => m _ _ _ k q
  | ret => exact fun L e0 Q Q' env h _ k m q => m _ _ _ k q
  | goto l => exact fun L e0 Q Q' env h _ k m q => q.elim
  | refuse l => exact fun L e0 Q Q' env h _ k m q => q.elim
  | rangeFunc f p a b _ _ => exact fun L e0 Q Q' env h _ k m q => q.elim
  | region id ops draw =>
    intro L e0 Q Q' env h hL k m q
    cases draw with
    | false => exact vcOpsZ_kept (m .normal) (fun i o ho d hd => hL d (mem_dsts (by simpa using Array.mem_of_getElem? ho) hd)) _ (fun o ho d hd => hL d (mem_dsts ho hd)) env h k q
    | true =>
      simp only [vcZ, vcRZ] at q ⊢
      split at q
      · rename_i hc
        rw [if_pos hc]
        exact vcDZ_kept (m .normal) (fun i o ho d hd => hL d (mem_dsts (by simpa using Array.mem_of_getElem? ho) hd)) _ _ _ _ _ k q
      · exact q.elim
  | seq a b iha ihb =>
    intro L e0 Q Q' env h hL k m q
    refine iha L e0 _ _ env h (fun x hx => hL x (List.mem_append_left _ hx)) k (fun e env h k q => ?_) q
    cases e with
    | normal => exact ihb L e0 Q Q' env h (fun x hx => hL x (List.mem_append_right _ hx)) k m q
    | exit id => exact m _ _ _ k q
    | ret => exact m _ _ _ k q
  | cond c x y ihx ihy =>
    intro L e0 Q Q' env h hL k m q
    simp only [vcZ] at q ⊢
    split at q
    · rename_i hc
      rw [if_pos hc]
      unfold cnd at q ⊢
      split at q
      · split at q
        · rename_i hb; rw [if_pos hb]; exact ihx L e0 Q Q' env h (fun x hx => hL x (List.mem_append_left _ hx)) k m q
        · rename_i hb; rw [if_neg hb]; exact ihy L e0 Q Q' env h (fun x hx => hL x (List.mem_append_right _ hx)) k m q
      · exact q.elim
    · exact q.elim
  | block id c ih =>
    intro L e0 Q Q' env h hL k m q
    refine ih L e0 _ _ env h hL k (fun e env h k q => ?_) q
    cases e with
    | normal => exact m _ _ _ k q
    | exit i =>
      dsimp only at q ⊢
      split at q
      · rename_i e; rw [if_pos e]; exact m _ _ _ k q
      · rename_i e; rw [if_neg e]; exact m _ _ _ k q
    | ret => exact m _ _ _ k q
  | scope c ih => exact fun L e0 Q Q' env h hL k m q => ih L e0 Q Q' env h hL k m q
  | loop c ih =>
    intro L e0 Q Q' env h hL k m q
    obtain ⟨I, h0, hI⟩ := q
    refine ⟨I, h0, fun n vs h1 hi => ih L e0 _ _ _ _ hL ?_ (fun e env' h2 k q => ?_) (hI n vs h1 hi)⟩
    · refine k.trans (Kept.mono (headKept (assigned c) _ (fun x hx => ?_) env vs) hL)
      have := (List.mem_filter.1 hx).1
      exact List.mem_eraseDups.1 this
    · cases e with
      | normal => exact q
      | exit id => exact m _ _ _ k q
      | ret => exact m _ _ _ k q
abbrev VcSoundZ (P : Program) (Z : Zt) (N : Nat) (ds : List Deferred) (c : Code) : Prop := ∀ (Q : Ex → Env → Hp → Prop) (env : Env) (h : Hp) (a : Act) (w : World) (R : Exit → Act → World → Prop),
    h.sat w → Env.ok env N ds a → vcZ P Z N c Q env h → (∀ c env' h' a' w', Env.ok env' N ds a' → h'.sat w' → Fr h h' w w' → Z c h' → R (.panic c) a' w') → (∀ c a d v w, R (.panic c) (Act.put a d v) w → R (.panic c) a w) →
    (∀ e env' h' a' w', h'.sat w' → Env.ok env' N ds a' → Fr h h' w w' → Q e env' h' → R e.to a' w') → c.wpIn (Fz none) 0 P R a w
theorem vcZ_sound {P : Program} {Z : Zt} {N : Nat} {ds : List Deferred} (hm : P.follows .mixedOrders = true) (c : Code) : VcSoundZ P Z N ds c := by
  induction c with
  | skip => exact fun Q env h a w R s k q _ _ m => wpIn_skip (m .normal env h a w s k (Fr.refl _ _) q)
  | label l => exact fun Q env h a w R s k q _ _ m => wpIn_label (m .normal env h a w s k (Fr.refl _ _) q)
  | exit l => exact fun Q env h a w R s k q _ _ m => wpIn_exit (m (.exit l) env h a w s k (Fr.refl _ _) q)
  | ret => exact fun Q env h a w R s k q _ _ m => wpIn_ret (m .ret env h a w s k (Fr.refl _ _) q)
  | goto l => exact fun Q env h a w R s k q _ _ m => q.elim
  | refuse l => exact fun Q env h a w R s k q _ _ m => q.elim
  | rangeFunc f p x b iha ihb => exact fun Q env h a w R s k q _ _ m => q.elim
  | region id ops draw =>
    intro Q env h a w R s k q hR hI m
    cases draw with
    | false => exact wpIn_region_list (vcOpsZ_sound (ds := ds) (fun env' h' a' w' k' s' f' q' => m .normal env' h' a' w' s' k' f' q') (fun env' h' c a' w' k' s' f' z => hR c env' h' a' w' k' s' f' z) _ env h a w k s (Fr.refl _ _) q)
    | true =>
      simp only [vcZ, vcRZ] at q
      split at q
      · rename_i hc
        simp only [Bool.and_eq_true] at hc
        refine wpIn_region_any hm (wpJ_any (B := clos ops.toList) _ [] _ _ _ ?_)
        refine vcDZ_sound (ds := ds) hc.1.1.1 hc.1.1.2 hc.1.2 (noDef_spec hc.2) rfl ?_ (fun c env' h' a' w' k' s' f' z => hR c env' h' a' w' k' s' f' z) hI (fun env' h' a' w' k' s' f' q' => m .normal env' h' a' w' s' k' f' q') ops.size 0 [] [] _ env h a { w with drawn := w.drawn + 1 } (mrel_nil ops) (clo_nil _ _) k s (Fr.drew _) (fun e he => by cases he) (fun e he => by cases he) q
        intro i hi
        obtain ⟨p, hp, e⟩ := List.mem_filterMap.1 hi
        split at e
        · rename_i hq
          cases e
          have := List.mem_zipIdx_iff_getElem?.1 hp
          simp only [quietI]
          rw [show ops[p.2]? = some p.1 by simpa using this]
          exact hq
        · cases e
      · exact q.elim
  | seq x y ihx ihy =>
    intro Q env h a w R s k q hR hI m
    refine wpIn_seq (ihx _ env h a w _ s k q hR hI (fun e env' h' a' w' s' k' f' q' => ?_))
    cases e with
    | normal => exact ihy Q env' h' a' w' R s' k' q' (fun c env2 h2 a2 w2 k2 s2 f2 z => hR c env2 h2 a2 w2 k2 s2 (f'.trans f2) z) hI (fun e env2 h2 a2 w2 s2 k2 f2 q2 => m e env2 h2 a2 w2 s2 k2 (f'.trans f2) q2)
    | exit id => exact m _ _ _ _ _ s' k' f' q'
    | ret => exact m _ _ _ _ _ s' k' f' q'
  | cond c x y ihx ihy =>
    intro Q env h a w R s k q hR hI m
    simp only [vcZ] at q
    split at q
    · rename_i hc
      unfold cnd at q
      split at q
      · rename_i b hb
        refine wpIn_cond (t := b) (by rw [k.eval hc]; exact hb) ?_
        split at q
        · rename_i e; rw [if_pos e]; exact ihx Q env h a w R s k q hR hI m
        · rename_i e; rw [if_neg e]; exact ihy Q env h a w R s k q hR hI m
      · exact q.elim
    · exact q.elim
  | block id c ih =>
    intro Q env h a w R s k q hR hI m
    refine wpIn_block (ih _ env h a w _ s k q hR hI (fun e env' h' a' w' s' k' f' q' => ?_))
    cases e with
    | normal => exact m _ _ _ _ _ s' k' f' q'
    | exit i =>
      dsimp only at q'
      show if i = id then R .normal a' w' else R (.exit i) a' w'
      split at q'
      · rename_i e; rw [if_pos e]; exact m _ _ _ _ _ s' k' f' q'
      · rename_i e; rw [if_neg e]; exact m _ _ _ _ _ s' k' f' q'
    | ret => exact m _ _ _ _ _ s' k' f' q'
  | scope c ih =>
    intro Q env h a w R s k q hR hI m
    refine wpIn_wide.2 (wp_scope_straight ((wpIn_wide (n := 0)).1 (ih Q env h a w _ s k q hR hI (fun e env' h' a' w' s' k' f' q' => ?_))))
    cases e <;> exact m _ _ _ _ _ s' k' f' q'
  | loop c ih =>
    intro Q env h a w R s k q hR hIp m
    obtain ⟨I, ⟨hs0, ls0, n0, h0⟩, hI⟩ := q
    generalize hL : ((assigned c).eraseDups.filter fun s => (env.lookup s).isSome) = L at *
    have hLa : ∀ x ∈ L, x ∈ assigned c := fun x hx => by
      subst hL
      exact List.mem_eraseDups.1 (List.mem_filter.1 hx).1
    let p : Act → World → Nat → Prop := fun a1 w1 n => ∃ vs h1, h1.sat w1 ∧ Env.ok (headOf L vs ++ env.filter fun p => !(assigned c).contains p.1) N ds a1 ∧ Fr h h1 w w1 ∧ I n vs h1
    let μ : Act → World → Nat := fun a1 w1 => open Classical in if q : ∃ n, p a1 w1 n then Classical.choose (least q) else 0
    have hμ : ∀ a1 w1, (∃ n, p a1 w1 n) → p a1 w1 (μ a1 w1) ∧ ∀ m, p a1 w1 m → μ a1 w1 ≤ m := by
      intro a1 w1 q
      have : μ a1 w1 = Classical.choose (least q) := dif_pos q
      rw [this]
      exact Classical.choose_spec (least q)
    have okHead0 : ∀ (env' : Env) (a' : Act) (ds : List Deferred), Env.ok env' N ds a' → Kept (assigned c) env env' → (∀ s ∈ L, (env'.lookup s).isSome = true) → Env.ok (headOf L (valsOf L env') ++ env.filter fun p => !(assigned c).contains p.1) N ds a' := by
      intro env' a' ds k' kp hs
      refine ⟨k'.1, k'.2.1, fun t v hv => ?_⟩
      rw [lookup_append] at hv
      cases hh : (headOf L (valsOf L env')).lookup t with
      | some u =>
        rw [hh] at hv
        obtain ⟨i, hi, hu⟩ := lookup_headOf hh
        have hlt : i < L.length := (List.getElem?_eq_some_iff.1 hi).1
        have hsome := hs t (List.mem_of_getElem? hi)
        obtain ⟨x, hx⟩ := Option.isSome_iff_exists.1 hsome
        have e1 : (valsOf L env').getD i undef = x.get := by
          simp only [valsOf, List.getD_eq_getElem?_getD, List.getElem?_map, hi, Option.map_some, Option.getD_some, ev, hx]
        rw [e1] at hu
        cases hv
        rw [hu]
        exact k'.2.2 t x hx
      | none =>
        rw [hh, Option.none_or] at hv
        have hnot : t ∉ assigned c := by
          intro ht
          have : ∀ l : Env, ((l.filter fun p => !(assigned c).contains p.1).lookup t) = none := by
            intro l
            induction l with
            | nil => rfl
            | cons p l ih =>
              simp only [List.filter_cons]
              split
              · rename_i hp
                rw [lk_cons]
                have : (t == p.1) = false := by
                  simp only [beq_eq_false_iff_ne]
                  rintro rfl
                  simp [ht] at hp
                rw [this]
                exact ih
              · exact ih
          rw [this] at hv
          cases hv
        rw [lookup_filter _ _ _ hnot] at hv
        rw [← kp t hnot] at hv
        exact k'.2.2 t v hv
    have hstart : p a w n0 := by
      refine ⟨valsOf L env, hs0, ls0.sat s, okHead0 env a ds k (Kept.refl _ _) ?_, (Fr.refl _ _).weaken ls0, h0⟩
      intro x hx
      subst hL
      exact (List.mem_filter.1 hx).2
    refine wpIn_loop (fun a1 w1 => ∃ n, p a1 w1 n) μ ⟨n0, hstart⟩ (fun a1 w1 hp => ?_)
    obtain ⟨⟨vs, h1, s1, k1, f1, i1⟩, hmin⟩ := hμ a1 w1 hp
    have q1 := hI _ vs h1 i1
    have q2 := vcZ_kept c (assigned c) env _ (fun e env' h2 => Kept (assigned c) env env' ∧ (match e with
          | .normal => if (L.all fun s => (env'.lookup s).isSome) = true then ∃ h0, Hp.le h0 h2 ∧ ∃ m, m < μ a1 w1 ∧ I m (valsOf L env') h0 else False
          | e => Q e env' h2)) _ _ (fun x hx => hx) (headKept (assigned c) L hLa env vs) (fun e env' h2 kp q => ⟨kp, q⟩) q1
    refine ih _ _ h1 a1 w1 _ s1 k1 q2 (fun c env2 h2 a2 w2 k2 s2 f2 z => hR c env2 h2 a2 w2 k2 s2 (f1.trans f2) z) hIp (fun e env' h' a' w' s' k' f' q' => ?_)
    obtain ⟨kp, q'⟩ := q'
    cases e with
    | normal =>
      dsimp only at q'
      split at q'
      case isFalse => exact q'.elim
      rename_i hall
      obtain ⟨hw, lw, m', hlt, im⟩ := q'
      have pm : p a' w' m' := ⟨_, hw, lw.sat s', okHead0 env' a' ds k' kp (fun x hx => List.all_eq_true.1 hall x hx), (f1.trans f').weaken lw, im⟩
      exact ⟨⟨m', pm⟩, Nat.lt_of_le_of_lt ((hμ a' w' ⟨m', pm⟩).2 m' pm) hlt⟩
    | exit id => exact m _ _ _ _ _ s' k' (f1.trans f') q'
    | ret => exact m _ _ _ _ _ s' k' (f1.trans f') q'
theorem CnZ_ofs {P : Program} {Z : Zt} {f : FuncId} {fn : Func} {args : List Value} {h : Hp} {K : Value → Hp → Prop} {S : Prop} (hm : P.follows .mixedOrders = true) (hf : P.funcs[f]? = some fn)
    (hb : (fn.body.isSome && !(fn.name == "runtime.NumGoroutine") && decide (args.length ≤ fn.ntmps)) = true)
    (e : vcZ P Z fn.ntmps (fn.body.getD .skip) (retP P fn.results.toList K) (env0 args) h = S) (s : S) : CnZ P Z f args.toArray h K := by
  simp only [Bool.and_eq_true, Bool.not_eq_true', decide_eq_true_eq] at hb
  obtain ⟨c, hc⟩ := Option.isSome_iff_exists.1 hb.1.1
  rw [hc] at e
  subst e
  have q : vcZ P Z fn.ntmps c (retP P fn.results.toList K) (env0 args) h := s
  refine ⟨⟨fn, hf, by simp [hc], hb.1.2⟩, fun w s => (callsIn_wide (n := 0)).1 (callsIn_of_wp_marks (F := Fz none) hf hc trivial ?_)⟩
  have hok := env0_ok args (fn.ntmps - args.length)
  rw [Nat.add_sub_cancel' hb.2] at hok
  have hsz : args.toArray.size = args.length := by simp
  rw [hsz]
  refine wpIn_mono (Q := fun e a w' => match e with
      | .panic c => a.defers = [] ∧ ∃ h', h'.sat w' ∧ Fr h h' w w' ∧ Z c h'
      | e => bodyPostM (Fz none) 0 P fn (fun e w' => (∃ v h', e = .returned v ∧ h'.sat w' ∧ Fr h h' w w' ∧ K v h') ∨ (∃ c h', e = .panicked c ∧ h'.sat w' ∧ Fr h h' w w' ∧ Z c h')) e a w') ?_ (fun e a w' z => by
        cases e <;> first | exact z | skip
        case panic c =>
          obtain ⟨hd, h', s', f', z⟩ := z
          show LeavesInM _ _ _ _ _ _ a.defers _ _
          rw [hd]
          exact .inr ⟨c, h', rfl, s', f', z⟩)
  refine vcZ_sound hm c _ _ h _ w _ s hok q (fun c env' h' a' w' k' s' f' z => ⟨k'.2.1, h', s', f', z⟩) (fun c a d v w z => by obtain ⟨z1, z2⟩ := z; exact ⟨by cases d <;> exact z1, z2⟩) ?_
  intro e env' h' a' w' s' k' f' q'
  have fin : LeavesInM (Fz none) 0 P fn a'.tmps (fun e w' => (∃ v h', e = .returned v ∧ h'.sat w' ∧ Fr h h' w w' ∧ K v h') ∨ (∃ c h', e = .panicked c ∧ h'.sat w' ∧ Fr h h' w w' ∧ Z c h')) a'.defers .returning w' → True := fun _ => trivial
  have go : retL P fn.results.toList (fun v => K v h') env' h' → LeavesInM (Fz none) 0 P fn a'.tmps (fun e w' => (∃ v h', e = .returned v ∧ h'.sat w' ∧ Fr h h' w w' ∧ K v h') ∨ (∃ c h', e = .panicked c ∧ h'.sat w' ∧ Fr h h' w w' ∧ Z c h')) a'.defers .returning w' := fun z => by
    rw [k'.2.1]
    obtain ⟨v, hv, q⟩ := retL_sound (fn := fn) (K := fun v => K v h') k' s' z
    exact ⟨v, hv, .inl ⟨v, h', rfl, s', f', q⟩⟩
  cases e with
  | exit id => exact q'.elim
  | normal => exact go q'
  | ret => exact go q'
/-- A deferred call comes back, beside a frame of that mode. -/
def CnD (P : Program) (g : FuncId) (args : Array Value) (u : FrameMode) (h : Hp) (R : FrameMode → Hp → Prop) : Prop :=
  ∀ w, h.sat w → CallsDIn (Fz none) 0 P g args u w fun e u' w' => (∃ v, e = .returned v) ∧ ∃ h', h'.sat w' ∧ Fr h h' w w' ∧ R u' h'
/-- The two operations by which a closure over two variables is deferred. -/
abbrev mkOp (g : FuncId) (z x y : Nat) (t : TypeId) (p : String) : Oper := { dst := some z, op := .makeFunc (.func g) #[] #[.tmp x, .tmp y], type := t, pos := p, after := #[], guard := none }
abbrev dfOp (z : Nat) (p : String) (af : Array Edge) : Oper := { dst := none, op := .defer { callee := .value (.tmp z), args := #[], argTypes := #[] }, type := 0, pos := p, after := af, guard := none }
theorem defer_region {P : Program} {g : FuncId} {z x y rD : Nat} {t : TypeId} {p p' : String} {af : Array Edge} {Q : Exit → Act → World → Prop} {a : Act} {w : World} {vx vy : Value}
    (hx : a.tmps[x]? = some vx) (hy : a.tmps[y]? = some vy) (hz : z < a.tmps.size)
    (q : Q .normal { tmps := a.tmps.set! z (.func (.func g) #[] #[vx, vy]), defers := { target := .fn (.func g) #[vx, vy], args := #[] } :: a.defers } w) :
    (Code.region rD #[mkOp g z x y t p, dfOp z p' af] false).wpIn (Fz none) 0 P Q a w := by
  refine wpIn_region ?_
  show wpOpsIn (Fz none) 0 P #[mkOp g z x y t p, dfOp z p' af] Q [0, 1] a w
  have e0 : (#[mkOp g z x y t p, dfOp z p' af] : Array Oper)[0]? = some (mkOp g z x y t p) := rfl
  have e1 : (#[mkOp g z x y t p, dfOp z p' af] : Array Oper)[1]? = some (dfOp z p' af) := rfl
  unfold wpOpsIn
  rw [e0]
  dsimp only
  rw [if_pos (by rfl)]
  refine ⟨fun f hf => trivial, ?_⟩
  have ex : a.eval (.tmp x) = vx := by show a.tmps.getD x undef = vx; rw [Array.getD_eq_getD_getElem?, hx]; rfl
  have ey : a.eval (.tmp y) = vy := by show a.tmps.getD y undef = vy; rw [Array.getD_eq_getD_getElem?, hy]; rfl
  have r1 : ((mkOp g z x y t p).semAt (Fz none).round a.eval).run P w = .ok (.value (.func (.func g) #[] #[vx, vy])) w := by
    rw [show (Fz none).round = none from rfl, Oper.semAt_none]
    show Sem.run P (execOp a.eval { dst := some z, op := .makeFunc (.func g) #[] #[.tmp x, .tmp y], type := t, pos := p, after := #[], guard := none }) w = _
    unfold execOp
    simp only [List.map_toArray, List.map_cons, List.map_nil, ex, ey]
    rfl
  rw [r1, Oper.uponIn_value]
  unfold wpOpsIn
  rw [e1]
  dsimp only
  rw [if_pos (by rfl)]
  refine ⟨fun f hf => trivial, ?_⟩
  have r2 : ((dfOp z p' af).semAt (Fz none).round (a.put (some z) (.func (.func g) #[] #[vx, vy])).eval).run P w = .ok (.defer { target := .fn (.func g) #[vx, vy], args := #[] }) w := by
    have ez : (a.put (some z) (.func (.func g) #[] #[vx, vy])).eval (.tmp z) = .func (.func g) #[] #[vx, vy] := by
      show (a.tmps.setIfInBounds z _).getD z undef = _
      rw [Array.getD_eq_getD_getElem?, Array.getElem?_setIfInBounds_self_of_lt hz]
      rfl
    rw [show (Fz none).round = none from rfl, Oper.semAt_none]
    unfold execOp
    dsimp only [dfOp, resolve]
    rw [ez, Array.map_empty]
    rfl
  rw [r2, Oper.uponIn_defer]
  exact q
/-- Two variables that an activation keeps. -/
def Pin (x y : Nat) (vx vy : Value) (a : Act) : Prop := a.tmps[x]? = some vx ∧ a.tmps[y]? = some vy
theorem Pin.put {x y : Nat} {vx vy : Value} {a : Act} (k : Pin x y vx vy a) {d : Option Nat} (hx : d ≠ some x) (hy : d ≠ some y) (v : Value) : Pin x y vx vy (a.put d v) := by
  cases d with
  | none => exact k
  | some d =>
    have e : ∀ t, d ≠ t → (a.put (some d) v).tmps[t]? = a.tmps[t]? := fun t ht => by
      show (a.tmps.setIfInBounds d v)[t]? = _
      rw [Array.getElem?_setIfInBounds_ne ht]
    exact ⟨by rw [e x (fun q => hx (by rw [q]))]; exact k.1, by rw [e y (fun q => hy (by rw [q]))]; exact k.2⟩
theorem vcOpsZ_soundP {P : Program} {Z : Zt} {N : Nat} {ops : Array Oper} {Q : Env → Hp → Prop} {R : Exit → Act → World → Prop} {h0 : Hp} {w0 : World} {ds : List Deferred} {ro : Option Nat} {x y : Nat} {vx vy : Value}
    (m : ∀ env h a w, env.ok N ds a → Pin x y vx vy a → h.sat w → Fr h0 h w0 w → Q env h → R .normal a w)
    (mz : ∀ env h c a w, Env.ok env N ds a → Pin x y vx vy a → h.sat w → Fr h0 h w0 w → Z c h → R (.panic c) a w) (l : List Oper) (hl : ∀ o ∈ l, o.dst ≠ some x ∧ o.dst ≠ some y) :
    ∀ env h a w, Env.ok env N ds a → Pin x y vx vy a → h.sat w → Fr h0 h w0 w → vcOpsZ P Z N ops Q l env h → wpListIn (Fz ro) 0 P ops R l a w := by
  induction l with
  | nil => exact fun env h a w k pn s f q => m env h a w k pn s f q
  | cons o rest ih =>
    intro env h a w k pn s f q
    obtain ⟨hox, hoy⟩ := hl o (by simp)
    have ih := ih fun o ho => hl o (by simp [ho])
    obtain ⟨env', k, ⟨hw, q⟩ | ⟨hw, q⟩⟩ := guardP_sound k q
    · refine wpListIn_step fun K hK => ?_
      rw [if_pos hw]
      by_cases hd : ∀ x, o.dst = some x → x < N
      · exact (stepZ_sound k s q (fun v w' h' s' f' k' => hK _ _ (ih _ _ _ _ (k.put hd v) (pn.put hox hoy v) s' (f.trans f') k')) fun c w' h' s' f' z => mz _ _ c _ _ k pn s' (f.trans f') z).2
      · exact absurd (stepZ_sound (next := fun _ _ => True) (Q := fun _ _ _ => True) (ro := none) k s q (fun _ _ _ _ _ _ => trivial) fun _ _ _ _ _ _ => trivial).1 hd
    · split at q
      case isFalse => exact q.elim
      rename_i hd
      refine wpListIn_step fun K hK => ?_
      rw [if_neg (by simp [hw])]
      refine ⟨fun _ _ => trivial, ?_⟩
      exact hK _ _ (ih _ _ _ _ (k.skip (dstOk_spec hd)) (pn.put hox hoy undef) s f q)
/-- The end of a frame that has one deferred closure. -/
theorem leave_defer {P : Program} {fn : Func} {N : Nat} {g : FuncId} {vx vy : Value} {u : FrameMode} {h0 h : Hp} {w0 w : World} {a : Act} {env : Env} {K : Value → Hp → Prop} (hu : u ≠ .run) (hg : ∃ gn, P.funcs[g]? = some gn ∧ gn.body.isNone = false ∧ (gn.name == "runtime.NumGoroutine") = false)
    (k : Env.ok env N [{ target := .fn (.func g) #[vx, vy], args := #[] }] a) (s : h.sat w) (f : Fr h0 h w0 w) (c : CnD P g #[vx, vy] u h fun u' h3 => settle u' = .returning ∧ retL P fn.results.toList (fun v => K v h3) env h3) :
    LeavesInM (Fz none) 0 P fn a.tmps (fun e w' => ∃ v h', e = .returned v ∧ h'.sat w' ∧ Fr h0 h' w0 w' ∧ K v h') a.defers u w := by
  rw [k.2.1]
  have inv : (invoke (.fn (.func g) #[vx, vy]) #[]).run P w = .ok (.enter g #[vx, vy]) w := by
    obtain ⟨gn, h1, h2, h3⟩ := hg
    have ea : (#[] ++ #[vx, vy] : Array Value) = #[vx, vy] := by simp
    show Sem.run P (callFunc g (#[] ++ #[vx, vy])) w = _
    rw [ea]
    show Sem.run P (match P.funcs[g]? with
      | none => _
      | some fn => _) w = _
    rw [h1]
    dsimp only
    rw [if_neg (by simp [h3]), if_neg (by simp [h2])]
    rfl
  refine ⟨hu, .inr ⟨fun e => (by cases e), .func g, #[vx, vy], g, #[vx, vy], rfl, inv, fun _ _ => trivial, ?_⟩⟩
  refine CallsDIn.mono (c w s) ?_
  rintro e u' w' ⟨⟨v, rfl⟩, h3, s3, f3, hset, hret⟩
  show LeavesInM (Fz none) 0 P fn a.tmps _ [] (settle u') w'
  rw [hset]
  obtain ⟨v2, hv, q⟩ := retL_sound (fn := fn) (K := fun v => K v h3) k s3 hret
  exact ⟨v2, hv, v2, h3, rfl, s3, f.trans f3, q⟩
/-- The operation that recovers. -/
abbrev rcOp (d : Nat) (t : TypeId) (p : String) : Oper := { dst := some d, op := .call { callee := .builtin .recover, args := #[], argTypes := #[] }, type := t, pos := p, after := #[], guard := none }
/-- What recover tells in a frame of that mode, and the mode behind it. -/
def recM : FrameMode → Value × FrameMode
  | .panicking ({ v, recovered := false, goexit := false } :: older) => (v, .panicking ({ v, recovered := true } :: older))
  | u => (.nilIface, u)
theorem CnD_of {P : Program} {g : FuncId} {gn : Func} {args : List Value} {u : FrameMode} {h : Hp} {R : FrameMode → Hp → Prop} {C : Code} {r0 d : Nat} {t : TypeId} {p : String} (hm : P.follows .mixedOrders = true) (hf : P.funcs[g]? = some gn)
    (hb : gn.body = some ((Code.region r0 #[rcOp d t p] false).seq C)) (hs : args.length ≤ gn.ntmps) (hd : d < gn.ntmps) (hr : gn.results = #[])
    (q : vcZ P (fun _ _ => False) gn.ntmps C (fun e env h' => match e with
      | .exit _ => False
      | _ => R (recM u).2 h') (Env.put (env0 args) (some d) (recM u).1) h) : CnD P g args.toArray u h R := by
  intro w s
  refine callsDIn_of_wpSIn (F := Fz none) hf hb trivial fun c0 cs hu => ?_
  have hok := env0_ok args (gn.ntmps - args.length)
  rw [Nat.add_sub_cancel' hs] at hok
  have hsz : args.toArray.size = args.length := by simp
  rw [hsz]
  refine wpSIn_seq (wpSIn_region ?_)
  show wpOpsSIn (Fz none) 0 P #[rcOp d t p] _ [0] _ _ w
  have e0 : (#[rcOp d t p] : Array Oper)[0]? = some (rcOp d t p) := rfl
  unfold wpOpsSIn
  rw [e0]
  dsimp only
  refine ⟨fun _ _ => trivial, ?_⟩
  rw [if_pos (by rfl)]
  have r1 : ∀ ρ, (execOp ρ (rcOp d t p)).run P w = .ok .recover w := fun ρ => rfl
  rw [r1]
  dsimp only
  have rcv : ∀ X : Value → List Frame → Prop, X (recM u).1 ({ c0 with mode := (recM u).2 } :: cs) → (match recoverD (c0 :: cs) with
      | some (v, cs') => X v cs'
      | none => X .nilIface (c0 :: cs)) := fun X hX => by
    have same : ({ c0 with mode := u } : Frame) = c0 := by rw [← hu]
    unfold recoverD
    dsimp only
    rw [hu]
    cases u with
    | run => rw [show (recM .run) = (.nilIface, .run) from rfl] at hX; dsimp only at hX ⊢; rwa [same] at hX
    | returning => rw [show (recM .returning) = (.nilIface, .returning) from rfl] at hX; dsimp only at hX ⊢; rwa [same] at hX
    | panicking c =>
      match c with
      | [] => rw [show (recM (.panicking [])) = (.nilIface, .panicking []) from rfl] at hX; dsimp only at hX ⊢; rwa [same] at hX
      | ⟨v, r, ge⟩ :: older =>
        cases r <;> cases ge <;> first | exact hX | (dsimp only [recM] at hX ⊢; rwa [same] at hX)
  refine rcv (fun v cs' => wpOpsSIn (Fz none) 0 P #[rcOp d t p] _ [] (Act.put _ (some d) v) cs' w) ?_
  have k1 := hok.put (d := some d) (fun x e => by cases e; exact hd) (recM u).1
  unfold wpOpsSIn
  show Code.wpSIn (Fz none) 0 P C _ _ _ w
  refine wpSIn_of_wpIn rfl ?_
  refine wpIn_mono (Q := fun e a w' => match e with
    | .panic _ => False
    | e => bodyPostS P gn c0 cs (fun e u' w' => (∃ v, e = .returned v) ∧ ∃ h', h'.sat w' ∧ Fr h h' w w' ∧ R u' h') e a ({ c0 with mode := (recM u).2 } :: cs) w') ?_ (fun e a w z => by cases e <;> first | exact z | exact z.elim)
  refine vcZ_sound hm C _ _ h _ w _ s k1 q (fun c env' h' a' w' k' s' f' z => z) (fun c a d v w z => z) ?_
  intro e env' h' a' w' s' k' f' q'
  have fin : R (recM u).2 h' → a'.defers = [] ∧ ∃ u', ({ c0 with mode := (recM u).2 } :: cs : List Frame) = { c0 with mode := u' } :: cs ∧ ∃ v, (results gn a'.tmps).run P w' = .ok v w' ∧ (∃ v2, Ending.returned v = .returned v2) ∧ ∃ h', h'.sat w' ∧ Fr h h' w w' ∧ R u' h' := fun z => by
    obtain ⟨v, hv, _⟩ := retL_sound (fn := gn) (K := fun _ => True) k' s' (by rw [hr]; trivial)
    exact ⟨k'.2.1, (recM u).2, rfl, v, hv, ⟨_, rfl⟩, h', s', f', z⟩
  cases e with
  | exit id => exact q'.elim
  | normal => exact fin q'
  | ret => exact fin q'
section
variable {P : Program} {h : Hp}
/-- A type's cells, and its zero. -/
def sz (P : Program) (t : TypeId) : Option Nat := (P.info? t).map (·.size)
def zr (P : Program) (t : TypeId) : Option Value := (P.info? t).bind (·.zero)
def bs (P : Program) (t : TypeId) : Option Nat := (P.info? t).map (·.bytes)
theorem pk_pure {α : Type} (x : α) : peek P h (pure x : Sem α) = some x := rfl
theorem pk_und {t : TypeId} {d : TypeDesc} (e : P.underlying t = some d) : peek P h (underlying t) = some d := by
  show peek P h (match P.underlying t with
    | some d => pure d
    | none => stuck "no such type") = _
  rw [e]
  rfl
theorem pk_size {t : TypeId} {n : Nat} (e : sz P t = some n) : peek P h (sizeOf t) = some n := by
  unfold sz at e
  show peek P h (Sem.bind (typeInfo t) _) = _
  rw [peek_bind]
  have : peek P h (typeInfo t) = P.info? t := by
    show peek P h (match P.info? t with
      | some i => pure i
      | none => stuck "no such type") = _
    cases P.info? t <;> rfl
  rw [this]
  cases hi : P.info? t with
  | none => rw [hi] at e; cases e
  | some i => rw [hi] at e; cases e; rfl
theorem pk_zero {t : TypeId} {v : Value} (e : zr P t = some v) : peek P h (zeroValue t) = some v := by
  unfold zr at e
  show peek P h (Sem.bind (typeInfo t) _) = _
  rw [peek_bind]
  have : peek P h (typeInfo t) = P.info? t := by
    show peek P h (match P.info? t with
      | some i => pure i
      | none => stuck "no such type") = _
    cases P.info? t <;> rfl
  rw [this]
  cases hi : P.info? t with
  | none => rw [hi] at e; cases e
  | some i =>
    rw [hi] at e
    simp only [Option.bind_some] at e
    simp only [Option.bind_some]
    rw [e]
    rfl
theorem pk_info {t : TypeId} {i : TypeInfo} (e : P.info? t = some i) : peek P h (typeInfo t) = some i := by
  show peek P h (match P.info? t with
      | some i => pure i
      | none => stuck "no such type") = _
  rw [e]
  rfl
/-- Is a type told cell by cell? -/
def aggB (d : TypeDesc) : Bool := match d with
  | .struct _ | .array _ _ => true
  | _ => false
theorem pk_isAgg {t : TypeId} {d : TypeDesc} (e : P.underlying t = some d) : peek P h (isAgg t) = some (aggB d) := by
  show peek P h (Sem.bind (underlying t) _) = _
  rw [peek_bind, pk_und e]
  cases d <;> rfl
variable {K : Value → Prop}
/-! ### Numbers -/
theorem q_add (t : TypeId) (k : IntKind) (a b : Int) : q P h (binOp .add t (.int k a) (.int k b)) K = K (.int k (k.wrap (a + b))) := q_of (by simp [binOp, Op.intArith, pk_pure]) K
theorem q_sub (t : TypeId) (k : IntKind) (a b : Int) : q P h (binOp .sub t (.int k a) (.int k b)) K = K (.int k (k.wrap (a - b))) := q_of (by simp [binOp, Op.intArith, pk_pure]) K
theorem q_mul (t : TypeId) (k : IntKind) (a b : Int) : q P h (binOp .mul t (.int k a) (.int k b)) K = K (.int k (k.wrap (a * b))) := q_of (by simp [binOp, Op.intArith, pk_pure]) K
theorem q_quo (t : TypeId) (k : IntKind) (a b : Int) (hb : b ≠ 0) : q P h (binOp .quo t (.int k a) (.int k b)) K = K (.int k (k.wrap (a.tdiv b))) := q_of (by simp [binOp, Op.intDiv, hb, pk_pure]) K
theorem q_rem (t : TypeId) (k : IntKind) (a b : Int) (hb : b ≠ 0) : q P h (binOp .rem t (.int k a) (.int k b)) K = K (.int k (a.tmod b)) := q_of (by simp [binOp, Op.intDiv, hb, pk_pure]) K
theorem q_lss (t : TypeId) (k : IntKind) (a b : Int) : q P h (binOp .lss t (.int k a) (.int k b)) K = K (.bool (decide (a < b))) := q_of (by simp [binOp, Op.intCmp, pk_pure]) K
theorem q_leq (t : TypeId) (k : IntKind) (a b : Int) : q P h (binOp .leq t (.int k a) (.int k b)) K = K (.bool (decide (a ≤ b))) := q_of (by simp [binOp, Op.intCmp, pk_pure]) K
theorem q_gtr (t : TypeId) (k : IntKind) (a b : Int) : q P h (binOp .gtr t (.int k a) (.int k b)) K = K (.bool (decide (b < a))) := q_of (by simp [binOp, Op.intCmp, pk_pure]) K
theorem q_geq (t : TypeId) (k : IntKind) (a b : Int) : q P h (binOp .geq t (.int k a) (.int k b)) K = K (.bool (decide (b ≤ a))) := q_of (by simp [binOp, Op.intCmp, pk_pure]) K
theorem q_eql (t : TypeId) (x y : Operand) (k : IntKind) (a b : Int) : q P h (eqop .eql t x y (.int k a) (.int k b)) K = K (.bool (a == b)) := q_of (by
  unfold eqop
  rw [peek_bind]
  have : peek P h (eqGuard .eql t x y (.int k a) (.int k b)) = some () := rfl
  rw [this]
  simp [binOp, Op.intCmp, pk_pure]) K
theorem q_neq (t : TypeId) (x y : Operand) (k : IntKind) (a b : Int) : q P h (eqop .neq t x y (.int k a) (.int k b)) K = K (.bool (a != b)) := q_of (by
  unfold eqop
  rw [peek_bind]
  have : peek P h (eqGuard .neq t x y (.int k a) (.int k b)) = some () := rfl
  rw [this]
  simp [binOp, Op.intCmp, pk_pure]) K
def iand (k : IntKind) (a b : Int) : Int := k.wrap (BitVec.ofInt k.bits a &&& BitVec.ofInt k.bits b).toNat
def ior (k : IntKind) (a b : Int) : Int := k.wrap (BitVec.ofInt k.bits a ||| BitVec.ofInt k.bits b).toNat
def ixor (k : IntKind) (a b : Int) : Int := k.wrap (BitVec.ofInt k.bits a ^^^ BitVec.ofInt k.bits b).toNat
def iandNot (k : IntKind) (a b : Int) : Int := k.wrap (BitVec.ofInt k.bits a &&& ~~~BitVec.ofInt k.bits b).toNat
theorem q_and (t : TypeId) (k : IntKind) (a b : Int) : q P h (binOp .and t (.int k a) (.int k b)) K = K (.int k (iand k a b)) := q_of (by simp [binOp, Op.intBits, pk_pure, iand]) K
theorem q_or (t : TypeId) (k : IntKind) (a b : Int) : q P h (binOp .or t (.int k a) (.int k b)) K = K (.int k (ior k a b)) := q_of (by simp [binOp, Op.intBits, pk_pure, ior]) K
theorem q_xor (t : TypeId) (k : IntKind) (a b : Int) : q P h (binOp .xor t (.int k a) (.int k b)) K = K (.int k (ixor k a b)) := q_of (by simp [binOp, Op.intBits, pk_pure, ixor]) K
theorem q_andNot (t : TypeId) (k : IntKind) (a b : Int) : q P h (binOp .andNot t (.int k a) (.int k b)) K = K (.int k (iandNot k a b)) := q_of (by simp [binOp, Op.intBits, pk_pure, iandNot]) K
theorem q_shl (t : TypeId) (k k' : IntKind) (a b : Int) (hb : 0 ≤ b) : q P h (binOp .shl t (.int k a) (.int k' b)) K = K (.int k (k.wrap (a * 2 ^ min b.toNat k.bits))) :=
  q_of (by simp [binOp, Op.shift, Int.not_lt.2 hb, pk_pure]) K
theorem q_shr (t : TypeId) (k k' : IntKind) (a b : Int) (hb : 0 ≤ b) : q P h (binOp .shr t (.int k a) (.int k' b)) K = K (.int k (a.fdiv (2 ^ min b.toNat k.bits))) :=
  q_of (by simp [binOp, Op.shift, Int.not_lt.2 hb, pk_pure]) K
theorem q_neg (k : IntKind) (a : Int) : q P h (Op.unary .neg (.int k a)) K = K (.int k (k.wrap (0 - a))) := q_of rfl K
theorem q_not (b : Bool) : q P h (Op.unary .not (.bool b)) K = K (.bool !b) := q_of rfl K
theorem q_conv {s d : TypeId} {u : TypeDesc} {k k' : IntKind} (a : Int) (hs : P.underlying s = some u) (hd : P.underlying d = some (.int k')) : q P h (convert s d (.int k a)) K = K (.int k' (k'.wrap a)) := q_of (by
  show peek P h (Sem.bind (underlying s) _) = _
  rw [peek_bind, pk_und hs, Option.bind_some]
  show peek P h (Sem.bind (underlying d) _) = _
  rw [peek_bind, pk_und hd, Option.bind_some]
  cases u <;> rfl) K
theorem q_eqlB {t : TypeId} (x y : Operand) (a b : Bool) (ht : P.underlying t = some .bool) : q P h (eqop .eql t x y (.bool a) (.bool b)) K = K (.bool (a == b)) := q_of (by
  unfold eqop
  rw [peek_bind]
  have : peek P h (eqGuard .eql t x y (.bool a) (.bool b)) = some () := rfl
  rw [this, Option.bind_some]
  show peek P h (Sem.bind (Op.equal t (.bool a) (.bool b)) _) = _
  rw [peek_bind]
  have : peek P h (Op.equal t (.bool a) (.bool b)) = some (a == b) := by
    show peek P h (Sem.bind (underlying t) _) = _
    rw [peek_bind, pk_und ht]
    rfl
  rw [this]
  rfl) K
theorem q_neqB {t : TypeId} (x y : Operand) (a b : Bool) (ht : P.underlying t = some .bool) : q P h (eqop .neq t x y (.bool a) (.bool b)) K = K (.bool (!(a == b))) := q_of (by
  unfold eqop
  rw [peek_bind]
  have : peek P h (eqGuard .neq t x y (.bool a) (.bool b)) = some () := rfl
  rw [this, Option.bind_some]
  show peek P h (Sem.bind (Op.equal t (.bool a) (.bool b)) _) = _
  rw [peek_bind]
  have : peek P h (Op.equal t (.bool a) (.bool b)) = some (a == b) := by
    show peek P h (Sem.bind (underlying t) _) = _
    rw [peek_bind, pk_und ht]
    rfl
  rw [this]
  rfl) K
/-- A slice held against nil. -/
theorem q_eqlNil {t e : TypeId} (x y : Operand) (a : Option Addr) (n c : Nat) (ht : P.underlying t = some (.slice e)) : q P h (eqop .eql t x y (.slice a n c) (.slice none 0 0)) K = K (.bool a.isNone) := q_of (by
  unfold eqop
  rw [peek_bind]
  have : peek P h (eqGuard .eql t x y (.slice a n c) (.slice none 0 0)) = some () := rfl
  rw [this, Option.bind_some]
  show peek P h (Sem.bind (Op.equal t (.slice a n c) (.slice none 0 0)) _) = _
  rw [peek_bind]
  have : peek P h (Op.equal t (.slice a n c) (.slice none 0 0)) = some a.isNone := by
    show peek P h (Sem.bind (underlying t) _) = _
    rw [peek_bind, pk_und ht]
    cases a <;> rfl
  rw [this]
  rfl) K
/-! ### Tests -/
theorem cnd_bool (b : Bool) (X Y : Prop) : cnd (.bool b) X Y = if b = true then X else Y := rfl
theorem gd_bool (b w : Bool) (X Y : Prop) : gd (.bool b) w X Y = if b = w then X else Y := rfl
theorem pick_bool (b : Bool) (x y : Value) : pickP (.bool b) x y K = K (cond b x y) := rfl
/-! ### Places -/
theorem q_nil (a : Addr) : q P h (nilCk (.pointer (some a))) K = K (.pointer (some a)) := rfl
theorem q_idxA {t e : TypeId} {n s : Nat} (ht : P.underlying t = some (.array n e)) (hs : sz P e = some s) (a : Addr) (k : IntKind) (i : Int) (h0 : 0 ≤ i) (h1 : i < n) :
    q P h (Instr.indexAt t (.pointer (some a)) (.int k i)) K = K (.pointer (some (a.add (i.toNat * s)))) := q_of (by
  show peek P h (Sem.bind (underlying t) _) = _
  rw [peek_bind, pk_und ht, Option.bind_some]
  show peek P h (Sem.bind (underlying t) _) = _
  rw [peek_bind, pk_und ht, Option.bind_some]
  show peek P h (if 0 ≤ i ∧ i < (n : Int) then _ else _) = _
  rw [if_pos ⟨h0, h1⟩]
  show peek P h (Sem.bind (sizeOf e) _) = _
  rw [peek_bind, pk_size hs]
  rfl) K
theorem q_idxS {t e : TypeId} {s : Nat} (ht : P.underlying t = some (.slice e)) (hs : sz P e = some s) (a : Addr) (n c : Nat) (k : IntKind) (i : Int) (h0 : 0 ≤ i) (h1 : i < n) :
    q P h (Instr.indexAt t (.slice (some a) n c) (.int k i)) K = K (.pointer (some (a.add (i.toNat * s)))) := q_of (by
  show peek P h (Sem.bind (underlying t) _) = _
  rw [peek_bind, pk_und ht, Option.bind_some]
  show peek P h (Sem.bind (underlying t) _) = _
  rw [peek_bind, pk_und ht, Option.bind_some]
  show peek P h (if 0 ≤ i ∧ i < (n : Int) then _ else _) = _
  rw [if_pos ⟨h0, h1⟩]
  show peek P h (Sem.bind (sizeOf e) _) = _
  rw [peek_bind, pk_size hs]
  rfl) K
theorem q_load {t : TypeId} {d : TypeDesc} {v : Value} (ht : P.underlying t = some d) (hd : aggB d = false) (a : Addr) (hc : h.cell a = some v) : q P h (Instr.loadAt t (.pointer (some a))) K = K v := q_of (by
  show peek P h (Sem.bind (isAgg t) _) = _
  rw [peek_bind, pk_isAgg ht, Option.bind_some, hd]
  show peek P h (Sem.load _ a _) = _
  simp only [peek, hc]) K
theorem q_ld {t : TypeId} {d : TypeDesc} (ht : P.underlying t = some d) (hd : aggB d = false) (a : Addr) : q P h (Instr.loadAt t (.pointer (some a))) K = withVal (h.cell a) K := by
  cases hc : h.cell a with
  | some v => rw [q_load ht hd a hc]; rfl
  | none =>
    show withVal (peek P h (Sem.bind (isAgg t) _)) K = _
    rw [peek_bind, pk_isAgg ht, Option.bind_some, hd]
    show withVal (peek P h (Sem.load _ a _)) K = _
    simp only [peek, hc]
theorem add_off (b o n : Nat) : (⟨b, o, none⟩ : Addr).add n = ⟨b, o + n, none⟩ := by
  unfold Addr.add
  split
  · rename_i e; subst e; rfl
  · rfl
/-! ### Lengths -/
theorem q_lenS {t e T : TypeId} (ht : P.underlying t = some (.slice e)) (a : Option Addr) (n c : Nat) : q P h (Builtin.len_ #[t] T #[.slice a n c]) K = K (.int .i64 n) := q_of (by
  show peek P h (Sem.bind (underlying t) _) = _
  rw [peek_bind, pk_und ht]
  rfl) K
theorem q_lenStr {t T : TypeId} (ht : P.underlying t = some .string) (s : ByteArray) : q P h (Builtin.len_ #[t] T #[.string s]) K = K (.int .i64 s.size) := q_of (by
  show peek P h (Sem.bind (underlying t) _) = _
  rw [peek_bind, pk_und ht]
  rfl) K
theorem q_ext (vs : Array Value) (i : Nat) (v : Value) (hv : vs[i]? = some v) : q P h (Instr.extract (.tuple vs) i) K = K v := q_of (by
  show peek P h (match vs[i]? with
    | some v => _
    | none => _) = _
  rw [hv]
  rfl) K
end
section
variable {P : Program} {h : Hp}
theorem put_row {b off : Nat} {e : TypeId} {vs : List Value} {cap : Nat} {f : Nat × Nat} (hb : h b = some (.row e vs cap (some f))) (ho : off < vs.length) (hf : ¬ (f.1 ≤ off ∧ off < f.2)) (v : Value) :
    h.put ⟨b, off, none⟩ v = some (h.set b (.row e (vs.set off v) cap (some f))) := by
  simp [Hp.put, hb, hf, ho]
theorem put_end {b : Nat} {e : TypeId} {vs : List Value} {cap : Nat} {f : Nat × Nat} (hb : h b = some (.row e vs cap (some f))) (ho : vs.length < cap) (hf : ¬ (f.1 ≤ vs.length ∧ vs.length < f.2)) (v : Value) :
    h.put ⟨b, vs.length, none⟩ v = some (h.set b (.row e (vs ++ [v]) cap (some f))) := by
  simp [Hp.put, hb, hf, ho]
theorem cell_row {b off : Nat} {e : TypeId} {vs : List Value} {cap : Nat} {fz : Option (Nat × Nat)} (hb : h b = some (.row e vs cap fz)) : h.cell ⟨b, off, none⟩ = vs[off]? := by
  simp [Hp.cell, hb]
theorem cells_flat {v : Value} (f : flat v = true) : v.cells = #[v] := by cases v <;> first | rfl | cases f
theorem aw_store {t : TypeId} {a : Addr} {v : Value} {h' : Hp} {K : Unit → Hp → Prop} (hs : sz P t = some 1) (hv : flat v = true) (hp : h.put a v = some h') (k : K () h') :
    aw P (Instr.storeAt t (.pointer (some a)) v) K h := by
  refine aw_of ?_
  show awp P (Sem.bind (Instr.sureAddr (.pointer (some a))) fun x => storeVar t x v) K h
  rw [awp_bind]
  show awp P (Sem.bind (sizeOf t) _) K h
  rw [awp_bind, peek_awp P _ _ _ (pk_size hs), cells_flat hv]
  show awp P (storeCells a [v] 0) K h
  have : a.add 0 = a := by simp [Addr.add]
  simp only [storeCells, this]
  show flat v = true ∧ _
  refine ⟨hv, ?_⟩
  rw [hp]
  exact k
theorem aw_box {e : TypeId} {v : Value} {K : Value → Hp → Prop} (k : ∀ r, h r = none → K (.pointer (some ⟨r, 0, none⟩)) (h.set r (.row e v.cells.toList v.cells.size (some (0, 0))))) : aw P (Instr.box e v) K h :=
  aw_of fun r hr => k r hr
theorem aw_alloc {e : TypeId} {z : Value} {K : Value → Hp → Prop} (hz : zr P e = some z) (k : ∀ r, h r = none → K (.pointer (some ⟨r, 0, none⟩)) (h.set r (.row e z.cells.toList z.cells.size (some (0, 0))))) :
    aw P (Instr.alloc e true (.tuple #[])) K h := by
  refine aw_of ?_
  show awp P (Sem.bind (zeroValue e) _) K h
  rw [awp_bind, peek_awp P _ _ _ (pk_zero hz)]
  exact fun r hr => k r hr
theorem Cn_wk {P : Program} {f : FuncId} {args : Array Value} {h : Hp} {K : Value → Hp → Prop} (z : Cn P f args h fun v h' => ∃ h0, Hp.le h0 h' ∧ K v h0) : Cn P f args h K :=
  ⟨z.1, fun w s => (z.2 w s).mono fun _ _ ⟨v, h', e, s', f', h0, l, k⟩ => ⟨v, h0, e, l.sat s', f'.weaken l, k⟩⟩
/-! ### Rows -/
/-- A slice that is read: its cells, its length, the cells of an element. -/
def Rds (h : Hp) (s : Nat) (w : Value) (ys : List Value) (m : Nat) : Prop :=
  ys.length = m * s ∧ ∃ a c, w = .slice a m c ∧ m ≤ c ∧ (m = 0 ∨ ∃ b o, a = some ⟨b, o, none⟩ ∧ ∀ (i : Nat) (x : Value), ys[i]? = some x → h.cell ⟨b, o + i, none⟩ = some x)
/-- More is known of cells. -/
def Hp.cle (h h' : Hp) : Prop := ∀ a v, h.cell a = some v → h'.cell a = some v
theorem Hp.cle.refl (h : Hp) : Hp.cle h h := fun _ _ e => e
theorem Hp.cle.trans {a b c : Hp} (x : Hp.cle a b) (y : Hp.cle b c) : Hp.cle a c := fun p v e => y p v (x p v e)
theorem cle_set (r : Nat) (o : AObj) (hr : h r = none) : Hp.cle h (h.set r o) := by
  intro a v e
  unfold Hp.cell at e ⊢
  by_cases hb : a.block = r
  · rw [hb, hr] at e
    split at e <;> cases e
  · rw [Hp.set_ne _ _ hb]
    exact e
theorem Rds.mono {h' : Hp} {s : Nat} {w : Value} {ys : List Value} {m : Nat} (r : Rds h s w ys m) (l : Hp.cle h h') : Rds h' s w ys m := by
  obtain ⟨hl, a, c, hw, hc, q⟩ := r
  exact ⟨hl, a, c, hw, hc, q.imp id fun ⟨b, o, ha, hy⟩ => ⟨b, o, ha, fun i x e => l _ _ (hy i x e)⟩⟩
/-- A new row of the call's own, or nil: in memory h' that is h beside it. -/
def New (h : Hp) (e s : Nat) (v : Value) (h' : Hp) (xs : List Value) (n : Nat) : Prop :=
  xs.length = n * s ∧ ((v = .slice none 0 0 ∧ n = 0 ∧ h' = h) ∨
    ∃ b c f, h b = none ∧ n ≤ c ∧ v = .slice (some ⟨b, 0, none⟩) n c ∧ h' = h.set b (.row e xs (c * s) (some f)) ∧ ∀ i, i < c * s → ¬ (f.1 ≤ i ∧ i < f.2))
theorem New.cle {e s : Nat} {v : Value} {h' : Hp} {xs : List Value} {n : Nat} (w : New h e s v h' xs n) : Hp.cle h h' := by
  rcases w.2 with ⟨_, _, rfl⟩ | ⟨b, c, f, hb, _, _, rfl, _⟩
  · exact .refl _
  · exact cle_set b _ hb
theorem New.rds {e s : Nat} {v : Value} {h' : Hp} {xs : List Value} {n : Nat} (w : New h e s v h' xs n) : Rds h' s v xs n := by
  refine ⟨w.1, ?_⟩
  rcases w.2 with ⟨rfl, rfl, rfl⟩ | ⟨b, c, f, hb, hc, rfl, rfl, _⟩
  · exact ⟨none, 0, rfl, Nat.le_refl _, .inl rfl⟩
  · refine ⟨_, c, rfl, hc, .inr ⟨b, 0, rfl, fun i x e => ?_⟩⟩
    rw [cell_row (Hp.set_same ..), Nat.zero_add]
    exact e
theorem awp_loadCells {a : Addr} (ha : a.spot = none) : ∀ (ys : List Value) (i : Nat) (acc : Array Value) (K : Array Value → Hp → Prop), (∀ (j : Nat) (x : Value), ys[j]? = some x → h.cell ⟨a.block, a.off + (i + j), none⟩ = some x) →
    K (acc ++ ys.toArray) h → awp P (loadCellsFrom a i ys.length acc) K h := by
  obtain ⟨b, o, sp⟩ := a
  dsimp only at ha
  subst ha
  intro ys
  induction ys with
  | nil =>
    intro i acc K _ k
    have : acc ++ ([] : List Value).toArray = acc := by simp
    rw [this] at k; exact k
  | cons y ys ih =>
    intro i acc K hy k
    have h0 := hy 0 y rfl
    simp only [Nat.add_zero] at h0
    show awp P (Sem.bind (load ((⟨b, o, none⟩ : Addr).add i)) fun v => loadCellsFrom ⟨b, o, none⟩ (i + 1) ys.length (acc.push v)) K h
    rw [awp_bind, add_off]
    show awp P (Sem.load .plain ⟨b, o + i, none⟩ .pure) _ h
    simp only [awp, h0]
    refine ih (i + 1) (acc.push y) K (fun j x e => ?_) ?_
    · have := hy (j + 1) x e
      rw [show i + 1 + j = i + (j + 1) by omega]
      exact this
    · have : acc.push y ++ ys.toArray = acc ++ (y :: ys).toArray := by
        apply Array.ext'; simp
      rw [this]
      exact k
theorem awp_firstCells {s : Nat} {w : Value} {ys : List Value} {m : Nat} (r : Rds h s w ys m) {K : Array Value → Hp → Prop} (k : K ys.toArray h) : awp P (Builtin.firstCells s m w) K h := by
  obtain ⟨hl, a, c, rfl, hc, rfl | ⟨b, o, rfl, hy⟩⟩ := r
  · have : ys = [] := List.eq_nil_of_length_eq_zero (by simpa using hl)
    subst this
    cases a with
    | none => exact k
    | some a =>
      show awp P (loadCellsFrom a 0 (0 * s) #[]) K h
      rw [Nat.zero_mul]
      exact k
  · show awp P (loadCellsFrom ⟨b, o, none⟩ 0 (m * s) #[]) K h
    rw [← hl]
    refine awp_loadCells rfl ys 0 #[] K (fun j x e => by simpa using hy j x e) (by simpa using k)
theorem awp_storeCells {b : Nat} {e : TypeId} {cap : Nat} {f : Nat × Nat} : ∀ (ys xs : List Value) (h : Hp) (K : Unit → Hp → Prop), h b = some (.row e xs cap (some f)) → (∀ y ∈ ys, flat y = true) → xs.length + ys.length ≤ cap →
    (∀ i, i < cap → ¬ (f.1 ≤ i ∧ i < f.2)) → ∀ (i o : Nat), o + i = xs.length → K () (if ys = [] then h else h.set b (.row e (xs ++ ys) cap (some f))) → awp P (storeCells ⟨b, o, none⟩ ys i) K h := by
  intro ys
  induction ys with
  | nil => intro xs h K _ _ _ _ i o _ k; rw [if_pos rfl] at k; exact k
  | cons y ys ih =>
    intro xs h K hb hfl hl hf i o hio k
    simp only [List.length_cons] at hl
    show awp P (Sem.bind (store ((⟨b, o, none⟩ : Addr).add i) y) fun _ => storeCells ⟨b, o, none⟩ ys (i + 1)) K h
    rw [awp_bind, add_off, hio]
    refine ⟨hfl y (List.mem_cons_self ..), ?_⟩
    rw [put_end hb (by omega) (hf _ (by omega))]
    refine ih (xs ++ [y]) _ K (Hp.set_same ..) (fun z hz => hfl z (List.mem_cons_of_mem _ hz)) (by simp; omega) hf (i + 1) o (by simp; omega) ?_
    rw [if_neg (by simp)] at k
    split
    · rename_i e; subst e; exact k
    · rw [Hp.set_set, List.append_assoc]; exact k
theorem New.noneAt {h : Hp} {e s : Nat} {v : Value} {h' : Hp} {xs : List Value} {n r : Nat} (w : New h e s v h' xs n) (hr : h' r = none) : h r = none := by
  rcases w.2 with ⟨_, _, rfl⟩ | ⟨b, c, f, hb, _, _, rfl, _⟩
  · exact hr
  · by_cases e1 : r = b
    · subst e1; rw [Hp.set_same] at hr; cases hr
    · rwa [Hp.set_ne _ _ e1] at hr
/-- A new block beside. -/
theorem New.add {h : Hp} {e s : Nat} {v : Value} {h' : Hp} {xs : List Value} {n r : Nat} (w : New h e s v h' xs n) (hr : h' r = none) (o : AObj) : New (h.set r o) e s v (h'.set r o) xs n := by
  refine ⟨w.1, ?_⟩
  rcases w.2 with ⟨e1, e2, rfl⟩ | ⟨b, c, f, hb, hc, hv, rfl, hf⟩
  · exact .inl ⟨e1, e2, rfl⟩
  · have hne : b ≠ r := by rintro rfl; rw [Hp.set_same] at hr; cases hr
    exact .inr ⟨b, c, f, by rw [Hp.set_ne _ _ hne]; exact hb, hc, hv, by rw [Hp.set_comm _ _ _ hne], hf⟩
theorem nextcap_le (n c : Nat) (h : c < n) : Builtin.nextslicecap n c ≤ 2 * n + 768 := by
  unfold Builtin.nextslicecap
  split
  · omega
  · split
    · omega
    · have key : ∀ r c, c < n + (n + 768) / 4 + 1 → Builtin.growBy n r c < n + (n + 768) / 4 + 1 ∨ Builtin.growBy n r c = c := by
        intro r
        induction r with
        | zero => intro c h; exact .inr rfl
        | succ r ih =>
          intro c h
          simp only [Builtin.growBy]
          split
          · exact .inr rfl
          · rename_i hc
            have hlt : c + (c + 768) / 4 < n + (n + 768) / 4 + 1 := by omega
            rcases ih _ hlt with q | q
            · exact .inl q
            · exact .inl (by omega)
      rcases key 4 c (by omega) with q | q <;> omega
theorem zeroCells_size (z : Array Value) (n : Nat) : (Builtin.zeroCells z n).size = n * z.size := by simp [Builtin.zeroCells]
/-- Appending to a row of the call's own. -/
theorem aw_append {h0 h h' : Hp} {t t2 T e e2 s B n m : Nat} {v w : Value} {xs ys : List Value} {z : Value} {K : Value → Hp → Prop}
    (ht : P.underlying t = some (.slice e)) (ht2 : P.underlying t2 = some (.slice e2)) (hi : (P.info? e).map (fun i => (i.zero, i.size, i.bytes)) = some (some z, s, B)) (hzs : z.cells.size = s) (hB1 : 1 ≤ B) (hw : New h e s v h' xs n) (hr : Rds h' s w ys m) (hfl : ∀ y ∈ ys, flat y = true)
    (hB : (2 * (n + m) + 768) * B ≤ 2 ^ 48) (hle0 : Hp.le h0 h)
    (k : ∀ v' h'', New h0 e s v' h'' (xs ++ ys) (n + m) → K v' h'') : aw P (Builtin.append_ #[t, t2] T #[v, w]) K h' := by
  obtain ⟨i, hi0, hi1⟩ := Option.map_eq_some_iff.1 hi
  simp only [Prod.mk.injEq] at hi1
  have hs : sz P e = some s := by simp [sz, hi0, hi1.2.1]
  have hz : zr P e = some z := by simp [zr, hi0, hi1.1]
  have hbound : n + m ≤ 140737488355328 := by
    have : (2 * (n + m) + 768) * 1 ≤ (2 * (n + m) + 768) * B := Nat.mul_le_mul_left _ hB1
    omega
  obtain ⟨hyl, wa, wc, rfl, hwc, hwr⟩ := hr
  have hr : Rds h' s (.slice wa m wc) ys m := ⟨hyl, wa, wc, rfl, hwc, hwr⟩
  have hrv := hw.rds
  obtain ⟨hxl, hv⟩ := hw
  obtain ⟨a, c, rfl⟩ : ∃ a c, v = .slice a n c := by
    obtain ⟨_, a, c, e1, _⟩ := hrv
    exact ⟨a, c, e1⟩
  show awp P (Sem.bind (underlying t) _) _ h'
  rw [awp_bind, peek_awp P _ _ _ (pk_und ht)]
  show awp P (Sem.bind (sizeOf e) _) _ h'
  rw [awp_bind, peek_awp P _ _ _ (pk_size hs)]
  show awp P (Sem.bind (underlying t2) _) _ h'
  rw [awp_bind, peek_awp P _ _ _ (pk_und ht2)]
  show awp P (if n + m ≤ c then _ else _) _ h'
  split
  · rename_i hle
    show awp P (Sem.bind (Builtin.firstCells s m _) _) _ h'
    rw [awp_bind]
    refine awp_firstCells hr ?_
    rcases hv with ⟨hv, hn, hh⟩ | ⟨b, c', f, hb, hn, hv, hh, hf⟩
    · simp only [Value.slice.injEq] at hv
      obtain ⟨rfl, rfl, rfl⟩ := hv
      have hm0 : m = 0 := by omega
      subst hm0
      have : ys = [] := List.eq_nil_of_length_eq_zero (by simpa using hyl)
      subst this
      refine ⟨h0, by rw [hh]; exact hle0, k _ _ ⟨by simpa using hxl, .inl ⟨rfl, rfl, rfl⟩⟩⟩
    · simp only [Value.slice.injEq] at hv
      obtain ⟨rfl, _, rfl⟩ := hv
      show awp P (Sem.bind (storeCells ((⟨b, 0, none⟩ : Addr).add (n * s)) ys.toArray.toList) _) _ h'
      rw [awp_bind, add_off]
      have hb' : h' b = some (.row e xs (c * s) (some f)) := by rw [hh]; exact Hp.set_same ..
      have hcs : (n + m) * s ≤ c * s := Nat.mul_le_mul_right s hle
      refine awp_storeCells ys xs h' _ hb' hfl (by rw [hxl, hyl, ← Nat.add_mul]; exact hcs) hf 0 (0 + n * s) (by omega) ?_
      refine ⟨h0.set b (.row e (xs ++ ys) (c * s) (some f)), ?_, k _ _ ⟨by rw [List.length_append, hxl, hyl, Nat.add_mul], .inr ⟨b, c, f, le_none hle0 hb, hle, rfl, rfl, hf⟩⟩⟩
      have e1 : (if ys = [] then h' else h'.set b (.row e (xs ++ ys) (c * s) (some f))) = h.set b (.row e (xs ++ ys) (c * s) (some f)) := by
        split
        · rename_i e0; subst e0; rw [List.append_nil]; exact hh
        · rw [hh, Hp.set_set]
      rw [e1]
      exact le_set hle0
  · rename_i hgt
    have hnc : Builtin.nextslicecap (n + m) c * B ≤ 2 ^ 48 := Nat.le_trans (Nat.mul_le_mul_right B (nextcap_le (n + m) c (by omega))) hB
    have hinfo : peek P h' (typeInfo e) = some i := pk_info hi0
    show awp P (Sem.bind (typeInfo e) _) _ h'
    rw [awp_bind, peek_awp P _ _ _ hinfo]
    show awp P (if ((n + m : Nat) : Int) > IntKind.i64.max ∧ (false = true ∨ i.bytes = 0) then _ else _) _ h'
    rw [if_neg (by rw [hi1.2.2]; simp; omega)]
    show awp P (Sem.bind (typeInfo e) _) _ h'
    rw [awp_bind, peek_awp P _ _ _ hinfo]
    show awp P (if Builtin.nextslicecap (n + m) c * i.bytes > 2 ^ 48 then _ else _) _ h'
    rw [if_neg (by rw [hi1.2.2]; omega)]
    show awp P (Sem.choose (.appendCap (n + m) c e) _) _ h'
    simp only [awp, Question.forced, Bool.false_eq_true, if_false]
    intro tp
    obtain ⟨nc, hncap, hge⟩ : ∃ nc, Question.cut (.appendCap (n + m) c e) tp = nc ∧ n + m ≤ nc := ⟨_, rfl, by simp [Question.cut]⟩
    rw [hncap]
    show awp P (Sem.bind (typeInfo e) _) _ h'
    rw [awp_bind, peek_awp P _ _ _ hinfo]
    show awp P (Sem.bind (askRoom (nc * i.bytes)) _) _ h'
    rw [awp_bind]
    have hroom : ∀ (x : Nat) (K : Unit → Hp → Prop), K () h' → awp P (askRoom x) K h' := by
      intro x K q
      unfold askRoom
      split <;> exact q
    refine hroom _ _ ?_
    show awp P (Sem.bind (Builtin.firstCells s n _) _) _ h'
    rw [awp_bind]
    refine awp_firstCells hrv ?_
    show awp P (Sem.bind (Builtin.firstCells s m _) _) _ h'
    rw [awp_bind]
    refine awp_firstCells hr ?_
    show awp P (Sem.bind (zeroValue e) _) _ h'
    rw [awp_bind, peek_awp P _ _ _ (pk_zero hz)]
    intro r hrn
    obtain ⟨rest, hrest, hsz⟩ : ∃ rest : Array Value, Builtin.zeroCells z.cells (nc - (n + m)) = rest ∧ rest.size = (nc - (n + m)) * s := ⟨_, rfl, by rw [zeroCells_size, hzs]⟩
    have hh0 : h r = none := by
      rcases hv with ⟨_, _, rfl⟩ | ⟨b, c', f, hb, _, _, rfl, _⟩
      · exact hrn
      · by_cases e1 : r = b
        · subst e1; rw [Hp.set_same] at hrn; cases hrn
        · rwa [Hp.set_ne _ _ e1] at hrn
    refine ⟨h0.set r (.row e (xs ++ ys) (nc * s) (some (0, 0))), Hp.le.trans (le_set hle0) fun b' o ho => ?_, k _ _ ⟨by rw [List.length_append, hxl, hyl, Nat.add_mul], .inr ⟨r, nc, (0, 0), le_none hle0 hh0, hge, rfl, rfl, fun i _ => by simp⟩⟩⟩
    by_cases e1 : b' = r
    · subst e1
      rw [Hp.set_same] at ho
      cases ho
      refine ⟨_, Hp.set_same .., ?_⟩
      rw [hrest]
      refine ⟨rfl, ?_, ?_, .inl rfl⟩
      · simp only [Array.size_append, List.size_toArray, hxl, hyl, hsz]
        rw [← Nat.add_mul, ← Nat.add_mul]
        congr 1
        omega
      · simp only [Array.toList_append, List.append_assoc]
        exact ⟨rest.toList, by simp⟩
    · rw [Hp.set_ne _ _ e1] at ho ⊢
      rcases hv with ⟨_, _, rfl⟩ | ⟨b, c', f, hb, _, _, rfl, _⟩
      · exact ⟨o, ho, .refl _⟩
      · have : b' ≠ b := by rintro rfl; rw [hb] at ho; cases ho
        exact ⟨o, by rw [Hp.set_ne _ _ this]; exact ho, .refl _⟩
/-! ### Rows that are made -/
def fillL : List (Nat × Value) → List Value → List Value
  | [], l => l
  | p :: ps, l => fillL ps (l.set p.1 p.2)
theorem fillL_len : ∀ (ps : List (Nat × Value)) (l : List Value), (fillL ps l).length = l.length
  | [], _ => rfl
  | p :: ps, l => by rw [fillL, fillL_len ps, List.length_set]
theorem fill_flat : ∀ (ps : List (Nat × Value)) (cells : Array Value), (∀ p ∈ ps, flat p.2 = true ∧ p.1 < cells.size) → Instr.fill (fun i => some (i * 1, 1)) cells ps = some (fillL ps cells.toList).toArray
  | [], cells, _ => by simp [Instr.fill, fillL]
  | p :: ps, cells, hp => by
    obtain ⟨i, v⟩ := p
    obtain ⟨h1, h2⟩ := hp (i, v) (List.mem_cons_self ..)
    have ih := fill_flat ps (cells.setIfInBounds i v) (fun q hq => by
      have := hp q (List.mem_cons_of_mem _ hq)
      exact ⟨this.1, by simpa using this.2⟩)
    simp only at h1 h2
    simp only [Instr.fill, cells_flat h1]
    rw [if_neg (by simp; omega)]
    have : ((#[v] : Array Value).zipIdx.foldl (fun cs (x : Value × Nat) => cs.setIfInBounds (i * 1 + x.2) x.1) cells) = cells.setIfInBounds i v := by simp
    rw [this, ih]
    simp [fillL]
/-- A slice's literal. -/
theorem aw_lit {t e : Nat} {z : Value} {n : Nat} {ps : List (Nat × Value)} {K : Value → Hp → Prop} (ht : P.underlying t = some (.slice e)) (hs : sz P e = some 1) (hzr : zr P e = some z) (hz : z.cells = #[z]) (hn : n ≤ 16777216)
    (hp : ∀ p ∈ ps, flat p.2 = true ∧ p.1 < n) (k : ∀ v h', New h e 1 v h' (fillL ps (List.replicate n z)) n → (∃ r, h r = none ∧ v = .slice (some ⟨r, 0, none⟩) n n ∧ h' = h.set r (.row e (fillL ps (List.replicate n z)) n (some (0, 0)))) → K v h') :
    aw P (Instr.buildSlice t n ps.toArray) K h := by
  refine aw_of ?_
  show awp P (Sem.bind (underlying t) _) _ h
  rw [awp_bind, peek_awp P _ _ _ (pk_und ht)]
  show awp P (Sem.bind (sizeOf e) _) _ h
  rw [awp_bind, peek_awp P _ _ _ (pk_size hs)]
  show awp P (if n * 1 > 2 ^ 24 then _ else _) _ h
  rw [if_neg (by omega)]
  have fin : ∀ zs : Array Value, (zs = #[z] ∨ n = 0) → awp P (match Instr.fill (fun i => some (i * 1, 1)) ((Array.range (n * 1)).map (fun x => zs[x % zs.size]!)) ps.toArray.toList with
      | some cells => Sem.bind (newRow e cells) fun a => Sem.pure (.slice (some a) n n)
      | _ => stuck "buildSlice: a part of the wrong size") K h := by
    intro zs hzs
    have hl : ((Array.range (n * 1)).map (fun x => zs[x % zs.size]!)).toList = List.replicate n z := by
      rcases hzs with rfl | rfl
      · apply List.ext_getElem
        · simp
        · intro i h1 h2; simp [Nat.mod_one]
      · simp
    rw [show ps.toArray.toList = ps by simp, fill_flat ps _ (fun p q => ⟨(hp p q).1, by simpa using (hp p q).2⟩), hl]
    show awp P (Sem.bind (newRow e _) _) K h
    rw [awp_bind]
    intro r hr
    refine k _ _ ⟨by rw [fillL_len]; simp, .inr ⟨r, n, (0, 0), hr, Nat.le_refl _, rfl, ?_, fun i _ => by simp⟩⟩ ⟨r, hr, rfl, ?_⟩
    · simp [absOf, fillL_len]
    · simp [absOf, fillL_len]
  show awp P (if n * 1 = 0 then _ else _) _ h
  split
  · rename_i h0
    exact fin #[] (.inr (by simpa using h0))
  · show awp P (Sem.bind (zeroValue e) _) _ h
    rw [awp_bind, peek_awp P _ _ _ (pk_zero hzr)]
    have := fin z.cells (.inl hz)
    exact this
theorem New.form {e s : Nat} {v : Value} {h' : Hp} {xs : List Value} {n : Nat} (w : New h e s v h' xs n) (hn : 0 < n) :
    ∃ b c f, h b = none ∧ n ≤ c ∧ v = .slice (some ⟨b, 0, none⟩) n c ∧ h' = h.set b (.row e xs (c * s) (some f)) ∧ ∀ i, i < c * s → ¬ (f.1 ≤ i ∧ i < f.2) := by
  rcases w.2 with ⟨_, h0, _⟩ | q
  · omega
  · exact q
end
def nv (k : IntKind) (l : List Nat) : List Value := l.map fun (x : Nat) => .int k (x : Int)
theorem nv_len (k : IntKind) (l : List Nat) : (nv k l).length = l.length := by simp [nv]
theorem nv_get (k : IntKind) (l : List Nat) (i : Nat) (hi : i < l.length) : (nv k l)[i]? = some (.int k ((l[i] : Nat) : Int)) := by
  unfold nv; rw [List.getElem?_map, List.getElem?_eq_getElem hi]; rfl
theorem nv_getD (k : IntKind) (l : List Nat) (i : Nat) (hi : i < l.length) : (nv k l)[i]? = some (.int k ((l.getD i 0 : Nat) : Int)) := by
  rw [nv_get k l i hi, List.getD_eq_getElem?_getD, List.getElem?_eq_getElem hi]; rfl
theorem nv_app (k : IntKind) (a b : List Nat) : nv k (a ++ b) = nv k a ++ nv k b := by simp [nv]
theorem nv_flat (k : IntKind) (l : List Nat) : ∀ y ∈ nv k l, flat y = true := by
  intro y hy
  obtain ⟨x, _, rfl⟩ := List.mem_map.1 hy
  rfl
theorem nv_cons (k : IntKind) (x : Nat) (l : List Nat) : nv k (x :: l) = .int k (x : Int) :: nv k l := rfl
theorem wi64 {x : Int} (h1 : -9223372036854775808 ≤ x) (h2 : x ≤ 9223372036854775807) : IntKind.i64.wrap x = x := by
  unfold IntKind.wrap; simp [IntKind.bits, IntKind.signed]; omega
theorem wu8 (n : Nat) : IntKind.u8.wrap (n : Int) = ((n % 256 : Nat) : Int) := by
  unfold IntKind.wrap; simp [IntKind.bits, IntKind.signed]
theorem wu64i {x : Int} (h1 : 0 ≤ x) (h2 : x < 18446744073709551616) : IntKind.u64.wrap x = x := by
  unfold IntKind.wrap; simp [IntKind.bits, IntKind.signed]; omega
theorem wu32i {x : Int} (h1 : 0 ≤ x) (h2 : x < 4294967296) : IntKind.u32.wrap x = x := by
  unfold IntKind.wrap; simp [IntKind.bits, IntKind.signed]; omega
theorem wu8i {x : Int} (h1 : 0 ≤ x) (h2 : x < 256) : IntKind.u8.wrap x = x := by
  unfold IntKind.wrap; simp [IntKind.bits, IntKind.signed]; omega
theorem bv_toNat (n : Nat) {x : Int} (h1 : 0 ≤ x) (h2 : x < (2 ^ n : Nat)) : (BitVec.ofInt n x).toNat = x.toNat := by
  rw [BitVec.toNat_ofInt, Int.emod_eq_of_lt h1 h2]
theorem bits_u {k : IntKind} (hk : k.signed = false) (n : Nat) (hn : n < 2 ^ k.bits) : k.wrap (n : Int) = (n : Int) := by
  unfold IntKind.wrap
  have : ((n : Int) % (2 ^ k.bits : Int)) = (n : Int) := Int.emod_eq_of_lt (by omega) (by exact_mod_cast hn)
  simp only [this, hk, Bool.false_and, Bool.false_eq_true, if_false]
theorem iand_u {k : IntKind} (hk : k.signed = false) {a b : Int} (a0 : 0 ≤ a) (a1 : a < (2 ^ k.bits : Nat)) (b0 : 0 ≤ b) (b1 : b < (2 ^ k.bits : Nat)) : iand k a b = ((a.toNat &&& b.toNat : Nat) : Int) := by
  unfold iand
  rw [BitVec.toNat_and, bv_toNat _ a0 a1, bv_toNat _ b0 b1, bits_u hk]
  exact Nat.lt_of_le_of_lt Nat.and_le_left (by omega)
theorem ior_u {k : IntKind} (hk : k.signed = false) {a b : Int} (a0 : 0 ≤ a) (a1 : a < (2 ^ k.bits : Nat)) (b0 : 0 ≤ b) (b1 : b < (2 ^ k.bits : Nat)) : ior k a b = ((a.toNat ||| b.toNat : Nat) : Int) := by
  unfold ior
  rw [BitVec.toNat_or, bv_toNat _ a0 a1, bv_toNat _ b0 b1, bits_u hk]
  exact Nat.or_lt_two_pow (by omega) (by omega)
theorem and64 {a b : Int} (a0 : 0 ≤ a) (a1 : a < 18446744073709551616) (b0 : 0 ≤ b) (b1 : b < 18446744073709551616) : iand .u64 a b = ((a.toNat &&& b.toNat : Nat) : Int) := iand_u rfl a0 a1 b0 b1
theorem or64 {a b : Int} (a0 : 0 ≤ a) (a1 : a < 18446744073709551616) (b0 : 0 ≤ b) (b1 : b < 18446744073709551616) : ior .u64 a b = ((a.toNat ||| b.toNat : Nat) : Int) := ior_u rfl a0 a1 b0 b1
theorem fdivp (a n : Nat) : ((a : Int).fdiv (2 ^ n)) = ((a / 2 ^ n : Nat) : Int) := by
  rw [Int.fdiv_eq_ediv_of_nonneg _ (by exact_mod_cast Nat.zero_le (2 ^ n))]
  norm_cast
theorem Lp_mk {vals : List Value} {h : Hp} {body : (List Value → Hp → Prop) → List Value → Hp → Prop} (I : Nat → List Value → Hp → Prop) (n : Nat) (h0 : I n vals h)
    (st : ∀ n vs h1, I n vs h1 → body (fun vs' h2 => ∃ h0, Hp.le h0 h2 ∧ ∃ m, m < n ∧ I m vs' h0) vs h1) : Lp vals h body := ⟨I, ⟨h, .refl _, n, h0⟩, st⟩
/-- A row of numbers that is read. -/
def Rn (h : Hp) (k : IntKind) (w : Value) (l : List Nat) : Prop := Rds h 1 w (nv k l) l.length
theorem Rn.shape {h : Hp} {k : IntKind} {w : Value} {l : List Nat} (r : Rn h k w l) : ∃ a c, w = .slice a l.length c ∧ l.length ≤ c := by
  obtain ⟨_, a, c, e, hc, _⟩ := r
  exact ⟨a, c, e, hc⟩
theorem Rn.pos {h : Hp} {k : IntKind} {a : Option Addr} {n c : Nat} {l : List Nat} (r : Rn h k (.slice a n c) l) (hp : 0 < l.length) :
    ∃ b o, a = some ⟨b, o, none⟩ ∧ ∀ i, i < l.length → h.cell ⟨b, o + i, none⟩ = some (.int k ((l.getD i 0 : Nat) : Int)) := by
  obtain ⟨_, a', c', e, hc, h0 | ⟨b, o, rfl, hy⟩⟩ := r
  · omega
  · simp only [Value.slice.injEq] at e
    exact ⟨b, o, e.1, fun i hi => hy i _ (nv_getD k l i hi)⟩
theorem Rn.mono {h h' : Hp} {k : IntKind} {w : Value} {l : List Nat} (r : Rn h k w l) (c : Hp.cle h h') : Rn h' k w l := Rds.mono r c
/-- A new row of numbers. -/
def Nn (h : Hp) (e : Nat) (k : IntKind) (v : Value) (h' : Hp) (l : List Nat) : Prop := New h e 1 v h' (nv k l) l.length
theorem Nn.rn {h : Hp} {e : Nat} {k : IntKind} {v : Value} {h' : Hp} {l : List Nat} (w : Nn h e k v h' l) : Rn h' k v l := New.rds w
theorem Nn.cle {h : Hp} {e : Nat} {k : IntKind} {v : Value} {h' : Hp} {l : List Nat} (w : Nn h e k v h' l) : Hp.cle h h' := New.cle w
theorem Nn.nil (h : Hp) (e : Nat) (k : IntKind) : Nn h e k (.slice none 0 0) h [] := ⟨rfl, .inl ⟨rfl, rfl, rfl⟩⟩
theorem GL : (∀ (P : Program) (h : Hp) (K : Value → Prop) (t : TypeId) (k : IntKind) (a b : Int), q P h (binOp .add t (.int k a) (.int k b)) K = K (.int k (k.wrap (a + b)))) ∧
  (∀ (P : Program) (h : Hp) (K : Value → Prop) (t : TypeId) (k : IntKind) (a b : Int), q P h (binOp .sub t (.int k a) (.int k b)) K = K (.int k (k.wrap (a - b)))) ∧
  (∀ (P : Program) (h : Hp) (K : Value → Prop) (t : TypeId) (k : IntKind) (a b : Int), q P h (binOp .mul t (.int k a) (.int k b)) K = K (.int k (k.wrap (a * b)))) ∧
  (∀ (P : Program) (h : Hp) (K : Value → Prop) (t : TypeId) (k : IntKind) (a b : Int), q P h (binOp .lss t (.int k a) (.int k b)) K = K (.bool (decide (a < b)))) ∧
  (∀ (P : Program) (h : Hp) (K : Value → Prop) (t : TypeId) (k : IntKind) (a b : Int), q P h (binOp .leq t (.int k a) (.int k b)) K = K (.bool (decide (a ≤ b)))) ∧
  (∀ (P : Program) (h : Hp) (K : Value → Prop) (t : TypeId) (k : IntKind) (a b : Int), q P h (binOp .gtr t (.int k a) (.int k b)) K = K (.bool (decide (b < a)))) ∧
  (∀ (P : Program) (h : Hp) (K : Value → Prop) (t : TypeId) (k : IntKind) (a b : Int), q P h (binOp .geq t (.int k a) (.int k b)) K = K (.bool (decide (b ≤ a)))) ∧
  (∀ (P : Program) (h : Hp) (K : Value → Prop) (t : TypeId) (x y : Operand) (k : IntKind) (a b : Int), q P h (eqop .eql t x y (.int k a) (.int k b)) K = K (.bool (a == b))) ∧
  (∀ (P : Program) (h : Hp) (K : Value → Prop) (t : TypeId) (x y : Operand) (k : IntKind) (a b : Int), q P h (eqop .neq t x y (.int k a) (.int k b)) K = K (.bool (a != b))) ∧
  (∀ (P : Program) (h : Hp) (K : Value → Prop) (t : TypeId) (k : IntKind) (a b : Int), q P h (binOp .and t (.int k a) (.int k b)) K = K (.int k (iand k a b))) ∧
  (∀ (P : Program) (h : Hp) (K : Value → Prop) (t : TypeId) (k : IntKind) (a b : Int), q P h (binOp .or t (.int k a) (.int k b)) K = K (.int k (ior k a b))) ∧
  (∀ (P : Program) (h : Hp) (K : Value → Prop) (t : TypeId) (k : IntKind) (a b : Int), q P h (binOp .xor t (.int k a) (.int k b)) K = K (.int k (ixor k a b))) ∧
  (∀ (P : Program) (h : Hp) (K : Value → Prop) (t : TypeId) (k : IntKind) (a b : Int) (hb : b ≠ 0), q P h (binOp .quo t (.int k a) (.int k b)) K = K (.int k (k.wrap (a.tdiv b)))) ∧
  (∀ (P : Program) (h : Hp) (K : Value → Prop) (t : TypeId) (k : IntKind) (a b : Int) (hb : b ≠ 0), q P h (binOp .rem t (.int k a) (.int k b)) K = K (.int k (a.tmod b))) ∧
  (∀ (P : Program) (h : Hp) (K : Value → Prop) (t : TypeId) (k k' : IntKind) (a b : Int) (hb : 0 ≤ b), q P h (binOp .shl t (.int k a) (.int k' b)) K = K (.int k (k.wrap (a * 2 ^ min b.toNat k.bits)))) ∧
  (∀ (P : Program) (h : Hp) (K : Value → Prop) (t : TypeId) (k k' : IntKind) (a b : Int) (hb : 0 ≤ b), q P h (binOp .shr t (.int k a) (.int k' b)) K = K (.int k (a.fdiv (2 ^ min b.toNat k.bits)))) ∧
  (∀ (P : Program) (h : Hp) (K : Value → Prop) (b : Bool), q P h (Op.unary .not (.bool b)) K = K (.bool !b)) ∧
  (∀ (P : Program) (h : Hp) (K : Value → Prop) (a : Addr), q P h (nilCk (.pointer (some a))) K = K (.pointer (some a))) ∧
  (∀ (b : Bool) (X Y : Prop), cnd (.bool b) X Y = if b = true then X else Y) ∧ (∀ (b w : Bool) (X Y : Prop), gd (.bool b) w X Y = if b = w then X else Y) ∧
  (∀ (K : Value → Prop) (b : Bool) (x y : Value), pickP (.bool b) x y K = K (cond b x y)) ∧
  (∀ (v : Value) (K : Value → Prop), withVal (some v) K = K v) ∧ (∀ b o n : Nat, (⟨b, o, none⟩ : Addr).add n = ⟨b, o + n, none⟩) ∧
  (∀ (v x : Value) (l : List Value), (v :: l).getD 0 x = v) ∧ (∀ (v x : Value) (l : List Value) (n : Nat), (v :: l).getD (n + 1) x = l.getD n x) ∧ (∀ n : Nat, ((n : Int)).toNat = n) ∧ (∀ n : Nat, 0 + n = n) :=
  ⟨fun _ _ _ => q_add, fun _ _ _ => q_sub, fun _ _ _ => q_mul, fun _ _ _ => q_lss, fun _ _ _ => q_leq, fun _ _ _ => q_gtr, fun _ _ _ => q_geq, fun _ _ _ => q_eql, fun _ _ _ => q_neq, fun _ _ _ => q_and, fun _ _ _ => q_or, fun _ _ _ => q_xor,
   fun _ _ _ => q_quo, fun _ _ _ => q_rem, fun _ _ _ => q_shl, fun _ _ _ => q_shr, fun _ _ _ => q_not, fun _ _ _ => q_nil, cnd_bool, gd_bool, fun _ => pick_bool, withVal_some, add_off, fun _ _ _ => rfl, fun _ _ _ _ => rfl, fun _ => rfl, Nat.zero_add⟩
section
variable {P : Program} {h : Hp}
theorem pk_bound (k : IntKind) (x y : Nat) (hx : x ≤ y) (code : BoundsCode) : peek P h (Instr.sliceBound (.int k (x : Int)) y code) = some x := by
  show peek P h (if 0 ≤ (x : Int) ∧ (x : Int) ≤ (y : Int) then _ else _) = _
  rw [if_pos ⟨by omega, by omega⟩]
  rfl
def cut (a : Option Addr) (c lo s : Nat) : Option Addr := if c = lo then a else a.map (·.add (lo * s))
theorem q_slLo {t e s : Nat} {K : Value → Prop} (ht : P.underlying t = some (.slice e)) (hs : sz P e = some s) (a : Option Addr) (n c : Nat) (k : IntKind) (lo : Nat) (h1 : lo ≤ n) (hc : n ≤ c) :
    q P h (Instr.sliceAt t (.slice a n c) (some (.int k lo)) none none) K = K (.slice (cut a c lo s) (n - lo) (c - lo)) := q_of (by
  show peek P h (Sem.bind (underlying t) _) = _
  rw [peek_bind, pk_und ht, Option.bind_some]
  show peek P h (Sem.bind (underlying t) _) = _
  rw [peek_bind, pk_und ht, Option.bind_some]
  show peek P h (Sem.bind (Sem.bind (Instr.sliceBound (.int k (lo : Int)) n .sliceB) _) _) = _
  rw [peek_bind, peek_bind, pk_bound k lo n h1, Option.bind_some]
  show peek P h (Sem.bind (sizeOf e) _) = _
  rw [peek_bind, pk_size hs]
  rfl) K
theorem q_slHi {t e s : Nat} {K : Value → Prop} (ht : P.underlying t = some (.slice e)) (hs : sz P e = some s) (a : Option Addr) (n c : Nat) (k : IntKind) (hi : Nat) (h1 : hi ≤ c) :
    q P h (Instr.sliceAt t (.slice a n c) none (some (.int k hi)) none) K = K (.slice (cut a c 0 s) hi c) := q_of (by
  show peek P h (Sem.bind (underlying t) _) = _
  rw [peek_bind, pk_und ht, Option.bind_some]
  show peek P h (Sem.bind (underlying t) _) = _
  rw [peek_bind, pk_und ht, Option.bind_some]
  show peek P h (Sem.bind (Sem.bind (Instr.sliceBound (.int k (hi : Int)) c .sliceAcap) _) _) = _
  rw [peek_bind, peek_bind, pk_bound k hi c h1, Option.bind_some]
  show peek P h (Sem.bind (sizeOf e) _) = _
  rw [peek_bind, pk_size hs]
  rfl) K
theorem pk_boundsLH (n c : Nat) (k k' : IntKind) (lo hi : Nat) (h1 : lo ≤ hi) (h2 : hi ≤ c) : peek P h (Instr.sliceBounds true n c (some (.int k lo)) (some (.int k' hi)) none) = some (lo, hi, c) := by
  have e1 : peek P h (Instr.sliceBound (.int k' (hi : Int)) c .sliceAcap) = some hi := pk_bound k' hi c h2 _
  have e2 : peek P h (Instr.sliceBound (.int k (lo : Int)) hi .sliceB) = some lo := pk_bound k lo hi h1 _
  unfold Instr.sliceBounds
  simp only [if_true, Option.isSome_none, Bool.false_eq_true, if_false, pure_bind, pk_bind e1, pk_bind e2]
  rfl
theorem q_slLH {t e s : Nat} {K : Value → Prop} (ht : P.underlying t = some (.slice e)) (hs : sz P e = some s) (a : Option Addr) (n c : Nat) (k k' : IntKind) (lo hi : Nat) (h1 : lo ≤ hi) (h2 : hi ≤ c) :
    q P h (Instr.sliceAt t (.slice a n c) (some (.int k lo)) (some (.int k' hi)) none) K = K (.slice (cut a c lo s) (hi - lo) (c - lo)) := q_of (by
  show peek P h (Sem.bind (underlying t) _) = _
  rw [peek_bind, pk_und ht, Option.bind_some]
  show peek P h (Sem.bind (underlying t) _) = _
  rw [peek_bind, pk_und ht, Option.bind_some]
  show peek P h (Sem.bind (Instr.sliceBounds true n c _ _ none) _) = _
  rw [peek_bind, pk_boundsLH n c k k' lo hi h1 h2, Option.bind_some]
  show peek P h (Sem.bind (sizeOf e) _) = _
  rw [peek_bind, pk_size hs]
  rfl) K
theorem Rds.cut {s : Nat} {a : Option Addr} {n c : Nat} {ys : List Value} (r : Rds h s (.slice a n c) ys n) (lo hi : Nat) (h1 : lo ≤ hi) (h2 : hi ≤ n) :
    Rds h s (.slice (SL.cut a c lo s) (hi - lo) (c - lo)) ((ys.take (hi * s)).drop (lo * s)) (hi - lo) := by
  obtain ⟨hl, a', c', e, hc, q⟩ := r
  simp only [Value.slice.injEq] at e
  obtain ⟨rfl, -, rfl⟩ := e
  have hle : hi * s ≤ n * s := Nat.mul_le_mul_right s h2
  refine ⟨by rw [List.length_drop, List.length_take, hl, Nat.sub_mul]; omega, _, _, rfl, by omega, ?_⟩
  rcases q with rfl | ⟨b, o, rfl, hy⟩
  · exact .inl (by omega)
  · unfold SL.cut
    split
    · by_cases h0 : hi - lo = 0
      · refine .inr ⟨b, o, rfl, fun i x e => ?_⟩
        have hl0 : ((ys.take (hi * s)).drop (lo * s)).length = 0 := by
          rw [List.length_drop, List.length_take, hl]
          have : hi = lo := by omega
          subst this
          omega
        rw [List.eq_nil_of_length_eq_zero hl0] at e
        cases e
      · omega
    · refine .inr ⟨b, o + lo * s, by rw [Option.map_some, add_off], fun i x e => ?_⟩
      rw [List.getElem?_drop, List.getElem?_take] at e
      split at e
      · rw [Nat.add_assoc]; exact hy _ x e
      · cases e
theorem Rn.cut {k : IntKind} {a : Option Addr} {n c : Nat} {l : List Nat} (r : Rn h k (.slice a n c) l) (lo hi : Nat) (h1 : lo ≤ hi) (h2 : hi ≤ l.length) :
    Rn h k (.slice (SL.cut a c lo 1) (hi - lo) (c - lo)) ((l.take hi).drop lo) := by
  have hn : n = l.length := by
    obtain ⟨_, a', c', e, _⟩ := r
    simp only [Value.slice.injEq] at e
    exact e.2.1
  subst hn
  have := Rds.cut (h := h) (s := 1) r lo hi h1 h2
  unfold Rn
  have e1 : nv k ((l.take hi).drop lo) = ((nv k l).take (hi * 1)).drop (lo * 1) := by
    unfold nv; rw [Nat.mul_one, Nat.mul_one, List.map_drop, List.map_take]
  have e2 : ((l.take hi).drop lo).length = hi - lo := by rw [List.length_drop, List.length_take]; omega
  rw [e1, e2]
  exact this
/-- A part of a row of numbers, as the walk meets it. -/
theorem q_slRn {t e : Nat} {K : Value → Prop} {kk : IntKind} {w : Value} {l : List Nat} (ht : P.underlying t = some (.slice e)) (hs : sz P e = some 1) (r : Rn h kk w l) (k : IntKind) (lo : Nat) (h1 : lo ≤ l.length)
    (hk : ∀ w', Rn h kk w' (l.drop lo) → K w') : q P h (Instr.sliceAt t w (some (.int k lo)) none none) K := by
  obtain ⟨a, c, rfl, hc⟩ := r.shape
  rw [q_slLo ht hs a _ c k lo h1 hc]
  refine hk _ ?_
  have := r.cut lo l.length h1 (Nat.le_refl _)
  rwa [List.take_length] at this
theorem q_slRnLH {t e : Nat} {K : Value → Prop} {kk : IntKind} {w : Value} {l : List Nat} (ht : P.underlying t = some (.slice e)) (hs : sz P e = some 1) (r : Rn h kk w l) (k k' : IntKind) (lo hi : Nat) (h0 : lo ≤ hi) (h1 : hi ≤ l.length)
    (hk : ∀ w', Rn h kk w' ((l.take hi).drop lo) → K w') : q P h (Instr.sliceAt t w (some (.int k lo)) (some (.int k' hi)) none) K := by
  obtain ⟨a, c, rfl, hc⟩ := r.shape
  rw [q_slLH ht hs a _ c k k' lo hi h0 (by omega)]
  exact hk _ (r.cut lo hi h0 h1)
/-! ### Arrays and structs told whole -/
theorem pk_loadCells {b o : Nat} : ∀ (ys : List Value) (i : Nat) (acc : Array Value), (∀ (j : Nat) (x : Value), ys[j]? = some x → h.cell ⟨b, o + (i + j), none⟩ = some x) →
    peek P h (loadCellsFrom ⟨b, o, none⟩ i ys.length acc) = some (acc ++ ys.toArray) := by
  intro ys
  induction ys with
  | nil => intro i acc _; simp; rfl
  | cons y ys ih =>
    intro i acc hy
    have h0 := hy 0 y rfl
    simp only [Nat.add_zero] at h0
    show peek P h (Sem.bind (load ((⟨b, o, none⟩ : Addr).add i)) fun v => loadCellsFrom ⟨b, o, none⟩ (i + 1) ys.length (acc.push v)) = _
    rw [peek_bind, add_off]
    have : peek P h (load ⟨b, o + i, none⟩) = some y := by
      show peek P h (Sem.load .plain _ .pure) = _
      simp only [peek, h0]
    rw [this, Option.bind_some, ih (i + 1) (acc.push y) (fun j x e => by
      have := hy (j + 1) x e
      rw [show i + 1 + j = i + (j + 1) by omega]
      exact this)]
    simp
theorem q_ldAgg {t : Nat} {d : TypeDesc} {K : Value → Prop} {b o : Nat} {ys : List Value} (ht : P.underlying t = some d) (hd : aggB d = true) (hs : sz P t = some ys.length)
    (hy : ∀ (j : Nat) (x : Value), ys[j]? = some x → h.cell ⟨b, o + j, none⟩ = some x) : q P h (Instr.loadAt t (.pointer (some ⟨b, o, none⟩))) K = K (.agg ys.toArray) := q_of (by
  show peek P h (Sem.bind (isAgg t) _) = _
  rw [peek_bind, pk_isAgg ht, Option.bind_some, hd]
  show peek P h (Sem.bind (sizeOf t) _) = _
  rw [peek_bind, pk_size hs, Option.bind_some]
  show peek P h (Sem.bind (loadCellsFrom ⟨b, o, none⟩ 0 ys.length #[]) _) = _
  rw [peek_bind, pk_loadCells ys 0 #[] (fun j x e => by simpa using hy j x e)]
  simp; rfl) K
/-- A row that is read whole. -/
theorem q_ldRow {t : Nat} {d : TypeDesc} {K : Value → Prop} {b : Nat} {e : TypeId} {ys : List Value} {cap : Nat} {fz : Option (Nat × Nat)} (ht : P.underlying t = some d) (hd : aggB d = true) (hs : sz P t = some ys.length)
    (hb : h b = some (.row e ys cap fz)) : q P h (Instr.loadAt t (.pointer (some ⟨b, 0, none⟩))) K = K (.agg ys.toArray) :=
  q_ldAgg ht hd hs fun j x ex => by rw [cell_row hb, Nat.zero_add]; exact ex
theorem q_resRow {t : Nat} {d : TypeDesc} {K : Value → Prop} {b : Nat} {e : TypeId} {ys : List Value} {cap : Nat} {fz : Option (Nat × Nat)} (ht : P.underlying t = some d) (hd : aggB d = true) (hs : sz P t = some ys.length)
    (hb : h b = some (.row e ys cap fz)) : q P h ((asAddr (.pointer (some ⟨b, 0, none⟩))).bind (loadVar t)) K = K (.agg ys.toArray) := q_ldRow ht hd hs hb
theorem awp_overCells {b : Nat} {e : TypeId} {cap : Nat} {f : Nat × Nat} : ∀ (ys xs : List Value) (h : Hp) (K : Unit → Hp → Prop) (i : Nat), h b = some (.row e xs cap (some f)) → (∀ y ∈ ys, flat y = true) → xs.length = i + ys.length →
    (∀ i, i < xs.length → ¬ (f.1 ≤ i ∧ i < f.2)) → K () (h.set b (.row e (xs.take i ++ ys) cap (some f))) → awp P (storeCells ⟨b, 0, none⟩ ys i) K h := by
  intro ys
  induction ys with
  | nil =>
    intro xs h K i hb _ hl _ k
    have : h.set b (.row e (xs.take i ++ []) cap (some f)) = h := by
      funext j
      unfold Hp.set
      split
      · rename_i e1; subst e1; rw [hb, List.append_nil, List.take_of_length_le (by simp at hl; omega)]
      · rfl
    rw [this] at k
    exact k
  | cons y ys ih =>
    intro xs h K i hb hfl hl hf k
    simp only [List.length_cons] at hl
    show awp P (Sem.bind (store ((⟨b, 0, none⟩ : Addr).add i) y) fun _ => storeCells ⟨b, 0, none⟩ ys (i + 1)) K h
    rw [awp_bind, add_off, Nat.zero_add]
    refine ⟨hfl y (List.mem_cons_self ..), ?_⟩
    rw [put_row hb (by omega) (hf i (by omega))]
    refine ih (xs.set i y) _ K (i + 1) (Hp.set_same ..) (fun z hz => hfl z (List.mem_cons_of_mem _ hz)) (by rw [List.length_set]; omega) (fun j hj => hf j (by rwa [List.length_set] at hj)) ?_
    rw [Hp.set_set]
    have : (xs.set i y).take (i + 1) ++ ys = xs.take i ++ y :: ys := by
      rw [List.take_succ_eq_append_getElem (by rw [List.length_set]; omega), List.getElem_set_self, List.take_set_of_le (Nat.le_refl _), List.append_assoc]
      rfl
    rw [this]
    exact k
/-- A row is overwritten whole. -/
theorem aw_storeRow {t : Nat} {b : Nat} {e : TypeId} {xs : List Value} {cap : Nat} {f : Nat × Nat} {ys : List Value} {K : Unit → Hp → Prop} (hs : sz P t = some ys.length) (hb : h b = some (.row e xs cap (some f))) (hl : xs.length = ys.length) (hfl : ∀ y ∈ ys, flat y = true)
    (hf : ∀ i, i < xs.length → ¬ (f.1 ≤ i ∧ i < f.2)) (k : K () (h.set b (.row e ys cap (some f)))) : aw P (Instr.storeAt t (.pointer (some ⟨b, 0, none⟩)) (.agg ys.toArray)) K h := by
  refine aw_of ?_
  show awp P (Sem.bind (sizeOf t) _) K h
  rw [awp_bind, peek_awp P _ _ _ (pk_size hs)]
  show awp P (if (Value.agg ys.toArray).cells.size ≠ ys.length then _ else _) K h
  rw [if_neg (by simp [Value.cells])]
  show awp P (storeCells ⟨b, 0, none⟩ ys.toArray.toList 0) K h
  refine awp_overCells ys xs h K 0 hb hfl (by omega) hf ?_
  simpa using k
theorem New.le {h : Hp} {e s : Nat} {v : Value} {h' : Hp} {xs : List Value} {n : Nat} (w : New h e s v h' xs n) : Hp.le h h' := by
  rcases w.2 with ⟨_, _, rfl⟩ | ⟨b, c, f, hb, _, _, rfl, _⟩
  · exact .refl _
  · exact le_fresh hb
/-- Appending what was made just before. -/
theorem aw_appendN {h0 h1 h2 : Hp} {t t2 T e e2 s B n m : Nat} {v w : Value} {xs ys : List Value} {z : Value} {K : Value → Hp → Prop}
    (ht : P.underlying t = some (.slice e)) (ht2 : P.underlying t2 = some (.slice e2)) (hi : (P.info? e).map (fun i => (i.zero, i.size, i.bytes)) = some (some z, s, B)) (hzs : z.cells.size = s) (hB1 : 1 ≤ B) (hw : New h0 e s v h1 xs n) (hs : New h1 e s w h2 ys m) (hfl : ∀ y ∈ ys, flat y = true)
    (hB : (2 * (n + m) + 768) * B ≤ 2 ^ 48) (k : ∀ v' h'', New h0 e s v' h'' (xs ++ ys) (n + m) → K v' h'') : aw P (Builtin.append_ #[t, t2] T #[v, w]) K h2 := by
  have hr := hs.rds
  rcases hs.2 with ⟨_, _, rfl⟩ | ⟨b, c, f, hb, _, _, rfl, _⟩
  · exact aw_append ht ht2 hi hzs hB1 hw hr hfl hB (.refl _) k
  · exact aw_append ht ht2 hi hzs hB1 (hw.add hb _) hr hfl hB (le_fresh (hw.noneAt hb)) k
theorem aw_allocL {e : TypeId} {z : Value} (xs : List Value) {K : Value → Hp → Prop} (hz : zr P e = some z) (hc : z.cells.toList = xs) (k : ∀ r, h r = none → K (.pointer (some ⟨r, 0, none⟩)) (h.set r (.row e xs xs.length (some (0, 0))))) :
    aw P (Instr.alloc e true (.tuple #[])) K h := aw_alloc hz fun r hr => by
  have := k r hr
  subst hc
  simpa using this
end
end Go.SL
