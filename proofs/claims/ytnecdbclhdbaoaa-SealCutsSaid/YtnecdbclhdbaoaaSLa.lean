/- A small logic of what a call knows of memory: a partial heap, what an instruction's tree does to it, and that the machine's run does just that. Conditions: none; plain definitions and lemmas over any program. -/
import Derived.Orders
import Derived.KernelRfl
namespace Go.SL
open Go

/-- What is known of a block: a row of cells (its first values, its size, its frozen range where it may be written), or another object. -/
inductive AObj where
  | row (elem : TypeId) (vals : List Value) (cap : Nat) (fz : Option (Nat × Nat))
  | obj (o : Obj)

def isCells : Obj → Bool
  | .cells .. => true
  | _ => false

def AObj.models : AObj → Obj → Prop
  | .row e vs cap fz, .cells c e' f' => e' = e ∧ c.size = cap ∧ vs.length ≤ cap ∧ (∀ (i : Nat) (v : Value), vs[i]? = some v → c[i]? = some v) ∧ (∀ f, fz = some f → f' = f)
  | .row .., _ => False
  | .obj o, o' => o' = o ∧ isCells o = false

def AObj.rw : AObj → Bool
  | .row _ _ _ fz => fz.isSome
  | .obj _ => true

abbrev Hp := Nat → Option AObj
def Hp.set (h : Hp) (b : Nat) (o : AObj) : Hp := fun b' => if b' = b then some o else h b'
def Hp.own (h : Hp) (b : Nat) : Prop := ∃ o, h b = some o ∧ o.rw = true
def Hp.sat (h : Hp) (w : World) : Prop := ∀ b o, h b = some o → ∃ x, w.heap[b]? = some x ∧ o.models x

/-- From one world to a later one: what isn't ours to write stays. -/
structure Fr (h h' : Hp) (w w' : World) : Prop where
  os : w'.os = w.os
  tape : w'.tape = w.tape
  output : w'.output = w.output
  size : w.heap.size ≤ w'.heap.size
  keep : ∀ b, b < w.heap.size → ¬ h.own b → w'.heap[b]? = w.heap[b]?
  dom : ∀ b, h'.own b → h.own b ∨ w.heap.size ≤ b

theorem Fr.refl (h : Hp) (w : World) : Fr h h w w := ⟨rfl, rfl, rfl, Nat.le_refl _, fun _ _ _ => rfl, fun _ hb => .inl hb⟩
theorem Fr.trans {h h1 h2 : Hp} {w w1 w2 : World} (a : Fr h h1 w w1) (b : Fr h1 h2 w1 w2) : Fr h h2 w w2 where
  os := b.os.trans a.os
  tape := b.tape.trans a.tape
  output := b.output.trans a.output
  size := Nat.le_trans a.size b.size
  keep := fun i hi hn => by
    have h1n : ¬ h1.own i := fun q => by
      rcases a.dom i q with q | q
      · exact hn q
      · omega
    rw [b.keep i (Nat.lt_of_lt_of_le hi a.size) h1n, a.keep i hi hn]
  dom := fun i q => by
    rcases b.dom i q with q | q
    · exact a.dom i q
    · exact .inr (Nat.le_trans a.size q)
/-- Less is known: of a row fewer values, or not that it may be written. -/
def AObj.le : AObj → AObj → Prop
  | .row e vs cap fz, .row e' vs' cap' fz' => e = e' ∧ cap = cap' ∧ vs <+: vs' ∧ (fz = fz' ∨ fz = none)
  | .obj o, .obj o' => o = o'
  | _, _ => False
theorem AObj.le.refl (o : AObj) : AObj.le o o := by
  cases o
  · exact ⟨rfl, rfl, List.prefix_refl _, .inl rfl⟩
  · rfl
theorem AObj.le.models {o o' : AObj} (l : AObj.le o o') {x : Obj} (m : o'.models x) : o.models x := by
  cases o <;> cases o' <;> simp only [AObj.le] at l
  · obtain ⟨rfl, rfl, ⟨z, rfl⟩, hf⟩ := l
    cases x <;> simp only [AObj.models] at m ⊢
    obtain ⟨h1, h2, h3, h4, h5⟩ := m
    refine ⟨h1, h2, by simp at h3; omega, fun i v hv => h4 i v ?_, fun f hf' => h5 f ?_⟩
    · have : i < _ := (List.getElem?_eq_some_iff.1 hv).1
      rw [List.getElem?_append_left this]; exact hv
    · rcases hf with rfl | rfl
      · exact hf'
      · cases hf'
  · subst l; exact m
theorem AObj.le.rw {o o' : AObj} (l : AObj.le o o') (r : o.rw = true) : o'.rw = true := by
  cases o <;> cases o' <;> simp only [AObj.le] at l
  · obtain ⟨_, _, _, rfl | rfl⟩ := l
    · exact r
    · cases r
  · rfl
def Hp.le (h h' : Hp) : Prop := ∀ b o, h b = some o → ∃ o', h' b = some o' ∧ o.le o'
theorem Hp.le.refl (h : Hp) : Hp.le h h := fun _ o e => ⟨o, e, .refl o⟩
theorem Hp.le.sat {h h' : Hp} {w : World} (l : Hp.le h h') (s : h'.sat w) : h.sat w := fun b o e =>
  let ⟨o', e', m⟩ := l b o e
  let ⟨x, hx, mx⟩ := s b o' e'
  ⟨x, hx, m.models mx⟩
theorem Hp.le.own {h h' : Hp} (l : Hp.le h h') {b : Nat} (o : h.own b) : h'.own b :=
  let ⟨x, e, r⟩ := o
  let ⟨o', e', m⟩ := l b x e
  ⟨o', e', m.rw r⟩
theorem Fr.weaken {h h' h'' : Hp} {w w' : World} (a : Fr h h' w w') (l : Hp.le h'' h') : Fr h h'' w w' :=
  { a with dom := fun b q => a.dom b (l.own q) }
theorem Fr.drew {h : Hp} {w : World} (n : Nat) : Fr h h w { w with drawn := n } := ⟨rfl, rfl, rfl, Nat.le_refl _, fun _ _ _ => rfl, fun _ hb => .inl hb⟩

@[simp] theorem Hp.set_same (h : Hp) (b : Nat) (o : AObj) : (h.set b o) b = some o := by simp [Hp.set]
theorem Hp.set_ne (h : Hp) {b b' : Nat} (o : AObj) (n : b' ≠ b) : (h.set b o) b' = h b' := by simp [Hp.set, n]
theorem Hp.set_set (h : Hp) (b : Nat) (o o' : AObj) : (h.set b o).set b o' = h.set b o' := by
  funext i; simp only [Hp.set]; split <;> rfl
theorem Hp.set_comm (h : Hp) {b b' : Nat} (o o' : AObj) (n : b ≠ b') : (h.set b o).set b' o' = (h.set b' o').set b o := by
  funext i; simp only [Hp.set]
  by_cases h1 : i = b
  · subst h1; rw [if_neg n, if_pos rfl, if_pos rfl]
  · by_cases h2 : i = b'
    · subst h2; rw [if_pos rfl, if_neg h1, if_pos rfl]
    · rw [if_neg h2, if_neg h1, if_neg h1, if_neg h2]

def Hp.cell (h : Hp) (a : Addr) : Option Value :=
  if a.spot.isSome then none else
  match h a.block with
  | some (.row _ vs _ _) => vs[a.off]?
  | _ => none

/-- A cell is written: one whose value is known, or the first beyond. -/
def Hp.put (h : Hp) (a : Addr) (v : Value) : Option Hp :=
  if a.spot.isSome then none else
  match h a.block with
  | some (.row e vs cap (some f)) =>
    if f.1 ≤ a.off ∧ a.off < f.2 then none
    else if a.off < vs.length then some (h.set a.block (.row e (vs.set a.off v) cap (some f)))
    else if a.off = vs.length ∧ a.off < cap then some (h.set a.block (.row e (vs ++ [v]) cap (some f)))
    else none
  | _ => none

def Hp.shape (h : Hp) (r : Nat) : Option (Option (TypeId × Nat)) :=
  match h r with
  | some (.row e _ cap _) => some (some (e, cap))
  | some (.obj _) => some none
  | none => none

def frz (f : Nat × Nat) (off n : Nat) : Nat × Nat := if f.1 == f.2 then (off, off + n) else (min f.1 off, max f.2 (off + n))
def Hp.freeze (h : Hp) (a : Addr) (n : Nat) : Option Hp :=
  if n = 0 then some h else
  match h a.block with
  | some (.row e vs cap (some f)) => some (h.set a.block (.row e vs cap (some (frz f a.off n))))
  | _ => none

def Hp.frozen (h : Hp) (a : Addr) : Option Bool :=
  match h a.block with
  | some (.row _ _ _ (some f)) => some (f.1 ≤ a.off && a.off < f.2)
  | some (.obj _) => some false
  | _ => none

def flat : Value → Bool
  | .agg _ | .tuple _ => false
  | _ => true

def absOf : Obj → AObj
  | .cells c e f => .row e c.toList c.size (some f)
  | o => .obj o

theorem absOf_models (o : Obj) : (absOf o).models o := by
  cases o <;> simp [absOf, AObj.models, isCells]

theorem cell_sound {h : Hp} {w : World} (s : h.sat w) {a : Addr} {v : Value} (e : h.cell a = some v) : w.cell? a = some v := by
  unfold Hp.cell at e
  split at e
  · cases e
  · rename_i hs
    split at e
    · rename_i el vs cap fz hb
      obtain ⟨x, hx, hm⟩ := s _ _ hb
      cases x <;> simp only [AObj.models] at hm
      rename_i c e' f'
      simp [World.cell?, hx, hs, hm.2.2.2.1 _ _ e]
    · cases e

theorem Fr.keepAll {h : Hp} {w w' : World} (b : Nat) (hb : h.own b) (x : Obj) (e : w' = { w with heap := w.heap.setIfInBounds b x }) (o : AObj) : Fr h (h.set b o) w w' := by
  subst e
  refine ⟨rfl, rfl, rfl, by simp, fun i hi hn => ?_, fun i q => ?_⟩
  · have : b ≠ i := fun e => hn (e ▸ hb)
    simp [Array.getElem?_setIfInBounds_ne this]
  · by_cases e : i = b
    · subst e; exact .inl hb
    · obtain ⟨y, hy, hr⟩ := q
      rw [Hp.set_ne _ _ e] at hy
      exact .inl ⟨y, hy, hr⟩

theorem sat_set {h : Hp} {w : World} (s : h.sat w) {b : Nat} (hb : b < w.heap.size) {x : Obj} {o : AObj} (m : o.models x) :
    (h.set b o).sat { w with heap := w.heap.setIfInBounds b x } := by
  intro i y hy
  by_cases e : i = b
  · subst e
    rw [Hp.set_same] at hy
    cases hy
    exact ⟨x, by simp [hb], m⟩
  · rw [Hp.set_ne _ _ e] at hy
    obtain ⟨z, hz, hm⟩ := s i y hy
    exact ⟨z, by simp [Array.getElem?_setIfInBounds_ne (Ne.symm e), hz], hm⟩

theorem sat_lt {h : Hp} {w : World} (s : h.sat w) {b : Nat} {o : AObj} (e : h b = some o) : b < w.heap.size := by
  obtain ⟨x, hx, _⟩ := s b o e
  exact (Array.getElem?_eq_some_iff.1 hx).1

theorem modify_eq {xs : Array Obj} {b : Nat} {x : Obj} (hx : xs[b]? = some x) (f : Obj → Obj) : xs.modify b f = xs.setIfInBounds b (f x) := by
  have hlt : b < xs.size := (Array.getElem?_eq_some_iff.1 hx).1
  have he : xs[b] = x := by simpa [Array.getElem?_eq_getElem hlt] using hx
  apply Array.ext_getElem?
  intro i
  rw [Array.getElem?_modify, Array.getElem?_setIfInBounds]
  split
  · rename_i hi; subst hi; simp [hlt, he]
  · rfl

theorem setCell_eq {w : World} {b off : Nat} {c : Array Value} {e : TypeId} {f : Nat × Nat} (hx : w.heap[b]? = some (.cells c e f)) (v : Value) :
    w.setCell ⟨b, off, none⟩ v = { w with heap := w.heap.setIfInBounds b (.cells (c.setIfInBounds off v) e f) } := by
  unfold World.setCell
  rw [modify_eq hx]
  rfl

theorem put_sound {h h' : Hp} {w : World} (s : h.sat w) {a : Addr} {v : Value} (e : h.put a v = some h') :
    (∃ u, w.cell? a = some u) ∧ w.frozen? a = false ∧ h'.sat (w.setCell a v) ∧ Fr h h' w (w.setCell a v) := by
  unfold Hp.put at e
  split at e
  · cases e
  · rename_i hs
    obtain ⟨b, off, spot⟩ := a
    cases spot with
    | some _ => simp at hs
    | none =>
    dsimp only at e
    split at e
    · rename_i el vs cap f hb
      obtain ⟨x, hx, hm⟩ := s _ _ hb
      cases x <;> simp only [AObj.models] at hm
      rename_i c e' f'
      obtain ⟨rfl, hc, hl, hv, hf⟩ := hm
      obtain rfl := hf f rfl
      have hlt := sat_lt s hb
      have hown : h.own b := ⟨_, hb, rfl⟩
      split at e
      · cases e
      rename_i hfz
      have hfr : w.frozen? ⟨b, off, none⟩ = false := by
        simp only [World.frozen?, hx]
        simp only [Bool.and_eq_false_iff, decide_eq_false_iff_not]
        by_cases h1 : f'.1 ≤ off
        · exact .inr fun h2 => hfz ⟨h1, h2⟩
        · exact .inl h1
      split at e
      · rename_i ho
        cases e
        refine ⟨⟨c[off]'(by omega), by simp [World.cell?, hx, show off < c.size by omega]⟩, hfr, ?_, ?_⟩
        · rw [setCell_eq hx]
          refine sat_set s hlt ⟨rfl, by simpa using hc, by simpa using hl, fun i u hu => ?_, fun _ hf => (Option.some.inj hf)⟩
          rw [Array.getElem?_setIfInBounds]
          rw [List.getElem?_set] at hu
          split
          · rename_i hi
            subst hi
            rw [if_pos rfl, if_pos ho] at hu
            simp [show off < c.size by omega, Option.some.inj hu]
          · rename_i hi
            rw [if_neg hi] at hu
            exact hv i u hu
        · rw [setCell_eq hx]
          exact Fr.keepAll b hown _ rfl _
      · rename_i ho
        split at e
        · rename_i hn
          obtain ⟨rfl, hcap⟩ := hn
          cases e
          refine ⟨⟨c[vs.length]'(by omega), by simp [World.cell?, hx, show vs.length < c.size by omega]⟩, hfr, ?_, ?_⟩
          · rw [setCell_eq hx]
            refine sat_set s hlt ⟨rfl, by simpa using hc, by simp; omega, fun i u hu => ?_, fun _ hf => (Option.some.inj hf)⟩
            rw [Array.getElem?_setIfInBounds]
            split
            · rename_i hi
              subst hi
              simp at hu
              simp [show vs.length < c.size by omega, hu]
            · rename_i hi
              rcases Nat.lt_or_ge i vs.length with hlt' | hge
              · rw [List.getElem?_append_left hlt'] at hu
                exact hv i u hu
              · have : i - vs.length ≠ 0 := by omega
                rw [List.getElem?_append_right hge] at hu
                obtain ⟨k, hk⟩ : ∃ k, i - vs.length = k + 1 := ⟨i - vs.length - 1, by omega⟩
                simp [hk] at hu
          · rw [setCell_eq hx]
            exact Fr.keepAll b hown _ rfl _
        · cases e
    · cases e

theorem shape_sound {h : Hp} {w : World} (s : h.sat w) {r : Nat} {x : Option (TypeId × Nat)} (e : h.shape r = some x) : w.shape? r = x := by
  unfold Hp.shape at e
  split at e
  · rename_i el vs cap fz hb
    obtain ⟨y, hy, hm⟩ := s _ _ hb
    cases y <;> simp only [AObj.models] at hm
    cases e
    simp [World.shape?, hy, hm.1, hm.2.1]
  · rename_i o hb
    obtain ⟨y, hy, hm⟩ := s _ _ hb
    obtain ⟨rfl, hc⟩ := hm
    cases e
    cases y <;> first | (simp [World.shape?, hy]; done) | simp [isCells] at hc
  · cases e

theorem frozen_sound {h : Hp} {w : World} (s : h.sat w) {a : Addr} {x : Bool} (e : h.frozen a = some x) : w.frozen? a = x := by
  unfold Hp.frozen at e
  split at e
  · rename_i el vs cap f hb
    obtain ⟨y, hy, hm⟩ := s _ _ hb
    cases y <;> simp only [AObj.models] at hm
    cases e
    have := hm.2.2.2.2 f rfl
    subst this
    simp [World.frozen?, hy]
  · rename_i o hb
    obtain ⟨y, hy, hm⟩ := s _ _ hb
    obtain ⟨rfl, hc⟩ := hm
    cases e
    cases y <;> first | (simp [World.frozen?, hy]; done) | simp [isCells] at hc
  · cases e

theorem freeze_sound {h h' : Hp} {w : World} (s : h.sat w) {a : Addr} {n : Nat} (e : h.freeze a n = some h') :
    h'.sat (w.freeze a n) ∧ Fr h h' w (w.freeze a n) := by
  unfold Hp.freeze at e
  split at e
  · rename_i hn
    cases e
    simp only [World.freeze, hn, if_true]
    exact ⟨s, Fr.refl _ _⟩
  · rename_i hn
    split at e
    · rename_i el vs cap f hb
      cases e
      obtain ⟨y, hy, hm⟩ := s _ _ hb
      cases y <;> simp only [AObj.models] at hm
      rename_i c e' f'
      obtain ⟨rfl, hc, hl, hv, hf⟩ := hm
      obtain rfl := hf f rfl
      have hlt := sat_lt s hb
      have : w.freeze a n = { w with heap := w.heap.setIfInBounds a.block (.cells c e' (frz f' a.off n)) } := by
        simp only [World.freeze, hn, if_false]
        rw [modify_eq hy]
        rfl
      rw [this]
      exact ⟨sat_set s hlt ⟨rfl, hc, hl, hv, fun _ hf => Option.some.inj hf⟩, Fr.keepAll _ ⟨_, hb, rfl⟩ _ rfl _⟩
    · cases e

theorem new_sound {h : Hp} {w : World} (s : h.sat w) (o : Obj) :
    h w.heap.size = none ∧ (h.set w.heap.size (absOf o)).sat { w with heap := w.heap.push o } ∧ Fr h (h.set w.heap.size (absOf o)) w { w with heap := w.heap.push o } := by
  have hn : h w.heap.size = none := by
    cases e : h w.heap.size with
    | none => rfl
    | some x => exact absurd (sat_lt s e) (Nat.lt_irrefl _)
  refine ⟨hn, fun i y hy => ?_, ⟨rfl, rfl, rfl, by simp, fun i hi _ => ?_, fun i q => ?_⟩⟩
  · by_cases e : i = w.heap.size
    · subst e
      rw [Hp.set_same] at hy
      cases hy
      exact ⟨o, by simp, absOf_models o⟩
    · rw [Hp.set_ne _ _ e] at hy
      obtain ⟨z, hz, hm⟩ := s i y hy
      have := sat_lt s hy
      exact ⟨z, by simp only [Array.getElem?_push, hz]; rw [if_neg (by omega)], hm⟩
  · simp [Array.getElem?_push, show i ≠ w.heap.size by omega]
  · by_cases e : i = w.heap.size
    · exact .inr (by omega)
    · obtain ⟨y, hy, hr⟩ := q
      rw [Hp.set_ne _ _ e] at hy
      exact .inl ⟨y, hy, hr⟩

/-- What an instruction's tree comes to, by what is known. -/
def awp (P : Program) {α : Type} : Sem α → (α → Hp → Prop) → Hp → Prop
  | .pure a, K, h => K a h
  | .load _ a k, K, h => match h.cell a with
    | some v => awp P (k v) K h
    | none => False
  | .store _ a v k, K, h => flat v = true ∧ match h.put a v with
    | some h' => awp P k K h'
    | none => False
  | .new o k, K, h => ∀ r, h r = none → awp P (k r) K (h.set r (absOf o))
  | .shape r k, K, h => match h.shape r with
    | some x => awp P (k x) K h
    | none => False
  | .freeze a n k, K, h => match h.freeze a n with
    | some h' => awp P k K h'
    | none => False
  | .frozen a k, K, h => match h.frozen a with
    | some b => awp P (k b) K h
    | none => False
  | .getObj r k, K, h => match h r with
    | some (.obj o) => awp P (k o) K h
    | _ => False
  | .setObj r o k, K, h => match h r with
    | some (.obj _) => isCells o = false ∧ awp P k K (h.set r (.obj o))
    | _ => False
  | .choose q k, K, h => if q.forced = true then awp P (k 0) K h else ∀ t, awp P (k (q.cut t)) K h
  | .sys _ _, _, _ => False
  | .program k, K, h => awp P (k P) K h
  | .mark _ k, K, h => awp P k K h
  | .halt _, _, _ => False

theorem awp_run (P : Program) {α : Type} (s : Sem α) : ∀ (K : α → Hp → Prop) (h : Hp) (w : World), h.sat w → awp P s K h →
    ∃ a w' h', s.run P w = .ok a w' ∧ h'.sat w' ∧ Fr h h' w w' ∧ K a h' := by
  induction s with
  | pure a => exact fun K h w s k => ⟨a, w, h, rfl, s, Fr.refl _ _, k⟩
  | load m a k ih =>
    intro K h w s q
    simp only [awp] at q
    split at q
    · rename_i v hv
      obtain ⟨x, w', h', hr, rest⟩ := ih v K h w s q
      exact ⟨x, w', h', by simp only [Sem.run, cell_sound s hv]; exact hr, rest⟩
    · exact q.elim
  | store m a v k ih =>
    intro K h w s q
    simp only [awp] at q
    obtain ⟨hf, q⟩ := q
    split at q
    · rename_i h1 hp
      obtain ⟨⟨u, hu⟩, hz, s1, f1⟩ := put_sound s hp
      obtain ⟨x, w', h', hr, s', f', kk⟩ := ih K h1 _ s1 q
      refine ⟨x, w', h', ?_, s', f1.trans f', kk⟩
      rw [← hr]
      cases v <;> first | (simp only [Sem.run, hu, hz]; rfl) | simp [flat] at hf
    · exact q.elim
  | new o k ih =>
    intro K h w s q
    obtain ⟨hn, s1, f1⟩ := new_sound s o
    obtain ⟨x, w', h', hr, s', f', kk⟩ := ih w.heap.size K _ _ s1 (q _ hn)
    exact ⟨x, w', h', hr, s', f1.trans f', kk⟩
  | shape r k ih =>
    intro K h w s q
    simp only [awp] at q
    split at q
    · rename_i x hx
      obtain ⟨y, w', h', hr, rest⟩ := ih x K h w s q
      exact ⟨y, w', h', by simp only [Sem.run, shape_sound s hx]; exact hr, rest⟩
    · exact q.elim
  | freeze a n k ih =>
    intro K h w s q
    simp only [awp] at q
    split at q
    · rename_i h1 hp
      obtain ⟨s1, f1⟩ := freeze_sound s hp
      obtain ⟨x, w', h', hr, s', f', kk⟩ := ih K h1 _ s1 q
      exact ⟨x, w', h', hr, s', f1.trans f', kk⟩
    · exact q.elim
  | frozen a k ih =>
    intro K h w s q
    simp only [awp] at q
    split at q
    · rename_i x hx
      obtain ⟨y, w', h', hr, rest⟩ := ih x K h w s q
      exact ⟨y, w', h', by simp only [Sem.run, frozen_sound s hx]; exact hr, rest⟩
    · exact q.elim
  | getObj r k ih =>
    intro K h w s q
    simp only [awp] at q
    split at q
    · rename_i o hb
      obtain ⟨y, hy, rfl, hc⟩ := s _ _ hb
      obtain ⟨z, w', h', hr, rest⟩ := ih y K h w s q
      refine ⟨z, w', h', ?_, rest⟩
      rw [← hr]
      simp only [Sem.run, hy]
      cases y <;> first | rfl | simp [isCells] at hc
    · exact q.elim
  | setObj r o k ih =>
    intro K h w s q
    simp only [awp] at q
    split at q
    · rename_i o' hb
      obtain ⟨hc', q⟩ := q
      obtain ⟨y, hy, rfl, hc⟩ := s _ _ hb
      have hlt := sat_lt s hb
      have s1 : (h.set r (.obj o)).sat { w with heap := w.heap.setIfInBounds r o } := sat_set s hlt ⟨rfl, hc'⟩
      obtain ⟨z, w', h', hr, s', f', kk⟩ := ih K _ _ s1 q
      refine ⟨z, w', h', ?_, s', (Fr.keepAll r ⟨_, hb, rfl⟩ _ rfl _).trans f', kk⟩
      rw [← hr]
      simp only [Sem.run, hy]
      cases y <;> first | rfl | simp [isCells] at hc
    · exact q.elim
  | choose q k ih =>
    intro K h w s r
    simp only [awp] at r
    split at r
    · rename_i hq
      obtain ⟨z, w', h', hr, rest⟩ := ih 0 K h w s r
      exact ⟨z, w', h', by simp only [Sem.run, hq, if_true]; exact hr, rest⟩
    · rename_i hq
      obtain ⟨z, w', h', hr, s', f', kk⟩ := ih (q.cut (w.tape w.drawn q)) K h { w with drawn := w.drawn + 1 } s (r _)
      exact ⟨z, w', h', by simp only [Sem.run, hq]; exact hr, s', (Fr.drew _).trans f', kk⟩
  | sys c k ih => exact fun K h w s q => q.elim
  | program k ih =>
    intro K h w s q
    exact ih P K h w s q
  | mark m k ih =>
    intro K h w s q
    exact ih K h w s q
  | halt x => exact fun K h w s q => q.elim

theorem awp_mono (P : Program) {α : Type} (s : Sem α) : ∀ (K K' : α → Hp → Prop) (h : Hp), (∀ a h, K a h → K' a h) → awp P s K h → awp P s K' h := by
  induction s with
  | pure a => exact fun K K' h m q => m _ _ q
  | load m a k ih => intro K K' h m q; simp only [awp] at q ⊢; split at q <;> first | exact ih _ _ _ _ m q | exact q.elim
  | store m a v k ih => intro K K' h m q; simp only [awp] at q ⊢; refine ⟨q.1, ?_⟩; have q := q.2; split at q <;> first | exact ih _ _ _ m q | exact q.elim
  | new o k ih => exact fun K K' h m q r hr => ih r K K' _ m (q r hr)
  | shape r k ih => intro K K' h m q; simp only [awp] at q ⊢; split at q <;> first | exact ih _ _ _ _ m q | exact q.elim
  | freeze a n k ih => intro K K' h m q; simp only [awp] at q ⊢; split at q <;> first | exact ih _ _ _ m q | exact q.elim
  | frozen a k ih => intro K K' h m q; simp only [awp] at q ⊢; split at q <;> first | exact ih _ _ _ _ m q | exact q.elim
  | getObj r k ih => intro K K' h m q; simp only [awp] at q ⊢; split at q <;> first | exact ih _ _ _ _ m q | exact q.elim
  | setObj r o k ih => intro K K' h m q; simp only [awp] at q ⊢; split at q <;> first | exact ⟨q.1, ih _ _ _ m q.2⟩ | exact q.elim
  | choose q k ih => intro K K' h m r; simp only [awp] at r ⊢; split <;> rename_i hq <;> simp only [hq, if_true, if_false, Bool.false_eq_true] at r <;> first | exact ih _ _ _ _ m r | exact fun t => ih _ _ _ _ m (r t)
  | sys c k ih => exact fun K K' h m q => q.elim
  | program k ih => exact fun K K' h m q => ih P K K' h m q
  | mark x k ih => exact fun K K' h m q => ih K K' h m q
  | halt x => exact fun K K' h m q => q.elim

theorem awp_bind (P : Program) {α β : Type} (s : Sem α) (f : α → Sem β) : ∀ (K : β → Hp → Prop) (h : Hp),
    awp P (s.bind f) K h = awp P s (fun a h => awp P (f a) K h) h := by
  induction s with
  | pure a => intro K h; rfl
  | load m a k ih => intro K h; simp only [Sem.bind, awp]; split <;> first | exact ih _ _ _ | rfl
  | store m a v k ih => intro K h; simp only [Sem.bind, awp]; congr 1; split <;> first | exact ih _ _ | rfl
  | new o k ih => intro K h; simp only [Sem.bind, awp, ih]
  | shape r k ih => intro K h; simp only [Sem.bind, awp]; split <;> first | exact ih _ _ _ | rfl
  | freeze a n k ih => intro K h; simp only [Sem.bind, awp]; split <;> first | exact ih _ _ | rfl
  | frozen a k ih => intro K h; simp only [Sem.bind, awp]; split <;> first | exact ih _ _ _ | rfl
  | getObj r k ih => intro K h; simp only [Sem.bind, awp]; split <;> first | exact ih _ _ _ | rfl
  | setObj r o k ih => intro K h; simp only [Sem.bind, awp]; split <;> first | (congr 1; exact ih _ _) | rfl
  | choose q k ih => intro K h; simp only [Sem.bind, awp, ih]
  | sys c k ih => intro K h; rfl
  | program k ih => intro K h; exact ih _ _ _
  | mark m k ih => intro K h; exact ih _ _
  | halt x => intro K h; rfl

/-- What a tree that only reads tells. -/
def peek (P : Program) (h : Hp) {α : Type} : Sem α → Option α
  | .pure a => some a
  | .load _ a k => match h.cell a with
    | some v => peek P h (k v)
    | none => none
  | .shape r k => match h.shape r with
    | some x => peek P h (k x)
    | none => none
  | .frozen a k => match h.frozen a with
    | some b => peek P h (k b)
    | none => none
  | .getObj r k => match h r with
    | some (.obj o) => peek P h (k o)
    | _ => none
  | .program k => peek P h (k P)
  | .mark _ k => peek P h k
  | _ => none

theorem peek_run (P : Program) {h : Hp} {α : Type} (s : Sem α) : ∀ (w : World) (a : α), h.sat w → peek P h s = some a → s.run P w = .ok a w := by
  induction s with
  | pure a => intro w x s q; cases q; rfl
  | load m a k ih =>
    intro w x s q; simp only [peek] at q; split at q
    · rename_i v hv; simp only [Sem.run, cell_sound s hv]; exact ih _ _ _ s q
    · cases q
  | shape r k ih =>
    intro w x s q; simp only [peek] at q; split at q
    · rename_i v hv; simp only [Sem.run, shape_sound s hv]; exact ih _ _ _ s q
    · cases q
  | frozen a k ih =>
    intro w x s q; simp only [peek] at q; split at q
    · rename_i v hv; simp only [Sem.run, frozen_sound s hv]; exact ih _ _ _ s q
    · cases q
  | getObj r k ih =>
    intro w x s q; simp only [peek] at q; split at q
    · rename_i o hb
      obtain ⟨y, hy, rfl, hc⟩ := s _ _ hb
      have := ih y _ _ s q
      rw [← this]
      simp only [Sem.run, hy]
      cases y <;> first | rfl | simp [isCells] at hc
    · cases q
  | program k ih => exact fun w x s q => ih P _ _ s q
  | mark m k ih => exact fun w x s q => ih _ _ s q
  | store m a v k ih => intro w x s q; cases q
  | new o k ih => intro w x s q; cases q
  | freeze a n k ih => intro w x s q; cases q
  | setObj r o k ih => intro w x s q; cases q
  | choose q k ih => intro w x s q; cases q
  | sys c k ih => intro w x s q; cases q
  | halt x => intro w x s q; cases q

theorem peek_bind (P : Program) (h : Hp) {α β : Type} (s : Sem α) (f : α → Sem β) : peek P h (s.bind f) = (peek P h s).bind fun a => peek P h (f a) := by
  induction s with
  | pure a => rfl
  | load m a k ih => simp only [Sem.bind, peek]; split <;> first | exact ih _ | rfl
  | shape r k ih => simp only [Sem.bind, peek]; split <;> first | exact ih _ | rfl
  | frozen a k ih => simp only [Sem.bind, peek]; split <;> first | exact ih _ | rfl
  | getObj r k ih => simp only [Sem.bind, peek]; split <;> first | exact ih _ | rfl
  | program k ih => exact ih _
  | mark m k ih => exact ih
  | _ => rfl

theorem peek_awp (P : Program) {h : Hp} {α : Type} (s : Sem α) : ∀ (a : α) (K : α → Hp → Prop), peek P h s = some a → awp P s K h = K a h := by
  induction s with
  | pure a => intro x K q; cases q; rfl
  | load m a k ih => intro x K q; simp only [peek] at q; simp only [awp]; split at q <;> first | exact ih _ _ _ q | cases q
  | shape r k ih => intro x K q; simp only [peek] at q; simp only [awp]; split at q <;> first | exact ih _ _ _ q | cases q
  | frozen a k ih => intro x K q; simp only [peek] at q; simp only [awp]; split at q <;> first | exact ih _ _ _ q | cases q
  | getObj r k ih => intro x K q; simp only [peek] at q; simp only [awp]; split at q <;> first | exact ih _ _ _ q | cases q
  | program k ih => exact fun x K q => ih _ _ _ q
  | mark m k ih => exact fun x K q => ih _ _ q
  | store m a v k ih => intro x K q; cases q
  | new o k ih => intro x K q; cases q
  | freeze a n k ih => intro x K q; cases q
  | setObj r o k ih => intro x K q; cases q
  | choose q k ih => intro x K q; cases q
  | sys c k ih => intro x K q; cases q
  | halt y => intro x K q; cases q
end Go.SL
