/- cacheTouched_holds cacheTouched proved lifted over: part 1 of its proof; each part's own remarks stand with its declarations. Conditions: each lemma names its own. -/
import Derived.Test.YtbglokdjlbknaaaCacheTouched0
import Derived.Test.YtbglokdjlbknaaaRows
import Derived.WalkKit
import Derived.ProofKit
import Derived.OpenShut
import Derived.ShutString
import Derived.ChangeOld
import Derived.Below
import Derived.Carry
import Derived.SizedLaws
import Derived.Lib.SmallJoins
set_option linter.unusedSimpArgs false
set_option linter.unusedVariables false
set_option linter.unusedSimpArgs false
set_option linter.unusedVariables false
set_option linter.unusedSectionVars false
namespace Go.Pure
section
variable {α : Type} (u : α → Nat)
def swapL (l : List α) (i k : Nat) : List α :=
  match l[i]?, l[k]? with
  | some a, some b => (l.set i b).set k a
  | _, _ => l
def keyL (l : List α) (i : Nat) : Nat := match l[i]? with
  | some a => u a
  | none => 0
theorem swapL_eq {l : List α} {i k : Nat} {a b : α} (hi : l[i]? = some a) (hk : l[k]? = some b) : swapL l i k = (l.set i b).set k a := by simp [swapL, hi, hk]
theorem swapL_len (l : List α) (i k : Nat) : (swapL l i k).length = l.length := by
  unfold swapL
  split <;> simp
theorem swapL_get {l : List α} {i k : Nat} (hi : i < l.length) (hk : k < l.length) (j : Nat) : (swapL l i k)[j]? = if j = k then l[i]? else if j = i then l[k]? else l[j]? := by
  rw [swapL_eq (List.getElem?_eq_getElem hi) (List.getElem?_eq_getElem hk), List.getElem?_set, List.getElem?_set, List.length_set]
  by_cases h1 : j = k
  · subst h1; simp [hk, hi]
  · rw [if_neg (Ne.symm h1), if_neg h1]
    by_cases h2 : j = i
    · subst h2; simp [hi, hk]
    · rw [if_neg (Ne.symm h2), if_neg h2]
theorem keyL_swap {l : List α} {i k : Nat} (hi : i < l.length) (hk : k < l.length) (j : Nat) : keyL u (swapL l i k) j = if j = k then keyL u l i else if j = i then keyL u l k else keyL u l j := by
  unfold keyL
  rw [swapL_get hi hk]
  by_cases h1 : j = k
  · rw [if_pos h1, if_pos h1]
  · rw [if_neg h1, if_neg h1]
    by_cases h2 : j = i
    · rw [if_pos h2, if_pos h2]
    · rw [if_neg h2, if_neg h2]
theorem set_swap_perm : ∀ (l : List α) (i k : Nat) (a b : α), i < k → l[i]? = some a → l[k]? = some b → ((l.set i b).set k a).Perm l
  | [], i, k, a, b, _, h, _ => by simp at h
  | x :: l, 0, k + 1, a, b, _, h1, h2 => by
    simp only [List.getElem?_cons_zero, Option.some.injEq] at h1
    subst h1
    simp only [List.getElem?_cons_succ] at h2
    simp only [List.set_cons_zero, List.set_cons_succ]
    have hk : k < l.length := (List.getElem?_eq_some_iff.1 h2).1
    have hb : l[k] = b := (List.getElem?_eq_some_iff.1 h2).2
    have e1 : l = l.take k ++ b :: l.drop (k + 1) := by
      rw [← hb, ← List.drop_eq_getElem_cons hk, List.take_append_drop]
    have e2 : l.set k x = l.take k ++ x :: l.drop (k + 1) := by
      rw [List.set_eq_take_append_cons_drop, if_pos hk]
    rw [e2]
    conv => rhs; rw [e1]
    have p1 : (b :: (l.take k ++ x :: l.drop (k + 1))).Perm (x :: b :: (l.take k ++ l.drop (k + 1))) :=
      (List.Perm.cons b List.perm_middle).trans (List.Perm.swap x b _)
    have p2 : (x :: (l.take k ++ b :: l.drop (k + 1))).Perm (x :: b :: (l.take k ++ l.drop (k + 1))) := List.Perm.cons x List.perm_middle
    exact p1.trans p2.symm
  | x :: l, i + 1, k + 1, a, b, hik, h1, h2 => by
    simp only [List.getElem?_cons_succ] at h1 h2
    simp only [List.set_cons_succ]
    exact List.Perm.cons x (set_swap_perm l i k a b (by omega) h1 h2)
theorem swapL_perm (l : List α) (i k : Nat) : (swapL l i k).Perm l := by
  unfold swapL
  split
  · rename_i a b h1 h2
    rcases Nat.lt_trichotomy i k with h | h | h
    · exact set_swap_perm l i k a b h h1 h2
    · subst h
      rw [h1] at h2
      cases h2
      have e : (l.set i a).set i a = l := by
        rw [List.set_set]
        apply List.ext_getElem?
        intro j
        rw [List.getElem?_set]
        split
        · rename_i q; subst q; split
          · exact h1.symm
          · rename_i h; exact absurd (List.getElem?_eq_some_iff.1 h1).1 h
        · rfl
      rw [e]
    · have := set_swap_perm l k i b a h h2 h1
      rwa [List.set_comm _ _ (by omega)] at this
  · exact List.Perm.refl _
/-! ### Up and down -/
def upL : Nat → List α → Nat → List α
  | 0, l, _ => l
  | f + 1, l, j => if (j - 1) / 2 = j then l else if keyL u l j < keyL u l ((j - 1) / 2) then upL f (swapL l ((j - 1) / 2) j) ((j - 1) / 2) else l
/-- The less of two children. -/
def childL (l : List α) (i n : Nat) : Nat := if 2 * i + 1 + 1 < n ∧ keyL u l (2 * i + 1 + 1) < keyL u l (2 * i + 1) then 2 * i + 1 + 1 else 2 * i + 1
def downL : Nat → List α → Nat → Nat → List α × Nat
  | 0, l, i, _ => (l, i)
  | f + 1, l, i, n => if n ≤ 2 * i + 1 then (l, i) else
    if keyL u l (childL u l i n) < keyL u l i then downL f (swapL l i (childL u l i n)) (childL u l i n) n else (l, i)
theorem upL_len : ∀ (f : Nat) (l : List α) (j : Nat), (upL u f l j).length = l.length
  | 0, _, _ => rfl
  | f + 1, l, j => by
    simp only [upL]
    split
    · rfl
    · split
      · rw [upL_len, swapL_len]
      · rfl
theorem upL_perm : ∀ (f : Nat) (l : List α) (j : Nat), (upL u f l j).Perm l
  | 0, _, _ => List.Perm.refl _
  | f + 1, l, j => by
    simp only [upL]
    split
    · exact List.Perm.refl _
    · split
      · exact (upL_perm f _ _).trans (swapL_perm _ _ _)
      · exact List.Perm.refl _
theorem downL_len : ∀ (f : Nat) (l : List α) (i n : Nat), (downL u f l i n).1.length = l.length
  | 0, _, _, _ => rfl
  | f + 1, l, i, n => by
    simp only [downL]
    split
    · rfl
    · split
      · rw [downL_len, swapL_len]
      · rfl
theorem downL_perm : ∀ (f : Nat) (l : List α) (i n : Nat), (downL u f l i n).1.Perm l
  | 0, _, _, _ => List.Perm.refl _
  | f + 1, l, i, n => by
    simp only [downL]
    split
    · exact List.Perm.refl _
    · split
      · exact (downL_perm f _ _ _).trans (swapL_perm _ _ _)
      · exact List.Perm.refl _
theorem childL_lt {l : List α} {i n : Nat} (h : 2 * i + 1 < n) : childL u l i n < n ∧ i < childL u l i n ∧ (childL u l i n - 1) / 2 = i := by
  unfold childL
  split <;> omega
theorem childL_le {l : List α} {i n k : Nat} (hk : k < n) (hp : (k - 1) / 2 = i) (h0 : 0 < k) : keyL u l (childL u l i n) ≤ keyL u l k := by
  have : k = 2 * i + 1 ∨ k = 2 * i + 1 + 1 := by omega
  unfold childL
  split
  · rename_i h
    rcases this with rfl | rfl
    · exact Nat.le_of_lt h.2
    · exact Nat.le_refl _
  · rename_i h
    rcases this with rfl | rfl
    · exact Nat.le_refl _
    · simp only [not_and, Nat.not_lt] at h
      exact h hk
/-- What lies beyond isn't touched. -/
theorem upL_get : ∀ (f : Nat) (l : List α) (j : Nat), j < l.length → ∀ k, j < k → (upL u f l j)[k]? = l[k]?
  | 0, _, _, _, _, _ => rfl
  | f + 1, l, j, hj, k, hk => by
    simp only [upL]
    split
    · rfl
    · split
      · rw [upL_get f _ _ (by rw [swapL_len]; omega) k (by omega), swapL_get (by omega) hj, if_neg (by omega), if_neg (by omega)]
      · rfl
theorem downL_get : ∀ (f : Nat) (l : List α) (i n : Nat), i < n → n ≤ l.length → ∀ k, n ≤ k → (downL u f l i n).1[k]? = l[k]?
  | 0, _, _, _, _, _, _, _ => rfl
  | f + 1, l, i, n, hi, hn, k, hk => by
    simp only [downL]
    split
    · rfl
    · rename_i h
      have hc := childL_lt u (l := l) (show 2 * i + 1 < n by omega)
      split
      · rw [downL_get f _ _ n hc.1 (by rw [swapL_len]; exact hn) k hk, swapL_get (by omega) (by omega), if_neg (by omega), if_neg (by omega)]
      · rfl
/-! ### Their order -/
def HeapN (n : Nat) (l : List α) : Prop := ∀ k, 0 < k → k < n → keyL u l ((k - 1) / 2) ≤ keyL u l k
def UpOk (n j : Nat) (l : List α) : Prop :=
  (∀ k, 0 < k → k < n → k ≠ j → keyL u l ((k - 1) / 2) ≤ keyL u l k) ∧ (∀ k, 0 < k → k < n → (k - 1) / 2 = j → 0 < j → keyL u l ((j - 1) / 2) ≤ keyL u l k)
def DownOk (n i : Nat) (l : List α) : Prop :=
  (∀ k, 0 < k → k < n → (k - 1) / 2 ≠ i → keyL u l ((k - 1) / 2) ≤ keyL u l k) ∧ (∀ k, 0 < k → k < n → (k - 1) / 2 = i → 0 < i → keyL u l ((i - 1) / 2) ≤ keyL u l k)
def MidOk (n i : Nat) (l : List α) : Prop :=
  (∀ k, 0 < k → k < n → (k - 1) / 2 ≠ i → k ≠ i → keyL u l ((k - 1) / 2) ≤ keyL u l k) ∧ (∀ k, 0 < k → k < n → (k - 1) / 2 = i → 0 < i → keyL u l ((i - 1) / 2) ≤ keyL u l k)
theorem heap_min {n : Nat} {l : List α} (h : HeapN u n l) : ∀ k, k < n → keyL u l 0 ≤ keyL u l k := by
  intro k
  induction k using Nat.strongRecOn with
  | _ k ih =>
    intro hk
    by_cases h0 : k = 0
    · rw [h0]; exact Nat.le_refl _
    · exact Nat.le_trans (ih ((k - 1) / 2) (by omega) (by omega)) (h k (by omega) hk)
theorem upL_heap : ∀ (f : Nat) (l : List α) (n j : Nat), UpOk u n j l → j < n → n ≤ l.length → j ≤ f → HeapN u n (upL u f l j)
  | 0, l, n, j, h, hj, hn, hf => by
    intro k k0 kn
    exact h.1 k k0 kn (by omega)
  | f + 1, l, n, j, h, hj, hn, hf => by
    simp only [upL]
    split
    · rename_i e
      intro k k0 kn
      exact h.1 k k0 kn (by omega)
    · rename_i e
      have hij : (j - 1) / 2 < j := by omega
      split
      · rename_i hlt
        refine upL_heap f _ n _ ?_ (by omega) (by rw [swapL_len]; exact hn) (by omega)
        have ks := keyL_swap u (l := l) (i := (j - 1) / 2) (k := j) (by omega) (by omega)
        constructor
        · intro k k0 kn ki
          rw [ks, ks]
          by_cases kj : k = j
          · subst kj
            rw [if_neg (by omega), if_pos rfl, if_pos rfl]
            omega
          · rw [if_neg kj, if_neg ki]
            by_cases p1 : (k - 1) / 2 = j
            · rw [if_pos p1]
              exact h.2 k k0 kn p1 (by omega)
            · rw [if_neg p1]
              by_cases p2 : (k - 1) / 2 = (j - 1) / 2
              · rw [if_pos p2]
                have := h.1 k k0 kn kj
                rw [p2] at this
                omega
              · rw [if_neg p2]
                exact h.1 k k0 kn kj
        · intro k k0 kn kp i0
          rw [ks, ks, if_neg (by omega), if_neg (by omega)]
          have hp := h.1 ((j - 1) / 2) i0 (by omega) (by omega)
          by_cases kj : k = j
          · rw [if_pos kj]; exact hp
          · rw [if_neg kj, if_neg (by omega)]
            have := h.1 k k0 kn kj
            rw [kp] at this
            omega
      · rename_i hge
        intro k k0 kn
        by_cases kj : k = j
        · subst kj; omega
        · exact h.1 k k0 kn kj
theorem downL_step {n i : Nat} {l : List α} (h : MidOk u n i l) (hn : n ≤ l.length) (hi : 2 * i + 1 < n) (hlt : keyL u l (childL u l i n) < keyL u l i) : DownOk u n (childL u l i n) (swapL l i (childL u l i n)) := by
  obtain ⟨c1, c2, c3⟩ := childL_lt u (l := l) hi
  have cle := fun k hk hp h0 => childL_le u (l := l) (i := i) (n := n) (k := k) hk hp h0
  generalize childL u l i n = j at *
  have ks := keyL_swap u (l := l) (i := i) (k := j) (by omega) (by omega)
  constructor
  · intro k k0 kn kp
    rw [ks, ks]
    rw [if_neg kp]
    by_cases kj : k = j
    · subst kj
      rw [if_pos c3, if_pos rfl]
      omega
    · rw [if_neg kj]
      by_cases p : (k - 1) / 2 = i
      · rw [if_pos p, if_neg (by omega)]
        exact cle k kn p k0
      · rw [if_neg p]
        by_cases ki : k = i
        · rw [if_pos ki]
          have := h.2 j (by omega) c1 c3 (by omega)
          rw [ki]
          exact this
        · rw [if_neg ki]
          exact h.1 k k0 kn p ki
  · intro k k0 kn kp j0
    rw [ks, ks, c3, if_neg (by omega), if_pos rfl, if_neg (by omega), if_neg (by omega)]
    have := h.1 k k0 kn (by omega) (by omega)
    rw [kp] at this
    exact this
theorem DownOk.mid {n i : Nat} {l : List α} (h : DownOk u n i l) : MidOk u n i l := ⟨fun k k0 kn kp _ => h.1 k k0 kn kp, h.2⟩
theorem downL_heap : ∀ (f : Nat) (l : List α) (n i : Nat), DownOk u n i l → i < n → n ≤ l.length → n ≤ f + i → HeapN u n (downL u f l i n).1
  | 0, l, n, i, h, hi, hn, hf => by omega
  | f + 1, l, n, i, h, hi, hn, hf => by
    simp only [downL]
    split
    · rename_i e
      intro k k0 kn
      exact h.1 k k0 kn (by omega)
    · rename_i e
      have hc := childL_lt u (l := l) (show 2 * i + 1 < n by omega)
      split
      · rename_i hlt
        exact downL_heap f _ n _ (downL_step u h.mid hn (by omega) hlt) hc.1 (by rw [swapL_len]; exact hn) (by omega)
      · rename_i hge
        intro k k0 kn
        by_cases p : (k - 1) / 2 = i
        · have := childL_le u (l := l) kn p k0
          rw [p]
          show keyL u l i ≤ keyL u l k
          omega
        · exact h.1 k k0 kn p
theorem downL_ge : ∀ (f : Nat) (l : List α) (i n : Nat), i ≤ (downL u f l i n).2
  | 0, _, _, _ => Nat.le_refl _
  | f + 1, l, i, n => by
    simp only [downL]
    split
    · exact Nat.le_refl _
    · split
      · have := downL_ge f (swapL l i (childL u l i n)) (childL u l i n) n
        have hc := childL_lt u (l := l) (show 2 * i + 1 < n by omega)
        omega
      · exact Nat.le_refl _
/-- One whose place may be wrong finds it: down, or else up. -/
def mendL (l : List α) (i n : Nat) : List α := if i < (downL u n l i n).2 then (downL u n l i n).1 else upL u n (downL u n l i n).1 i
theorem mendL_len (l : List α) (i n : Nat) : (mendL u l i n).length = l.length := by
  unfold mendL
  split
  · exact downL_len u n l i n
  · rw [upL_len, downL_len]
theorem mendL_perm (l : List α) (i n : Nat) : (mendL u l i n).Perm l := by
  unfold mendL
  split
  · exact downL_perm u n l i n
  · exact (upL_perm u _ _ _).trans (downL_perm u n l i n)
theorem mendL_get {l : List α} {i n : Nat} (hi : i < n) (hn : n ≤ l.length) (k : Nat) (hk : n ≤ k) : (mendL u l i n)[k]? = l[k]? := by
  unfold mendL
  split
  · exact downL_get u n l i n hi hn k hk
  · rw [upL_get u n _ i (by rw [downL_len]; omega) k (by omega), downL_get u n l i n hi hn k hk]
theorem mendL_heap {l : List α} {i n : Nat} (h : MidOk u n i l) (hi : i < n) (hn : n ≤ l.length) : HeapN u n (mendL u l i n) := by
  obtain ⟨f, rfl⟩ : ∃ f, n = f + 1 := ⟨n - 1, by omega⟩
  have ed : downL u (f + 1) l i (f + 1) = if f + 1 ≤ 2 * i + 1 then (l, i) else if keyL u l (childL u l i (f + 1)) < keyL u l i then downL u f (swapL l i (childL u l i (f + 1))) (childL u l i (f + 1)) (f + 1) else (l, i) := rfl
  unfold mendL
  rw [ed]
  by_cases h1 : f + 1 ≤ 2 * i + 1
  · rw [if_pos h1, if_neg (by simp)]
    refine upL_heap u (f + 1) l (f + 1) i ⟨fun k k0 kn ki => h.1 k k0 kn (by omega) ki, fun k k0 kn kp => by omega⟩ hi hn (by omega)
  · rw [if_neg h1]
    have hc := childL_lt u (l := l) (i := i) (n := f + 1) (by omega)
    by_cases h2 : keyL u l (childL u l i (f + 1)) < keyL u l i
    · rw [if_pos h2]
      have hg := downL_ge u f (swapL l i (childL u l i (f + 1))) (childL u l i (f + 1)) (f + 1)
      rw [if_pos (by omega)]
      exact downL_heap u f _ (f + 1) _ (downL_step u h hn (by omega) h2) hc.1 (by rw [swapL_len]; exact hn) (by omega)
    · rw [if_neg h2, if_neg (by simp)]
      refine upL_heap u (f + 1) l (f + 1) i ⟨fun k k0 kn ki => ?_, h.2⟩ hi hn (by omega)
      by_cases p : (k - 1) / 2 = i
      · have := childL_le u (l := l) kn p k0
        rw [p]
        omega
      · exact h.1 k k0 kn p ki
/-- A heap, one of whose things is another one. -/
theorem heap_set {n i : Nat} {l : List α} {x : α} (h : HeapN u n l) : MidOk u n i (l.set i x) := by
  have ks : ∀ k, k ≠ i → keyL u (l.set i x) k = keyL u l k := fun k hk => by unfold keyL; rw [List.getElem?_set_ne (Ne.symm hk)]
  constructor
  · intro k k0 kn kp ki
    rw [ks _ kp, ks _ ki]
    exact h k k0 kn
  · intro k k0 kn kp i0
    rw [ks _ (by omega), ks _ (by omega)]
    have h1 := h k k0 kn
    have h2 := h i i0 (by omega)
    rw [kp] at h1
    omega
/-- One more. -/
def pushL (l : List α) (x : α) : List α := upL u (l.length + 1) (l ++ [x]) l.length
theorem pushL_perm (l : List α) (x : α) : (pushL u l x).Perm (x :: l) := (upL_perm u _ _ _).trans (List.perm_append_comm.trans (by exact List.Perm.refl _))
theorem pushL_len (l : List α) (x : α) : (pushL u l x).length = l.length + 1 := by simp [pushL, upL_len]
theorem pushL_heap {l : List α} (x : α) (h : HeapN u l.length l) : HeapN u (l.length + 1) (pushL u l x) := by
  have ks : ∀ k, k < l.length → keyL u (l ++ [x]) k = keyL u l k := fun k hk => by unfold keyL; rw [List.getElem?_append_left hk]
  refine upL_heap u _ _ _ _ ⟨fun k k0 kn kl => ?_, fun k k0 kn kp => by omega⟩ (by omega) (by simp) (by omega)
  rw [ks _ (by omega), ks _ (by omega)]
  exact h k k0 (by omega)
/-- One is taken out: it stands at the end, the others ahead. -/
def outL (l : List α) (i : Nat) : List α := if l.length - 1 = i then l else mendL u (swapL l i (l.length - 1)) i (l.length - 1)
theorem outL_len (l : List α) (i : Nat) : (outL u l i).length = l.length := by
  unfold outL
  split
  · rfl
  · rw [mendL_len, swapL_len]
theorem outL_perm (l : List α) (i : Nat) : (outL u l i).Perm l := by
  unfold outL
  split
  · exact List.Perm.refl _
  · exact (mendL_perm u _ _ _).trans (swapL_perm _ _ _)
theorem outL_last {l : List α} {i : Nat} (hi : i < l.length) : (outL u l i)[l.length - 1]? = l[i]? := by
  unfold outL
  split
  · rename_i e; rw [e]
  · rename_i e
    rw [mendL_get u (by omega) (by rw [swapL_len]; omega) _ (Nat.le_refl _), swapL_get hi (by omega), if_pos rfl]
theorem outL_heap {l : List α} {i : Nat} (hi : i < l.length) (h : HeapN u l.length l) : HeapN u (l.length - 1) (outL u l i) := by
  unfold outL
  split
  · intro k k0 kn
    exact h k k0 (by omega)
  · rename_i e
    refine mendL_heap u ?_ (by omega) (by rw [swapL_len]; omega)
    have ks := keyL_swap u (l := l) (i := i) (k := l.length - 1) hi (by omega)
    constructor
    · intro k k0 kn kp ki
      rw [ks, ks, if_neg (by omega), if_neg kp, if_neg (by omega), if_neg ki]
      exact h k k0 (by omega)
    · intro k k0 kn kp i0
      rw [ks, ks, if_neg (by omega), if_neg (by omega), if_neg (by omega), if_neg (by omega)]
      have h1 := h k k0 (by omega)
      have h2 := h i i0 hi
      rw [kp] at h1
      omega
end
end Go.Pure
set_option linter.unusedSimpArgs false
set_option linter.unusedVariables false
set_option maxRecDepth 100000
set_option maxHeartbeats 2000000
namespace Go.Proofs.Ytbglokdjlbknaaa
open Go Go.SL Go.Pure
/-- An item: where it lies, its name, its size, when it was used. -/
structure Ent where
  blk : Nat
  name : ByteArray
  size : Nat
  used : Nat
def entC (e : Ent) (i : Nat) : List Value := [.string e.name, .int .i64 (e.size : Int), .int .i64 (e.used : Int), .int .i64 (i : Int)]
def ptrE (e : Ent) : Value := .pointer (some ⟨e.blk, 0, none⟩)
theorem ci0 {h : Hp} {K : Value → Prop} (b : Nat) : q P h (Instr.fieldAt t_cache_item (.pointer (some ⟨b, 0, none⟩)) 0) K = K (.pointer (some ⟨b, 0, none⟩)) := q_of (by kernel_rfl) K
theorem ci1 {h : Hp} {K : Value → Prop} (b : Nat) : q P h (Instr.fieldAt t_cache_item (.pointer (some ⟨b, 0, none⟩)) 1) K = K (.pointer (some ⟨b, 2, none⟩)) := q_of (by kernel_rfl) K
theorem ci2 {h : Hp} {K : Value → Prop} (b : Nat) : q P h (Instr.fieldAt t_cache_item (.pointer (some ⟨b, 0, none⟩)) 2) K = K (.pointer (some ⟨b, 3, none⟩)) := q_of (by kernel_rfl) K
theorem ai0 {h : Hp} {K : Value → Prop} (b : Nat) : q P h (Instr.fieldAt t_api_Item (.pointer (some ⟨b, 0, none⟩)) 0) K = K (.pointer (some ⟨b, 0, none⟩)) := q_of (by kernel_rfl) K
theorem ai1 {h : Hp} {K : Value → Prop} (b : Nat) : q P h (Instr.fieldAt t_api_Item (.pointer (some ⟨b, 0, none⟩)) 1) K = K (.pointer (some ⟨b, 1, none⟩)) := q_of (by kernel_rfl) K
theorem cc0 {h : Hp} {K : Value → Prop} (b : Nat) : q P h (Instr.fieldAt t_cache_Cache (.pointer (some ⟨b, 0, none⟩)) 0) K = K (.pointer (some ⟨b, 0, none⟩)) := q_of (by kernel_rfl) K
theorem cc1 {h : Hp} {K : Value → Prop} (b : Nat) : q P h (Instr.fieldAt t_cache_Cache (.pointer (some ⟨b, 0, none⟩)) 1) K = K (.pointer (some ⟨b, 1, none⟩)) := q_of (by kernel_rfl) K
theorem cc2 {h : Hp} {K : Value → Prop} (b : Nat) : q P h (Instr.fieldAt t_cache_Cache (.pointer (some ⟨b, 0, none⟩)) 2) K = K (.pointer (some ⟨b, 2, none⟩)) := q_of (by kernel_rfl) K
theorem cc3 {h : Hp} {K : Value → Prop} (b : Nat) : q P h (Instr.fieldAt t_cache_Cache (.pointer (some ⟨b, 0, none⟩)) 3) K = K (.pointer (some ⟨b, 3, none⟩)) := q_of (by kernel_rfl) K
theorem cc4 {h : Hp} {K : Value → Prop} (b : Nat) : q P h (Instr.fieldAt t_cache_Cache (.pointer (some ⟨b, 0, none⟩)) 4) K = K (.pointer (some ⟨b, 4, none⟩)) := q_of (by kernel_rfl) K
theorem m_len {h : Hp} (c : Nat) : peek P h (method (P.types.size + Made.depth) t_Pt_cache_items (.pointer (some ⟨c, 3, none⟩)) "Len") = match h.cell ⟨c, 3, none⟩ with | some v => some (n_cache_items_Len, v) | none => none := by kernel_rfl
theorem m_less {h : Hp} (c : Nat) : peek P h (method (P.types.size + Made.depth) t_Pt_cache_items (.pointer (some ⟨c, 3, none⟩)) "Less") = match h.cell ⟨c, 3, none⟩ with | some v => some (n_cache_items_Less, v) | none => none := by kernel_rfl
theorem m_swap {h : Hp} (c : Nat) : peek P h (method (P.types.size + Made.depth) t_Pt_cache_items (.pointer (some ⟨c, 3, none⟩)) "Swap") = match h.cell ⟨c, 3, none⟩ with | some v => some (n_cache_items_Swap, v) | none => none := by kernel_rfl
theorem m_push {h : Hp} (c : Nat) : peek P h (method (P.types.size + Made.depth) t_Pt_cache_items (.pointer (some ⟨c, 3, none⟩)) "Push") = some (n_cache_items_Push, .pointer (some ⟨c, 3, none⟩)) := by kernel_rfl
theorem m_pop {h : Hp} (c : Nat) : peek P h (method (P.types.size + Made.depth) t_Pt_cache_items (.pointer (some ⟨c, 3, none⟩)) "Pop") = some (n_cache_items_Pop, .pointer (some ⟨c, 3, none⟩)) := by kernel_rfl
theorem ta_item {h : Hp} {K : Value → Prop} (b : Nat) : q P h (Instr.typeAssert (.iface t_Pt_cache_item (.pointer (some ⟨b, 0, none⟩))) 20 t_Pt_cache_item true) K = K (.tuple #[.pointer (some ⟨b, 0, none⟩), .bool true]) := q_of (by kernel_rfl) K
theorem mkI {h : Hp} {K : Value → Prop} (b : Nat) : q P h (Instr.makeInterface t_Pt_cache_items (.pointer (some ⟨b, 3, none⟩))) K = K (.iface t_Pt_cache_items (.pointer (some ⟨b, 3, none⟩))) := q_of (by kernel_rfl) K
theorem mkE {h : Hp} {K : Value → Prop} (b : Nat) : q P h (Instr.makeInterface t_Pt_cache_item (.pointer (some ⟨b, 0, none⟩))) K = K (.iface t_Pt_cache_item (.pointer (some ⟨b, 0, none⟩))) := q_of (by kernel_rfl) K
/-- The blocks of a cache's heap. -/
def HB (c : Nat) (Sh : List Nat) (xs : List Ent) : List Nat := c :: (Sh ++ xs.map Ent.blk)
theorem mem_HB {c : Nat} {Sh : List Nat} {xs : List Ent} {x : Nat} : x ∈ HB c Sh xs ↔ x = c ∨ x ∈ Sh ∨ ∃ e ∈ xs, e.blk = x := by simp [HB]
/-- A cache's heap, in memory. -/
structure HQ (h : Hp) (c : Nat) (a0 a1 a2 a4 : Value) (xs : List Ent) (vh : Value) (Sh : List Nat) : Prop where
  row : h c = some (.row t_cache_Cache [a0, a1, a2, vh, a4] 5 (some (0, 0)))
  out : OutAt t_Pt_cache_item 1 h vh (xs.map ptrE) xs.length Sh
  ent : ∀ (i : Nat) (e : Ent), xs[i]? = some e → h e.blk = some (.row t_cache_item (entC e i) 4 (some (0, 0)))
  nod : (HB c Sh xs).Nodup
theorem nod_ne {c : Nat} {Sh : List Nat} {xs : List Ent} (n : (HB c Sh xs).Nodup) : c ∉ Sh ∧ (∀ e ∈ xs, e.blk ≠ c ∧ e.blk ∉ Sh) ∧ ∀ (i j : Nat) (e f : Ent), xs[i]? = some e → xs[j]? = some f → i ≠ j → e.blk ≠ f.blk := by
  unfold HB at n
  rw [List.nodup_cons, List.nodup_append] at n
  obtain ⟨h1, h2, h3, h4⟩ := n
  refine ⟨fun q => h1 (List.mem_append_left _ q), fun e he => ⟨?_, fun q => h4 e.blk q e.blk (List.mem_map_of_mem he) rfl⟩, fun i j e f hi hj hij he => ?_⟩
  · rintro rfl; exact h1 (List.mem_append_right _ (List.mem_map_of_mem he))
  · have hi' : (xs.map Ent.blk)[i]? = some e.blk := by rw [List.getElem?_map, hi]; rfl
    have hj' : (xs.map Ent.blk)[j]? = some e.blk := by rw [List.getElem?_map, hj, he]; rfl
    obtain ⟨l1, e1⟩ := List.getElem?_eq_some_iff.1 hi'
    obtain ⟨l2, e2⟩ := List.getElem?_eq_some_iff.1 hj'
    have pw := List.pairwise_iff_getElem.1 h3
    rcases Nat.lt_or_gt_of_ne hij with q | q
    · exact pw i j l1 l2 q (e1.trans e2.symm)
    · exact pw j i l2 l1 q (e2.trans e1.symm)
/-- A step within what is owned. -/
theorem stp_in {R h h' : Hp} {S : List Nat} (w : Own R h S) (fr : ∀ b, b ∉ S → h' b = h b) (kn : ∀ b, b ∈ S → ∃ o, h' b = some o) : Stp R h R h' S S :=
  ⟨.refl _, fun b o n e => by rw [fr b n]; exact e, fun b o n _ => n, fun b o _ _ e => e, ⟨fun b o e => by
    rw [fr b (fun q => by rw [w.dis b q] at e; cases e)]; exact w.sub b o e, w.dis, kn⟩⟩
theorem HB_perm {c : Nat} {Sh : List Nat} {xs ys : List Ent} (p : ys.Perm xs) : ∀ x, x ∈ HB c Sh ys ↔ x ∈ HB c Sh xs := fun x => by
  rw [mem_HB, mem_HB]
  simp only [p.mem_iff]
theorem HB_nod {c : Nat} {Sh : List Nat} {xs ys : List Ent} (p : ys.Perm xs) (n : (HB c Sh xs).Nodup) : (HB c Sh ys).Nodup := by
  have : (HB c Sh ys).Perm (HB c Sh xs) := List.Perm.cons _ (List.Perm.append_left _ (p.map _))
  exact this.nodup_iff.2 n
theorem swapL_map {α β : Type} (f : α → β) (l : List α) (i k : Nat) : (swapL l i k).map f = swapL (l.map f) i k := by
  unfold swapL
  rw [List.getElem?_map, List.getElem?_map]
  cases l[i]? <;> cases l[k]? <;> simp [List.map_set]
abbrev HIf (c : Nat) : Value := .iface t_Pt_cache_items (.pointer (some ⟨c, 3, none⟩))
section
variable {h : Hp} {K : Value → Hp → Prop} {c : Nat} {a0 a1 a2 a4 vh : Value} {xs : List Ent} {Sh : List Nat}
theorem HQ.cell (a : HQ h c a0 a1 a2 a4 xs vh Sh) : h.cell ⟨c, 3, none⟩ = some vh := by rw [cell_row a.row]; rfl
theorem HQ.form (a : HQ h c a0 a1 a2 a4 xs vh Sh) (h0 : 0 < xs.length) : ∃ b cap f, h b = some (.row t_Pt_cache_item (xs.map ptrE) (cap * 1) (some f)) ∧ vh = .slice (some ⟨b, 0, none⟩) xs.length cap ∧ xs.length ≤ cap ∧ (∀ i, i < cap * 1 → ¬ (f.1 ≤ i ∧ i < f.2)) ∧ Sh = [b] := by
  rcases a.out with ⟨_, hn, _, _⟩ | ⟨b, cap, f, h1, h2, h3, h4, h5, _⟩
  · omega
  · exact ⟨b, cap, f, h1, h2, h3, h4, h5⟩
theorem M_len (a : HQ h c a0 a1 a2 a4 xs vh Sh) (k : K (.int .i64 (xs.length : Int)) h) : aw P (callMethod (HIf c) "Len" #[]) (nextP P K) h := by
  refine aw_method (g := n_cache_items_Len) (r := vh) (by rw [m_len, a.cell]) ?_
  show Cn P n_cache_items_Len #[vh] h K
  refine F_cache_items_Len ?_
  unfold s_cache_items_Len
  obtain ⟨_, aa, cc, e, _⟩ := a.out.rds
  rw [e, q_lenS u_cache_items]
  exact k
theorem M_less (a : HQ h c a0 a1 a2 a4 xs vh Sh) (i k' : Nat) (hi : i < xs.length) (hk : k' < xs.length) (k : K (.bool (decide (keyL Ent.used xs i < keyL Ent.used xs k'))) h) : aw P (callMethod (HIf c) "Less" #[.int .i64 (i : Int), .int .i64 (k' : Int)]) (nextP P K) h := by
  refine aw_method (g := n_cache_items_Less) (r := vh) (by rw [m_less, a.cell]) ?_
  show Cn P n_cache_items_Less #[vh, .int .i64 (i : Int), .int .i64 (k' : Int)] h K
  refine F_cache_items_Less ?_
  unfold s_cache_items_Less
  obtain ⟨b, cap, f, hb, rfl, hc, _, _⟩ := a.form (by omega)
  have ei := List.getElem?_eq_getElem hi
  have ek := List.getElem?_eq_getElem hk
  have c1 : h.cell ⟨b, i, none⟩ = some (ptrE xs[i]) := by rw [cell_row hb, List.getElem?_map, ei]; rfl
  have c2 : h.cell ⟨b, k', none⟩ = some (ptrE xs[k']) := by rw [cell_row hb, List.getElem?_map, ek]; rfl
  have u1 : h.cell ⟨(xs[i]).blk, 2, none⟩ = some (.int .i64 ((xs[i]).used : Int)) := by rw [cell_row (a.ent i _ ei)]; rfl
  have u2 : h.cell ⟨(xs[k']).blk, 2, none⟩ = some (.int .i64 ((xs[k']).used : Int)) := by rw [cell_row (a.ent k' _ ek)]; rfl
  simp (disch := omega) only [GL, RL, c1, c2, ptrE, ci1, u1, u2]
  have e : decide (((xs[i]).used : Int) < ((xs[k']).used : Int)) = decide (keyL Ent.used xs i < keyL Ent.used xs k') := by
    rw [lt_dec]
    unfold keyL
    rw [ei, ek]
  rw [e]
  exact k
theorem M_swap {R : Hp} (w : Own R h (HB c Sh xs)) (a : HQ h c a0 a1 a2 a4 xs vh Sh) (i k' : Nat) (hi : i < xs.length) (hk : k' < xs.length) (hne : i ≠ k')
    (k : ∀ h', Stp R h R h' (HB c Sh xs) (HB c Sh (swapL xs i k')) → HQ h' c a0 a1 a2 a4 (swapL xs i k') vh Sh → K (.tuple #[]) h') : aw P (callMethod (HIf c) "Swap" #[.int .i64 (i : Int), .int .i64 (k' : Int)]) (nextP P K) h := by
  refine aw_method (g := n_cache_items_Swap) (r := vh) (by rw [m_swap, a.cell]) ?_
  show Cn P n_cache_items_Swap #[vh, .int .i64 (i : Int), .int .i64 (k' : Int)] h K
  refine F_cache_items_Swap ?_
  unfold s_cache_items_Swap
  obtain ⟨b, cap, f, hb, rfl, hc, hf, rfl⟩ := a.form (by omega)
  have ei := List.getElem?_eq_getElem hi
  have ek := List.getElem?_eq_getElem hk
  obtain ⟨n1, n2, n3⟩ := nod_ne a.nod
  have c1 : h.cell ⟨b, i, none⟩ = some (ptrE xs[i]) := by rw [cell_row hb, List.getElem?_map, ei]; rfl
  have c2 : h.cell ⟨b, k', none⟩ = some (ptrE xs[k']) := by rw [cell_row hb, List.getElem?_map, ek]; rfl
  have ent := a.ent
  have hout := a.out
  have hrow := a.row
  generalize hxi : xs[i] = ei' at *
  generalize hxk : xs[k'] = ek' at *
  have mi : ei' ∈ xs := by rw [← hxi]; exact List.getElem_mem hi
  have mk : ek' ∈ xs := by rw [← hxk]; exact List.getElem_mem hk
  have bi := n2 _ mi
  have bk := n2 _ mk
  have bik := n3 i k' _ _ ei ek hne
  simp only [List.mem_singleton] at n1 bi bk
  have lx : (xs.map ptrE).length = xs.length := List.length_map ..
  simp (disch := omega) only [GL, RL, c1, c2]
  refine aw_store z_Pt_cache_item rfl (put_row hb (by omega) (hf _ (by omega)) _) ?_
  refine aw_store z_Pt_cache_item rfl (put_row (Hp.set_same ..) (by rw [List.length_set]; omega) (hf _ (by omega)) _) ?_
  rw [Hp.set_set]
  have erow : ((xs.map ptrE).set i (ptrE ek')).set k' (ptrE ei') = (swapL xs i k').map ptrE := by
    rw [swapL_map, swapL_eq (a := ptrE ei') (b := ptrE ek') (by rw [List.getElem?_map, ei]; rfl) (by rw [List.getElem?_map, ek]; rfl)]
  rw [erow]
  have ls := swapL_len xs i k'
  have g1 : ∀ fz, (h.set b (.row t_Pt_cache_item ((swapL xs i k').map ptrE) (cap * 1) fz)).cell ⟨b, i, none⟩ = some (ptrE ek') := fun fz => by
    rw [cell_row (Hp.set_same ..), List.getElem?_map, swapL_get hi hk, if_neg hne, if_pos rfl, ek]; rfl
  have g2 : ∀ fz, (h.set b (.row t_Pt_cache_item ((swapL xs i k').map ptrE) (cap * 1) fz)).cell ⟨b, k', none⟩ = some (ptrE ei') := fun fz => by
    rw [cell_row (Hp.set_same ..), List.getElem?_map, swapL_get hi hk, if_pos rfl, ei]; rfl
  simp (disch := omega) only [GL, RL, g1, g2, ptrE, ci2]
  have r1 := ent k' ek' ek
  have r2 := ent i ei' ei
  refine aw_store z_int rfl (put_row (b := ek'.blk) (off := 3) (vs := entC ek' k') (by rw [Hp.set_ne _ _ bk.2]; exact r1) (by simp [entC]) (by simp) _) ?_
  refine aw_store z_int rfl (put_row (b := ei'.blk) (off := 3) (vs := entC ei' i) (by rw [Hp.set_ne _ _ bik, Hp.set_ne _ _ bi.2]; exact r2) (by simp [entC]) (by simp) _) ?_
  have s1 : (entC ek' k').set 3 (.int .i64 (i : Int)) = entC ek' i := rfl
  have s2 : (entC ei' i).set 3 (.int .i64 (k' : Int)) = entC ei' k' := rfl
  rw [s1, s2]
  have pm := swapL_perm xs i k'
  refine k _ ((stp_in w (fun x hx => ?_) fun x hx => ?_).perm (fun x => Iff.rfl) fun x => (HB_perm pm x).symm) ⟨?_, .inr ⟨b, cap, f, ?_, by rw [ls], by rw [ls]; exact hc, hf, rfl, by rw [List.length_map, ls, Nat.mul_one]⟩, fun j e ej => ?_, HB_nod pm a.nod⟩
  · rw [mem_HB] at hx
    simp only [not_or, not_exists, not_and, List.mem_singleton] at hx
    rw [Hp.set_ne _ _ (Ne.symm (hx.2.2 ei' mi)), Hp.set_ne _ _ (Ne.symm (hx.2.2 ek' mk)), Hp.set_ne _ _ hx.2.1]
  · by_cases q1 : x = ei'.blk
    · rw [q1]; exact ⟨_, Hp.set_same ..⟩
    · rw [Hp.set_ne _ _ q1]
      by_cases q2 : x = ek'.blk
      · rw [q2]; exact ⟨_, Hp.set_same ..⟩
      · rw [Hp.set_ne _ _ q2]
        by_cases q3 : x = b
        · rw [q3]; exact ⟨_, Hp.set_same ..⟩
        · rw [Hp.set_ne _ _ q3]; exact w.kn x hx
  · rw [Hp.set_ne _ _ (Ne.symm bi.1), Hp.set_ne _ _ (Ne.symm bk.1), Hp.set_ne _ _ n1]; exact hrow
  · rw [Hp.set_ne _ _ (Ne.symm bi.2), Hp.set_ne _ _ (Ne.symm bk.2), Hp.set_same]
  · rw [swapL_get hi hk] at ej
    by_cases q1 : j = k'
    · subst q1
      rw [if_pos rfl, ei] at ej
      cases ej
      exact Hp.set_same ..
    · rw [if_neg q1] at ej
      by_cases q2 : j = i
      · subst q2
        rw [if_pos rfl, ek] at ej
        cases ej
        rw [Hp.set_ne _ _ (Ne.symm bik)]
        exact Hp.set_same ..
      · rw [if_neg q2] at ej
        have me : e ∈ xs := List.mem_of_getElem? ej
        have be := n2 _ me
        simp only [List.mem_singleton] at be
        rw [Hp.set_ne _ _ (n3 j i _ _ ej ei q2), Hp.set_ne _ _ (n3 j k' _ _ ej ek q1), Hp.set_ne _ _ be.2]
        exact ent j e ej
end
end Go.Proofs.Ytbglokdjlbknaaa
set_option linter.unusedSimpArgs false
set_option linter.unusedVariables false
set_option maxRecDepth 100000
set_option maxHeartbeats 2000000
namespace Go.Proofs.Ytbglokdjlbknaaa
open Go Go.SL Go.Pure
/-- A step, by what stays and what is new. -/
theorem stp_mk {R h h' : Hp} {S S' : List Nat} (w : Own R h S) (kp : ∀ b o, b ∉ S → h b = some o → h' b = some o) (fr : ∀ b o, b ∉ S → h b = some o → b ∉ S') (kn : ∀ b, b ∈ S' → ∃ o, h' b = some o) : Stp R h R h' S S' := by
  have ns : ∀ b o, R b = some o → b ∉ S := fun b o e q => by rw [w.dis b q] at e; cases e
  refine ⟨.refl _, kp, fr, fun b o _ _ e => e, ⟨fun b o e => kp b o (ns b o e) (w.sub b o e), fun b hb => ?_, kn⟩⟩
  cases e : R b with
  | none => rfl
  | some o => exact absurd hb (fr b o (ns b o e) (w.sub b o e))
section
variable {h : Hp} {K : Value → Hp → Prop} {c : Nat} {a0 a1 a2 a4 vh : Value} {xs : List Ent} {Sh : List Nat} {R : Hp}
theorem T_up (w : Own R h (HB c Sh xs)) (a : HQ h c a0 a1 a2 a4 xs vh Sh) (j f : Nat) (hj : j < xs.length) (hf : j ≤ f) (lx : xs.length ≤ 1000000)
    (k : ∀ h', Stp R h R h' (HB c Sh xs) (HB c Sh (upL Ent.used f xs j)) → HQ h' c a0 a1 a2 a4 (upL Ent.used f xs j) vh Sh → K (.tuple #[]) h') : Cn P n_heap_up #[HIf c, .int .i64 (j : Int)] h K := by
  refine F_heap_up ?_
  unfold s_heap_up
  refine Lp_mk (fun m vs h' => ∃ (f' : Nat) (ys : List Ent), m ≤ f' ∧ m < ys.length ∧ ys.length = xs.length ∧ upL Ent.used f xs j = upL Ent.used f' ys m ∧ Stp R h R h' (HB c Sh xs) (HB c Sh ys) ∧ HQ h' c a0 a1 a2 a4 ys vh Sh ∧ vs = [.int .i64 (m : Int)]) j
    ⟨f, xs, hf, hj, rfl, rfl, .refl w, a, rfl⟩ ?_
  rintro m vs h1 ⟨f', ys, hmf, hm, ly, eu, st, a1', rfl⟩
  have e2 : ((m : Int) - 1).tdiv 2 = (((m - 1) / 2 : Nat) : Int) := by
    by_cases h0 : m = 0
    · subst h0; rfl
    · rw [show (m : Int) - 1 = ((m - 1 : Nat) : Int) by omega, Int.tdiv_eq_ediv_of_nonneg (by omega)]; rfl
  have eb : ((((m - 1) / 2 : Nat) : Int) == (m : Int)) = decide ((m - 1) / 2 = m) := by rw [Bool.eq_iff_iff, beq_iff_eq, decide_eq_true_eq]; omega
  simp (disch := omega) only [GL, RL, wi64, e2, eb]
  by_cases q0 : (m - 1) / 2 = m
  · simp only [q0, decide_true, Bool.true_eq_false, if_false, if_true]
    have : upL Ent.used f' ys m = ys := by cases f' <;> simp [upL, q0]
    rw [this] at eu
    rw [eu] at k
    exact k h1 st a1'
  simp only [q0, decide_false, if_true]
  obtain ⟨f2, rfl⟩ : ∃ f2, f' = f2 + 1 := ⟨f' - 1, by omega⟩
  refine M_less a1' m ((m - 1) / 2) hm (by omega) ?_
  have eu2 : upL Ent.used (f2 + 1) ys m = if keyL Ent.used ys m < keyL Ent.used ys ((m - 1) / 2) then upL Ent.used f2 (swapL ys ((m - 1) / 2) m) ((m - 1) / 2) else ys := by
    simp only [upL]
    rw [if_neg q0]
  by_cases q1 : keyL Ent.used ys m < keyL Ent.used ys ((m - 1) / 2)
  · simp only [q1, decide_true, GL, RL, Bool.not_true, Bool.false_eq_true, if_false]
    rw [if_pos q1] at eu2
    refine M_swap st.own a1' ((m - 1) / 2) m (by omega) hm (by omega) fun h2 s2 a2 => ?_
    exact ⟨h2, .refl _, (m - 1) / 2, by omega, f2, _, by omega, by rw [swapL_len]; omega, by rw [swapL_len]; exact ly, by rw [eu, eu2], st.trans s2, a2, rfl⟩
  · simp only [q1, decide_false, GL, RL, Bool.not_false, if_true]
    rw [if_neg q1] at eu2
    rw [eu2] at eu
    rw [eu] at k
    exact k h1 st a1'
theorem T_down (w : Own R h (HB c Sh xs)) (a : HQ h c a0 a1 a2 a4 xs vh Sh) (i n : Nat) (hi : i < n) (hn : n ≤ xs.length) (lx : xs.length ≤ 1000000)
    (k : ∀ h', Stp R h R h' (HB c Sh xs) (HB c Sh (downL Ent.used n xs i n).1) → HQ h' c a0 a1 a2 a4 (downL Ent.used n xs i n).1 vh Sh → K (.bool (decide (i < (downL Ent.used n xs i n).2))) h') : Cn P n_heap_down #[HIf c, .int .i64 (i : Int), .int .i64 (n : Int)] h K := by
  refine F_heap_down ?_
  unfold s_heap_down
  refine Lp_mk (fun m vs h' => ∃ (f' i' : Nat) (ys : List Ent), m + i' = n ∧ i' < n ∧ n ≤ f' + i' ∧ ys.length = xs.length ∧ downL Ent.used n xs i n = downL Ent.used f' ys i' n ∧ Stp R h R h' (HB c Sh xs) (HB c Sh ys) ∧ HQ h' c a0 a1 a2 a4 ys vh Sh ∧ vs = [.int .i64 (i' : Int)]) (n - i)
    ⟨n, i, xs, by omega, hi, by omega, rfl, rfl, .refl w, a, rfl⟩ ?_
  rintro m vs h1 ⟨f', i', ys, hm, hi', hf', ly, eu, st, a1', rfl⟩
  obtain ⟨f2, rfl⟩ : ∃ f2, f' = f2 + 1 := ⟨f' - 1, by omega⟩
  have ed : downL Ent.used (f2 + 1) ys i' n = if n ≤ 2 * i' + 1 then (ys, i') else if keyL Ent.used ys (childL Ent.used ys i' n) < keyL Ent.used ys i' then downL Ent.used f2 (swapL ys i' (childL Ent.used ys i' n)) (childL Ent.used ys i' n) n else (ys, i') := rfl
  have e1 : (2 : Int) * (i' : Int) + 1 = ((2 * i' + 1 : Nat) : Int) := by omega
  have e1' : (2 : Int) * (i' : Int) = ((2 * i' : Nat) : Int) := by omega
  have e1'' : ((2 * i' : Nat) : Int) + 1 = ((2 * i' + 1 : Nat) : Int) := by omega
  have eg : decide ((n : Int) ≤ ((2 * i' + 1 : Nat) : Int)) = decide (n ≤ 2 * i' + 1) := by rw [decide_eq_decide]; omega
  have e0 : decide (((2 * i' + 1 : Nat) : Int) < 0) = false := by rw [decide_eq_false_iff_not]; omega
  have egt : decide ((i : Int) < (i' : Int)) = decide (i < i') := lt_dec i i'
  simp -zeta (disch := omega) only [GL, RL, wi64, e1', e1'']
  intro J6
  have stop : downL Ent.used (f2 + 1) ys i' n = (ys, i') → K (.bool (decide (i < i'))) h1 := fun e => by
    rw [e] at eu
    rw [eu] at k
    exact k h1 st a1'
  have p6 : 2 * i' + 1 < n → J6 h1 := by
    intro h2
    rw [if_neg (by omega)] at ed
    simp -zeta only [J6]
    clear J6
    intro J9
    have hc := childL_lt Ent.used (l := ys) (i := i') (n := n) h2
    have p9 : J9 (.int .i64 ((childL Ent.used ys i' n : Nat) : Int)) h1 := by
      unfold J9
      clear J9
      generalize childL Ent.used ys i' n = ch at ed hc ⊢
      refine M_less a1' ch i' (by omega) (by omega) ?_
      by_cases q1 : keyL Ent.used ys ch < keyL Ent.used ys i'
      · simp only [q1, decide_true, GL, RL, Bool.not_true, Bool.false_eq_true, if_false]
        rw [if_pos q1] at ed
        refine M_swap st.own a1' i' ch (by omega) (by omega) (by omega) fun h2' s2 a2 => ?_
        exact ⟨h2', .refl _, n - ch, by omega, f2, ch, _, by omega, by omega, by omega, by rw [swapL_len]; exact ly, by rw [eu, ed], st.trans s2, a2, rfl⟩
      · simp only [q1, decide_false, GL, RL, Bool.not_false, if_true, egt]
        rw [if_neg q1] at ed
        exact stop ed
    clear_value J9
    have e2 : ((2 * i' + 1 : Nat) : Int) + 1 = ((2 * i' + 1 + 1 : Nat) : Int) := by omega
    have el : decide (((2 * i' + 1 + 1 : Nat) : Int) < (n : Int)) = decide (2 * i' + 1 + 1 < n) := lt_dec _ _
    simp (disch := omega) only [GL, RL, wi64, e2, el]
    by_cases q2 : 2 * i' + 1 + 1 < n
    · simp only [q2, decide_true, if_true]
      refine M_less a1' (2 * i' + 1 + 1) (2 * i' + 1) (by omega) (by omega) ?_
      by_cases q3 : keyL Ent.used ys (2 * i' + 1 + 1) < keyL Ent.used ys (2 * i' + 1)
      · simp only [q3, decide_true, GL, if_true]
        have : childL Ent.used ys i' n = 2 * i' + 1 + 1 := by unfold childL; rw [if_pos ⟨q2, q3⟩]
        rw [this] at p9
        exact p9
      · simp only [q3, decide_false, GL, Bool.false_eq_true, if_false]
        have : childL Ent.used ys i' n = 2 * i' + 1 := by unfold childL; rw [if_neg (fun q => q3 q.2)]
        rw [this] at p9
        exact p9
    · simp only [q2, decide_false, Bool.false_eq_true, if_false]
      have : childL Ent.used ys i' n = 2 * i' + 1 := by unfold childL; rw [if_neg (fun q => q2 q.1)]
      rw [this] at p9
      exact p9
  clear_value J6
  simp only [eg, e0]
  by_cases q1 : n ≤ 2 * i' + 1
  · simp only [q1, decide_true, Bool.true_eq_false, if_false, if_true, egt]
    rw [if_pos q1] at ed
    exact stop ed
  · simp only [q1, decide_false, if_true, Bool.false_eq_true, if_false]
    exact p6 (by omega)
theorem T_mend (w : Own R h (HB c Sh xs)) (a : HQ h c a0 a1 a2 a4 xs vh Sh) (i n : Nat) (hi : i < n) (hn : n ≤ xs.length) (lx : xs.length ≤ 1000000)
    (k : ∀ h', Stp R h R h' (HB c Sh xs) (HB c Sh (mendL Ent.used xs i n)) → HQ h' c a0 a1 a2 a4 (mendL Ent.used xs i n) vh Sh → K (.tuple #[]) h') :
    Cn P n_heap_down #[HIf c, .int .i64 (i : Int), .int .i64 (n : Int)] h fun t8 h => q P h (Op.unary .not t8) fun t9 => cnd t9 (Cn P n_heap_up #[HIf c, .int .i64 (i : Int)] h fun t12 h => K (Value.tuple #[]) h) (K (Value.tuple #[]) h) := by
  refine T_down w a i n hi hn lx fun h1 s1 a1' => ?_
  have hl := downL_len Ent.used n xs i n
  by_cases q1 : i < (downL Ent.used n xs i n).2
  · simp only [q1, decide_true, GL, RL, Bool.not_true, Bool.false_eq_true, if_false]
    have e : mendL Ent.used xs i n = (downL Ent.used n xs i n).1 := by unfold mendL; rw [if_pos q1]
    rw [e] at k
    exact k h1 s1 a1'
  · simp only [q1, decide_false, GL, RL, Bool.not_false, if_true]
    have e : mendL Ent.used xs i n = upL Ent.used n (downL Ent.used n xs i n).1 i := by unfold mendL; rw [if_neg q1]
    rw [e] at k
    exact T_up s1.own a1' i n (by omega) (by omega) (by omega) fun h2 s2 a2 => k h2 (s1.trans s2) a2
theorem T_Fix (w : Own R h (HB c Sh xs)) (a : HQ h c a0 a1 a2 a4 xs vh Sh) (i : Nat) (hi : i < xs.length) (lx : xs.length ≤ 1000000)
    (k : ∀ h', Stp R h R h' (HB c Sh xs) (HB c Sh (mendL Ent.used xs i xs.length)) → HQ h' c a0 a1 a2 a4 (mendL Ent.used xs i xs.length) vh Sh → K (.tuple #[]) h') : Cn P n_heap_Fix #[HIf c, .int .i64 (i : Int)] h K := by
  refine F_heap_Fix ?_
  unfold s_heap_Fix
  refine M_len a ?_
  exact T_mend w a i xs.length hi (Nat.le_refl _) lx k
theorem M_push {e : Ent} (w : Own R h (e.blk :: HB c Sh xs)) (a : HQ h c a0 a1 a2 a4 xs vh Sh) (he : h e.blk = some (.row t_cache_item (entC e 0) 4 (some (0, 0)))) (hn : e.blk ∉ HB c Sh xs) (lx : xs.length ≤ 1000000)
    (k : ∀ vh' Sh' h', Stp R h R h' (e.blk :: HB c Sh xs) (HB c Sh' (xs ++ [e])) → HQ h' c a0 a1 a2 a4 (xs ++ [e]) vh' Sh' → K (.tuple #[]) h') : aw P (callMethod (HIf c) "Push" #[.iface t_Pt_cache_item (ptrE e)]) (nextP P K) h := by
  refine aw_method (g := n_cache_items_Push) (r := .pointer (some ⟨c, 3, none⟩)) (m_push c) ?_
  show Cn P n_cache_items_Push #[.pointer (some ⟨c, 3, none⟩), .iface t_Pt_cache_item (ptrE e)] h K
  refine F_cache_items_Push ?_
  unfold s_cache_items_Push
  have c3 := a.cell
  have hnc : e.blk ≠ c ∧ e.blk ∉ Sh ∧ ∀ x ∈ xs, x.blk ≠ e.blk := by
    rw [mem_HB] at hn
    simp only [not_or, not_exists, not_and] at hn
    exact ⟨hn.1, hn.2.1, hn.2.2⟩
  obtain ⟨_, aa, cc, ev, hcc, _⟩ := a.out.rds
  have lnv : ∀ {h : Hp} {K : Value → Prop}, q P h (Builtin.len_ #[t_cache_items] t_int #[vh]) K = K (.int .i64 (xs.length : Int)) := fun {h K} => by rw [ev]; exact q_lenS u_cache_items _ _ _
  simp (disch := omega) only [ptrE, ta_item, ext0, ext1, GL, RL, if_true, c3, lnv, ci2]
  refine aw_store z_int rfl (put_row (b := e.blk) (off := 3) he (by simp [entC]) (by simp) _) ?_
  have s1 : (entC e 0).set 3 (.int .i64 (xs.length : Int)) = entC e xs.length := rfl
  rw [s1]
  have c3' : (h.set e.blk (.row t_cache_item (entC e xs.length) 4 (some (0, 0)))).cell ⟨c, 3, none⟩ = some vh := by rw [cell_row (by rw [Hp.set_ne _ _ (Ne.symm hnc.1)]; exact a.row)]; rfl
  simp (disch := omega) only [GL, RL, c3']
  obtain ⟨h1, hh1⟩ : ∃ h1, h.set e.blk (.row t_cache_item (entC e xs.length) 4 (some (0, 0))) = h1 := ⟨_, rfl⟩
  rw [hh1]
  have f1 : ∀ x, x ≠ e.blk → h1 x = h x := fun x hx => by rw [← hh1, Hp.set_ne _ _ hx]
  have e1 : h1 e.blk = some (.row t_cache_item (entC e xs.length) 4 (some (0, 0))) := by rw [← hh1]; exact Hp.set_same ..
  have o1 : OutAt t_Pt_cache_item 1 h1 vh (xs.map ptrE) xs.length Sh := a.out.keep fun x hx => f1 x (by rintro rfl; exact hnc.2.1 hx)
  refine aw_lit (ps := [(0, .pointer (some ⟨e.blk, 0, none⟩))]) (n := 1) u_cache_items z_Pt_cache_item zr_Pt_cache_item rfl (by omega) (by intro p hp; rw [List.mem_singleton.1 hp]; exact ⟨rfl, by show _ < 1; omega⟩) fun v24 h2 n2 _ => ?_
  have n2' : New h1 t_Pt_cache_item 1 v24 h2 [ptrE e] 1 := n2
  have x2 := n2'.ext
  have o2 : OutAt t_Pt_cache_item 1 h2 vh (xs.map ptrE) xs.length Sh := o1.keep fun x hx => by
    obtain ⟨o, eo⟩ := w.kn x (List.mem_cons_of_mem _ (mem_HB.2 (.inr (.inl hx))))
    have : h1 x = some o := by rw [f1 x (by rintro rfl; exact hnc.2.1 hx)]; exact eo
    rw [this, x2 _ _ this]
  refine aw_appendO (ts := t_cache_items) (t2 := t_cache_items) u_cache_items u_cache_items nfo_Pt_cache_item rfl (by omega) o2 n2'.rds (by intro y hy; rw [List.mem_singleton.1 hy]; rfl) (by omega) fun v25 h3 Sh' o3 kp3 fr3 => ?_
  have hcS : c ∉ Sh := (nod_ne a.nod).1
  have rc2 : h2 c = some (.row t_cache_Cache [a0, a1, a2, vh, a4] 5 (some (0, 0))) := x2 _ _ (by rw [f1 c (Ne.symm hnc.1)]; exact a.row)
  have rc3 := kp3 c _ hcS rc2
  have fl25 : flat v25 = true := o3.rds.2.elim fun _ q => by obtain ⟨_, e, _⟩ := q; rw [e]; rfl
  refine aw_store z_cache_items fl25 (put_row rc3 (by simp) (by simp) _) ?_
  have hc' : c ∉ Sh' := fr3 c _ hcS rc2
  have kb : ∀ x, x ∈ xs.map Ent.blk ∨ x = e.blk → x ≠ c ∧ x ∉ Sh ∧ ∃ o, h2 x = some o := fun x hx => by
    rcases hx with hx | rfl
    · obtain ⟨y, hy, rfl⟩ := List.mem_map.1 hx
      obtain ⟨i, hi, rfl⟩ := List.getElem_of_mem hy
      have := a.ent i _ (List.getElem?_eq_getElem hi)
      obtain ⟨_, n2, _⟩ := nod_ne a.nod
      exact ⟨(n2 _ hy).1, (n2 _ hy).2, _, x2 _ _ (by rw [f1 _ (hnc.2.2 _ hy)]; exact this)⟩
    · exact ⟨hnc.1, hnc.2.1, _, x2 _ _ e1⟩
  have keep4 : ∀ x o, x ≠ c → x ∉ Sh → h2 x = some o → (h3.set c (.row t_cache_Cache [a0, a1, a2, v25, a4] 5 (some (0, 0)))) x = some o := fun x o hx hS eo => by
    rw [Hp.set_ne _ _ hx]; exact kp3 x o hS eo
  refine k v25 Sh' _ (stp_mk w (fun x o hx eo => ?_) (fun x o hx eo => ?_) fun x hx => ?_) ⟨Hp.set_same .., ?_, fun j y ej => ?_, ?_⟩
  · simp only [List.mem_cons, not_or, mem_HB] at hx
    exact keep4 x o hx.2.1 hx.2.2.1 (x2 _ _ (by rw [f1 x hx.1]; exact eo))
  · simp only [List.mem_cons, not_or, mem_HB, not_exists, not_and] at hx
    rw [mem_HB]
    simp only [not_or, not_exists, not_and, List.mem_append, List.mem_singleton]
    refine ⟨hx.2.1, fr3 x o hx.2.2.1 (x2 _ _ (by rw [f1 x hx.1]; exact eo)), ?_⟩
    rintro y (hy | rfl)
    · exact hx.2.2.2 y hy
    · exact Ne.symm hx.1
  · rw [mem_HB] at hx
    rcases hx with rfl | hx | ⟨y, hy, rfl⟩
    · exact ⟨_, Hp.set_same ..⟩
    · rcases o3 with ⟨_, _, _, rfl⟩ | ⟨b, cap, f, hb, _, _, _, rfl, _⟩
      · cases hx
      · rw [List.mem_singleton] at hx
        subst hx
        exact ⟨_, by rw [Hp.set_ne _ _ (by rintro rfl; exact hc' (by simp))]; exact hb⟩
    · have := kb y.blk (by
        rcases List.mem_append.1 hy with q | q
        · exact .inl (List.mem_map_of_mem q)
        · rw [List.mem_singleton.1 q]; exact .inr rfl)
      obtain ⟨q1, q2, o, eo⟩ := this
      exact ⟨o, keep4 _ _ q1 q2 eo⟩
  · have : (xs ++ [e]).map ptrE = xs.map ptrE ++ [ptrE e] := by simp
    rw [this, List.length_append]
    exact o3.keep fun x hx => Hp.set_ne _ _ (by rintro rfl; exact hc' hx)
  · by_cases q : j < xs.length
    · rw [List.getElem?_append_left q] at ej
      have hy := List.mem_of_getElem? ej
      obtain ⟨_, n2, _⟩ := nod_ne a.nod
      exact keep4 _ _ (n2 _ hy).1 (n2 _ hy).2 (x2 _ _ (by rw [f1 _ (hnc.2.2 _ hy)]; exact a.ent j y ej))
    · rw [List.getElem?_append_right (by omega)] at ej
      have hj : j - xs.length = 0 := by
        have := (List.getElem?_eq_some_iff.1 ej).1
        simp at this; omega
      rw [hj] at ej
      cases ej
      obtain rfl : j = xs.length := by omega
      exact keep4 _ _ hnc.1 hnc.2.1 (x2 _ _ e1)
  · have nd := a.nod
    unfold HB at nd ⊢
    rw [List.nodup_cons, List.nodup_append] at nd ⊢
    obtain ⟨d1, d2, d3, d4⟩ := nd
    have em : (xs ++ [e]).map Ent.blk = xs.map Ent.blk ++ [e.blk] := by simp
    have dis : ∀ x ∈ Sh', ∀ y, (y ∈ xs.map Ent.blk ∨ y = e.blk) → x ≠ y := fun x hx y hy => by
      rintro rfl
      obtain ⟨_, q2, o, eo⟩ := kb x hy
      exact fr3 x o q2 eo hx
    refine ⟨?_, ?_, ?_, ?_⟩
    · rw [em, List.mem_append, List.mem_append, not_or, not_or]
      exact ⟨hc', fun q => d1 (List.mem_append_right _ q), fun q => hnc.1 (List.mem_singleton.1 q).symm⟩
    · rcases o3 with ⟨_, _, _, rfl⟩ | ⟨b, cap, f, hb, _, _, _, rfl, _⟩
      · exact List.nodup_nil
      · simp
    · rw [em, List.nodup_append]
      refine ⟨d3, by simp, fun x hx y hy => ?_⟩
      rw [List.mem_singleton.1 hy]
      obtain ⟨z, hz, rfl⟩ := List.mem_map.1 hx
      exact hnc.2.2 z hz
    · rw [em]
      intro x hx y hy
      refine dis x hx y ?_
      rcases List.mem_append.1 hy with q | q
      · exact .inl q
      · exact .inr (List.mem_singleton.1 q)
theorem T_heapPush {e : Ent} (w : Own R h (e.blk :: HB c Sh xs)) (a : HQ h c a0 a1 a2 a4 xs vh Sh) (he : h e.blk = some (.row t_cache_item (entC e 0) 4 (some (0, 0)))) (hn : e.blk ∉ HB c Sh xs) (lx : xs.length ≤ 999999)
    (k : ∀ vh' Sh' h', Stp R h R h' (e.blk :: HB c Sh xs) (HB c Sh' (pushL Ent.used xs e)) → HQ h' c a0 a1 a2 a4 (pushL Ent.used xs e) vh' Sh' → K (.tuple #[]) h') : Cn P n_heap_Push #[HIf c, .iface t_Pt_cache_item (ptrE e)] h K := by
  refine F_heap_Push ?_
  unfold s_heap_Push
  refine M_push w a he hn (by omega) fun vh' Sh' h1 s1 a1' => ?_
  refine M_len a1' ?_
  have e1 : (((xs ++ [e]).length : Nat) : Int) - 1 = (xs.length : Int) := by simp
  have ll : (xs ++ [e]).length = xs.length + 1 := by simp
  simp (disch := omega) only [GL, RL, wi64, e1]
  exact T_up s1.own a1' xs.length (xs.length + 1) (by omega) (by omega) (by omega) fun h2 s2 a2 => k vh' Sh' h2 (s1.trans s2) a2
theorem M_pop {e : Ent} {ys : List Ent} (ey : xs = ys ++ [e]) (w : Own R h (HB c Sh xs)) (a : HQ h c a0 a1 a2 a4 xs vh Sh)
    (k : ∀ vh' h', Stp R h R h' (HB c Sh xs) (e.blk :: HB c Sh ys) → HQ h' c a0 a1 a2 a4 ys vh' Sh → h' e.blk = some (.row t_cache_item (entC e ys.length) 4 (some (0, 0))) → K (.iface t_Pt_cache_item (ptrE e)) h') (lx : xs.length ≤ 1000000) :
    aw P (callMethod (HIf c) "Pop" #[]) (nextP P K) h := by
  refine aw_method (g := n_cache_items_Pop) (r := .pointer (some ⟨c, 3, none⟩)) (m_pop c) ?_
  show Cn P n_cache_items_Pop #[.pointer (some ⟨c, 3, none⟩)] h K
  refine Cn_wk (F_cache_items_Pop ?_)
  unfold s_cache_items_Pop
  have lxy : xs.length = ys.length + 1 := by rw [ey]; simp
  obtain ⟨b, cap, f, hb, rfl, hc, hf, rfl⟩ := a.form (by omega)
  have c3 := a.cell
  have e1 : ((xs.length : Nat) : Int) - 1 = (ys.length : Int) := by omega
  have ee : xs[ys.length]? = some e := by rw [ey]; simp
  have c1 : h.cell ⟨b, ys.length, none⟩ = some (ptrE e) := by rw [cell_row hb, List.getElem?_map, ee]; rfl
  simp (disch := omega) only [GL, RL, c3, wi64, e1, c1]
  rw [q_slHi (hi := ys.length) u_cache_items z_Pt_cache_item _ _ cap .i64 (by omega)]
  have ecut : SL.cut (some ⟨b, 0, none⟩) cap 0 1 = some ⟨b, 0, none⟩ := by unfold SL.cut; rw [if_neg (by omega)]; rfl
  rw [ecut]
  refine aw_store z_cache_items rfl (put_row a.row (by simp) (by simp) _) ?_
  simp only [ptrE, mkE]
  obtain ⟨n1, n2, n3⟩ := nod_ne a.nod
  simp only [List.mem_singleton] at n1
  have me : e ∈ xs := List.mem_of_getElem? ee
  have be := n2 _ me
  simp only [List.mem_singleton] at be
  have emap : xs.map ptrE = ys.map ptrE ++ [ptrE e] := by rw [ey]; simp
  have bne : b ≠ c := Ne.symm n1
  refine ⟨(h.set b (.row t_Pt_cache_item (ys.map ptrE) (cap * 1) (some f))).set c (.row t_cache_Cache [a0, a1, a2, .slice (some ⟨b, 0, none⟩) ys.length cap, a4] 5 (some (0, 0))), le_set fun x o eo => ?_, k _ _ (stp_mk w (fun x o hx eo => ?_) (fun x o hx eo => ?_) fun x hx => ?_) ⟨Hp.set_same .., .inr ⟨b, cap, f, by rw [Hp.set_ne _ _ bne, Hp.set_same], rfl, by omega, hf, rfl, by simp⟩, fun j y ej => ?_, ?_⟩ ?_⟩
  · by_cases q : x = b
    · subst q
      rw [Hp.set_same] at eo
      cases eo
      exact ⟨_, hb, rfl, rfl, by rw [emap]; exact List.prefix_append _ _, .inl rfl⟩
    · rw [Hp.set_ne _ _ q] at eo
      exact ⟨o, eo, .refl _⟩
  · rw [mem_HB] at hx
    simp only [not_or, List.mem_singleton] at hx
    rw [Hp.set_ne _ _ hx.1, Hp.set_ne _ _ hx.2.1]; exact eo
  · rw [mem_HB] at hx
    simp only [not_or, List.mem_singleton, not_exists, not_and] at hx
    simp only [List.mem_cons, mem_HB, not_or, List.mem_singleton, not_exists, not_and]
    exact ⟨fun q => hx.2.2 e me q.symm, hx.1, ⟨hx.2.1, List.not_mem_nil⟩, fun y hy => hx.2.2 y (by rw [ey]; exact List.mem_append_left _ hy)⟩
  · have : x ∈ HB c [b] xs := by
      rw [mem_HB]
      simp only [List.mem_cons, mem_HB, List.not_mem_nil, or_false] at hx
      rcases hx with rfl | rfl | rfl | ⟨y, hy, rfl⟩
      · exact .inr (.inr ⟨e, me, rfl⟩)
      · exact .inl rfl
      · exact .inr (.inl (by simp))
      · exact .inr (.inr ⟨y, by rw [ey]; exact List.mem_append_left _ hy, rfl⟩)
    obtain ⟨o, eo⟩ := w.kn x this
    by_cases q1 : x = c
    · rw [q1]; exact ⟨_, Hp.set_same ..⟩
    · rw [Hp.set_ne _ _ q1]
      by_cases q2 : x = b
      · rw [q2]; exact ⟨_, Hp.set_same ..⟩
      · rw [Hp.set_ne _ _ q2]; exact ⟨o, eo⟩
  · have hy : y ∈ xs := by rw [ey]; exact List.mem_append_left _ (List.mem_of_getElem? ej)
    have by' := n2 _ hy
    simp only [List.mem_singleton] at by'
    rw [Hp.set_ne _ _ by'.1, Hp.set_ne _ _ by'.2]
    refine a.ent j y ?_
    rw [ey, List.getElem?_append_left (List.getElem?_eq_some_iff.1 ej).1]
    exact ej
  · have nd := a.nod
    unfold HB at nd ⊢
    rw [ey, List.map_append, ← List.append_assoc, ← List.cons_append, List.nodup_append] at nd
    exact nd.1
  · rw [Hp.set_ne _ _ be.1, Hp.set_ne _ _ be.2]
    exact a.ent _ _ ee
theorem T_heapRemove {e : Ent} (i : Nat) (ei : xs[i]? = some e) (w : Own R h (HB c Sh xs)) (a : HQ h c a0 a1 a2 a4 xs vh Sh) (lx : xs.length ≤ 1000000)
    (k : ∀ ys vh' h', outL Ent.used xs i = ys ++ [e] → Stp R h R h' (HB c Sh xs) (e.blk :: HB c Sh ys) → HQ h' c a0 a1 a2 a4 ys vh' Sh → h' e.blk = some (.row t_cache_item (entC e ys.length) 4 (some (0, 0))) → K (.iface t_Pt_cache_item (ptrE e)) h') :
    Cn P n_heap_Remove #[HIf c, .int .i64 (i : Int)] h K := by
  refine F_heap_Remove ?_
  unfold s_heap_Remove
  have hi : i < xs.length := (List.getElem?_eq_some_iff.1 ei).1
  refine M_len a ?_
  have e1 : ((xs.length : Nat) : Int) - 1 = ((xs.length - 1 : Nat) : Int) := by omega
  have en : (((xs.length - 1 : Nat) : Int) != (i : Int)) = decide (xs.length - 1 ≠ i) := ne_dec _ _
  have hl := outL_len Ent.used xs i
  have hlast := outL_last Ent.used hi
  rw [ei] at hlast
  have split : ∃ ys, outL Ent.used xs i = ys ++ [e] := by
    refine ⟨(outL Ent.used xs i).take (xs.length - 1), ?_⟩
    have h1 : (outL Ent.used xs i).take (xs.length - 1 + 1) = (outL Ent.used xs i).take (xs.length - 1) ++ [e] := by
      have hlt : xs.length - 1 < (outL Ent.used xs i).length := by omega
      rw [List.take_succ_eq_append_getElem hlt]
      congr 1
      have := List.getElem?_eq_getElem hlt
      rw [this] at hlast
      rw [Option.some.inj hlast]
    rw [← h1, List.take_of_length_le (by omega)]
  obtain ⟨ys, hys⟩ := split
  have fin : ∀ h1, Stp R h R h1 (HB c Sh xs) (HB c Sh (outL Ent.used xs i)) → HQ h1 c a0 a1 a2 a4 (outL Ent.used xs i) vh Sh → aw P (callMethod (HIf c) "Pop" #[]) (nextP P fun t25 h => K t25 h) h1 := fun h1 s1 a1' =>
    M_pop hys s1.own a1' (fun vh' h2 s2 a2 he => k ys vh' h2 hys (s1.trans s2) a2 he) (by omega)
  simp (disch := omega) only [GL, RL, wi64, e1, en]
  by_cases q : xs.length - 1 = i
  · have eo : outL Ent.used xs i = xs := by unfold outL; rw [if_pos q]
    simp only [q, ne_eq, not_true_eq_false, decide_false, Bool.false_eq_true, if_false]
    exact fin h (by rw [eo]; exact .refl w) (by rw [eo]; exact a)
  · have eo : outL Ent.used xs i = mendL Ent.used (swapL xs i (xs.length - 1)) i (xs.length - 1) := by unfold outL; rw [if_neg q]
    simp only [q, ne_eq, not_false_eq_true, decide_true, if_true]
    refine M_swap w a i (xs.length - 1) hi (by omega) (by omega) fun h1 s1 a1' => ?_
    rw [eo] at fin
    refine T_down s1.own a1' i (xs.length - 1) (by omega) (by rw [swapL_len]; omega) (by rw [swapL_len]; exact lx) fun h2 s2 a2 => ?_
    have hl2 := downL_len Ent.used (xs.length - 1) (swapL xs i (xs.length - 1)) i (xs.length - 1)
    rw [swapL_len] at hl2
    by_cases q1 : i < (downL Ent.used (xs.length - 1) (swapL xs i (xs.length - 1)) i (xs.length - 1)).2
    · simp only [q1, decide_true, GL, RL, Bool.not_true, Bool.false_eq_true, if_false]
      have e2 : mendL Ent.used (swapL xs i (xs.length - 1)) i (xs.length - 1) = (downL Ent.used (xs.length - 1) (swapL xs i (xs.length - 1)) i (xs.length - 1)).1 := by unfold mendL; rw [if_pos q1]
      rw [e2] at fin
      exact fin h2 (s1.trans s2) a2
    · simp only [q1, decide_false, GL, RL, Bool.not_false, if_true]
      have e2 : mendL Ent.used (swapL xs i (xs.length - 1)) i (xs.length - 1) = upL Ent.used (xs.length - 1) (downL Ent.used (xs.length - 1) (swapL xs i (xs.length - 1)) i (xs.length - 1)).1 i := by unfold mendL; rw [if_neg q1]
      rw [e2] at fin
      exact T_up s2.own a2 i (xs.length - 1) (by omega) (by omega) (by omega) fun h3 s3 a3 => fin h3 ((s1.trans s2).trans s3) a3
end
end Go.Proofs.Ytbglokdjlbknaaa
set_option linter.unusedSimpArgs false
set_option linter.unusedVariables false
namespace Go.SL
open Go
theorem ba_beq (a b : ByteArray) : (a == b) = decide (a = b) := by
  obtain ⟨a⟩ := a
  obtain ⟨b⟩ := b
  show (a == b) = _
  rw [Bool.eq_iff_iff, beq_iff_eq, decide_eq_true_eq]
  exact ⟨fun h => by rw [h], fun h => by injection h⟩
/-- What stands behind a key. -/
def mval (es : List MapEntry) (k : ByteArray) : Option Value := (mget es k).map (·.2)
def keyS (e : MapEntry) : ByteArray := match e.key with
  | .string s => s
  | _ => ByteArray.empty
theorem strKeys_cons {e : MapEntry} {es : List MapEntry} (h : strKeys (e :: es)) : e.key = .string (keyS e) ∧ strKeys es := by
  obtain ⟨s, hs⟩ := h e (by simp)
  exact ⟨by unfold keyS; rw [hs], fun x hx => h x (List.mem_cons_of_mem _ hx)⟩
theorem mget_cons {e : MapEntry} {es : List MapEntry} (h : strKeys (e :: es)) (k : ByteArray) : mget (e :: es) k = if k = keyS e then some (0, e.val) else (mget es k).map fun p => (p.1 + 1, p.2) := by
  obtain ⟨h1, _⟩ := strKeys_cons h
  have e1 : mget (e :: es) k = match e.key with
    | .string s => if (k == s) = true then some (0, e.val) else (mget es k).map fun p => (p.1 + 1, p.2)
    | _ => none := rfl
  rw [e1, h1]
  dsimp only
  rw [ba_beq]
  by_cases q : k = keyS e
  · rw [if_pos q, if_pos (by rw [decide_eq_true_eq]; exact q)]
  · rw [if_neg q, if_neg (by rw [decide_eq_true_eq]; exact q)]
theorem mget_none_of {es : List MapEntry} (h : strKeys es) (k : ByteArray) (n : k ∉ es.map keyS) : mget es k = none := by
  induction es with
  | nil => rfl
  | cons e es ih =>
    simp only [List.map_cons, List.mem_cons, not_or] at n
    rw [mget_cons h, if_neg n.1, ih (strKeys_cons h).2 n.2]
    rfl
/-- Keys that are unlike: one is taken out. -/
theorem mval_erase : ∀ {es : List MapEntry} (h : strKeys es) (nd : (es.map keyS).Nodup) {k : ByteArray} {i : Nat} {v : Value} (e : mget es k = some (i, v)) (n : ByteArray),
    mval (es.eraseIdx i) n = if n = k then none else mval es n
  | [], _, _, _, _, _, e, _ => by cases e
  | x :: es, h, nd, k, i, v, e, n => by
    obtain ⟨h1, h2⟩ := strKeys_cons h
    rw [List.map_cons, List.nodup_cons] at nd
    rw [mget_cons h] at e
    by_cases q : k = keyS x
    · rw [if_pos q] at e
      cases e
      rw [List.eraseIdx_cons_zero]
      unfold mval
      by_cases q2 : n = k
      · rw [if_pos q2, q2, q, mget_none_of h2 _ nd.1]
        rfl
      · rw [if_neg q2, mget_cons h, if_neg (by rw [← q]; exact q2), Option.map_map]
        rfl
    · rw [if_neg q] at e
      cases hg : mget es k with
      | none => rw [hg] at e; cases e
      | some p =>
        rw [hg] at e
        simp only [Option.map_some, Option.some.injEq, Prod.mk.injEq] at e
        obtain ⟨rfl, rfl⟩ := e
        have ih := mval_erase h2 nd.2 hg n
        have hs : strKeys (x :: es.eraseIdx p.1) := fun y hy => by
          rcases List.mem_cons.1 hy with rfl | hy
          · exact ⟨_, h1⟩
          · exact h2 y (List.mem_of_mem_eraseIdx hy)
        rw [List.eraseIdx_cons_succ]
        unfold mval at ih ⊢
        rw [mget_cons hs, mget_cons h]
        by_cases q2 : n = keyS x
        · rw [if_pos q2, if_pos q2, if_neg (by rw [q2]; exact Ne.symm q)]
        · rw [if_neg q2, if_neg q2, Option.map_map, Option.map_map]
          exact ih
theorem nodup_erase {es : List MapEntry} (nd : (es.map keyS).Nodup) (i : Nat) : ((es.eraseIdx i).map keyS).Nodup :=
  nd.sublist ((List.eraseIdx_sublist es i).map _)
theorem strKeys_erase {es : List MapEntry} (h : strKeys es) (i : Nat) : strKeys (es.eraseIdx i) := fun y hy => h y (List.mem_of_mem_eraseIdx hy)
theorem nodup_push {es : Array MapEntry} (h : strKeys es.toList) (nd : (es.toList.map keyS).Nodup) {k : ByteArray} (n : mget es.toList k = none) (v : Value) (c : Nat) : ((es.push ⟨.string k, v, c⟩).toList.map keyS).Nodup := by
  rw [Array.toList_push, List.map_append, List.nodup_append]
  refine ⟨nd, by simp, fun a ha b hb => ?_⟩
  simp only [List.map_cons, List.map_nil, List.mem_singleton] at hb
  have hb : b = k := hb
  intro ea
  rw [ea, hb] at ha
  have : ∀ {es : List MapEntry}, strKeys es → k ∈ es.map keyS → mget es k ≠ none := by
    intro es
    induction es with
    | nil => intro _ h; cases h
    | cons x es ih =>
      intro hs hm
      rw [mget_cons hs]
      by_cases q : k = keyS x
      · rw [if_pos q]; simp
      · rw [if_neg q]
        simp only [List.map_cons, List.mem_cons] at hm
        have := ih (strKeys_cons hs).2 (hm.resolve_left q)
        intro h0
        exact this (by simpa using h0)
  exact this h ha n
theorem mval_push {es : Array MapEntry} (hs : strKeys es.toList) {k : ByteArray} (n : mget es.toList k = none) (v : Value) (c : Nat) (x : ByteArray) : mval (es.push ⟨.string k, v, c⟩).toList x = if x = k then some v else mval es.toList x := by
  unfold mval
  rw [mget_push hs]
  by_cases q : x = k
  · subst q
    rw [n, if_pos (by rw [ba_beq, decide_eq_true_eq]), if_pos rfl]
    rfl
  · rw [if_neg (by rw [ba_beq, decide_eq_true_eq]; exact q), if_neg q]
    cases mget es.toList x <;> rfl
section
variable {P : Program} {h : Hp}
/-- A key is taken out. -/
theorem aw_delete {t kt e T T2 : TypeId} {r c i : Nat} {v : Value} {es : Array MapEntry} {K : Value → Hp → Prop} (ht : P.underlying t = some (.map kt e)) (hk : P.underlying kt = some .string) (hr : h r = some (.obj (.map es c))) (hs : strKeys es.toList) (k : ByteArray)
    (hf : mget es.toList k = some (i, v)) (kk : K (.tuple #[]) (h.set r (.obj (.map (es.eraseIdxIfInBounds i) c)))) : aw P (Builtin.delete_ #[t, T2] T #[.map (some r), .string k]) K h := by
  refine aw_of ?_
  show awp P (Sem.bind (underlying t) _) _ h
  rw [awp_bind, peek_awp P _ _ _ (pk_und ht)]
  show awp P (Sem.getObj r _) _ h
  simp only [awp, hr]
  show awp P (Sem.bind (Instr.checkKey es.isEmpty 10000 kt (.string k)) _) _ h
  rw [awp_bind, peek_awp P _ _ _ (pk_checkKey hk es.isEmpty k)]
  show awp P (Sem.bind (Instr.findKey kt (.string k) es.toList) _) _ h
  rw [awp_bind, peek_awp P _ _ _ (pk_findKey hk hs k), hf]
  show awp P (Sem.setObj r _ _) _ h
  simp only [awp, hr]
  exact ⟨rfl, kk⟩
theorem q_lookupV {t kt e : TypeId} {r c : Nat} {es : Array MapEntry} {z : Value} {K : Value → Prop} (ht : P.underlying t = some (.map kt e)) (hk : P.underlying kt = some .string) (hz : zr P e = some z) (hr : h r = some (.obj (.map es c))) (hs : strKeys es.toList) (k : ByteArray) :
    q P h (Instr.lookup t (.map (some r)) (.string k) true) K = K (.tuple #[(mval es.toList k).getD z, .bool (mval es.toList k).isSome]) := by
  rw [q_lookup ht hk hz hr hs k]
  unfold mval
  cases mget es.toList k <;> rfl
end
end Go.SL
set_option linter.unusedSimpArgs false
set_option linter.unusedVariables false
set_option maxRecDepth 100000
set_option maxHeartbeats 4000000
namespace Go.Proofs.Ytbglokdjlbknaaa
open Go Go.SL Go.Pure
def sumS (L : List Ent) : Nat := (L.map Ent.size).sum
/-- A cache: its heap, its names; L: its items, the oldest first. -/
structure CL (h : Hp) (c q now : Nat) (L xs : List Ent) (vh : Value) (Sh : List Nat) (r : Nat) (es : Array MapEntry) (clk : Nat) : Prop where
  hq : HQ h c (.int .i64 (q : Int)) (.int .i64 ((sumS L : Nat) : Int)) (.int .i64 (now : Int)) (.map (some r)) xs vh Sh
  mp : h r = some (.obj (.map es clk))
  sk : strKeys es.toList
  kn : (es.toList.map keyS).Nodup
  mo : ∀ n v, mval es.toList n = some v ↔ ∃ e ∈ xs, e.name = n ∧ ptrE e = v
  rn : r ∉ HB c Sh xs
  hp : HeapN Ent.used xs.length xs
  pm : xs.Perm L
  so : L.Pairwise fun a b => a.used < b.used
  nw : ∀ e ∈ L, e.used ≤ now
  le : sumS L ≤ q
  qb : q ≤ 9223372036854775807
  lb : L.length ≤ 900000
def CAt (h : Hp) (c q now : Nat) (L : List Ent) (S : List Nat) : Prop := ∃ xs vh Sh r es clk, CL h c q now L xs vh Sh r es clk ∧ S = r :: HB c Sh xs
theorem ptrE_inj {xs : List Ent} {c : Nat} {Sh : List Nat} (n : (HB c Sh xs).Nodup) {e f : Ent} (he : e ∈ xs) (hf : f ∈ xs) (h : ptrE e = ptrE f) : e = f := by
  obtain ⟨i, hi, rfl⟩ := List.getElem_of_mem he
  obtain ⟨j, hj, rfl⟩ := List.getElem_of_mem hf
  by_cases q : i = j
  · subst q; rfl
  · have := (nod_ne n).2.2 i j _ _ (List.getElem?_eq_getElem hi) (List.getElem?_eq_getElem hj) q
    simp only [ptrE, Value.pointer.injEq, Option.some.injEq, Addr.mk.injEq] at h
    exact absurd h.1 this
/-- Names are unlike. -/
theorem CL.names {h : Hp} {c q now : Nat} {L xs : List Ent} {vh : Value} {Sh : List Nat} {r : Nat} {es : Array MapEntry} {clk : Nat} (a : CL h c q now L xs vh Sh r es clk) {e f : Ent} (he : e ∈ xs) (hf : f ∈ xs) (hn : e.name = f.name) : e = f := by
  have h1 := (a.mo e.name (ptrE e)).2 ⟨e, he, rfl, rfl⟩
  have h2 := (a.mo e.name (ptrE f)).2 ⟨f, hf, hn.symm, rfl⟩
  rw [h1] at h2
  exact ptrE_inj a.hq.nod he hf (Option.some.inj h2)
theorem sumS_app (A B : List Ent) : sumS (A ++ B) = sumS A + sumS B := by simp [sumS]
theorem sumS_cons (e : Ent) (B : List Ent) : sumS (e :: B) = e.size + sumS B := by simp [sumS]
section
variable {h : Hp} {K : Value → Hp → Prop} {c q now : Nat} {R : Hp}
theorem T_remove {S : List Nat} {A B : List Ent} {e : Ent} {xs : List Ent} {vh : Value} {Sh : List Nat} {r : Nat} {es : Array MapEntry} {clk : Nat} (w : Own R h (r :: HB c Sh xs)) (a : CL h c q now (A ++ e :: B) xs vh Sh r es clk)
    (k : ∀ h' S', Stp R h R h' (r :: HB c Sh xs) S' → CAt h' c q now (A ++ B) S' → K (.tuple #[]) h') : Cn P n_cache_Cache_remove #[.pointer (some ⟨c, 0, none⟩), ptrE e] h K := by
  refine F_cache_Cache_remove ?_
  unfold s_cache_Cache_remove
  have eL : e ∈ xs := a.pm.mem_iff.2 (by simp)
  obtain ⟨i, hi, rfl⟩ := List.getElem_of_mem eL
  have ei := List.getElem?_eq_getElem hi
  generalize xs[i] = e at *
  have re := a.hq.ent i e ei
  have ce3 : h.cell ⟨e.blk, 3, none⟩ = some (.int .i64 (i : Int)) := by rw [cell_row re]; rfl
  simp (disch := omega) only [ptrE, GL, RL, cc3, mkI, ci2, ce3]
  have wH : Own R h (HB c Sh xs) := w.sub' fun x hx => List.mem_cons_of_mem _ hx
  have wr : Own R h [r] := w.sub' fun x hx => by rw [List.mem_singleton.1 hx]; simp
  have lxs : xs.length ≤ 900000 := by rw [a.pm.length_eq]; exact a.lb
  refine T_heapRemove i ei wH a.hq (by omega) fun ys vh' h1 hys s1 hq1 he1 => ?_
  obtain ⟨wr1, dr1, sr1⟩ := s1.frame wr fun x hx => by rw [List.mem_singleton.1 hx]; exact a.rn
  have mp1 : h1 r = some (.obj (.map es clk)) := by rw [sr1 r (by simp)]; exact a.mp
  have nre : r ≠ e.blk := fun q => dr1 r (by simp) (by rw [q]; simp)
  have nrH : r ∉ HB c Sh ys := fun q => dr1 r (by simp) (List.mem_cons_of_mem _ q)
  have nrc : r ≠ c := fun q => nrH (by rw [q]; simp [HB])
  have neH : e.blk ∉ HB c Sh ys := by
    have p : (HB c Sh (ys ++ [e])).Perm (HB c Sh xs) := List.Perm.cons _ (List.Perm.append_left _ ((hys ▸ outL_perm Ent.used xs i).map _))
    have n := p.nodup_iff.2 a.hq.nod
    unfold HB at n ⊢
    rw [List.map_append, ← List.append_assoc, ← List.cons_append, List.nodup_append] at n
    intro q
    exact n.2.2 _ q _ (by simp) rfl
  have c14 : h1.cell ⟨c, 4, none⟩ = some (.map (some r)) := by rw [cell_row hq1.row]; rfl
  have ce0 : h1.cell ⟨e.blk, 0, none⟩ = some (.string e.name) := by rw [cell_row he1]; rfl
  have pys : (ys ++ [e]).Perm xs := hys ▸ outL_perm Ent.used xs i
  have hv := (a.mo e.name (ptrE e)).2 ⟨e, eL, rfl, rfl⟩
  obtain ⟨j, hj⟩ : ∃ j, mget es.toList e.name = some (j, ptrE e) := by
    unfold mval at hv
    cases hm : mget es.toList e.name with
    | none => rw [hm] at hv; cases hv
    | some p => rw [hm] at hv; exact ⟨p.1, by rw [← Option.some.inj hv]⟩
  simp (disch := omega) only [GL, RL, cc4, c14, ci0, ai0, ce0]
  refine aw_delete (v := ptrE e) (i := j) u_map_string_Pt_cache_item u_string mp1 a.sk e.name hj ?_
  have ets : (es.eraseIdxIfInBounds j).toList = es.toList.eraseIdx j := by simp
  have cc1' : (h1.set r (.obj (.map (es.eraseIdxIfInBounds j) clk))).cell ⟨c, 1, none⟩ = some (.int .i64 ((sumS (A ++ e :: B) : Nat) : Int)) := by
    rw [cell_row (by rw [Hp.set_ne _ _ (Ne.symm nrc)]; exact hq1.row)]; rfl
  have ce1' : (h1.set r (.obj (.map (es.eraseIdxIfInBounds j) clk))).cell ⟨e.blk, 1, none⟩ = some (.int .i64 (e.size : Int)) := by
    rw [cell_row (by rw [Hp.set_ne _ _ (Ne.symm nre)]; exact he1)]; rfl
  have esum : sumS (A ++ e :: B) = sumS (A ++ B) + e.size := by rw [sumS_app, sumS_app, sumS_cons]; omega
  have eint : ((sumS (A ++ e :: B) : Nat) : Int) - (e.size : Int) = ((sumS (A ++ B) : Nat) : Int) := by rw [esum]; omega
  have hle := a.le
  have hqb := a.qb
  simp (disch := omega) only [GL, RL, cc1, cc1', ci0, ai1, ce1', eint, wi64]
  refine aw_store z_int rfl (put_row (b := c) (off := 1) (by rw [Hp.set_ne _ _ (Ne.symm nrc)]; exact hq1.row) (by simp) (by simp) _) ?_
  obtain ⟨h3, hh3⟩ : ∃ h3, (h1.set r (.obj (.map (es.eraseIdxIfInBounds j) clk))).set c (.row t_cache_Cache ([Value.int .i64 (q : Int), .int .i64 ((sumS (A ++ e :: B) : Nat) : Int), .int .i64 (now : Int), vh', .map (some r)].set 1 (.int .i64 ((sumS (A ++ B) : Nat) : Int))) 5 (some (0, 0))) = h3 := ⟨_, rfl⟩
  rw [hh3]
  have f3 : ∀ x, x ≠ c → x ≠ r → h3 x = h1 x := fun x hc hr => by rw [← hh3, Hp.set_ne _ _ hc, Hp.set_ne _ _ hr]
  have pm' : ys.Perm (A ++ B) := by
    have : (e :: ys).Perm (e :: (A ++ B)) := (List.perm_append_comm (l₁ := [e]) (l₂ := ys)).trans (pys.trans (a.pm.trans List.perm_middle))
    exact this.cons_inv
  have s1w := s1.wide wr fun x hx => by rw [List.mem_singleton.1 hx]; exact a.rn
  have nd := nod_ne hq1.nod
  have s3 : Stp R h1 R h3 ((e.blk :: HB c Sh ys) ++ [r]) (r :: HB c Sh ys) := by
    refine stp_mk s1w.own (fun x o hx eo => ?_) (fun x o hx eo => ?_) fun x hx => ?_
    · simp only [List.cons_append, List.mem_cons, List.mem_append, List.mem_singleton, not_or, mem_HB, List.not_mem_nil] at hx
      rw [f3 x hx.2.1.1 hx.2.2.1]; exact eo
    · simp only [List.cons_append, List.mem_cons, List.mem_append, List.mem_singleton, not_or, List.not_mem_nil] at hx ⊢
      exact ⟨hx.2.2.1, hx.2.1⟩
    · by_cases q1 : x = c
      · rw [q1, ← hh3]; exact ⟨_, Hp.set_same ..⟩
      · by_cases q2 : x = r
        · rw [q2, ← hh3, Hp.set_ne _ _ nrc]; exact ⟨_, Hp.set_same ..⟩
        · rw [f3 x q1 q2]
          exact s1w.own.kn x (List.mem_append_left _ (List.mem_cons_of_mem _ ((List.mem_cons.1 hx).resolve_left q2)))
  refine k h3 (r :: HB c Sh ys) (((s1w.perm (T := r :: HB c Sh xs) (T' := (e.blk :: HB c Sh ys) ++ [r]) (fun x => by simp [or_comm]) fun x => Iff.rfl)).trans s3) ⟨ys, vh', Sh, r, es.eraseIdxIfInBounds j, clk, ⟨⟨?_, ?_, fun j y ej => ?_, hq1.nod⟩, ?_, ?_, ?_, fun n v => ?_, nrH, ?_, pm', ?_, fun x hx => a.nw x ?_, by omega, hqb, ?_⟩, rfl⟩
  · rw [← hh3]; exact Hp.set_same ..
  · exact hq1.out.keep fun x hx => f3 x (by rintro rfl; exact nd.1 hx) (by rintro rfl; exact nrH (mem_HB.2 (.inr (.inl hx))))
  · have hy := List.mem_of_getElem? ej
    rw [f3 _ (nd.2.1 y hy).1 (by intro q; exact nrH (mem_HB.2 (.inr (.inr ⟨y, hy, q⟩))))]
    exact hq1.ent j y ej
  · rw [← hh3, Hp.set_ne _ _ nrc]; exact Hp.set_same ..
  · rw [ets]; exact strKeys_erase a.sk j
  · rw [ets]; exact nodup_erase a.kn j
  · rw [ets, mval_erase a.sk a.kn hj]
    by_cases qn : n = e.name
    · rw [if_pos qn]
      constructor
      · intro q; cases q
      · rintro ⟨y, hy, hyn, _⟩
        have hyx : y ∈ xs := pys.mem_iff.1 (List.mem_append_left _ hy)
        have := a.names hyx eL (hyn.trans qn)
        subst this
        exact absurd (mem_HB.2 (.inr (.inr ⟨_, hy, rfl⟩))) neH
    · rw [if_neg qn, a.mo]
      constructor
      · rintro ⟨y, hy, hyn, hyv⟩
        refine ⟨y, ?_, hyn, hyv⟩
        rcases List.mem_append.1 (pys.mem_iff.2 hy) with g | g
        · exact g
        · rw [List.mem_singleton.1 g] at hyn; exact absurd hyn.symm qn
      · rintro ⟨y, hy, hyn, hyv⟩
        exact ⟨y, pys.mem_iff.1 (List.mem_append_left _ hy), hyn, hyv⟩
  · have := outL_heap Ent.used hi a.hp
    rw [hys] at this
    have ly : ys.length = xs.length - 1 := by have := pys.length_eq; simp at this; omega
    rw [← ly] at this
    intro k k0 kn
    have t := this k k0 kn
    have ke : ∀ m, m < ys.length → keyL Ent.used (ys ++ [e]) m = keyL Ent.used ys m := fun m hm => by unfold keyL; rw [List.getElem?_append_left hm]
    rw [ke _ kn, ke _ (by omega)] at t
    exact t
  · have := a.so
    rw [List.pairwise_append] at this ⊢
    rw [List.pairwise_cons] at this
    exact ⟨this.1, this.2.1.2, fun x hx y hy => this.2.2 x hx y (List.mem_cons_of_mem _ hy)⟩
  · rcases List.mem_append.1 hx with g | g
    · exact List.mem_append_left _ g
    · exact List.mem_append_right _ (List.mem_cons_of_mem _ g)
  · have := a.lb
    simp only [List.length_append, List.length_cons] at this ⊢
    omega
/-- What is found by its name. -/
theorem CL.look {L xs : List Ent} {vh : Value} {Sh : List Nat} {r : Nat} {es : Array MapEntry} {clk : Nat} (a : CL h c q now L xs vh Sh r es clk) (n : ByteArray) :
    (mval es.toList n = none ∧ ∀ e ∈ L, e.name ≠ n) ∨ ∃ A e B, mval es.toList n = some (ptrE e) ∧ L = A ++ e :: B ∧ e.name = n ∧ ∀ x ∈ A ++ B, x.name ≠ n := by
  cases hm : mval es.toList n with
  | none =>
    refine .inl ⟨rfl, fun e he hn => ?_⟩
    have := (a.mo n (ptrE e)).2 ⟨e, a.pm.mem_iff.2 he, hn, rfl⟩
    rw [hm] at this; cases this
  | some v =>
    obtain ⟨e, he, hn, rfl⟩ := (a.mo n v).1 hm
    obtain ⟨A, B, rfl⟩ := List.append_of_mem (a.pm.mem_iff.1 he)
    refine .inr ⟨A, e, B, rfl, rfl, hn, fun x hx hxn => ?_⟩
    have hx' : x ∈ A ++ e :: B := by
      rcases List.mem_append.1 hx with g | g
      · exact List.mem_append_left _ g
      · exact List.mem_append_right _ (List.mem_cons_of_mem _ g)
    have := a.names (a.pm.mem_iff.2 hx') he (hxn.trans hn.symm)
    subst this
    have so := a.so
    rw [List.pairwise_append, List.pairwise_cons] at so
    rcases List.mem_append.1 hx with g | g
    · exact absurd (so.2.2 x g x (by simp)) (Nat.lt_irrefl _)
    · exact absurd (so.2.1.1 x g) (Nat.lt_irrefl _)
theorem T_Drop {S : List Nat} {L : List Ent} (n : ByteArray) (w : Own R h S) (a : CAt h c q now L S)
    (k0 : (∀ e ∈ L, e.name ≠ n) → K (.bool false) h)
    (k1 : ∀ A e B h' S', L = A ++ e :: B → e.name = n → (∀ x ∈ A ++ B, x.name ≠ n) → Stp R h R h' S S' → CAt h' c q now (A ++ B) S' → K (.bool true) h') : Cn P n_cache_Cache_Drop #[.pointer (some ⟨c, 0, none⟩), .string n] h K := by
  refine F_cache_Cache_Drop ?_
  unfold s_cache_Cache_Drop
  obtain ⟨xs, vh, Sh, r, es, clk, a, rfl⟩ := a
  have c4 : h.cell ⟨c, 4, none⟩ = some (.map (some r)) := by rw [cell_row a.hq.row]; rfl
  simp (disch := omega) only [GL, RL, cc4, c4]
  rw [q_lookupV u_map_string_Pt_cache_item u_string zr_Pt_cache_item a.mp a.sk n, ext0, ext1]
  rcases a.look n with ⟨hm, hn⟩ | ⟨A, e, B, hm, rfl, hn, hx⟩
  · rw [hm]
    simp only [Option.isSome_none, GL, Bool.false_eq_true, if_false]
    exact k0 hn
  · rw [hm]
    simp only [Option.isSome_some, Option.getD_some, GL, if_true]
    exact T_remove (S := []) w a fun h' S' s' a' => k1 A e B h' S' rfl hn hx s' a'
theorem T_Used {S : List Nat} {L : List Ent} (a : CAt h c q now L S) (k : K (.int .i64 ((sumS L : Nat) : Int)) h) : Cn P n_cache_Cache_Used #[.pointer (some ⟨c, 0, none⟩)] h K := by
  refine F_cache_Cache_Used ?_
  unfold s_cache_Cache_Used
  obtain ⟨xs, vh, Sh, r, es, clk, a, rfl⟩ := a
  have c1 : h.cell ⟨c, 1, none⟩ = some (.int .i64 ((sumS L : Nat) : Int)) := by rw [cell_row a.hq.row]; rfl
  simp (disch := omega) only [GL, RL, cc1, c1]
  exact k
end
end Go.Proofs.Ytbglokdjlbknaaa
set_option linter.unusedSimpArgs false
set_option linter.unusedVariables false
set_option maxRecDepth 100000
set_option maxHeartbeats 4000000
namespace Go.Proofs.Ytbglokdjlbknaaa
open Go Go.SL Go.Pure
theorem set_perm {α : Type} {xs : List α} {i : Nat} {e e' : α} {Z : List α} (h : xs[i]? = some e) (p : xs.Perm (e :: Z)) : (xs.set i e').Perm (e' :: Z) := by
  obtain ⟨hi, he⟩ := List.getElem?_eq_some_iff.1 h
  have e1 : xs = xs.take i ++ e :: xs.drop (i + 1) := by rw [← he, ← List.drop_eq_getElem_cons hi, List.take_append_drop]
  have e2 : xs.set i e' = xs.take i ++ e' :: xs.drop (i + 1) := by rw [List.set_eq_take_append_cons_drop, if_pos hi]
  rw [e1] at p
  have p1 : (xs.take i ++ xs.drop (i + 1)).Perm Z := (List.perm_middle.symm.trans p).cons_inv
  rw [e2]
  exact List.perm_middle.trans (p1.cons e')
/-- Used last. -/
def useE (e : Ent) (n : Nat) : Ent := { e with used := n }
/-- So many go that what is left has room. -/
def popE (lim : Nat) : List Ent → List Ent × List Ent
  | [] => ([], [])
  | e :: L => if sumS (e :: L) ≤ lim then ([], e :: L) else (e :: (popE lim L).1, (popE lim L).2)
theorem popE_stop {lim : Nat} {L : List Ent} (h : sumS L ≤ lim) : popE lim L = ([], L) := by
  cases L with
  | nil => rfl
  | cons e L => simp only [popE]; rw [if_pos h]
theorem flt_all {L : List Ent} {n : ByteArray} (h : ∀ e ∈ L, e.name ≠ n) : L.filter (fun e => e.name ≠ n) = L := by
  rw [List.filter_eq_self]
  intro e he
  simpa using h e he
theorem flt_mid {A B : List Ent} {e : Ent} {n : ByteArray} (hn : e.name = n) (h : ∀ x ∈ A ++ B, x.name ≠ n) : (A ++ e :: B).filter (fun e => e.name ≠ n) = A ++ B := by
  rw [List.filter_append, List.filter_cons, if_neg (by simp [hn]), flt_all fun x hx => h x (List.mem_append_left _ hx), flt_all fun x hx => h x (List.mem_append_right _ hx)]
section
variable {h : Hp} {K : Value → Hp → Prop} {c q now : Nat} {R : Hp}
theorem T_Touch {S : List Nat} {L : List Ent} (n : ByteArray) (hnow : now ≤ 1000000) (w : Own R h S) (a : CAt h c q now L S)
    (k0 : (∀ e ∈ L, e.name ≠ n) → K (.bool false) h)
    (k1 : ∀ A e B h' S', L = A ++ e :: B → e.name = n → (∀ x ∈ A ++ B, x.name ≠ n) → Stp R h R h' S S' → CAt h' c q (now + 1) ((A ++ B) ++ [useE e (now + 1)]) S' → K (.bool true) h') : Cn P n_cache_Cache_Touch #[.pointer (some ⟨c, 0, none⟩), .string n] h K := by
  refine F_cache_Cache_Touch ?_
  unfold s_cache_Cache_Touch
  obtain ⟨xs, vh, Sh, r, es, clk, a, rfl⟩ := a
  have c4 : h.cell ⟨c, 4, none⟩ = some (.map (some r)) := by rw [cell_row a.hq.row]; rfl
  have c2 : h.cell ⟨c, 2, none⟩ = some (.int .i64 (now : Int)) := by rw [cell_row a.hq.row]; rfl
  simp (disch := omega) only [GL, RL, cc4, c4]
  rw [q_lookupV u_map_string_Pt_cache_item u_string zr_Pt_cache_item a.mp a.sk n, ext0, ext1]
  rcases a.look n with ⟨hm, hn⟩ | ⟨A, e, B, hm, rfl, hn, hx⟩
  · rw [hm]
    simp only [Option.isSome_none, GL, Bool.false_eq_true, if_false]
    exact k0 hn
  rw [hm]
  have en : (now : Int) + 1 = ((now + 1 : Nat) : Int) := by omega
  have eL : e ∈ xs := a.pm.mem_iff.2 (by simp)
  obtain ⟨i, hi, hie⟩ := List.getElem_of_mem eL
  have ei : xs[i]? = some e := by rw [List.getElem?_eq_getElem hi, hie]
  have re := a.hq.ent i e ei
  have nd := nod_ne a.hq.nod
  have be := nd.2.1 e eL
  have lxs : xs.length ≤ 900000 := by rw [a.pm.length_eq]; exact a.lb
  simp (disch := omega) only [Option.isSome_some, Option.getD_some, GL, RL, if_true, cc2, c2, wi64, en]
  refine aw_store z_int rfl (put_row (b := c) (off := 2) a.hq.row (by simp) (by simp) _) ?_
  have e2 : ([Value.int .i64 (q : Int), .int .i64 ((sumS (A ++ e :: B) : Nat) : Int), .int .i64 (now : Int), vh, .map (some r)] : List Value).set 2 (.int .i64 ((now + 1 : Nat) : Int)) = [.int .i64 (q : Int), .int .i64 ((sumS (A ++ e :: B) : Nat) : Int), .int .i64 ((now + 1 : Nat) : Int), vh, .map (some r)] := rfl
  rw [e2]
  have c2' : (h.set c (.row t_cache_Cache [.int .i64 (q : Int), .int .i64 ((sumS (A ++ e :: B) : Nat) : Int), .int .i64 ((now + 1 : Nat) : Int), vh, .map (some r)] 5 (some (0, 0)))).cell ⟨c, 2, none⟩ = some (.int .i64 ((now + 1 : Nat) : Int)) := by rw [cell_row (Hp.set_same ..)]; rfl
  simp (disch := omega) only [GL, RL, cc2, c2', ptrE, ci1]
  refine aw_store z_int rfl (put_row (b := e.blk) (off := 2) (by rw [Hp.set_ne _ _ be.1]; exact re) (by simp [entC]) (by simp) _) ?_
  have s2 : (entC e i).set 2 (.int .i64 ((now + 1 : Nat) : Int)) = entC (useE e (now + 1)) i := rfl
  rw [s2]
  obtain ⟨h2, hh2⟩ : ∃ h2, (h.set c (.row t_cache_Cache [.int .i64 (q : Int), .int .i64 ((sumS (A ++ e :: B) : Nat) : Int), .int .i64 ((now + 1 : Nat) : Int), vh, .map (some r)] 5 (some (0, 0)))).set e.blk (.row t_cache_item (entC (useE e (now + 1)) i) 4 (some (0, 0))) = h2 := ⟨_, rfl⟩
  rw [hh2]
  have f2 : ∀ x, x ≠ c → x ≠ e.blk → h2 x = h x := fun x h1 h3 => by rw [← hh2, Hp.set_ne _ _ h3, Hp.set_ne _ _ h1]
  have g1 : h2 e.blk = some (.row t_cache_item (entC (useE e (now + 1)) i) 4 (some (0, 0))) := by rw [← hh2]; exact Hp.set_same ..
  have g2 : h2 c = some (.row t_cache_Cache [.int .i64 (q : Int), .int .i64 ((sumS (A ++ e :: B) : Nat) : Int), .int .i64 ((now + 1 : Nat) : Int), vh, .map (some r)] 5 (some (0, 0))) := by rw [← hh2, Hp.set_ne _ _ (Ne.symm be.1)]; exact Hp.set_same ..
  have mset : ∀ {β : Type} (f : Ent → β), f (useE e (now + 1)) = f e → (xs.set i (useE e (now + 1))).map f = xs.map f := fun {β} f hf => by
    rw [List.map_set, hf]
    apply List.ext_getElem?
    intro j
    rw [List.getElem?_set]
    split
    · rename_i hj
      subst hj
      rw [List.getElem?_map, ei, if_pos (by rw [List.length_map]; exact hi)]
      rfl
    · rfl
  have hbs : HB c Sh (xs.set i (useE e (now + 1))) = HB c Sh xs := by unfold HB; rw [mset Ent.blk rfl]
  have st : Stp R h R h2 (r :: HB c Sh xs) (r :: HB c Sh xs) := by
    refine stp_in w (fun x hx => f2 x (by rintro rfl; exact hx (by simp [HB])) (by rintro rfl; exact hx (List.mem_cons_of_mem _ (mem_HB.2 (.inr (.inr ⟨e, eL, rfl⟩)))))) fun x hx => ?_
    by_cases q1 : x = c
    · rw [q1]; exact ⟨_, g2⟩
    · by_cases q2 : x = e.blk
      · rw [q2]; exact ⟨_, g1⟩
      · rw [f2 x q1 q2]; exact w.kn x hx
  have hq2 : HQ h2 c (.int .i64 (q : Int)) (.int .i64 ((sumS (A ++ e :: B) : Nat) : Int)) (.int .i64 ((now + 1 : Nat) : Int)) (.map (some r)) (xs.set i (useE e (now + 1))) vh Sh := by
    refine ⟨g2, ?_, fun j y ej => ?_, by rw [hbs]; exact a.hq.nod⟩
    · rw [mset ptrE rfl, List.length_set]
      exact a.hq.out.keep fun x hx => f2 x (by rintro rfl; exact nd.1 hx) (by rintro rfl; exact be.2 hx)
    · rw [List.getElem?_set] at ej
      by_cases qj : i = j
      · subst qj
        rw [if_pos rfl, if_pos hi] at ej
        cases ej
        exact g1
      · rw [if_neg qj] at ej
        have my := List.mem_of_getElem? ej
        rw [f2 _ (nd.2.1 y my).1 (nd.2.2 j i y e ej ei (Ne.symm qj))]
        exact a.hq.ent j y ej
  have c3' : h2.cell ⟨e.blk, 3, none⟩ = some (.int .i64 (i : Int)) := by rw [cell_row g1]; rfl
  simp (disch := omega) only [GL, RL, cc3, mkI, ci2, c3']
  have wH : Own R h2 (HB c Sh (xs.set i (useE e (now + 1)))) := by rw [hbs]; exact st.own.sub' fun x hx => List.mem_cons_of_mem _ hx
  have wr : Own R h2 [r] := st.own.sub' fun x hx => by rw [List.mem_singleton.1 hx]; simp
  refine T_Fix wH hq2 i (by rw [List.length_set]; exact hi) (by rw [List.length_set]; omega) fun h3 s3 hq3 => ?_
  obtain ⟨wr3, dr3, sr3⟩ := s3.frame wr fun x hx => by rw [List.mem_singleton.1 hx, hbs]; exact a.rn
  have s3w := s3.wide wr fun x hx => by rw [List.mem_singleton.1 hx, hbs]; exact a.rn
  have pmm := mendL_perm Ent.used (xs.set i (useE e (now + 1))) i (xs.set i (useE e (now + 1))).length
  have lmm := mendL_len Ent.used (xs.set i (useE e (now + 1))) i (xs.set i (useE e (now + 1))).length
  have hheap : HeapN Ent.used xs.length (mendL Ent.used (xs.set i (useE e (now + 1))) i (xs.set i (useE e (now + 1))).length) := by
    have h0 := heap_set Ent.used (n := xs.length) (i := i) (x := useE e (now + 1)) a.hp
    have h1 := mendL_heap Ent.used h0 hi (by rw [List.length_set]; exact Nat.le_refl _)
    have el : (xs.set i (useE e (now + 1))).length = xs.length := List.length_set ..
    rw [el]
    exact h1
  generalize mendL Ent.used (xs.set i (useE e (now + 1))) i (xs.set i (useE e (now + 1))).length = ys at s3 hq3 s3w pmm lmm hheap dr3 sr3
  rw [List.length_set] at lmm
  have nwr : r ≠ c := fun q => a.rn (by rw [q]; simp [HB])
  have nre : r ≠ e.blk := fun q => a.rn (by rw [q]; exact mem_HB.2 (.inr (.inr ⟨e, eL, rfl⟩)))
  have pz : ys.Perm ((A ++ B) ++ [useE e (now + 1)]) := pmm.trans ((set_perm ei (a.pm.trans List.perm_middle)).trans (List.perm_append_comm (l₁ := [useE e (now + 1)]) (l₂ := A ++ B)))
  have memz : ∀ x, x ∈ ys ↔ x ∈ A ++ B ∨ x = useE e (now + 1) := fun x => by rw [pz.mem_iff, List.mem_append, List.mem_singleton]
  have memx : ∀ x, x ∈ xs ↔ x ∈ A ++ B ∨ x = e := fun x => by
    rw [a.pm.mem_iff, List.mem_append, List.mem_cons, List.mem_append]
    constructor
    · rintro (g | g | g); exact .inl (.inl g); exact .inr g; exact .inl (.inr g)
    · rintro ((g | g) | g); exact .inl g; exact .inr (.inr g); exact .inr (.inl g)
  have esum : sumS ((A ++ B) ++ [useE e (now + 1)]) = sumS (A ++ e :: B) := by
    have h1 := sumS_app (A ++ B) [useE e (now + 1)]
    have h2 := sumS_app A B
    have h3 := sumS_app A (e :: B)
    have h4 := sumS_cons e B
    have h5 : sumS [useE e (now + 1)] = e.size := by simp [sumS, useE]
    omega
  refine k1 A e B h3 (r :: HB c Sh ys) rfl hn hx (st.trans (s3w.perm (T := r :: HB c Sh xs) (T' := r :: HB c Sh ys) (fun x => by rw [hbs]; simp [or_comm]) fun x => by simp [or_comm])) ⟨ys, vh, Sh, r, es, clk, ⟨by rw [esum]; exact hq3, ?_, a.sk, a.kn, fun m v => ?_, fun qq => dr3 r (by simp) qq, by rw [lmm]; exact hheap, pz, ?_, fun x hx' => ?_, by rw [esum]; exact a.le, a.qb, ?_⟩, rfl⟩
  · rw [sr3 r (by simp), f2 r nwr nre]; exact a.mp
  · rw [a.mo]
    constructor
    · rintro ⟨y, hy, hyn, hyv⟩
      rcases (memx y).1 hy with g | g
      · exact ⟨y, (memz y).2 (.inl g), hyn, hyv⟩
      · subst g; exact ⟨_, (memz _).2 (.inr rfl), hyn, hyv⟩
    · rintro ⟨y, hy, hyn, hyv⟩
      rcases (memz y).1 hy with g | g
      · exact ⟨y, (memx y).2 (.inl g), hyn, hyv⟩
      · subst g; exact ⟨e, (memx _).2 (.inr rfl), hyn, hyv⟩
  · have so := a.so
    rw [List.pairwise_append, List.pairwise_cons] at so
    rw [List.pairwise_append]
    refine ⟨?_, List.pairwise_singleton _ _, fun x hx' y hy => ?_⟩
    · rw [List.pairwise_append]
      exact ⟨so.1, so.2.1.2, fun x hx y hy => so.2.2 x hx y (List.mem_cons_of_mem _ hy)⟩
    · rw [List.mem_singleton.1 hy]
      have := a.nw x (by
        rcases List.mem_append.1 hx' with g | g
        · exact List.mem_append_left _ g
        · exact List.mem_append_right _ (List.mem_cons_of_mem _ g))
      show x.used < now + 1
      omega
  · rcases List.mem_append.1 hx' with g | g
    · have := a.nw x (by
        rcases List.mem_append.1 g with g | g
        · exact List.mem_append_left _ g
        · exact List.mem_append_right _ (List.mem_cons_of_mem _ g))
      omega
    · rw [List.mem_singleton.1 g]; exact Nat.le_refl _
  · have := a.lb
    simp only [List.length_append, List.length_cons, List.length_nil] at this ⊢
    omega
/-- The oldest stands first. -/
theorem CL.first {xs : List Ent} {vh : Value} {Sh : List Nat} {r : Nat} {es : Array MapEntry} {clk : Nat} {e : Ent} {B : List Ent} (a : CL h c q now (e :: B) xs vh Sh r es clk) : xs[0]? = some e := by
  have hl := a.pm.length_eq
  simp only [List.length_cons] at hl
  have h0 : 0 < xs.length := by omega
  rw [List.getElem?_eq_getElem h0]
  have m0 : xs[0] ∈ e :: B := a.pm.mem_iff.1 (List.getElem_mem h0)
  rcases List.mem_cons.1 m0 with g | g
  · rw [g]
  · have so := a.so
    rw [List.pairwise_cons] at so
    have h1 := so.1 _ g
    have me : e ∈ xs := a.pm.mem_iff.2 (by simp)
    obtain ⟨j, hj, hje⟩ := List.getElem_of_mem me
    have h2 := heap_min Ent.used a.hp j hj
    unfold keyL at h2
    rw [List.getElem?_eq_getElem h0, List.getElem?_eq_getElem hj, hje] at h2
    dsimp only at h2
    omega
end
end Go.Proofs.Ytbglokdjlbknaaa
set_option linter.unusedSimpArgs false
set_option linter.unusedVariables false
set_option maxRecDepth 100000
set_option maxHeartbeats 4000000
namespace Go.Proofs.Ytbglokdjlbknaaa
open Go Go.SL Go.Pure
theorem bldItem {h : Hp} {K : Value → Prop} (n : ByteArray) (s : Int) : q P h (Instr.build t_api_Item #[(0, .string n), (1, .int .i64 s)]) K = K (.agg #[.string n, .int .i64 s]) := q_of (by kernel_rfl) K
theorem bldEnt {h : Hp} {K : Value → Prop} (n : ByteArray) (s u : Int) : q P h (Instr.build t_cache_item #[(0, .agg #[.string n, .int .i64 s]), (1, .int .i64 u)]) K = K (.agg #[.string n, .int .i64 s, .int .i64 u, .int .i64 0]) := q_of (by kernel_rfl) K
theorem bldCache {h : Hp} {K : Value → Prop} (qq : Int) (r : Nat) : q P h (Instr.build t_cache_Cache #[(0, .int .i64 qq), (4, .map (some r))]) K = K (.agg #[.int .i64 qq, .int .i64 0, .int .i64 0, .slice none 0 0, .map (some r)]) := q_of (by kernel_rfl) K
section
variable {h : Hp} {K : Value → Hp → Prop} {c qt now : Nat} {R : Hp}
theorem T_newCache (quota : Int) (hq : quota ≤ 9223372036854775807) {S : List Nat} (w : Own R h S) (k : ∀ c h' S', Stp R h R h' S S → Own R h' S' → (∀ x, x ∈ S' → x ∉ S) → CAt h' c quota.toNat 0 [] S' → K (.pointer (some ⟨c, 0, none⟩)) h') : Cn P n_cache_New #[.int .i64 quota] h K := by
  refine F_cache_New ?_
  unfold s_cache_New
  have em : ∀ {h : Hp} {K : Value → Prop}, q P h (Builtin.max_ #[t_int, t_int] t_int #[.int .i64 quota, .int .i64 0]) K = K (.int .i64 ((quota.toNat : Nat) : Int)) := fun {h K} => by
    have e1 : q P h (Builtin.max_ #[t_int, t_int] t_int #[.int .i64 quota, .int .i64 0]) K = K (.int .i64 (max quota 0)) := q_of (by
      simp [Builtin.max_, Builtin.max2, pk_pure]
      omega) K
    rw [e1]
    congr 2
    omega
  rw [em]
  refine aw_makeMap fun r hr => ?_
  rw [bldCache]
  refine aw_box fun c hc => ?_
  have ncr : c ≠ r := by rintro rfl; rw [Hp.set_same] at hc; cases hc
  have hc0 : h c = none := by rwa [Hp.set_ne _ _ ncr] at hc
  obtain ⟨h2, hh2⟩ : ∃ h2, (h.set r (.obj (.map #[] 0))).set c (.row t_cache_Cache (Value.agg #[.int .i64 ((quota.toNat : Nat) : Int), .int .i64 0, .int .i64 0, .slice none 0 0, .map (some r)]).cells.toList (Value.agg #[.int .i64 ((quota.toNat : Nat) : Int), .int .i64 0, .int .i64 0, .slice none 0 0, .map (some r)]).cells.size (some (0, 0))) = h2 := ⟨_, rfl⟩
  rw [hh2]
  have x2 : Hp.ext h h2 := by rw [← hh2]; exact (ext_set _ hr).trans (ext_set _ hc)
  have g2 : h2 c = some (.row t_cache_Cache [.int .i64 ((quota.toNat : Nat) : Int), .int .i64 0, .int .i64 0, .slice none 0 0, .map (some r)] 5 (some (0, 0))) := by rw [← hh2]; exact Hp.set_same ..
  have gr : h2 r = some (.obj (.map #[] 0)) := by rw [← hh2, Hp.set_ne _ _ (Ne.symm ncr)]; exact Hp.set_same ..
  refine k c h2 (r :: HB c [] []) (Stp.ext0 w x2) ⟨w.sub.trans x2, fun x hx => ?_, fun x hx => ?_⟩ (fun x hx hxS => ?_) ⟨[], .slice none 0 0, [], r, #[], 0, ⟨⟨g2, .inl ⟨rfl, rfl, rfl, rfl⟩, fun i e ei => (by simp at ei), by simp [HB]⟩, gr, fun e he => (by cases he), by simp, fun n v => ?_, ?_, fun k k0 kn => (by cases kn), List.Perm.refl _, List.Pairwise.nil, by simp, Nat.zero_le _, by omega, by simp⟩, rfl⟩
  · simp only [HB, List.map_nil, List.append_nil, List.mem_cons, List.not_mem_nil, or_false] at hx
    rcases hx with rfl | rfl
    · exact w.sub.none hr
    · exact w.sub.none hc0
  · simp only [HB, List.map_nil, List.append_nil, List.mem_cons, List.not_mem_nil, or_false] at hx
    rcases hx with rfl | rfl
    · exact ⟨_, gr⟩
    · exact ⟨_, g2⟩
  · obtain ⟨o, e⟩ := w.kn x hxS
    simp only [HB, List.map_nil, List.append_nil, List.mem_cons, List.not_mem_nil, or_false] at hx
    rcases hx with rfl | rfl
    · rw [hr] at e; cases e
    · rw [hc0] at e; cases e
  · constructor
    · intro e; simp [mval, mget] at e
    · rintro ⟨e, he, _⟩; cases he
  · simp only [HB, List.map_nil, List.append_nil, List.mem_singleton]
    exact Ne.symm ncr
theorem T_DropF {S : List Nat} {L : List Ent} (n : ByteArray) (w : Own R h S) (a : CAt h c qt now L S)
    (k : ∀ b h' S', Stp R h R h' S S' → CAt h' c qt now (L.filter fun e => e.name ≠ n) S' → K (.bool b) h') : Cn P n_cache_Cache_Drop #[.pointer (some ⟨c, 0, none⟩), .string n] h K :=
  T_Drop n w a (fun hn => k false h S (.refl w) (by rw [flt_all hn]; exact a)) fun A e B h' S' hL hn hx s' a' => k true h' S' s' (by rw [hL, flt_mid hn hx]; exact a')
theorem T_Put {S : List Nat} {L : List Ent} (n : ByteArray) (size : Int) (hs : size ≤ 9223372036854775807) (hnow : now ≤ 1000000) (lL : L.length ≤ 800000) (w : Own R h S) (a : CAt h c qt now L S)
    (k1 : size < 0 → K (.tuple #[.slice none 0 0, .int .i64 1]) h)
    (k3 : (qt : Int) < size → K (.tuple #[.slice none 0 0, .int .i64 3]) h)
    (k0 : 0 ≤ size → size ≤ qt → ∀ v e R' h' S', e.name = n → e.size = size.toNat → e.used = now + 1 → Stp R h R' h' S S' →
      CAt h' c qt (now + 1) ((popE (qt - size.toNat) (L.filter fun e => e.name ≠ n)).2 ++ [e]) S' →
      Rds R' 1 v ((popE (qt - size.toNat) (L.filter fun e => e.name ≠ n)).1.map fun e => .string e.name) (popE (qt - size.toNat) (L.filter fun e => e.name ≠ n)).1.length → K (.tuple #[v, .int .i64 0]) h') :
    Cn P n_cache_Cache_Put #[.pointer (some ⟨c, 0, none⟩), .string n, .int .i64 size] h K := by
  refine F_cache_Cache_Put ?_
  unfold s_cache_Cache_Put
  have cq : ∀ {H : Hp} {L : List Ent} {S : List Nat}, CAt H c qt now L S → H.cell ⟨c, 0, none⟩ = some (.int .i64 (qt : Int)) ∧ H.cell ⟨c, 1, none⟩ = some (.int .i64 ((sumS L : Nat) : Int)) ∧ H.cell ⟨c, 2, none⟩ = some (.int .i64 (now : Int)) := fun a => by
    obtain ⟨xs, vh, Sh, r, es, clk, a, rfl⟩ := a
    exact ⟨by rw [cell_row a.hq.row]; rfl, by rw [cell_row a.hq.row]; rfl, by rw [cell_row a.hq.row]; rfl⟩
  have qb : qt ≤ 9223372036854775807 := by obtain ⟨xs, vh, Sh, r, es, clk, a, rfl⟩ := a; exact a.qb
  simp (disch := omega) only [GL, RL]
  by_cases h1 : size < 0
  · rw [if_pos (by simpa using h1)]
    exact k1 h1
  rw [if_neg (by simpa using h1)]
  simp (disch := omega) only [GL, RL, cc0, (cq a).1]
  by_cases h3 : (qt : Int) < size
  · rw [if_pos (by simpa using h3)]
    exact k3 h3
  rw [if_neg (by simpa using h3)]
  have k0 := k0 (by omega) (by omega)
  obtain ⟨s, rfl⟩ : ∃ s : Nat, size = (s : Int) := ⟨size.toNat, by omega⟩
  rw [Int.toNat_natCast] at k0
  have hsq : s ≤ qt := by omega
  refine T_DropF n w a fun b h1 S1 s1 a1 => ?_
  have hL1 : ∀ e ∈ L.filter (fun e => e.name ≠ n), e.name ≠ n := fun e he => by simpa using (List.mem_filter.1 he).2
  have lL1 : (L.filter fun e => e.name ≠ n).length ≤ 800000 := Nat.le_trans (List.length_filter_le _ _) lL
  generalize (L.filter fun e => e.name ≠ n) = L1 at a1 k0 hL1 lL1
  refine Lp_mk (fun m vs h' => ∃ (g L2 : List Ent) (S2 So : List Nat) (vo : Value), m = L2.length ∧ g ++ L2 = L1 ∧ (popE (qt - s) L1).1 = g ++ (popE (qt - s) L2).1 ∧ (popE (qt - s) L1).2 = (popE (qt - s) L2).2 ∧ Stp R h1 R h' S1 (S2 ++ So) ∧ CAt h' c qt now L2 S2 ∧ OutAt t_string 1 h' vo (g.map fun e => .string e.name) g.length So ∧ (∀ x, x ∈ So → x ∉ S2) ∧ vs = [vo]) L1.length
    ⟨[], L1, S1, [], .slice none 0 0, rfl, rfl, rfl, rfl, by simpa using Stp.refl s1.own, a1, .inl ⟨rfl, rfl, rfl, rfl⟩, by simp, rfl⟩ ?_
  rintro m vs h2 ⟨g, L2, S2, So, vo, rfl, hg, hp1, hp2, s2, a2, hO, hdj, rfl⟩
  obtain ⟨d0, d1, d2⟩ := cq a2
  have eqs : (qt : Int) - (s : Int) = ((qt - s : Nat) : Int) := by omega
  have esq : sumS L2 ≤ qt := by obtain ⟨xs, vh, Sh, r, es, clk, a, rfl⟩ := a2; exact a.le
  have elt : decide (((qt - s : Nat) : Int) < ((sumS L2 : Nat) : Int)) = decide (qt - s < sumS L2) := lt_dec _ _
  have oS2 : Own R h2 S2 := s2.own.sub' fun x hx => List.mem_append_left _ hx
  have oSo : Own R h2 So := s2.own.sub' fun x hx => List.mem_append_right _ hx
  simp (disch := omega) only [GL, RL, cc0, cc1, cc2, cc3, d0, d1, d2, eqs, wi64, elt]
  by_cases hgt : qt - s < sumS L2
  · -- one goes
    simp only [hgt, decide_true, if_true]
    obtain ⟨e, B, rfl⟩ : ∃ e B, L2 = e :: B := by
      cases L2 with
      | nil => simp [sumS] at hgt
      | cons e B => exact ⟨e, B, rfl⟩
    obtain ⟨xs, vh, Sh, r, es, clk, a2, rfl⟩ := a2
    have e0 := a2.first
    have hx0 : 0 < xs.length := (List.getElem?_eq_some_iff.1 e0).1
    obtain ⟨b, cap, f, hb, rfl, hc, hf, rfl⟩ := a2.hq.form hx0
    have c3 := a2.hq.cell
    have cb : h2.cell ⟨b, 0, none⟩ = some (ptrE e) := by rw [cell_row hb, List.getElem?_map, e0]; rfl
    have cn : h2.cell ⟨e.blk, 0, none⟩ = some (.string e.name) := by rw [cell_row (a2.hq.ent 0 e e0)]; rfl
    simp (disch := omega) only [GL, RL, c3, Int.toNat_zero, cb, ptrE, ci0, ai0, cn]
    refine aw_lit (ps := [(0, .string e.name)]) (n := 1) u_Sl_string z_string zr_string rfl (by omega) (by intro p hp; rw [List.mem_singleton.1 hp]; exact ⟨rfl, by show _ < 1; omega⟩) fun v47 h3 n3 _ => ?_
    have n3' : New h2 t_string 1 v47 h3 [.string e.name] 1 := n3
    have x3 := n3'.ext
    have s3 := Stp.ext0 s2.own x3
    have hO3 : OutAt t_string 1 h3 vo (g.map fun e => .string e.name) g.length So := hO.keep fun x hx => by
      obtain ⟨o, eo⟩ := oSo.kn x hx
      rw [eo, x3 _ _ eo]
    have oSo3 : Own R h3 So := s3.own.sub' fun x hx => List.mem_append_right _ hx
    have oS3 : Own R h3 (r :: HB c [b] xs) := s3.own.sub' fun x hx => List.mem_append_left _ hx
    have lg : g.length ≤ 800000 := by have := congrArg List.length hg; simp at this; omega
    refine aw_appendO u_Sl_string u_Sl_string nfo_string rfl (by omega) hO3 n3'.rds (by intro y hy; rw [List.mem_singleton.1 hy]; rfl) (by omega) fun v48 h4 So' o4 kp4 fr4 => ?_
    have s4 := OutAt.step oSo3 o4 kp4 fr4
    have dj3 : ∀ x, x ∈ r :: HB c [b] xs → x ∉ So := fun x hx q => hdj x q hx
    obtain ⟨oS4, dj4, same4⟩ := s4.frame oS3 dj3
    have same24 : ∀ x, x ∈ r :: HB c [b] xs → h4 x = h2 x := fun x hx => by
      rw [same4 x hx]
      obtain ⟨o, eo⟩ := oS2.kn x hx
      rw [eo, x3 _ _ eo]
    have ndx := nod_ne a2.hq.nod
    have inS : ∀ x, x ∈ HB c [b] xs → x ∈ r :: HB c [b] xs := fun x hx => List.mem_cons_of_mem _ hx
    have a4 : CL h4 c qt now ([] ++ e :: B) xs (.slice (some ⟨b, 0, none⟩) xs.length cap) [b] r es clk :=
      { a2 with
        hq := ⟨by rw [same24 c (inS c (by simp [HB]))]; exact a2.hq.row, a2.hq.out.keep fun x hx => same24 x (inS x (mem_HB.2 (.inr (.inl hx)))), fun i y ey => by rw [same24 y.blk (inS _ (mem_HB.2 (.inr (.inr ⟨y, List.mem_of_getElem? ey, rfl⟩))))]; exact a2.hq.ent i y ey, a2.hq.nod⟩
        mp := by rw [same24 r (by simp)]; exact a2.mp }
    refine T_remove (S := []) oS4 a4 fun h5 S5 s5 a5 => ?_
    have oSo4 : Own R h4 So' := s4.own
    obtain ⟨oSo5, dj5, same5⟩ := s5.frame oSo4 fun x hx q => dj4 x q hx
    have st34 := (s4.wide oS3 dj3).perm (T := (r :: HB c [b] xs) ++ So) (T' := (r :: HB c [b] xs) ++ So') (fun x => by simp only [List.mem_append]; exact or_comm) (fun x => by simp only [List.mem_append]; exact or_comm)
    have st45 := s5.wide oSo4 fun x hx q => dj4 x q hx
    have epop : popE (qt - s) (e :: B) = (e :: (popE (qt - s) B).1, (popE (qt - s) B).2) := by
      simp only [popE]; rw [if_neg (by omega)]
    rw [epop] at hp1 hp2
    refine ⟨h5, .refl _, B.length, by simp, g ++ [e], B, S5, So', v48, rfl, by rw [← hg, List.append_assoc]; rfl, by rw [hp1, List.append_assoc]; rfl, hp2, ((s2.trans s3).trans st34).trans st45, a5, ?_, fun x hx q => dj5 x hx q, rfl⟩
    rw [List.map_append, List.length_append]
    exact o4.keep same5
  · -- there is room
    simp only [hgt, decide_false, Bool.false_eq_true, if_false]
    have estop := popE_stop (show sumS L2 ≤ qt - s by omega)
    rw [estop] at hp1 hp2
    simp only [List.append_nil] at hp1
    rw [hp1, hp2] at k0
    obtain ⟨xs, vh, Sh, r, es, clk, a2, rfl⟩ := a2
    have enow : (now : Int) + 1 = ((now + 1 : Nat) : Int) := by omega
    have hqr := a2.hq.row
    have nd := nod_ne a2.hq.nod
    have nrc : r ≠ c := fun q => a2.rn (by rw [q]; simp [HB])
    rw [enow]
    refine aw_store z_int rfl (put_row (b := c) (off := 2) hqr (by simp) (by simp) _) ?_
    have e2 : ([Value.int .i64 (qt : Int), .int .i64 ((sumS L2 : Nat) : Int), .int .i64 (now : Int), vh, .map (some r)] : List Value).set 2 (.int .i64 ((now + 1 : Nat) : Int)) = [.int .i64 (qt : Int), .int .i64 ((sumS L2 : Nat) : Int), .int .i64 ((now + 1 : Nat) : Int), vh, .map (some r)] := rfl
    rw [e2, bldItem]
    obtain ⟨h3, hh3⟩ : ∃ h3, h2.set c (.row t_cache_Cache [.int .i64 (qt : Int), .int .i64 ((sumS L2 : Nat) : Int), .int .i64 ((now + 1 : Nat) : Int), vh, .map (some r)] 5 (some (0, 0))) = h3 := ⟨_, rfl⟩
    rw [hh3]
    have f3 : ∀ x, x ≠ c → h3 x = h2 x := fun x hx => by rw [← hh3, Hp.set_ne _ _ hx]
    have g3 : h3 c = some (.row t_cache_Cache [.int .i64 (qt : Int), .int .i64 ((sumS L2 : Nat) : Int), .int .i64 ((now + 1 : Nat) : Int), vh, .map (some r)] 5 (some (0, 0))) := by rw [← hh3]; exact Hp.set_same ..
    have c2' : h3.cell ⟨c, 2, none⟩ = some (.int .i64 ((now + 1 : Nat) : Int)) := by rw [cell_row g3]; rfl
    simp (disch := omega) only [GL, RL, cc2, c2', bldEnt]
    have st3 : Stp R h2 R h3 (r :: HB c Sh xs) (r :: HB c Sh xs) := stp_in oS2 (fun x hx => f3 x (by rintro rfl; exact hx (by simp [HB]))) fun x hx => by
      by_cases q1 : x = c
      · rw [q1]; exact ⟨_, g3⟩
      · rw [f3 x q1]; exact oS2.kn x hx
    refine aw_box fun b hb => ?_
    have eobj : (AObj.row t_cache_item (Value.agg #[.string n, .int .i64 (s : Int), .int .i64 ((now + 1 : Nat) : Int), .int .i64 0]).cells.toList (Value.agg #[.string n, .int .i64 (s : Int), .int .i64 ((now + 1 : Nat) : Int), .int .i64 0]).cells.size (some (0, 0))) = .row t_cache_item (entC ⟨b, n, s, now + 1⟩ 0) 4 (some (0, 0)) := rfl
    rw [eobj]
    obtain ⟨e, he⟩ : ∃ e : Ent, (⟨b, n, s, now + 1⟩ : Ent) = e := ⟨_, rfl⟩
    have eb : e.blk = b := by rw [← he]
    have en : e.name = n := by rw [← he]
    have es' : e.size = s := by rw [← he]
    have eu : e.used = now + 1 := by rw [← he]
    rw [he]
    have hpe : Value.pointer (some ⟨b, 0, none⟩) = ptrE e := by rw [← eb]; rfl
    rw [hpe]
    rw [← eb] at hb ⊢
    obtain ⟨o4b, o4, dj4, same4⟩ := st3.own.mk1 (.row t_cache_item (entC e 0) 4 (some (0, 0))) hb
    obtain ⟨h4, hh4⟩ : ∃ h4, h3.set e.blk (.row t_cache_item (entC e 0) 4 (some (0, 0))) = h4 := ⟨_, rfl⟩
    rw [hh4] at o4b o4 same4 ⊢
    have g4 : h4 e.blk = some (.row t_cache_item (entC e 0) 4 (some (0, 0))) := by rw [← hh4]; exact Hp.set_same ..
    have st4 : Stp R h3 R h4 (r :: HB c Sh xs) (e.blk :: r :: HB c Sh xs) := stp_mk st3.own (fun x o hx eo => by
        rw [← hh4, Hp.set_ne _ _ (by rintro rfl; rw [hb] at eo; cases eo)]; exact eo) (fun x o hx eo q => by
        rcases List.mem_cons.1 q with g | g
        · rw [g, hb] at eo; cases eo
        · exact hx g) fun x hx => by
        rcases List.mem_cons.1 hx with g | g
        · rw [g]; exact ⟨_, g4⟩
        · exact o4.kn x g
    have hbn : e.blk ∉ r :: HB c Sh xs := fun q => by
      obtain ⟨o, eo⟩ := st3.own.kn _ q
      rw [hb] at eo; cases eo
    have hq4 : HQ h4 c (.int .i64 (qt : Int)) (.int .i64 ((sumS L2 : Nat) : Int)) (.int .i64 ((now + 1 : Nat) : Int)) (.map (some r)) xs vh Sh := by
      have sm : ∀ x, x ∈ r :: HB c Sh xs → h4 x = h3 x := same4
      refine ⟨by rw [sm c (List.mem_cons_of_mem _ (by simp [HB]))]; exact g3, a2.hq.out.keep fun x hx => ?_, fun i y ey => ?_, a2.hq.nod⟩
      · rw [sm x (List.mem_cons_of_mem _ (mem_HB.2 (.inr (.inl hx)))), f3 x (by rintro rfl; exact nd.1 hx)]
      · have my := List.mem_of_getElem? ey
        rw [sm y.blk (List.mem_cons_of_mem _ (mem_HB.2 (.inr (.inr ⟨y, my, rfl⟩)))), f3 _ (nd.2.1 y my).1]
        exact a2.hq.ent i y ey
    have mp4 : h4 r = some (.obj (.map es clk)) := by rw [same4 r (by simp), f3 r nrc]; exact a2.mp
    have lxs : xs.length ≤ 900000 := by rw [a2.pm.length_eq]; exact a2.lb
    simp (disch := omega) only [GL, RL, cc3, mkI]
    have mkE' : ∀ {h : Hp} {K : Value → Prop}, SL.q P h (Instr.makeInterface t_Pt_cache_item (ptrE e)) K = K (.iface t_Pt_cache_item (ptrE e)) := fun {h K} => mkE e.blk
    rw [mkE']
    have o4H : Own R h4 (e.blk :: HB c Sh xs) := st4.own.sub' fun x hx => by
      rcases List.mem_cons.1 hx with g | g
      · rw [g]; simp
      · exact List.mem_cons_of_mem _ (List.mem_cons_of_mem _ g)
    have o4r : Own R h4 [r] := st4.own.sub' fun x hx => by rw [List.mem_singleton.1 hx]; simp
    refine T_heapPush o4H hq4 g4 (fun q => hbn (List.mem_cons_of_mem _ q)) (by omega) fun vh' Sh' h5 s5 hq5 => ?_
    have rnH : ∀ x, x ∈ [r] → x ∉ e.blk :: HB c Sh xs := fun x hx q => by
      rw [List.mem_singleton.1 hx] at q
      rcases List.mem_cons.1 q with g | g
      · exact hbn (by rw [← g]; simp)
      · exact a2.rn g
    obtain ⟨o5r, d5r, s5r⟩ := s5.frame o4r rnH
    have s5w := (s5.wide o4r rnH).perm (T := e.blk :: r :: HB c Sh xs) (T' := r :: HB c Sh' (pushL Ent.used xs e)) (fun x => by simp only [List.cons_append, List.mem_cons, List.mem_append, List.not_mem_nil, or_false]; constructor <;> rintro (g | g | g) <;> simp [g]) (fun x => by simp only [List.mem_cons, List.mem_append, List.not_mem_nil, or_false]; exact or_comm)
    have pp := pushL_perm Ent.used xs e
    have hheap := pushL_heap Ent.used e a2.hp
    have lpp := pushL_len Ent.used xs e
    rw [← lpp] at hheap
    generalize pushL Ent.used xs e = ys at s5w hq5 pp hheap lpp d5r s5
    have mp5 : h5 r = some (.obj (.map es clk)) := by rw [s5r r (by simp)]; exact mp4
    have rn5 : r ∉ HB c Sh' ys := d5r r (by simp)
    have c54 : h5.cell ⟨c, 4, none⟩ = some (.map (some r)) := by rw [cell_row hq5.row]; rfl
    simp (disch := omega) only [GL, RL, cc4, c54]
    have hno : mval es.toList n = none := by
      cases hm : mval es.toList n with
      | none => rfl
      | some v =>
        obtain ⟨y, hy, hyn, _⟩ := (a2.mo n v).1 hm
        exact absurd hyn (hL1 y (by rw [← hg]; exact List.mem_append_right _ (a2.pm.mem_iff.1 hy)))
    have hno' : mget es.toList n = none := by
      unfold mval at hno
      cases hm : mget es.toList n with
      | none => rfl
      | some p => rw [hm] at hno; cases hno
    refine aw_mapNew u_map_string_Pt_cache_item u_string mp5 a2.sk n (ptrE e) hno' ?_
    obtain ⟨h6, hh6⟩ : ∃ h6, h5.set r (.obj (.map (es.push ⟨.string n, ptrE e, clk⟩) (clk + 1))) = h6 := ⟨_, rfl⟩
    rw [hh6]
    have f6 : ∀ x, x ≠ r → h6 x = h5 x := fun x hx => by rw [← hh6, Hp.set_ne _ _ hx]
    have g6 : h6 c = some (.row t_cache_Cache [.int .i64 (qt : Int), .int .i64 ((sumS L2 : Nat) : Int), .int .i64 ((now + 1 : Nat) : Int), vh', .map (some r)] 5 (some (0, 0))) := by rw [f6 c (Ne.symm nrc)]; exact hq5.row
    have c61 : h6.cell ⟨c, 1, none⟩ = some (.int .i64 ((sumS L2 : Nat) : Int)) := by rw [cell_row g6]; rfl
    have esum : ((sumS L2 : Nat) : Int) + (s : Int) = ((sumS (L2 ++ [e]) : Nat) : Int) := by
      have h1 := sumS_app L2 [e]
      have h2 : sumS [e] = s := by simp [sumS, es']
      omega
    have hle2 : sumS (L2 ++ [e]) ≤ qt := by omega
    simp (disch := omega) only [GL, RL, cc1, c61, esum, wi64]
    refine aw_store z_int rfl (put_row (b := c) (off := 1) g6 (by simp) (by simp) _) ?_
    have e7 : ([Value.int .i64 (qt : Int), .int .i64 ((sumS L2 : Nat) : Int), .int .i64 ((now + 1 : Nat) : Int), vh', .map (some r)] : List Value).set 1 (.int .i64 ((sumS (L2 ++ [e]) : Nat) : Int)) = [.int .i64 (qt : Int), .int .i64 ((sumS (L2 ++ [e]) : Nat) : Int), .int .i64 ((now + 1 : Nat) : Int), vh', .map (some r)] := rfl
    rw [e7]
    obtain ⟨h7, hh7⟩ : ∃ h7, h6.set c (.row t_cache_Cache [.int .i64 (qt : Int), .int .i64 ((sumS (L2 ++ [e]) : Nat) : Int), .int .i64 ((now + 1 : Nat) : Int), vh', .map (some r)] 5 (some (0, 0))) = h7 := ⟨_, rfl⟩
    rw [hh7]
    have f7 : ∀ x, x ≠ c → x ≠ r → h7 x = h5 x := fun x h1 h2 => by rw [← hh7, Hp.set_ne _ _ h1, f6 x h2]
    have g7 : h7 c = some (.row t_cache_Cache [.int .i64 (qt : Int), .int .i64 ((sumS (L2 ++ [e]) : Nat) : Int), .int .i64 ((now + 1 : Nat) : Int), vh', .map (some r)] 5 (some (0, 0))) := by rw [← hh7]; exact Hp.set_same ..
    have g7r : h7 r = some (.obj (.map (es.push ⟨.string n, ptrE e, clk⟩) (clk + 1))) := by rw [← hh7, Hp.set_ne _ _ nrc, ← hh6]; exact Hp.set_same ..
    have st7 : Stp R h5 R h7 (r :: HB c Sh' ys) (r :: HB c Sh' ys) := stp_in s5w.own (fun x hx => f7 x (by rintro rfl; exact hx (by simp [HB])) (by rintro rfl; exact hx (by simp))) fun x hx => by
      by_cases q1 : x = c
      · rw [q1]; exact ⟨_, g7⟩
      · by_cases q2 : x = r
        · rw [q2]; exact ⟨_, g7r⟩
        · rw [f7 x q1 q2]; exact s5w.own.kn x hx
    have all := ((st3.trans st4).trans s5w).trans st7
    have hdj' : ∀ x, x ∈ So → x ∉ r :: HB c Sh xs := hdj
    obtain ⟨oSo7, dj7, same7⟩ := all.frame oSo hdj'
    have allw := all.wide oSo hdj'
    have tot := (s1.trans s2).trans allw
    have nd5 := nod_ne hq5.nod
    have pz : ys.Perm (L2 ++ [e]) := pp.trans ((a2.pm.cons e).trans (List.perm_append_comm (l₁ := [e]) (l₂ := L2)))
    have fin : CAt h7 c qt (now + 1) (L2 ++ [e]) (r :: HB c Sh' ys) := by
      refine ⟨ys, vh', Sh', r, _, clk + 1, ⟨⟨g7, hq5.out.keep fun x hx => f7 x (by rintro rfl; exact nd5.1 hx) (by rintro rfl; exact rn5 (mem_HB.2 (.inr (.inl hx)))), fun i y ey => ?_, hq5.nod⟩, g7r, strKeys_push a2.sk _ _ _, nodup_push a2.sk a2.kn hno' _ _, fun m v => ?_, rn5, hheap, pz, ?_, fun x hx => ?_, hle2, qb, ?_⟩, rfl⟩
      · have my := List.mem_of_getElem? ey
        rw [f7 _ (nd5.2.1 y my).1 (by intro q; exact rn5 (mem_HB.2 (.inr (.inr ⟨y, my, q⟩))))]
        exact hq5.ent i y ey
      · rw [mval_push a2.sk hno']
        by_cases qm : m = n
        · rw [if_pos qm]
          constructor
          · intro ev
            exact ⟨e, pp.mem_iff.2 (by simp), by rw [en, qm], Option.some.inj ev⟩
          · rintro ⟨y, hy, hyn, hyv⟩
            rcases List.mem_cons.1 (pp.mem_iff.1 hy) with g | g
            · rw [← hyv, g]
            · exact absurd (hyn.trans qm) (hL1 y (by rw [← hg]; exact List.mem_append_right _ (a2.pm.mem_iff.1 g)))
        · rw [if_neg qm, a2.mo]
          constructor
          · rintro ⟨y, hy, hyn, hyv⟩
            exact ⟨y, pp.mem_iff.2 (List.mem_cons_of_mem _ hy), hyn, hyv⟩
          · rintro ⟨y, hy, hyn, hyv⟩
            rcases List.mem_cons.1 (pp.mem_iff.1 hy) with g | g
            · exact absurd (by rw [← hyn, g, en]) qm
            · exact ⟨y, g, hyn, hyv⟩
      · rw [List.pairwise_append]
        refine ⟨a2.so, List.pairwise_singleton _ _, fun x hx y hy => ?_⟩
        rw [List.mem_singleton.1 hy, eu]
        have := a2.nw x hx
        omega
      · rcases List.mem_append.1 hx with g | g
        · have := a2.nw x g; omega
        · rw [List.mem_singleton.1 g, eu]; exact Nat.le_refl _
      · have := congrArg List.length hg
        simp only [List.length_append, List.length_cons, List.length_nil] at this ⊢
        omega
    have hO7 : OutAt t_string 1 h7 vo (g.map fun e => .string e.name) g.length So := hO.keep same7
    rcases hO7 with ⟨rfl, hn0, hg0, _⟩ | ⟨bo, co, fz, hbo, rfl, hco, hfo, rfl, hlo⟩
    · refine k0 _ e R h7 _ en es' eu (tot.drop fun x hx => List.mem_append_left _ hx) fin ?_
      rw [hn0, hg0]
      exact ⟨rfl, none, 0, rfl, Nat.le_refl _, .inl rfl⟩
    · have hbS : ∀ x, x ∈ r :: HB c Sh' ys → x ≠ bo := fun x hx => by rintro rfl; exact dj7 x (by simp) hx
      refine k0 _ e (R.set bo (.row t_string (g.map fun e => .string e.name) (co * 1) (some fz))) h7 _ en es' eu (tot.fix (by simp) hbo fun x hx => ⟨List.mem_append_left _ hx, hbS x hx⟩) fin ?_
      exact ⟨hlo, _, co, rfl, hco, .inr ⟨bo, 0, rfl, fun j x e => by rw [cell_row (Hp.set_same ..), Nat.zero_add]; exact e⟩⟩
end
end Go.Proofs.Ytbglokdjlbknaaa
set_option linter.unusedSimpArgs false
set_option linter.unusedVariables false
set_option maxRecDepth 100000
namespace Go.SL
open Go
theorem baToList (s : ByteArray) : s.toList = s.data.toList := by
  have key : ∀ (n i : Nat) (r : List UInt8), s.size - i = n → i ≤ s.size → ByteArray.toList.loop s i r = r.reverse ++ s.data.toList.drop i := by
    intro n
    induction n with
    | zero =>
      intro i r h h2
      rw [ByteArray.toList.loop.eq_def, if_neg (by omega), List.drop_of_length_le (by rw [Array.length_toList]; show s.size ≤ i; omega)]
      simp
    | succ n ih =>
      intro i r h h2
      have hlt : i < s.data.toList.length := by rw [Array.length_toList]; show i < s.size; omega
      rw [ByteArray.toList.loop.eq_def, if_pos (by omega), ih (i + 1) _ (by omega) (by omega), List.drop_eq_getElem_cons hlt]
      have : s.get! i = s.data.toList[i] := by
        show s.data[i]! = _
        rw [getElem!_pos s.data i (by show i < s.size; omega)]
        simp
      rw [this]
      simp
  have := key s.size 0 [] (by omega) (by omega)
  show ByteArray.toList.loop s 0 [] = _
  rw [this]
  simp
theorem strL_data (l : List Nat) : (strL l).data.toList = l.map UInt8.ofNat := by
  have key : ∀ (l : List Nat) (s : ByteArray), (l.foldl (fun s x => s.push (UInt8.ofNat x)) s).data.toList = s.data.toList ++ l.map UInt8.ofNat := by
    intro l
    induction l with
    | nil => intro s; simp
    | cons x l ih =>
      intro s
      rw [List.foldl_cons, ih]
      show (s.data.push (UInt8.ofNat x)).toList ++ _ = _
      simp
  have := key l ByteArray.empty
  simpa [strL] using this
theorem u8_inj {l m : List Nat} (hl : ∀ x ∈ l, x < 256) (hm : ∀ x ∈ m, x < 256) (e : l.map UInt8.ofNat = m.map UInt8.ofNat) : l = m := by
  induction l generalizing m with
  | nil => cases m with
    | nil => rfl
    | cons y m => cases e
  | cons x l ih => cases m with
    | nil => cases e
    | cons y m =>
      simp only [List.map_cons, List.cons.injEq] at e
      have hx := hl x (List.mem_cons_self ..)
      have hy := hm y (List.mem_cons_self ..)
      have : x = y := by
        have := congrArg UInt8.toNat e.1
        simpa [UInt8.toNat_ofNat', Nat.mod_eq_of_lt hx, Nat.mod_eq_of_lt hy] using this
      rw [this, ih (fun z hz => hl z (List.mem_cons_of_mem _ hz)) (fun z hz => hm z (List.mem_cons_of_mem _ hz)) e.2]
theorem strL_inj {l m : List Nat} (hl : ∀ x ∈ l, x < 256) (hm : ∀ x ∈ m, x < 256) (e : strL l = strL m) : l = m := by
  have := congrArg (fun s : ByteArray => s.data.toList) e
  simp only [strL_data] at this
  exact u8_inj hl hm this
theorem ba_listEq (a b : ByteArray) : (a.toList == b.toList) = decide (a = b) := by
  rw [baToList, baToList, Bool.eq_iff_iff, beq_iff_eq, decide_eq_true_eq]
  constructor
  · intro e
    cases a; cases b
    simp only [Array.toList_inj] at e
    rw [e]
  · intro e; rw [e]
section
variable {P : Program}
/-- A row of cells at a place. -/
theorem rd_at {t e : Nat} {h : Hp} {v : Value} {xs : List Value} {n i : Nat} {y : Value} (ht : P.underlying t = some (.slice e)) (hs : sz P e = some 1) (r : Rds h 1 v xs n) (hi : xs[i]? = some y) :
    ∃ p : Addr, (∀ {h' : Hp} {K : Value → Prop}, q P h' (Instr.indexAt t v (.int .i64 (i : Int))) K = K (.pointer (some p))) ∧ h.cell p = some y := by
  obtain ⟨hl, a, c, rfl, hc, h0⟩ := r
  have hlt := (List.getElem?_eq_some_iff.1 hi).1
  rcases h0 with h0 | ⟨b, o, rfl, hx⟩
  · omega
  have hx := hx i y hi
  refine ⟨_, fun {h' K} => q_idxS ht hs _ _ _ _ _ (by omega) (by omega), ?_⟩
  rw [show (Addr.add ⟨b, o, none⟩ (((i : Nat) : Int).toNat * 1)) = ⟨b, o + i, none⟩ by rw [Int.toNat_natCast, Nat.mul_one]; simp [Addr.add]]
  exact hx
end
end Go.SL
set_option linter.unusedSimpArgs false
set_option linter.unusedVariables false
set_option maxRecDepth 100000
namespace Go.Proofs.Ytbglokdjlbknaaa
open Go Go.SL
theorem q_eqT {h : Hp} {K : Value → Prop} (x y : Operand) (a b : ByteArray) : q P h (eqop .eql t_string x y (.string a) (.string b)) K = K (.bool (decide (a = b))) := by
  rw [q_eqlS, ba_listEq]
theorem q_neT {h : Hp} {K : Value → Prop} (x y : Operand) (a b : ByteArray) : q P h (eqop .neq t_string x y (.string a) (.string b)) K = K (.bool (decide (a ≠ b))) := by
  have e : q P h (eqop .neq t_string x y (.string a) (.string b)) K = K (.bool (! (a.toList == b.toList))) := q_of (by
    unfold eqop
    rw [peek_bind]
    have : peek P h (eqGuard .neq t_string x y (.string a) (.string b)) = some () := rfl
    rw [this, Option.bind_some]
    simp only [binOp, Op.stringOp]; rfl) K
  rw [e, ba_listEq]
  congr 2
  by_cases q : a = b <;> simp [q]
end Go.Proofs.Ytbglokdjlbknaaa
set_option linter.unusedSimpArgs false
set_option linter.unusedVariables false
set_option maxRecDepth 100000
set_option maxHeartbeats 4000000
namespace Go.Proofs.Ytbglokdjlbknaaa
open Go Go.SL Go.Pure
theorem q_cnil {h : Hp} {K : Value → Prop} (x y : Operand) (c : Nat) : q P h (eqop .eql t_Pt_cache_Cache x y (.pointer (some ⟨c, 0, none⟩)) (.pointer none)) K = K (.bool false) := q_of (by
  unfold eqop
  rw [peek_bind]
  have : peek P h (eqGuard .eql t_Pt_cache_Cache x y (.pointer (some ⟨c, 0, none⟩)) (.pointer none)) = some () := by kernel_rfl
  rw [this, Option.bind_some]
  rfl) K
theorem CAt.keep {h h' : Hp} {c qt now : Nat} {L : List Ent} {S : List Nat} (a : CAt h c qt now L S) (k : ∀ x, x ∈ S → h' x = h x) : CAt h' c qt now L S := by
  obtain ⟨xs, vh, Sh, r, es, clk, a, rfl⟩ := a
  have kH : ∀ x, x ∈ HB c Sh xs → h' x = h x := fun x hx => k x (List.mem_cons_of_mem _ hx)
  exact ⟨xs, vh, Sh, r, es, clk, { a with
    hq := ⟨by rw [kH c (by simp [HB])]; exact a.hq.row, a.hq.out.keep fun x hx => kH x (mem_HB.2 (.inr (.inl hx))), fun i y ey => by rw [kH y.blk (mem_HB.2 (.inr (.inr ⟨y, List.mem_of_getElem? ey, rfl⟩)))]; exact a.hq.ent i y ey, a.hq.nod⟩
    mp := by rw [k r (by simp)]; exact a.mp }, rfl⟩
theorem CAt.ext {R h h' : Hp} {c qt now : Nat} {L : List Ent} {S : List Nat} (a : CAt h c qt now L S) (o : Own R h S) (x : Hp.ext h h') : CAt h' c qt now L S := a.keep fun b hb => by
  obtain ⟨y, e⟩ := o.kn b hb
  rw [e, x _ _ e]
section
variable {h : Hp} {K : Value → Hp → Prop}
theorem T_awake22 (k : ∀ h', Hp.ext h h' → K (.bool true) h') : Cn P n_orloplaw22_awake #[] h K := by
  refine F_orloplaw22_awake ?_
  unfold s_orloplaw22_awake
  have w0 : Own h h [] := ⟨.refl _, fun b hb => (by cases hb), fun b hb => (by cases hb)⟩
  refine T_newCache 10 (by omega) w0 fun c h1 S1 s1 o1 f1 a1 => ?_
  have fr1 : ∀ x, x ∈ S1 → x ∉ ([] : List Nat) := f1
  simp only [q_cnil, GL, RL, Bool.false_eq_true, if_false]
  refine T_Put ⟨#[97]⟩ 4 (by omega) (by omega) (by simp) o1 a1 (fun qq => by omega) (fun qq => by omega) fun _ _ v1 e1 R2 h2 S2 n1 z1 u1 s2 a2 r1 => ?_
  have l2 : (popE ((10 : Int).toNat - (4 : Int).toNat) (([] : List Ent).filter fun e => e.name ≠ (⟨#[97]⟩ : ByteArray))).2 ++ [e1] = [e1] := rfl
  rw [l2] at a2
  refine T_Put ⟨#[98]⟩ 4 (by omega) (by omega) (by simp) s2.own a2 (fun qq => by omega) (fun qq => by omega) fun _ _ v2 e2 R3 h3 S3 n2 z2 u2 s3 a3 r2 => ?_
  have z1' : e1.size = 4 := z1
  have z2' : e2.size = 4 := z2
  have d12 : e1.name ≠ ⟨#[98]⟩ := by rw [n1]; decide
  have d21 : e2.name ≠ ⟨#[97]⟩ := by rw [n2]; decide
  have l3 : (popE ((10 : Int).toNat - (4 : Int).toNat) ([e1].filter fun e => e.name ≠ (⟨#[98]⟩ : ByteArray))).2 ++ [e2] = [e1, e2] := by
    rw [flt_all (by intro e he; rw [List.mem_singleton.1 he]; exact d12), popE_stop (by simp [sumS, z1'])]; rfl
  rw [l3] at a3
  refine T_Touch ⟨#[97]⟩ (by omega) s3.own a3 (fun qq => absurd n1 (qq e1 (by simp))) fun A e B h4 S4 hL hn hx s4 a4 => ?_
  have hAB : A = [] ∧ e = e1 ∧ B = [e2] := by
    cases A with
    | nil => simp at hL; exact ⟨rfl, hL.1.symm, hL.2.symm⟩
    | cons x A =>
      have : e1 = x := by simp at hL; exact hL.1
      exact absurd n1 (by rw [this]; exact hx x (by simp))
  obtain ⟨rfl, rfl, rfl⟩ := hAB
  have d13 : (useE e (0 + 1 + 1 + 1)).name ≠ ⟨#[99]⟩ := by show e.name ≠ _; rw [hn]; decide
  have d23 : e2.name ≠ ⟨#[99]⟩ := by rw [n2]; decide
  refine T_Put ⟨#[99]⟩ 4 (by omega) (by omega) (by simp) s4.own a4 (fun qq => by omega) (fun qq => by omega) fun _ _ v3 e3 R5 h5 S5 n3 z3 u3 s5 a5 r3 => ?_
  have l5 : popE ((10 : Int).toNat - (4 : Int).toNat) ((([] ++ [e2]) ++ [useE e (0 + 1 + 1 + 1)]).filter fun e => e.name ≠ (⟨#[99]⟩ : ByteArray)) = ([e2], [useE e (0 + 1 + 1 + 1)]) := by
    rw [flt_all (by
      intro x hx
      simp at hx
      rcases hx with rfl | rfl
      · exact d23
      · exact d13)]
    have us : (useE e 3).size = 4 := z1'
    simp [popE, sumS, z2', us]
  rw [l5] at a5 r3
  rw [ext0, ext1]
  have z3' : e3.size = 4 := z3
  have us : (useE e 3).size = 4 := z1'
  refine T_Put ⟨#[100]⟩ 11 (by omega) (by omega) (by simp) s5.own a5 (fun qq => by omega) (fun qq => ?_) fun _ qq => by simp at qq
  rw [ext0, ext1]
  have r3' := r3.mono s5.own.sub.cle
  obtain ⟨p, hp1, hp2⟩ := rd_at (P := P) (i := 0) (y := .string e2.name) u_Sl_string z_string r3' rfl
  obtain ⟨_, a, cc, rfl, hc, _⟩ := r3'
  have i0 : ∀ {h' : Hp} {K : Value → Prop}, q P h' (Instr.indexAt t_Sl_string (.slice a [e2].length cc) (.int .i64 0)) K = K (.pointer (some p)) := fun {h' K} => hp1
  have i2 : ∀ {h' : Hp} {K : Value → Prop}, q P h' (Builtin.len_ #[t_Sl_string] t_int #[.slice a [e2].length cc]) K = K (.int .i64 (([e2].length : Nat) : Int)) := fun {h' K} => q_lenS u_Sl_string _ _ _
  simp only [GL, RL, i2]
  have b1 : (((([e2].length : Nat) : Int) == 1)) = true := rfl
  have b0 : ((0 : Int) == 0) = true := rfl
  have b3 : ((3 : Int) == 3) = true := rfl
  simp only [b0, b1, b3, i0, hp2, q_eqT, n2, decide_true, GL, RL, if_true]
  refine T_Used a5 ?_
  have su : sumS ([useE e (0 + 1 + 1 + 1)] ++ [e3]) = 8 := by simp [sumS, us, z3']
  have b2 : (((8 : Nat) : Int) == 8) = true := rfl
  simp only [su, GL, RL, b2]
  refine k h5 fun x o hx => ?_
  exact s5.own.sub _ _ (s5.ext _ _ (s4.ext _ _ (s3.ext _ _ (s2.ext _ _ (s1.ext _ _ hx)))))
end
end Go.Proofs.Ytbglokdjlbknaaa
set_option linter.unusedSimpArgs false
set_option linter.unusedVariables false
namespace Go.SL
open Go
section
variable {P : Program} {h : Hp}
theorem aw_nilN {t e s : Nat} {K : Value → Hp → Prop} (ht : P.underlying t = some (.slice e)) (hs : sz P e = some s) (k : ∀ v h', New h e s v h' [] 0 → K v h') : aw P (Instr.buildSlice t 0 #[]) K h := by
  refine aw_of ?_
  show awp P (Sem.bind (underlying t) _) _ h
  rw [awp_bind, peek_awp P _ _ _ (pk_und ht)]
  show awp P (Sem.bind (sizeOf e) _) _ h
  rw [awp_bind, peek_awp P _ _ _ (pk_size hs)]
  show awp P (if 0 * s > 2 ^ 24 then _ else _) _ h
  rw [if_neg (by simp)]
  show awp P (if 0 * s = 0 then _ else _) _ h
  rw [if_pos (by simp)]
  have fin : ∀ (zs : Array Value) (n : Nat), n = 0 → awp P (match Instr.fill (fun i => some (i * s, s)) ((Array.range n).map (fun x => zs[x % zs.size]!)) [] with
      | some cells => Sem.bind (newRow e cells) fun a => Sem.pure (.slice (some a) 0 0)
      | _ => stuck "buildSlice: a part of the wrong size") K h := by
    rintro zs n rfl
    show awp P (Sem.bind (newRow e _) _) K h
    rw [awp_bind]
    intro r hr
    refine k _ _ ⟨by simp, .inr ⟨r, 0, (0, 0), hr, Nat.le_refl _, rfl, ?_, fun i _ => by simp⟩⟩
    simp [absOf]
  exact fin #[] (0 * s) (by simp)
/-- A row made just now is owned. -/
theorem OutAt.own {R h' : Hp} {t s n : Nat} {v : Value} {xs : List Value} {S So : List Nat} (w : Own R h S) (x : Hp.ext h h') (o : OutAt t s h' v xs n So) (fr : ∀ y, y ∈ So → h y = none) : Own R h' So := by
  refine ⟨w.sub.trans x, fun b hb => w.sub.none (fr b hb), fun b hb => ?_⟩
  rcases o with ⟨_, _, _, rfl⟩ | ⟨b', c, f, e, _, _, _, rfl, _⟩
  · cases hb
  · rw [List.mem_singleton.1 hb]; exact ⟨_, e⟩
theorem Stp.fresh {R h' : Hp} {t s n : Nat} {v : Value} {xs : List Value} {S : List Nat} (w : Own R h S) (nw : New h t s v h' xs n) : ∃ So, OutAt t s h' v xs n So ∧ Own R h' So ∧ Stp R h R h' S (S ++ So) ∧ (∀ y, y ∈ So → h y = none) := by
  obtain ⟨So, o, fr⟩ := OutAt.of nw
  have oo := o.own w nw.ext fr
  exact ⟨So, o, oo, (Stp.ext0 w nw.ext).gain oo fr, fr⟩
/-- A step within what is owned. -/
theorem Stp.within {R h h' : Hp} {S : List Nat} (w : Own R h S) (fr : ∀ b, b ∉ S → h' b = h b) (kn : ∀ b, b ∈ S → ∃ o, h' b = some o) : Stp R h R h' S S :=
  ⟨.refl _, fun b o hb e => by rw [fr b hb]; exact e, fun b o hb e => hb, fun b o hb e er => er, ⟨fun b o e => by
    have hb : b ∉ S := fun q => by rw [w.dis b q] at e; cases e
    rw [fr b hb]; exact w.sub b o e, w.dis, kn⟩⟩
/-- A row that grows, beside what else is owned. -/
theorem OutAt.beside {R h h' : Hp} {t s n' : Nat} {v' : Value} {xs' : List Value} {S T T' : List Nat} (oS : Own R h S) (oT : Own R h T) (dj : ∀ b, b ∈ S → b ∉ T) (o' : OutAt t s h' v' xs' n' T') (kp : ∀ x o, x ∉ T → h x = some o → h' x = some o) (fr : ∀ x o, x ∉ T → h x = some o → x ∉ T') :
    Own R h' S ∧ Own R h' T' ∧ (∀ b, b ∈ S → b ∉ T') ∧ (∀ b, b ∈ S → h' b = h b) ∧ Stp R h R h' (S ++ T) (S ++ T') := by
  have st := OutAt.step oT o' kp fr
  obtain ⟨a, b, c⟩ := st.frame oS dj
  exact ⟨a, st.own, b, c, (st.wide oS dj).perm (fun x => by simp only [List.mem_append]; exact or_comm) (fun x => by simp only [List.mem_append]; exact or_comm)⟩
theorem OutAt.flat {h : Hp} {t s n : Nat} {v : Value} {xs : List Value} {So : List Nat} (o : OutAt t s h v xs n So) : SL.flat v = true := by
  rcases o with ⟨rfl, _⟩ | ⟨b, c, f, _, rfl, _⟩ <;> rfl
end
end Go.SL
set_option linter.unusedSimpArgs false
set_option linter.unusedVariables false
set_option maxRecDepth 100000
set_option maxHeartbeats 4000000
namespace Go.Proofs.Ytbglokdjlbknaaa
open Go Go.SL
abbrev Nm := ByteArray × Nat
def itC (x : Nm) : List Value := [.string x.1, .int .i64 (x.2 : Int)]
def rowL (L : List Nm) : List Value := L.flatMap itC
theorem rowL_cons (x : Nm) (L : List Nm) : rowL (x :: L) = .string x.1 :: .int .i64 (x.2 : Int) :: rowL L := rfl
theorem rowL_app (A B : List Nm) : rowL (A ++ B) = rowL A ++ rowL B := List.flatMap_append
theorem rowL_take : ∀ (L : List Nm) (i : Nat), (rowL L).take (i * 2) = rowL (L.take i)
  | [], i => by simp [rowL]
  | x :: L, 0 => by simp [rowL]
  | x :: L, i + 1 => by rw [rowL_cons, Nat.succ_mul, List.take_succ_cons, List.take_succ_cons, rowL_take L i, List.take_succ_cons, rowL_cons]
theorem rowL_drop : ∀ (L : List Nm) (i : Nat), (rowL L).drop (i * 2) = rowL (L.drop i)
  | [], i => by simp [rowL]
  | x :: L, 0 => by simp
  | x :: L, i + 1 => by rw [rowL_cons, Nat.succ_mul, List.drop_succ_cons, List.drop_succ_cons, rowL_drop L i, List.drop_succ_cons]
theorem rowL_get {L : List Nm} {i : Nat} {x : Nm} (h : L[i]? = some x) : (rowL L)[i * 2]? = some (.string x.1) ∧ (rowL L)[i * 2 + 1]? = some (.int .i64 (x.2 : Int)) := by
  have e : (rowL L).drop (i * 2) = .string x.1 :: .int .i64 (x.2 : Int) :: rowL (L.drop (i + 1)) := by
    rw [rowL_drop]
    obtain ⟨hi, rfl⟩ := List.getElem?_eq_some_iff.1 h
    rw [List.drop_eq_getElem_cons hi, rowL_cons]
  have e0 := congrArg (fun l => l[0]?) e
  have e1 := congrArg (fun l => l[1]?) e
  simp only [List.getElem?_drop] at e0 e1
  exact ⟨e0, e1⟩
theorem rowL_flat (L : List Nm) : ∀ y ∈ rowL L, flat y = true := by
  intro y hy
  obtain ⟨x, _, hx⟩ := List.mem_flatMap.1 hy
  simp only [itC, List.mem_cons, List.not_mem_nil, or_false] at hx
  rcases hx with rfl | rfl <;> rfl
/-- The document's cache, in memory. -/
def RC (h : Hp) (p qt : Nat) (L : List Nm) (S : List Nat) : Prop :=
  ∃ vL So, h p = some (.row t_orlopref22_Cache [.int .i64 (qt : Int), vL] 2 (some (0, 0))) ∧ OutAt t_api_Item 2 h vL (rowL L) L.length So ∧ p ∉ So ∧ S = p :: So
theorem RC.keep {h h' : Hp} {p qt : Nat} {L : List Nm} {S : List Nat} (a : RC h p qt L S) (k : ∀ x, x ∈ S → h' x = h x) : RC h' p qt L S := by
  obtain ⟨vL, So, hp, ho, hn, rfl⟩ := a
  exact ⟨vL, So, by rw [k p (by simp)]; exact hp, ho.keep fun x hx => k x (List.mem_cons_of_mem _ hx), hn, rfl⟩
theorem RC.ext {R h h' : Hp} {p qt : Nat} {L : List Nm} {S : List Nat} (a : RC h p qt L S) (o : Own R h S) (x : Hp.ext h h') : RC h' p qt L S := a.keep fun b hb => by
  obtain ⟨y, e⟩ := o.kn b hb
  rw [e, x _ _ e]
theorem rc0 {h : Hp} {K : Value → Prop} (b : Nat) : q P h (Instr.fieldAt t_orlopref22_Cache (.pointer (some ⟨b, 0, none⟩)) 0) K = K (.pointer (some ⟨b, 0, none⟩)) := q_of (by kernel_rfl) K
theorem rc1 {h : Hp} {K : Value → Prop} (b : Nat) : q P h (Instr.fieldAt t_orlopref22_Cache (.pointer (some ⟨b, 0, none⟩)) 1) K = K (.pointer (some ⟨b, 1, none⟩)) := q_of (by kernel_rfl) K
theorem aj0 {h : Hp} {K : Value → Prop} (b o : Nat) : q P h (Instr.fieldAt t_api_Item (.pointer (some ⟨b, o, none⟩)) 0) K = K (.pointer (some ⟨b, o + 0, none⟩)) := q_of (by kernel_rfl) K
theorem aj1 {h : Hp} {K : Value → Prop} (b o : Nat) : q P h (Instr.fieldAt t_api_Item (.pointer (some ⟨b, o, none⟩)) 1) K = K (.pointer (some ⟨b, o + 1, none⟩)) := q_of (by kernel_rfl) K
theorem zr_item : zr P t_api_Item = some (.agg #[.string ByteArray.empty, .int .i64 0]) := by kernel_rfl
theorem nfo_item : (P.info? t_api_Item).map (fun i => (i.zero, i.size, i.bytes)) = some (some (.agg #[.string ByteArray.empty, .int .i64 0]), 2, 24) := by kernel_rfl
/-- An item of a row. -/
theorem it_at {h : Hp} {v : Value} {L : List Nm} {i : Nat} {x : Nm} (r : Rds h 2 v (rowL L) L.length) (hi : L[i]? = some x) :
    ∃ b o, (∀ {h' : Hp} {K : Value → Prop}, q P h' (Instr.indexAt t_Sl_api_Item v (.int .i64 (i : Int))) K = K (.pointer (some ⟨b, o, none⟩))) ∧ h.cell ⟨b, o + 0, none⟩ = some (.string x.1) ∧ h.cell ⟨b, o + 1, none⟩ = some (.int .i64 (x.2 : Int)) := by
  obtain ⟨hl, a, c, rfl, hc, h0⟩ := r
  have hlt := (List.getElem?_eq_some_iff.1 hi).1
  rcases h0 with h0 | ⟨b, o, rfl, hx⟩
  · omega
  obtain ⟨g0, g1⟩ := rowL_get hi
  have c0 := hx _ _ g0
  have c1 := hx _ _ g1
  refine ⟨b, o + i * 2, fun {h' K} => ?_, by rw [Nat.add_zero]; exact c0, by rw [Nat.add_assoc]; exact c1⟩
  rw [q_idxS u_Sl_api_Item z_api_Item _ _ _ _ _ (by omega) (by omega), Int.toNat_natCast, add_off]
def sumP (L : List Nm) : Nat := (L.map Prod.snd).sum
theorem sumP_cons (x : Nm) (L : List Nm) : sumP (x :: L) = x.2 + sumP L := by simp [sumP]
theorem sumP_app (A B : List Nm) : sumP (A ++ B) = sumP A + sumP B := by simp [sumP]
section
variable {h : Hp} {K : Value → Hp → Prop} {p qt : Nat} {R : Hp} {L : List Nm} {S : List Nat}
theorem RC.cells (a : RC h p qt L S) : ∃ vL, h.cell ⟨p, 0, none⟩ = some (.int .i64 (qt : Int)) ∧ h.cell ⟨p, 1, none⟩ = some vL ∧ Rds h 2 vL (rowL L) L.length ∧ ∀ {h' : Hp} {K : Value → Prop}, q P h' (Builtin.len_ #[t_Sl_api_Item] t_int #[vL]) K = K (.int .i64 (L.length : Int)) := by
  obtain ⟨vL, So, hp, ho, hn, rfl⟩ := a
  have r := ho.rds
  refine ⟨vL, by rw [cell_row hp]; rfl, by rw [cell_row hp]; rfl, r, fun {h' K} => ?_⟩
  obtain ⟨_, a, c, rfl, hc, _⟩ := r
  exact q_lenS u_Sl_api_Item _ _ _
theorem T_ref22_New (quota : Int) {S0 : List Nat} (w : Own R h S0) (k : ∀ p h', Stp R h R h' S0 S0 → Hp.ext h h' → Own R h' [p] → p ∉ S0 → RC h' p quota.toNat [] [p] → K (.pointer (some ⟨p, 0, none⟩)) h') : Cn P n_orlopref22_New #[.int .i64 quota] h K := by
  refine F_orlopref22_New ?_
  unfold s_orlopref22_New
  have fin : ∀ (p : Nat) (n : Int), h p = none → n = ((quota.toNat : Nat) : Int) → K (.pointer (some ⟨p, 0, none⟩)) (h.set p (.row t_orlopref22_Cache [.int .i64 n, .slice none 0 0] 2 (some (0, 0)))) := fun p n hp hn => by
    obtain ⟨o1, o2, dj, same⟩ := w.mk1 (.row t_orlopref22_Cache [.int .i64 n, .slice none 0 0] 2 (some (0, 0))) hp
    refine k p _ (Stp.ext0 w (ext_set _ hp)) (ext_set _ hp) o1 (fun hx => by obtain ⟨o, e⟩ := w.kn p hx; rw [hp] at e; cases e) ⟨.slice none 0 0, [], by rw [Hp.set_same, hn], .inl ⟨rfl, rfl, rfl, rfl⟩, by simp, rfl⟩
  simp (disch := omega) only [GL, RL]
  by_cases h1 : quota < 0
  · rw [if_pos (by simpa using h1)]
    have b1 : ∀ {K : Value → Prop}, q P h (Instr.build t_orlopref22_Cache #[]) K = K (.agg #[.int .i64 0, .slice none 0 0]) := fun {K} => q_of (by kernel_rfl) K
    rw [b1]
    exact aw_box fun p hp => fin p 0 hp (by omega)
  · rw [if_neg (by simpa using h1)]
    have b1 : ∀ {K : Value → Prop}, q P h (Instr.build t_orlopref22_Cache #[(0, .int .i64 quota)]) K = K (.agg #[.int .i64 quota, .slice none 0 0]) := fun {K} => q_of (by kernel_rfl) K
    rw [b1]
    exact aw_box fun p hp => fin p quota hp (by omega)
theorem T_ref22_Used (a : RC h p qt L S) (hl : L.length ≤ 1000000) (hs : sumP L ≤ 9223372036854775807) (k : K (.int .i64 ((sumP L : Nat) : Int)) h) : Cn P n_orlopref22_Cache_Used #[.pointer (some ⟨p, 0, none⟩)] h K := by
  refine F_orlopref22_Cache_Used ?_
  unfold s_orlopref22_Cache_Used
  obtain ⟨vL, c0, c1, r, ln⟩ := a.cells
  refine Lp_mk (fun m vs h' => ∃ i : Nat, i + m = L.length ∧ vs = [.int .i64 ((sumP (L.take i) : Nat) : Int), .int .i64 (i : Int)] ∧ h' = h) L.length ⟨0, by omega, by simp [sumP], rfl⟩ ?_
  rintro m vs h' ⟨i, hi, rfl, rfl⟩
  simp (disch := omega) only [GL, RL, rc0, rc1, c0, c1, ln, lt_dec]
  by_cases hlt : i < L.length
  · simp (disch := omega) only [hlt, decide_true, if_true, GL, RL, rc0, rc1, c0, c1]
    obtain ⟨b, o, hix, d0, d1⟩ := it_at r (List.getElem?_eq_getElem hlt)
    have e1 : L.take (i + 1) = L.take i ++ [L[i]] := List.take_succ_eq_append_getElem hlt
    have e2 : sumP (L.take (i + 1)) = sumP (L.take i) + (L[i]).2 := by rw [e1, sumP_app]; simp [sumP]
    have e3 : sumP (L.take (i + 1)) ≤ sumP L := by
      have := sumP_app (L.take (i + 1)) (L.drop (i + 1))
      rw [List.take_append_drop] at this
      omega
    simp (disch := omega) only [hix, aj0, aj1, d0, d1, GL, RL]
    have e4 : IntKind.i64.wrap (((sumP (L.take i) : Nat) : Int) + ((L[i]).2 : Int)) = ((sumP (L.take (i + 1)) : Nat) : Int) := by rw [wi64 (by omega) (by omega)]; omega
    have e5 : IntKind.i64.wrap ((i : Int) + 1) = ((i + 1 : Nat) : Int) := wi64 (by omega) (by omega)
    rw [e4, e5]
    exact ⟨h', .refl _, m - 1, by omega, i + 1, by omega, rfl, rfl⟩
  · simp only [hlt, decide_false, Bool.false_eq_true, if_false]
    have : L.take i = L := List.take_of_length_le (by omega)
    show K (.int .i64 ((sumP (L.take i) : Nat) : Int)) h'
    rw [this]
    exact k
theorem T_ref22_at (n : ByteArray) (a : RC h p qt L S) (hl : L.length ≤ 1000000) (k0 : (∀ x ∈ L, x.1 ≠ n) → K (.int .i64 (-1)) h)
    (k1 : ∀ A x B, L = A ++ x :: B → x.1 = n → (∀ y ∈ A, y.1 ≠ n) → K (.int .i64 (A.length : Int)) h) : Cn P n_orlopref22_Cache_at #[.pointer (some ⟨p, 0, none⟩), .string n] h K := by
  refine F_orlopref22_Cache_at ?_
  unfold s_orlopref22_Cache_at
  obtain ⟨vL, c0, c1, r, ln⟩ := a.cells
  refine Lp_mk (fun m vs h' => ∃ i : Nat, i + m = L.length ∧ (∀ x ∈ L.take i, x.1 ≠ n) ∧ vs = [.int .i64 0, .int .i64 (i : Int)] ∧ h' = h) L.length ⟨0, by omega, by simp, rfl, rfl⟩ ?_
  rintro m vs h' ⟨i, hi, hno, rfl, rfl⟩
  simp (disch := omega) only [GL, RL, rc0, rc1, c0, c1, ln, lt_dec]
  by_cases hlt : i < L.length
  · simp (disch := omega) only [hlt, decide_true, if_true, GL, RL, rc0, rc1, c0, c1]
    obtain ⟨b, o, hix, d0, d1⟩ := it_at r (List.getElem?_eq_getElem hlt)
    simp (disch := omega) only [hix, aj0, aj1, d0, d1, GL, RL, q_eqT]
    by_cases hn : (L[i]).1 = n
    · simp only [hn, decide_true, if_true]
      have := k1 (L.take i) L[i] (L.drop (i + 1)) (by rw [← List.drop_eq_getElem_cons hlt, List.take_append_drop]) hn hno
      rw [List.length_take, Nat.min_eq_left (by omega)] at this
      exact this
    · simp only [hn, decide_false, Bool.false_eq_true, if_false]
      have e5 : IntKind.i64.wrap ((i : Int) + 1) = ((i + 1 : Nat) : Int) := wi64 (by omega) (by omega)
      rw [e5]
      refine ⟨h', .refl _, m - 1, by omega, i + 1, by omega, fun x hx => ?_, rfl, rfl⟩
      rw [List.take_succ_eq_append_getElem hlt] at hx
      rcases List.mem_append.1 hx with hx | hx
      · exact hno x hx
      · rw [List.mem_singleton.1 hx]; exact hn
  · simp only [hlt, decide_false, Bool.false_eq_true, if_false]
    refine k0 fun x hx => hno x ?_
    rw [List.take_of_length_le (by omega)]
    exact hx
end
end Go.Proofs.Ytbglokdjlbknaaa
set_option linter.unusedSimpArgs false
set_option linter.unusedVariables false
set_option maxRecDepth 100000
set_option maxHeartbeats 4000000
namespace Go.Proofs.Ytbglokdjlbknaaa
open Go Go.SL
section
variable {h : Hp} {K : Value → Hp → Prop} {p qt : Nat} {R : Hp} {L : List Nm} {S : List Nat}
/-- A new list is put in. -/
theorem RC.putW {h3 : Hp} {L' : List Nm} {T U : List Nat} {v v' : Value} (s : Stp R h R h3 S (U ++ T)) (oS : Own R h3 U) (oT : Own R h3 T) (hpS : p ∈ U) (dj : ∀ b, b ∈ U → b ∉ T) (hp : h3 p = some (.row t_orlopref22_Cache [.int .i64 (qt : Int), v] 2 (some (0, 0)))) (o : OutAt t_api_Item 2 h3 v' (rowL L') L'.length T) {F : Unit → Hp → Prop}
    (k : ∀ h4, (∀ W, (∀ x, x ∈ W → x ∈ U) → Stp R h R h4 S ((p :: T) ++ W)) → (∀ x, x ≠ p → h4 x = h3 x) → RC h4 p qt L' (p :: T) → F () h4) : aw P (Instr.storeAt t_Sl_api_Item (.pointer (some ⟨p, 1, none⟩)) v') F h3 := by
  refine aw_store z_Sl_api_Item o.flat (put_row (b := p) (off := 1) hp (by simp) (by simp) _) ?_
  have e2 : ([Value.int .i64 (qt : Int), v] : List Value).set 1 v' = [.int .i64 (qt : Int), v'] := rfl
  rw [e2]
  have f4 : ∀ x, x ≠ p → (h3.set p (.row t_orlopref22_Cache [.int .i64 (qt : Int), v'] 2 (some (0, 0)))) x = h3 x := fun x hx => Hp.set_ne _ _ hx
  have g4 : (h3.set p (.row t_orlopref22_Cache [.int .i64 (qt : Int), v'] 2 (some (0, 0)))) p = some (.row t_orlopref22_Cache [.int .i64 (qt : Int), v'] 2 (some (0, 0))) := Hp.set_same ..
  generalize h3.set p (.row t_orlopref22_Cache [.int .i64 (qt : Int), v'] 2 (some (0, 0))) = h4 at f4 g4 ⊢
  have oST : Own R h3 (U ++ T) := oS.app oT
  have st : Stp R h3 R h4 (U ++ T) (U ++ T) := Stp.within oST (fun b hb => f4 b (by rintro rfl; exact hb (List.mem_append_left _ hpS))) fun b hb => by
    by_cases q1 : b = p
    · rw [q1]; exact ⟨_, g4⟩
    · rw [f4 b q1]; exact oST.kn b hb
  have pT : p ∉ T := dj p hpS
  refine k h4 (fun W hW => (s.trans st).drop fun x hx => ?_) f4 ⟨v', T, g4, o.keep fun x hx => f4 x (by rintro rfl; exact pT hx), pT, rfl⟩
  rcases List.mem_append.1 hx with hx | hx
  · rcases List.mem_cons.1 hx with rfl | hx
    · exact List.mem_append_left _ hpS
    · exact List.mem_append_right _ hx
  · exact List.mem_append_left _ (hW x hx)
theorem RC.put {h3 : Hp} {L' : List Nm} {T U : List Nat} {v v' : Value} (s : Stp R h R h3 S (U ++ T)) (oS : Own R h3 U) (oT : Own R h3 T) (hpS : p ∈ U) (dj : ∀ b, b ∈ U → b ∉ T) (hp : h3 p = some (.row t_orlopref22_Cache [.int .i64 (qt : Int), v] 2 (some (0, 0)))) (o : OutAt t_api_Item 2 h3 v' (rowL L') L'.length T) {F : Unit → Hp → Prop}
    (k : ∀ h4, Stp R h R h4 S (p :: T) → RC h4 p qt L' (p :: T) → F () h4) : aw P (Instr.storeAt t_Sl_api_Item (.pointer (some ⟨p, 1, none⟩)) v') F h3 :=
  RC.putW s oS oT hpS dj hp o fun h4 s4 _ a4 => k h4 (by have := s4 [] (by simp); rwa [List.append_nil] at this) a4
theorem T_ref22_Drop (n : ByteArray) (w : Own R h S) (a : RC h p qt L S) (hl : L.length ≤ 1000000) (k0 : (∀ x ∈ L, x.1 ≠ n) → K (.bool false) h)
    (k1 : ∀ A x B h' S', L = A ++ x :: B → x.1 = n → (∀ y ∈ A, y.1 ≠ n) → Stp R h R h' S S' → RC h' p qt (A ++ B) S' → K (.bool true) h') : Cn P n_orlopref22_Cache_Drop #[.pointer (some ⟨p, 0, none⟩), .string n] h K := by
  refine F_orlopref22_Cache_Drop ?_
  unfold s_orlopref22_Cache_Drop
  refine T_ref22_at n a hl (fun hn => ?_) fun A x B hL hn hA => ?_
  · simp only [GL, RL]
    exact k0 hn
  have hlen : L.length = A.length + 1 + B.length := by rw [hL]; simp; omega
  obtain ⟨vL, So, hp, ho, hpn, rfl⟩ := a
  have r := ho.rds
  have c1 : h.cell ⟨p, 1, none⟩ = some vL := by rw [cell_row hp]; rfl
  obtain ⟨hl0, av, cv, rfl, hcv, _⟩ := id r
  have e1 : IntKind.i64.wrap ((A.length : Int) + 1) = ((A.length + 1 : Nat) : Int) := wi64 (by omega) (by omega)
  have nlt : ¬ ((A.length : Int) < 0) := by omega
  simp (disch := omega) only [GL, RL, nlt, decide_false, Bool.false_eq_true, if_false, rc1, c1, e1]
  have sHi : ∀ {h : Hp} {K : Value → Prop}, q P h (Instr.sliceAt t_Sl_api_Item (.slice av L.length cv) none (some (.int .i64 (A.length : Int))) none) K = K (.slice (SL.cut av cv 0 2) A.length cv) := fun {h K} => q_slHi u_Sl_api_Item z_api_Item _ _ _ _ _ (by omega)
  have sLo : ∀ {h : Hp} {K : Value → Prop}, q P h (Instr.sliceAt t_Sl_api_Item (.slice av L.length cv) (some (.int .i64 ((A.length + 1 : Nat) : Int))) none none) K = K (.slice (SL.cut av cv (A.length + 1) 2) (L.length - (A.length + 1)) (cv - (A.length + 1))) := fun {h K} => q_slLo u_Sl_api_Item z_api_Item _ _ _ _ _ (by omega) hcv
  simp only [sHi, sLo]
  have rA : Rds h 2 (.slice (SL.cut av cv 0 2) A.length cv) (rowL A) A.length := by
    have := r.cut 0 A.length (by omega) (by omega)
    rw [rowL_take, Nat.zero_mul, List.drop_zero, hL, List.take_left' rfl] at this
    exact this
  have rB : Rds h 2 (.slice (SL.cut av cv (A.length + 1) 2) (L.length - (A.length + 1)) (cv - (A.length + 1))) (rowL B) (L.length - (A.length + 1)) := by
    have := r.cut (A.length + 1) L.length (by omega) (by omega)
    rw [rowL_take, List.take_length, rowL_drop] at this
    have e : L.drop (A.length + 1) = B := by rw [hL, show A ++ x :: B = (A ++ [x]) ++ B by simp]; exact List.drop_left' (by simp)
    rw [e] at this
    exact this
  refine aw_nilN u_Sl_api_Item z_api_Item fun v1 h1 n1 => ?_
  obtain ⟨T1, o1, ow1, s1, f1⟩ := Stp.fresh w n1
  have x1 : Hp.ext h h1 := n1.ext
  have hp1 := x1 _ _ hp
  have d1 : ∀ b, b ∈ p :: So → b ∉ T1 := fun b hb hT => by
    obtain ⟨o, e⟩ := w.kn b hb
    rw [f1 b hT] at e; cases e
  have ld : ∀ {H : Hp}, H p = some (.row t_orlopref22_Cache [.int .i64 (qt : Int), .slice av L.length cv] 2 (some (0, 0))) → peek P H (Instr.loadAt t_Sl_api_Item (.pointer (some ⟨p, 1, none⟩))) = some (.slice av L.length cv) := fun {H} e => pk_q fun K => q_load u_Sl_api_Item rfl _ (by rw [cell_row e]; rfl)
  refine ⟨pk_q fun K => sLo, ld hp1, pk_q fun K => rc1 p, pk_q fun K => sHi, ld hp1, pk_q fun K => rc1 p, ?_⟩
  have oS1 : Own R h1 (p :: So) := s1.own.sub' fun x hx => List.mem_append_left _ hx
  refine aw_appendO u_Sl_api_Item u_Sl_api_Item nfo_item rfl (by omega) o1 (rA.mono x1.cle) (rowL_flat A) (by omega) fun v2 h2 T2 o2 kp2 fr2 => ?_
  obtain ⟨oS2, oT2, d2, sm2, st2⟩ := OutAt.beside oS1 ow1 d1 o2 kp2 fr2
  have hp2 : h2 p = some (.row t_orlopref22_Cache [.int .i64 (qt : Int), .slice av L.length cv] 2 (some (0, 0))) := by rw [sm2 p (by simp)]; exact hp1
  refine ⟨pk_q fun K => sLo, ld hp2, pk_q fun K => rc1 p, ?_⟩
  have ho2 : OutAt t_api_Item 2 h2 (.slice av L.length cv) (rowL L) L.length So := ho.keep fun x hx => by
    rw [sm2 x (List.mem_cons_of_mem _ hx)]
    obtain ⟨o, e⟩ := w.kn x (List.mem_cons_of_mem _ hx)
    rw [e, x1 _ _ e]
  have rB2 : Rds h2 2 (.slice (SL.cut av cv (A.length + 1) 2) (L.length - (A.length + 1)) (cv - (A.length + 1))) (rowL B) (L.length - (A.length + 1)) := by
    have := ho2.rds.cut (A.length + 1) L.length (by omega) (by omega)
    rw [rowL_take, List.take_length, rowL_drop] at this
    have e : L.drop (A.length + 1) = B := by rw [hL, show A ++ x :: B = (A ++ [x]) ++ B by simp]; exact List.drop_left' (by simp)
    rw [e] at this
    exact this
  refine aw_appendO u_Sl_api_Item u_Sl_api_Item nfo_item rfl (by omega) o2 rB2 (rowL_flat B) (by omega) fun v3 h3 T3 o3 kp3 fr3 => ?_
  obtain ⟨oS3, oT3, d3, sm3, st3⟩ := OutAt.beside oS2 oT2 d2 o3 kp3 fr3
  have hp3 : h3 p = some (.row t_orlopref22_Cache [.int .i64 (qt : Int), .slice av L.length cv] 2 (some (0, 0))) := by rw [sm3 p (by simp)]; exact hp2
  have o3' : OutAt t_api_Item 2 h3 v3 (rowL (A ++ B)) (A ++ B).length T3 := by
    rw [rowL_app, List.length_append]
    have e : 0 + A.length + (L.length - (A.length + 1)) = A.length + B.length := by omega
    rw [e, List.nil_append] at o3
    exact o3
  exact RC.put ((s1.trans st2).trans st3) oS3 oT3 (by simp) d3 hp3 o3' fun h4 s4 a4 => k1 A x B h4 _ hL hn hA s4 a4
/-- The first one of a name goes. -/
def dropP (n : ByteArray) : List Nm → List Nm
  | [] => []
  | x :: L => if x.1 = n then L else x :: dropP n L
theorem dropP_no {n : ByteArray} : ∀ {L : List Nm}, (∀ x ∈ L, x.1 ≠ n) → dropP n L = L
  | [], _ => rfl
  | x :: L, h => by rw [dropP, if_neg (h x (by simp)), dropP_no fun y hy => h y (List.mem_cons_of_mem _ hy)]
theorem dropP_at {n : ByteArray} {x : Nm} {B : List Nm} (hx : x.1 = n) : ∀ {A : List Nm}, (∀ y ∈ A, y.1 ≠ n) → dropP n (A ++ x :: B) = A ++ B
  | [], _ => by rw [List.nil_append, dropP, if_pos hx]; rfl
  | y :: A, h => by rw [List.cons_append, dropP, if_neg (h y (by simp)), dropP_at hx fun z hz => h z (List.mem_cons_of_mem _ hz)]; rfl
theorem dropP_len (n : ByteArray) : ∀ L : List Nm, (dropP n L).length ≤ L.length
  | [] => Nat.le_refl _
  | x :: L => by
    rw [dropP]
    split
    · simp
    · simpa using dropP_len n L
theorem dropP_sum (n : ByteArray) : ∀ L : List Nm, sumP (dropP n L) ≤ sumP L
  | [] => Nat.le_refl _
  | x :: L => by
    rw [dropP]
    split
    · rw [sumP_cons]; omega
    · rw [sumP_cons, sumP_cons]; have := dropP_sum n L; omega
theorem T_ref22_DropF (n : ByteArray) (w : Own R h S) (a : RC h p qt L S) (hl : L.length ≤ 1000000)
    (k : ∀ b h' S', Stp R h R h' S S' → RC h' p qt (dropP n L) S' → K (.bool b) h') : Cn P n_orlopref22_Cache_Drop #[.pointer (some ⟨p, 0, none⟩), .string n] h K :=
  T_ref22_Drop n w a hl (fun hn => k false h S (.refl w) (by rw [dropP_no hn]; exact a)) fun A x B h' S' hL hx hA s a' => k true h' S' s (by rw [hL, dropP_at hx hA]; exact a')
theorem slatN {h : Hp} {v : Value} {So : List Nat} (o : OutAt t_api_Item 2 h v (rowL L) L.length So) : SlAt h 2 v (L.map itC) := by
  obtain ⟨_, a, c, e, hc, h0⟩ := o.rds
  refine ⟨a, c, by rw [List.length_map]; exact e, by rw [List.length_map]; exact hc, ?_⟩
  rcases h0 with h0 | ⟨b, f, ha, hx⟩
  · left; rw [List.eq_nil_of_length_eq_zero h0]; rfl
  · right
    refine ⟨b, f, ha, fun i x ei j y ey => ?_⟩
    rw [List.getElem?_map] at ei
    cases el : L[i]? with
    | none => rw [el] at ei; cases ei
    | some z =>
      rw [el] at ei
      obtain rfl : itC z = x := Option.some.inj ei
      obtain ⟨g0, g1⟩ := rowL_get el
      match j with
      | 0 => rw [← Option.some.inj (show some (Value.string z.1) = some y from ey)]; exact hx _ _ g0
      | 1 => rw [← Option.some.inj (show some (Value.int .i64 (z.2 : Int)) = some y from ey)]; have := hx _ _ g1; rw [← Nat.add_assoc] at this; exact this
      | j + 2 => simp [itC] at ey
theorem T_ref22_Touch (n : ByteArray) (w : Own R h S) (a : RC h p qt L S) (hl : L.length ≤ 900000) (k0 : (∀ x ∈ L, x.1 ≠ n) → K (.bool false) h)
    (k1 : ∀ A x B h' S', L = A ++ x :: B → x.1 = n → (∀ y ∈ A, y.1 ≠ n) → Stp R h R h' S S' → RC h' p qt (A ++ B ++ [x]) S' → K (.bool true) h') : Cn P n_orlopref22_Cache_Touch #[.pointer (some ⟨p, 0, none⟩), .string n] h K := by
  refine F_orlopref22_Cache_Touch ?_
  unfold s_orlopref22_Cache_Touch
  refine T_ref22_at n a (by omega) (fun hn => ?_) fun A x B hL hn hA => ?_
  · simp only [GL, RL]
    exact k0 hn
  have hlen : L.length = A.length + 1 + B.length := by rw [hL]; simp; omega
  obtain ⟨vL, So, hp, ho, hpn, hS⟩ := id a
  have c1 : h.cell ⟨p, 1, none⟩ = some vL := by rw [cell_row hp]; rfl
  have nlt : ¬ ((A.length : Int) < 0) := by omega
  simp (disch := omega) only [GL, RL, nlt, decide_false, Bool.false_eq_true, if_false, rc1, c1]
  have ex : (L.map itC)[A.length]? = some (itC x) := by rw [hL]; simp
  refine aw_itemAt (zs := [.string ByteArray.empty, .int .i64 0]) u_Sl_api_Item z_api_Item u_api_Item rfl zr_item rfl (slatN ho) (.refl _) ex rfl (by intro y hy; simp [itC] at hy; rcases hy with rfl | rfl <;> rfl) fun r hr => ?_
  have x1 := ext_set (.row t_api_Item (itC x) 2 (some (0, 0))) hr
  have g1 : (h.set r (.row t_api_Item (itC x) 2 (some (0, 0)))) r = some (.row t_api_Item (itC x) 2 (some (0, 0))) := Hp.set_same ..
  have s1 := Stp.ext0 w x1
  have a1 := a.ext w x1
  have kr : ∀ b, b ∈ S → b ≠ r := fun b hb => by rintro rfl; obtain ⟨o, e⟩ := w.kn b hb; rw [hr] at e; cases e
  have R1 : R r = none := w.sub.none hr
  generalize h.set r (.row t_api_Item (itC x) 2 (some (0, 0))) = h1 at x1 g1 s1 a1 ⊢
  refine T_ref22_Drop n s1.own a1 (by omega) (fun hno => absurd hn (hno x (by rw [hL]; simp))) fun A' x' B' h2 S2 hL' hn' hA' s2 a2 => ?_
  have same : A' ++ B' = A ++ B := by
    have e1 := dropP_at (B := B) hn hA
    have e2 := dropP_at (B := B') hn' hA'
    rw [← hL] at e1; rw [← hL'] at e2
    rw [← e1, ← e2]
  rw [same] at a2
  have g2 : h2 r = some (.row t_api_Item (itC x) 2 (some (0, 0))) := s2.keep r _ (fun q => kr r q rfl) g1
  have hrS2 : r ∉ S2 := s2.frS r _ (fun q => kr r q rfl) g1
  obtain ⟨vL2, So2, hp2, ho2, hpn2, rfl⟩ := id a2
  have c2 : h2.cell ⟨p, 1, none⟩ = some vL2 := by rw [cell_row hp2]; rfl
  have lr : ∀ {K : Value → Prop}, q P h2 (Instr.loadAt t_api_Item (.pointer (some ⟨r, 0, none⟩))) K = K (.agg (itC x).toArray) := fun {K} => q_ldRow u_api_Item rfl z_api_Item g2
  simp only [GL, RL, rc1, c2]
  rw [lr]
  refine aw_litA u_Sl_api_Item z_api_Item zr_item rfl rfl (by omega) (by omega) fun v3 h3 n3 => ?_
  have x3 : Hp.ext h2 h3 := n3.ext
  have hp3 := x3 _ _ hp2
  have s3 := Stp.ext0 s2.own x3
  refine ⟨pk_q fun K => q_load u_Sl_api_Item rfl _ (by rw [cell_row hp3]; rfl), pk_q fun K => rc1 p, ?_⟩
  have oP : Own R h3 [p] := s3.own.sub' fun x hx => by rw [List.mem_singleton.1 hx]; simp
  have oT : Own R h3 So2 := s3.own.sub' fun x hx => List.mem_cons_of_mem _ hx
  have ho3 : OutAt t_api_Item 2 h3 vL2 (rowL (A ++ B)) (A ++ B).length So2 := ho2.keep fun x hx => by
    obtain ⟨o, e⟩ := s2.own.kn x (List.mem_cons_of_mem _ hx)
    rw [e, x3 _ _ e]
  have lAB : (A ++ B).length = A.length + B.length := List.length_append
  refine aw_appendO u_Sl_api_Item u_Sl_api_Item nfo_item rfl (by omega) ho3 n3.rds (by intro y hy; simp [itC] at hy; rcases hy with rfl | rfl <;> rfl) (by omega) fun v4 h4 T4 o4 kp4 fr4 => ?_
  obtain ⟨oS4, oT4, d4, sm4, st4⟩ := OutAt.beside oP oT (by intro b hb; rw [List.mem_singleton.1 hb]; exact hpn2) o4 kp4 fr4
  have hp4 : h4 p = some (.row t_orlopref22_Cache [.int .i64 (qt : Int), vL2] 2 (some (0, 0))) := by rw [sm4 p (by simp)]; exact hp3
  have o4' : OutAt t_api_Item 2 h4 v4 (rowL (A ++ B ++ [x])) (A ++ B ++ [x]).length T4 := by
    rw [rowL_app, List.length_append]
    exact o4
  exact RC.put (((s1.trans s2).trans s3).trans st4) oS4 oT4 (by simp) d4 hp4 o4' fun h5 s5 a5 => k1 A x B h5 _ hL hn hA s5 a5
end
end Go.Proofs.Ytbglokdjlbknaaa
set_option linter.unusedSimpArgs false
set_option linter.unusedVariables false
set_option maxRecDepth 100000
set_option maxHeartbeats 4000000
namespace Go.Proofs.Ytbglokdjlbknaaa
open Go Go.SL
/-- So many go that what is left has room. -/
def popP (lim : Nat) : List Nm → List Nm × List Nm
  | [] => ([], [])
  | x :: L => if sumP (x :: L) ≤ lim then ([], x :: L) else (x :: (popP lim L).1, (popP lim L).2)
theorem popP_stop {lim : Nat} {L : List Nm} (h : sumP L ≤ lim) : popP lim L = ([], L) := by
  cases L with
  | nil => rfl
  | cons x L => rw [popP, if_pos h]
section
variable {h : Hp} {K : Value → Hp → Prop} {p qt : Nat} {R : Hp} {L : List Nm} {S : List Nat}
theorem bldIt {h : Hp} {K : Value → Prop} (n : ByteArray) (s : Int) : q P h (Instr.build t_api_Item #[(0, .string n), (1, .int .i64 s)]) K = K (.agg #[.string n, .int .i64 s]) := q_of (by kernel_rfl) K
theorem T_ref22_Put (n : ByteArray) (size : Int) (hs : size ≤ 9223372036854775807) (qb : qt ≤ 9223372036854775807) (hsum : sumP L ≤ qt) (lL : L.length ≤ 800000) (w : Own R h S) (a : RC h p qt L S)
    (k1 : size < 0 → K (.tuple #[.slice none 0 0, .int .i64 1]) h)
    (k3 : (qt : Int) < size → K (.tuple #[.slice none 0 0, .int .i64 3]) h)
    (k0 : 0 ≤ size → size ≤ qt → ∀ v R' h' S', Stp R h R' h' S S' →
      RC h' p qt ((popP (qt - size.toNat) (dropP n L)).2 ++ [(n, size.toNat)]) S' →
      Rds R' 1 v ((popP (qt - size.toNat) (dropP n L)).1.map fun x => .string x.1) (popP (qt - size.toNat) (dropP n L)).1.length → K (.tuple #[v, .int .i64 0]) h') :
    Cn P n_orlopref22_Cache_Put #[.pointer (some ⟨p, 0, none⟩), .string n, .int .i64 size] h K := by
  refine F_orlopref22_Cache_Put ?_
  unfold s_orlopref22_Cache_Put
  obtain ⟨vL, c0, c1, _, _⟩ := a.cells
  simp (disch := omega) only [GL, RL]
  by_cases h1 : size < 0
  · rw [if_pos (by simpa using h1)]
    exact k1 h1
  rw [if_neg (by simpa using h1)]
  simp (disch := omega) only [GL, RL, rc0, c0]
  by_cases h3 : (qt : Int) < size
  · rw [if_pos (by simpa using h3)]
    exact k3 h3
  rw [if_neg (by simpa using h3)]
  have k0 := k0 (by omega) (by omega)
  obtain ⟨s, rfl⟩ : ∃ s : Nat, size = (s : Int) := ⟨size.toNat, by omega⟩
  rw [Int.toNat_natCast] at k0
  have hsq : s ≤ qt := by omega
  clear c0 c1 k1 k3
  refine T_ref22_DropF n w a (by omega) fun b h1 S1 s1 a1 => ?_
  have lL1 : (dropP n L).length ≤ 800000 := Nat.le_trans (dropP_len n L) lL
  have hs1 : sumP (dropP n L) ≤ qt := Nat.le_trans (dropP_sum n L) hsum
  generalize dropP n L = L1 at a1 k0 lL1 hs1
  refine Lp_mk (fun m vs h' => ∃ (g L2 : List Nm) (S2 So : List Nat) (vo : Value), m = L2.length ∧ g ++ L2 = L1 ∧ (popP (qt - s) L1).1 = g ++ (popP (qt - s) L2).1 ∧ (popP (qt - s) L1).2 = (popP (qt - s) L2).2 ∧ sumP L2 ≤ qt ∧ Stp R h1 R h' S1 (S2 ++ So) ∧ RC h' p qt L2 S2 ∧ OutAt t_string 1 h' vo (g.map fun x => .string x.1) g.length So ∧ (∀ x, x ∈ S2 → x ∉ So) ∧ vs = [vo]) L1.length
    ⟨[], L1, S1, [], .slice none 0 0, rfl, rfl, rfl, rfl, hs1, by simpa using Stp.refl s1.own, a1, .inl ⟨rfl, rfl, rfl, rfl⟩, by simp, rfl⟩ ?_
  rintro m vs h2 ⟨g, L2, S2, So, vo, rfl, hg, hp1, hp2, hs2, s2, a2, hO, hdj, rfl⟩
  obtain ⟨vL, So2, hp, ho, hpn, rfl⟩ := id a2
  have c0 : h2.cell ⟨p, 0, none⟩ = some (.int .i64 (qt : Int)) := by rw [cell_row hp]; rfl
  have c1 : h2.cell ⟨p, 1, none⟩ = some vL := by rw [cell_row hp]; rfl
  have lg : g.length + L2.length = L1.length := by rw [← hg, List.length_append]
  have eqs : IntKind.i64.wrap ((qt : Int) - (s : Int)) = ((qt - s : Nat) : Int) := by rw [wi64 (by omega) (by omega)]; omega
  have oS2 : Own R h2 (p :: So2) := s2.own.sub' fun x hx => List.mem_append_left _ hx
  have oSo : Own R h2 So := s2.own.sub' fun x hx => List.mem_append_right _ hx
  have elt : decide (((qt - s : Nat) : Int) < ((sumP L2 : Nat) : Int)) = decide (qt - s < sumP L2) := lt_dec _ _
  simp (disch := omega) only [GL, RL, rc0, c0, eqs]
  refine T_ref22_Used a2 (by omega) (by omega) ?_
  refine ⟨pk_q fun K => q_load u_int rfl _ c0, pk_q fun K => rc0 p, ?_⟩
  simp (disch := omega) only [GL, RL, elt]
  by_cases hgt : qt - s < sumP L2
  · simp only [hgt, decide_true, if_true]
    obtain ⟨x, B, rfl⟩ : ∃ x B, L2 = x :: B := by
      cases L2 with
      | nil => simp [sumP] at hgt
      | cons x B => exact ⟨x, B, rfl⟩
    obtain ⟨b, o, hix, d0, d1⟩ := it_at (i := 0) (x := x) ho.rds rfl
    have hix' : ∀ {h' : Hp} {K : Value → Prop}, q P h' (Instr.indexAt t_Sl_api_Item vL (.int .i64 0)) K = K (.pointer (some ⟨b, o, none⟩)) := fun {h' K} => hix
    simp (disch := omega) only [GL, RL, rc1, c1, hix', aj0, d0]
    refine aw_lit (ps := [(0, .string x.1)]) (n := 1) u_Sl_string z_string zr_string rfl (by omega) (by intro p hp; rw [List.mem_singleton.1 hp]; exact ⟨rfl, by show _ < 1; omega⟩) fun v47 h3 n3 _ => ?_
    have n3' : New h2 t_string 1 v47 h3 [.string x.1] 1 := n3
    have x3 := n3'.ext
    have s3 := Stp.ext0 s2.own x3
    have hO3 : OutAt t_string 1 h3 vo (g.map fun x => .string x.1) g.length So := hO.keep fun x hx => by
      obtain ⟨o, eo⟩ := oSo.kn x hx
      rw [eo, x3 _ _ eo]
    have oSo3 : Own R h3 So := s3.own.sub' fun x hx => List.mem_append_right _ hx
    have oS3 : Own R h3 (p :: So2) := s3.own.sub' fun x hx => List.mem_append_left _ hx
    refine aw_appendO u_Sl_string u_Sl_string nfo_string rfl (by omega) hO3 n3'.rds (by intro y hy; rw [List.mem_singleton.1 hy]; rfl) (by simp at lg; omega) fun v48 h4 So' o4 kp4 fr4 => ?_
    obtain ⟨oS4, oT4, d4, sm4, st4⟩ := OutAt.beside oS3 oSo3 hdj o4 kp4 fr4
    have a4 : RC h4 p qt (x :: B) (p :: So2) := (a2.ext oS2 x3).keep sm4
    obtain ⟨vL4, So4, hp4, ho4, hpn4, e4⟩ := id a4
    simp only [List.cons.injEq, true_and] at e4
    subst e4
    have s04 := (s2.trans s3).trans st4
    refine aw_nilN u_Sl_api_Item z_api_Item fun v5 h5 n5 => ?_
    obtain ⟨T5, o5, ow5, s5, f5⟩ := Stp.fresh s04.own n5
    have x5 : Hp.ext h4 h5 := n5.ext
    have a5 : RC h5 p qt (x :: B) (p :: So2) := a4.ext oS4 x5
    obtain ⟨vL5, So5, hp5, ho5, hpn5, e5⟩ := id a5
    simp only [List.cons.injEq, true_and] at e5
    subst e5
    have d5 : ∀ b, b ∈ p :: So2 → b ∉ T5 := fun b hb hT => by
      obtain ⟨o, e⟩ := oS4.kn b hb
      rw [f5 b hT] at e; cases e
    have oS5 : Own R h5 (p :: So2) := s5.own.sub' fun x hx => List.mem_append_left _ (List.mem_append_left _ hx)
    have oO5 : Own R h5 So' := s5.own.sub' fun x hx => List.mem_append_left _ (List.mem_append_right _ hx)
    have dO5 : ∀ b, b ∈ So' → b ∉ T5 := fun b hb hT => by
      obtain ⟨o, e⟩ := oT4.kn b hb
      rw [f5 b hT] at e; cases e
    have c5 : h5.cell ⟨p, 1, none⟩ = some vL5 := by rw [cell_row hp5]; rfl
    obtain ⟨_, av, cv, rfl, hcv, _⟩ := id ho5.rds
    have sLo : ∀ {h : Hp} {K : Value → Prop}, q P h (Instr.sliceAt t_Sl_api_Item (.slice av (x :: B).length cv) (some (.int .i64 1)) none none) K = K (.slice (SL.cut av cv 1 2) ((x :: B).length - 1) (cv - 1)) := fun {h K} => q_slLo u_Sl_api_Item z_api_Item _ _ _ _ 1 (by simp) hcv
    simp only [GL, RL, rc1, c5, sLo]
    have rB : Rds h5 2 (.slice (SL.cut av cv 1 2) ((x :: B).length - 1) (cv - 1)) (rowL B) ((x :: B).length - 1) := by
      have := ho5.rds.cut 1 (x :: B).length (by simp) (Nat.le_refl _)
      rw [rowL_take, List.take_length, rowL_drop] at this
      exact this
    refine aw_appendO u_Sl_api_Item u_Sl_api_Item nfo_item rfl (by omega) o5 rB (rowL_flat B) (by simp at lg ⊢; omega) fun v6 h6 T6 o6 kp6 fr6 => ?_
    have oA5 : Own R h5 (p :: So2 ++ So') := oS5.app oO5
    have dA5 : ∀ b, b ∈ p :: So2 ++ So' → b ∉ T5 := fun b hb => by
      rcases List.mem_append.1 hb with hb | hb
      · exact d5 b hb
      · exact dO5 b hb
    obtain ⟨oA6, oT6, d6, sm6, st6⟩ := OutAt.beside oA5 ow5 dA5 o6 kp6 fr6
    have hp6 : h6 p = some (.row t_orlopref22_Cache [.int .i64 (qt : Int), .slice av (x :: B).length cv] 2 (some (0, 0))) := by rw [sm6 p (by simp)]; exact hp5
    have o6' : OutAt t_api_Item 2 h6 v6 (rowL B) B.length T6 := by
      have e : 0 + ((x :: B).length - 1) = B.length := by simp
      rw [e, List.nil_append] at o6
      exact o6
    have s06 := (s04.trans s5).trans st6
    have O6 : OutAt t_string 1 h6 v48 ((g ++ [x]).map fun x => .string x.1) (g ++ [x]).length So' := by
      rw [List.map_append, List.length_append]
      refine o4.keep fun y hy => ?_
      rw [sm6 y (List.mem_append_right _ hy)]
      obtain ⟨o, e⟩ := oT4.kn y hy
      rw [e, x5 _ _ e]
    have pS' : p ∉ So' := d4 p (by simp)
    refine RC.putW (U := p :: So2 ++ So') s06 oA6 oT6 (by simp) d6 hp6 o6' fun h7 s7 f7 a7 => ?_
    have epop : popP (qt - s) (x :: B) = (x :: (popP (qt - s) B).1, (popP (qt - s) B).2) := by
      simp only [popP]; rw [if_neg (by omega)]
    rw [epop] at hp1 hp2
    have hsB : sumP B ≤ qt := by rw [sumP_cons] at hs2; omega
    refine ⟨h7, .refl _, B.length, by simp, g ++ [x], B, p :: T6, So', v48, rfl, by rw [← hg]; simp, by rw [hp1]; simp, hp2, hsB, s7 So' (fun y hy => List.mem_append_right _ hy), a7, O6.keep fun y hy => f7 y (by rintro rfl; exact pS' hy), fun y hy hy' => ?_, rfl⟩
    rcases List.mem_cons.1 hy with rfl | hy
    · exact pS' hy'
    · exact d6 y (List.mem_append_right _ hy') hy
  · simp only [hgt, decide_false, Bool.false_eq_true, if_false]
    have estop := popP_stop (show sumP L2 ≤ qt - s by omega)
    rw [estop] at hp1 hp2
    simp only [List.append_nil] at hp1
    rw [hp1, hp2] at k0
    simp only [GL, RL, rc1, c1, bldIt]
    have bl : (Value.agg #[.string n, .int .i64 (s : Int)]) = .agg (itC (n, s)).toArray := rfl
    rw [bl]
    refine aw_litA u_Sl_api_Item z_api_Item zr_item rfl rfl (by omega) (by omega) fun v3 h3 n3 => ?_
    have x3 : Hp.ext h2 h3 := n3.ext
    have hp3 := x3 _ _ hp
    have s3 := Stp.ext0 s2.own x3
    have oP : Own R h3 ([p] ++ So) := s3.own.sub' fun x hx => by
      rcases List.mem_append.1 hx with hx | hx
      · rw [List.mem_singleton.1 hx]; simp
      · exact List.mem_append_right _ hx
    have oT : Own R h3 So2 := s3.own.sub' fun x hx => List.mem_append_left _ (List.mem_cons_of_mem _ hx)
    have ho3 : OutAt t_api_Item 2 h3 vL (rowL L2) L2.length So2 := ho.keep fun x hx => by
      obtain ⟨o, e⟩ := oS2.kn x (List.mem_cons_of_mem _ hx)
      rw [e, x3 _ _ e]
    have dP : ∀ b, b ∈ [p] ++ So → b ∉ So2 := fun b hb hb' => by
      rcases List.mem_append.1 hb with hb | hb
      · rw [List.mem_singleton.1 hb] at hb'; exact hpn hb'
      · exact hdj b (List.mem_cons_of_mem _ hb') hb
    refine aw_appendO u_Sl_api_Item u_Sl_api_Item nfo_item rfl (by omega) ho3 n3.rds (by intro y hy; simp [itC] at hy; rcases hy with rfl | rfl <;> rfl) (by omega) fun v4 h4 T4 o4 kp4 fr4 => ?_
    obtain ⟨oS4, oT4, d4, sm4, st4⟩ := OutAt.beside oP oT dP o4 kp4 fr4
    have hp4 : h4 p = some (.row t_orlopref22_Cache [.int .i64 (qt : Int), vL] 2 (some (0, 0))) := by rw [sm4 p (by simp)]; exact hp3
    have o4' : OutAt t_api_Item 2 h4 v4 (rowL (L2 ++ [(n, s)])) (L2 ++ [(n, s)]).length T4 := by
      rw [rowL_app, List.length_append]
      exact o4
    have st23 : Stp R h R h4 S (([p] ++ So) ++ T4) := (((s1.trans s2).trans s3).drop (T' := ([p] ++ So) ++ So2) (fun x hx => by
      simp only [List.mem_append, List.mem_cons, List.not_mem_nil, or_false] at hx ⊢
      rcases hx with (hx | hx) | hx
      · exact .inl (.inl hx)
      · exact .inr hx
      · exact .inl (.inr hx))).trans st4
    refine RC.putW (U := [p] ++ So) st23 oS4 oT4 (by simp) d4 hp4 o4' fun h5 s5 f5 a5 => ?_
    have pS : p ∉ So := hdj p (by simp)
    have hO5 : OutAt t_string 1 h5 vo (g.map fun x => .string x.1) g.length So := hO.keep fun y hy => by
      rw [f5 y (by rintro rfl; exact pS hy), sm4 y (List.mem_append_right _ hy)]
      obtain ⟨o, e⟩ := oSo.kn y hy
      rw [e, x3 _ _ e]
    have st5 := s5 So fun y hy => List.mem_append_right _ hy
    rcases hO5 with ⟨rfl, hn0, hg0, _⟩ | ⟨bo, co, fz, hbo, rfl, hco, hfo, rfl, hlo⟩
    · refine k0 _ R h5 _ (st5.drop fun x hx => List.mem_append_left _ hx) a5 ?_
      rw [hn0, hg0]
      exact ⟨rfl, none, 0, rfl, Nat.le_refl _, .inl rfl⟩
    · have hbS : ∀ x, x ∈ p :: T4 → x ≠ bo := fun x hx => by
        rintro rfl
        rcases List.mem_cons.1 hx with rfl | hx
        · exact pS (by simp)
        · exact d4 x (by simp) hx
      refine k0 _ (R.set bo (.row t_string (g.map fun x => .string x.1) (co * 1) (some fz))) h5 _ (st5.fix (by simp) hbo fun x hx => ⟨List.mem_append_left _ hx, hbS x hx⟩) a5 ?_
      exact ⟨hlo, _, co, rfl, hco, .inr ⟨bo, 0, rfl, fun j x e => by rw [cell_row (Hp.set_same ..), Nat.zero_add]; exact e⟩⟩
end
end Go.Proofs.Ytbglokdjlbknaaa
set_option linter.unusedSimpArgs false
set_option linter.unusedVariables false
set_option maxRecDepth 100000
set_option maxHeartbeats 4000000
namespace Go.Proofs.Ytbglokdjlbknaaa
open Go Go.SL Go.Pure
def ns (e : Ent) : Nm := (e.name, e.size)
theorem sumP_map (L : List Ent) : sumP (L.map ns) = sumS L := by simp [sumP, sumS, ns, Function.comp_def]
theorem dropP_map (n : ByteArray) {L A B : List Ent} {e : Ent} (hL : L = A ++ e :: B) (hn : e.name = n) (hx : ∀ x ∈ A ++ B, x.name ≠ n) : dropP n (L.map ns) = (A ++ B).map ns := by
  rw [hL, List.map_append, List.map_cons, dropP_at (x := ns e) hn (by
    intro y hy
    obtain ⟨x, hxA, rfl⟩ := List.mem_map.1 hy
    exact hx x (List.mem_append_left _ hxA)), List.map_append]
/-- Touched: the same in both lists. -/
theorem touch_eq {n : ByteArray} {L A B : List Ent} {e : Ent} {A' B' : List Nm} {x' : Nm} (hL : L = A ++ e :: B) (hn : e.name = n) (hx : ∀ x ∈ A ++ B, x.name ≠ n) (hL' : L.map ns = A' ++ x' :: B') (hn' : x'.1 = n) (hA' : ∀ y ∈ A', y.1 ≠ n) (m : Nat) :
    A' ++ B' ++ [x'] = (A ++ B ++ [useE e m]).map ns := by
  have e1 := dropP_map n hL hn hx
  have e2 := dropP_at (B := B') hn' hA'
  rw [← hL', e1] at e2
  have hx' : x' ∈ L.map ns := by rw [hL']; simp
  obtain ⟨y, hy, rfl⟩ := List.mem_map.1 hx'
  have : y = e := by
    rw [hL] at hy
    simp only [List.mem_append, List.mem_cons] at hy
    rcases hy with hy | rfl | hy
    · exact absurd hn' (hx y (List.mem_append_left _ hy))
    · rfl
    · exact absurd hn' (hx y (List.mem_append_right _ hy))
  rw [← e2, this]
  simp [ns, useE]
theorem popE_ones : ∀ {L : List Ent}, (∀ e ∈ L, e.size = 1) → popE 0 L = (L, [])
  | [], _ => rfl
  | e :: L, h => by
    have h1 := h e (by simp)
    rw [popE, if_neg (by rw [sumS_cons]; omega), popE_ones fun y hy => h y (List.mem_cons_of_mem _ hy)]
def nmI (j : Nat) : ByteArray := strL [97 + j]
theorem nmI_ne {i j : Nat} (hi : i < 100) (hj : j < 100) (h : i ≠ j) : nmI i ≠ nmI j := fun e => by
  have := strL_inj (l := [97 + i]) (m := [97 + j]) (by simp; omega) (by simp; omega) e
  simp at this
  omega
abbrev allN : ByteArray := ⟨#[97, 108, 108]⟩
theorem nmI_all {i : Nat} : nmI i ≠ allN := fun e => by
  have := congrArg (fun s : ByteArray => s.data.toList.length) e
  simp only [nmI, strL_data] at this
  simp at this
/-- The first texts, of size 1. -/
def firsts (i : Nat) : List Nm := (List.range i).map fun j => (nmI j, 1)
theorem firsts_succ (i : Nat) : firsts (i + 1) = firsts i ++ [(nmI i, 1)] := by simp [firsts, List.range_succ]
theorem firsts_len (i : Nat) : (firsts i).length = i := by simp [firsts]
theorem firsts_sum (i : Nat) : sumP (firsts i) = i := by
  induction i with
  | zero => rfl
  | succ i ih => rw [firsts_succ, sumP_app, ih]; rfl
theorem firsts_no {i : Nat} (hi : i < 100) : ∀ x ∈ firsts i, x.1 ≠ nmI i := by
  intro x hx
  simp only [firsts, List.mem_map, List.mem_range] at hx
  obtain ⟨j, hj, rfl⟩ := hx
  exact nmI_ne (by omega) hi (by omega)
/-- The program's cache and the document's, beside one another. -/
structure Two (R h : Hp) (c p qt now : Nat) (L : List Ent) (S1 : List Nat) (Lr : List Nm) (S2 : List Nat) : Prop where
  o1 : Own R h S1
  o2 : Own R h S2
  dj : ∀ b, b ∈ S1 → b ∉ S2
  ca : CAt h c qt now L S1
  rc : RC h p qt Lr S2
theorem Two.step1 {R h R' h' : Hp} {c p qt now now' : Nat} {L L' : List Ent} {S1 S1' : List Nat} {Lr : List Nm} {S2 : List Nat} (t : Two R h c p qt now L S1 Lr S2) (s : Stp R h R' h' S1 S1') (a : CAt h' c qt now' L' S1') : Two R' h' c p qt now' L' S1' Lr S2 := by
  obtain ⟨a1, a2, a3⟩ := s.frame t.o2 (fun b hb h1 => t.dj b h1 hb)
  exact ⟨s.own, a1, fun b h1 hb => a2 b hb h1, a, t.rc.keep a3⟩
theorem Two.step2 {R h R' h' : Hp} {c p qt now : Nat} {L : List Ent} {S1 : List Nat} {Lr Lr' : List Nm} {S2 S2' : List Nat} (t : Two R h c p qt now L S1 Lr S2) (s : Stp R h R' h' S2 S2') (a : RC h' p qt Lr' S2') : Two R' h' c p qt now L S1 Lr' S2' := by
  obtain ⟨a1, a2, a3⟩ := s.frame t.o1 t.dj
  exact ⟨a1, s.own, a2, t.ca.keep a3, a⟩
theorem Two.ext {R h h' : Hp} {c p qt now : Nat} {L : List Ent} {S1 : List Nat} {Lr : List Nm} {S2 : List Nat} (t : Two R h c p qt now L S1 Lr S2) (x : Hp.ext h h') : Two R h' c p qt now L S1 Lr S2 :=
  ⟨(Stp.ext0 t.o1 x).own, (Stp.ext0 t.o2 x).own, t.dj, t.ca.ext t.o1 x, t.rc.ext t.o2 x⟩
section
variable {h : Hp} {K : Value → Hp → Prop}
/-- A text of one letter. -/
theorem aw_letter {S : List Nat} {R : Hp} (n : Nat) (w : Own R h S) {F : Value → Hp → Prop} (k : ∀ h', Stp R h R h' S S → Hp.ext h h' → F (.string (strL [n])) h') :
    aw P (Instr.buildSlice t_Sl_uint8 1 #[(0, .int .u8 (n : Int))]) (fun t h => q P h (convert t_Sl_uint8 t_string t) fun s => F s h) h := by
  refine aw_lit (ps := [(0, _)]) u_Sl_uint8 z_uint8 zr_uint8 rfl (by omega) (by intro p hp; rw [List.mem_singleton.1 hp]; exact ⟨rfl, by show _ < 1; omega⟩) fun x h2 n2 _ => ?_
  have n2' : New h t_uint8 1 x h2 (nv .u8 [n]) 1 := n2
  have r2 : Rn h2 .u8 x [n] := n2'.rds
  rw [q_str r2]
  exact k h2 (Stp.ext0 w n2'.ext) n2'.ext
theorem T_CacheTouched {v : Value} {l : List Nat} (r : Rn h .u8 v l) (hl : ∀ x ∈ l, x < 256) (hll : l.length ≤ 9223372036854775807) (k : ∀ h', K (.bool true) h') :
    Cn P n_orloplaw22_CacheTouched #[v] h K := by
  refine F_orloplaw22_CacheTouched ?_
  unfold s_orloplaw22_CacheTouched
  refine T_awake22 fun h1 x1 => ?_
  replace r := r.mono x1.cle
  clear x1
  have w0 : Own h1 h1 [] := ⟨.refl _, fun b hb => (by cases hb), fun b hb => (by cases hb)⟩
  simp -zeta only [GL, RL, Bool.not_true, Bool.false_eq_true, if_false]
  refine T_newCache 12 (by omega) w0 fun c h2 S2 s2 o2 f2 a2 => ?_
  have a2 : CAt h2 c 12 0 [] S2 := a2
  simp -zeta only [q_cnil, GL, RL, Bool.false_eq_true, if_false]
  have inc : ∀ {i : Nat}, i < 100 → IntKind.i64.wrap ((i : Int) + 1) = ((i + 1 : Nat) : Int) := fun {i} hi => wi64 (by omega) (by omega)
  have adx : ∀ {i : Nat}, i < 12 → IntKind.i64.wrap (97 + (i : Int)) = ((97 + i : Nat) : Int) := fun {i} hi => by rw [wi64 (by omega) (by omega)]; omega
  have w8 : ∀ {i : Nat}, i < 12 → IntKind.u8.wrap ((97 + i : Nat) : Int) = ((97 + i : Nat) : Int) := fun {i} hi => wu8i (by omega) (by omega)
  have lt12 : ∀ i : Nat, decide ((i : Int) < 12) = decide (i < 12) := fun i => lt_dec i 12
  refine Lp_mk (fun m vs h' => ∃ (i : Nat) (L : List Ent) (R : Hp) (S : List Nat), i + m = 12 ∧ Hp.ext h1 R ∧ Own R h' S ∧ CAt h' c 12 i L S ∧ L.map ns = firsts i ∧ vs = [.int .i64 (i : Int)]) 12
    ⟨0, [], h1, S2, by omega, .refl _, o2, a2, rfl, rfl⟩ ?_
  rintro m vs h3 ⟨i, L, R3, S3, hi, x3, o3, a3, hL, rfl⟩
  simp -zeta (disch := omega) only [GL, RL, lt12]
  by_cases hlt : i < 12
  · simp -zeta (disch := omega) only [hlt, decide_true, if_true, adx hlt, w8 hlt, GL, RL]
    refine aw_letter (97 + i) o3 fun h4 s4 x4 => ?_
    have lL : L.length = i := by have := congrArg List.length hL; rwa [List.length_map, firsts_len] at this
    have hno : ∀ e ∈ L, e.name ≠ nmI i := fun e he => by
      have : ns e ∈ firsts i := by rw [← hL]; exact List.mem_map_of_mem he
      exact firsts_no (by omega) _ this
    have hs : sumS L = i := by rw [← sumP_map, hL, firsts_sum]
    refine T_Put (nmI i) 1 (by omega) (by omega) (by omega) s4.own (a3.ext o3 x4) (fun qq => by omega) (fun qq => by omega) fun _ _ v5 e R5 h5 S5 n5 z5 u5 s5 a5 r5 => ?_
    rw [flt_all hno, popE_stop (by rw [hs]; show i ≤ 12 - 1; omega)] at a5
    rw [inc (by omega)]
    refine ⟨h5, .refl _, m - 1, by omega, i + 1, L ++ [e], R5, S5, by omega, x3.trans s5.ext, s5.own, a5, ?_, rfl⟩
    have z5' : e.size = 1 := z5
    rw [List.map_append, hL, firsts_succ]
    simp [ns, n5, z5']
  simp -zeta only [hlt, decide_false, Bool.false_eq_true, if_false]
  obtain rfl : i = 12 := by omega
  clear a2 o2 f2 s2 w0 hi hlt
  -- the document's
  refine T_ref22_New 12 o3 fun p h4 s4 x4 o4 pS a4 => ?_
  have a4 : RC h4 p 12 [] [p] := a4
  have W4 : Two R3 h4 c p 12 12 L S3 [] [p] := ⟨s4.own, o4, fun b hb hp => by rw [List.mem_singleton.1 hp] at hb; exact pS hb, a3.ext o3 x4, a4⟩
  replace r := r.mono x3.cle
  clear a3 o3 s4 x4 o4 pS a4 x3
  refine Lp_mk (fun m vs h' => ∃ (i : Nat) (R : Hp) (S : List Nat), i + m = 12 ∧ Hp.ext R3 R ∧ Two R h' c p 12 12 L S3 (firsts i) S ∧ vs = [.int .i64 (i : Int)]) 12
    ⟨0, R3, [p], by omega, .refl _, W4, rfl⟩ ?_
  clear W4
  rintro m vs h5 ⟨i, R5, S5, hi, x5, W5, rfl⟩
  simp -zeta (disch := omega) only [GL, RL, lt12]
  by_cases hlt : i < 12
  · simp -zeta (disch := omega) only [hlt, decide_true, if_true, adx hlt, w8 hlt, GL, RL]
    refine aw_letter (97 + i) W5.o2 fun h6 s6 x6 => ?_
    have W6 := W5.ext x6
    refine T_ref22_Put (nmI i) 1 (by omega) (by omega) (by rw [firsts_sum]; omega) (by rw [firsts_len]; omega) W6.o2 W6.rc (fun qq => by omega) (fun qq => by omega) fun _ _ v7 R7 h7 S7 s7 a7 _ => ?_
    rw [dropP_no (firsts_no (by omega)), popP_stop (by rw [firsts_sum]; show i ≤ 12 - 1; omega)] at a7
    have a7' : RC h7 p 12 (firsts (i + 1)) S7 := by rw [firsts_succ]; exact a7
    rw [inc (by omega)]
    exact ⟨h7, .refl _, m - 1, by omega, i + 1, R7, S7, by omega, x5.trans s7.ext, W6.step2 s7 a7', rfl⟩
  simp -zeta only [hlt, decide_false, Bool.false_eq_true, if_false]
  obtain rfl : i = 12 := by omega
  clear hi hlt
  replace r := r.mono x5.cle
  intro J22
  have q22 : ∀ (t2 : Value) (h' : Hp) (L : List Ent) (now : Nat) (R : Hp) (S1 S2 : List Nat), now ≤ 80 → Two R h' c p 12 now L S1 (L.map ns) S2 → L.length = 12 → (∀ e ∈ L, e.size = 1) → (∀ e ∈ L, e.name ≠ allN) → J22 t2 h' := by
    intro t2 h' L now R S1 S2 hnow W lL ones hno
    simp -zeta only [J22]
    clear J22
    refine T_Put allN 12 (by omega) (by omega) (by omega) W.o1 W.ca (fun qq => by omega) (fun qq => by omega) fun _ _ v6 e R6 h6 S6 n6 z6 u6 s6 a6 r6 => ?_
    rw [flt_all hno, show 12 - (12 : Int).toNat = 0 from rfl, popE_ones ones] at a6 r6
    have W6 := W.step1 s6 a6
    rw [ext0, ext1]
    intro J34
    have q34 : J34 t2 h6 := by
      simp -zeta only [J34]
      clear J34
      have se : sumS ((([] : List Ent)) ++ [e]) = 12 := by simp [sumS, z6]
      have r6' := r6.mono s6.own.sub.cle
      obtain ⟨vL, g0, g1, gr, _⟩ := W6.rc.cells
      refine Lp_mk (fun m vs hh => ∃ i : Nat, i + m = 12 ∧ vs = [t2, .int .i64 (i : Int)] ∧ hh = h6) 12 ⟨0, by omega, rfl, rfl⟩ ?_
      rintro m vs hh ⟨i, hi, rfl, rfl⟩
      simp -zeta (disch := omega) only [GL, RL, lt12]
      by_cases hlt : i < 12
      · have hiL : i < L.length := by omega
        have ex : L[i]? = some L[i] := List.getElem?_eq_getElem hiL
        obtain ⟨b, o, hx1, hx2, _⟩ := it_at (x := ns L[i]) gr (by rw [List.getElem?_map, ex]; rfl)
        obtain ⟨p2, hq1, hq2⟩ := rd_at (P := P) (i := i) (y := .string (L[i]).name) u_Sl_string z_string r6' (by rw [List.getElem?_map, ex]; rfl)
        simp -zeta (disch := omega) only [hlt, decide_true, if_true, GL, RL, rc1, g1, hx1, aj0, hx2, hq1, hq2, q_neT, inc]
        simp only [ns, ne_eq, not_true_eq_false, decide_false, Bool.false_eq_true, if_false]
        exact ⟨hh, .refl _, m - 1, by omega, i + 1, by omega, rfl, rfl⟩
      · simp -zeta only [hlt, decide_false, Bool.false_eq_true, if_false]
        refine T_Used W6.ca ?_
        have b2 : (((12 : Nat) : Int) == 12) = true := rfl
        simp -zeta only [se, GL, RL, b2]
        exact k _
    clear_value J34
    have r6' := r6.mono s6.own.sub.cle
    obtain ⟨_, a, cc, rfl, hc, _⟩ := r6'
    have i2 : ∀ {h' : Hp} {K : Value → Prop}, q P h' (Builtin.len_ #[t_Sl_string] t_int #[.slice a L.length cc]) K = K (.int .i64 12) := fun {h' K} => by rw [q_lenS u_Sl_string, lL]; rfl
    have b0 : ((0 : Int) != 0) = false := rfl
    have b1 : ((12 : Int) != 12) = false := rfl
    simp -zeta only [GL, RL, i2, b0, b1, Bool.false_eq_true, if_false, if_true]
    exact q34
  clear_value J22
  refine Lp_mk (fun m vs h' => ∃ (i now : Nat) (L : List Ent) (R : Hp) (S1 S2 : List Nat), i + m = 60 ∧ i ≤ l.length ∧ now ≤ 12 + i ∧ Hp.ext R5 R ∧ Two R h' c p 12 now L S1 (L.map ns) S2 ∧ (L.map ns).Perm (firsts 12) ∧ vs = [.bool false, .int .i64 (i : Int)]) 60
    ⟨0, 12, L, R5, S3, S5, by omega, by omega, by omega, .refl _, by rw [hL]; exact W5, by rw [hL], rfl⟩ ?_
  clear W5 hL
  rintro m vs h6 ⟨i, now, L, R6, S1, S2, hi, hil, hnow, x6, W6, pm, rfl⟩
  have lL : L.length = 12 := by have := pm.length_eq; rwa [List.length_map, firsts_len] at this
  have ones : ∀ e ∈ L, e.size = 1 := fun e he => by
    have : ns e ∈ firsts 12 := pm.mem_iff.1 (List.mem_map_of_mem he)
    simp only [firsts, List.mem_map] at this
    obtain ⟨j, _, e1⟩ := this
    exact (congrArg Prod.snd e1).symm
  have hno : ∀ e ∈ L, e.name ≠ allN := fun e he => by
    have : ns e ∈ firsts 12 := pm.mem_iff.1 (List.mem_map_of_mem he)
    simp only [firsts, List.mem_map] at this
    obtain ⟨j, _, e1⟩ := this
    rw [show e.name = nmI j from (congrArg Prod.fst e1).symm]
    exact nmI_all
  have fin := fun t2 => q22 t2 h6 L now R6 S1 S2 (by omega) W6 lL ones hno
  obtain ⟨av, cv, rfl, hcv⟩ : ∃ a c, v = .slice a l.length c ∧ l.length ≤ c := by
    obtain ⟨_, a, c, e, hc, _⟩ := r
    exact ⟨a, c, e, hc⟩
  have lnv : ∀ {h : Hp} {K : Value → Prop}, q P h (Builtin.len_ #[t_Sl_uint8] t_int #[.slice av l.length cv]) K = K (.int .i64 (l.length : Nat)) := fun {h K} => q_lenS u_Sl_uint8 _ _ _
  intro J25
  have p25 : i < l.length → i < 60 → J25 h6 := by
    intro g1 g2
    simp -zeta only [J25]
    clear J25 fin
    have ex : (nv .u8 l)[i]? = some (.int .u8 ((l[i] : Nat) : Int)) := by
      rw [nv, List.getElem?_map, List.getElem?_eq_getElem g1]; rfl
    have hlt := hl l[i] (List.getElem_mem g1)
    generalize l[i] = b at ex hlt
    have r6 : Rn h6 .u8 (.slice av l.length cv) l := (r.mono x6.cle).mono W6.o1.sub.cle
    obtain ⟨a, hp1, hp2⟩ := rd_at (P := P) u_Sl_uint8 z_uint8 r6 ex
    have tm : ((b : Nat) : Int).tmod 12 = ((b % 12 : Nat) : Int) := by
      rw [Int.tmod_eq_emod_of_nonneg (by omega)]; omega
    have e2 : IntKind.u8.wrap (97 + ((b : Nat) : Int).tmod 12) = ((97 + b % 12 : Nat) : Int) := by rw [tm, wu8i (by omega) (by omega)]; omega
    simp -zeta (disch := omega) only [GL, RL, hp1, hp2]
    rw [e2]
    refine aw_letter (97 + b % 12) W6.o1 fun h7 s7 x7 => ?_
    have W7 := W6.ext x7
    have hin : (nmI (b % 12), 1) ∈ L.map ns := pm.mem_iff.2 (by simp only [firsts, List.mem_map, List.mem_range]; exact ⟨b % 12, by omega, rfl⟩)
    refine T_Touch (nmI (b % 12)) (by omega) W7.o1 W7.ca (fun qq => ?_) fun A e B h8 S8 hL hn hx s8 a8 => ?_
    · obtain ⟨y, hy, e⟩ := List.mem_map.1 hin
      exact absurd (congrArg Prod.fst e) (qq y hy)
    have W8 := W7.step1 s8 a8
    simp -zeta only [GL, RL, Bool.not_true]
    refine T_ref22_Touch (nmI (b % 12)) W8.o2 W8.rc (by rw [List.length_map]; omega) (fun qq => absurd rfl (qq _ hin)) fun A' x' B' h9 S9 hL' hn' hA' s9 a9 => ?_
    rw [touch_eq hL hn hx hL' hn' hA' (now + 1)] at a9
    have W9 := W8.step2 s9 a9
    simp -zeta only [GL, RL, Bool.not_true, Bool.false_eq_true, if_false, inc (show i < 100 by omega)]
    refine ⟨h9, .refl _, m - 1, by omega, i + 1, now + 1, (A ++ B) ++ [useE e (now + 1)], R6, S8, S9, by omega, by omega, by omega, x6, W9, ?_, rfl⟩
    refine List.Perm.trans ?_ pm
    rw [hL]
    simp only [List.map_append, List.map_cons, List.map_nil, List.append_assoc]
    exact List.Perm.append_left _ (List.perm_append_comm (l₂ := [ns (useE e (now + 1))]))
  clear_value J25
  simp -zeta only [GL, RL, lnv, lt_dec]
  by_cases h1 : i < l.length
  · simp -zeta only [h1, decide_true, if_true, GL, RL]
    by_cases h2 : i < 60
    · rw [if_pos (by simp; omega)]
      exact p25 h1 h2
    · rw [if_neg (by simp; omega)]
      exact fin _
  · simp -zeta only [h1, decide_false, Bool.false_eq_true, if_false, GL, RL]
    exact fin _
end
end Go.Proofs.Ytbglokdjlbknaaa
set_option linter.unusedSimpArgs false
set_option linter.unusedVariables false
set_option maxRecDepth 100000
namespace Go.Proofs.Ytbglokdjlbknaaa
open Go Go.SL Go.Pure
open Go.ChangeShapes Go.WideShapes Go.ChangeAt Go.RowKit
/-- All cells that lie in memory, to read. -/
def readAll (w : World) : Hp := fun b => match w.heap[b]? with
  | some (.cells c e _) => some (.row e c.toList c.size none)
  | _ => none
theorem readAll_sat (w : World) : (readAll w).sat w := by
  intro b o e
  unfold readAll at e
  split at e
  · rename_i c el f hb
    cases e
    refine ⟨_, hb, rfl, rfl, by simp, fun i v hv => by simpa using hv, fun f hf => by cases hf⟩
  · cases e
theorem readAll_own (w : World) (b : Nat) : ¬ (readAll w).own b := by
  rintro ⟨o, e, hr⟩
  unfold readAll at e
  split at e
  · cases e; cases hr
  · cases e
theorem readAll_cell {w : World} {b o : Nat} {v : Value} (e : w.cell? ⟨b, o, none⟩ = some v) : (readAll w).cell ⟨b, o, none⟩ = some v := by
  unfold World.cell? at e
  unfold Hp.cell readAll
  dsimp only at e ⊢
  split at e
  · rename_i c el f hb
    rw [hb]
    simpa using e
  · cases e
theorem below_of {w w' : World} {h' : Hp} (f : Fr (readAll w) h' w w') : Below w.heap.size w w' :=
  ⟨f.os, f.tape, f.output, f.size, fun k hk => f.keep k hk (readAll_own w k)⟩
theorem ownNone : ownKnob Try.prog.godebug = none := by kernel_rfl
theorem laidOut : laidOutB Try.prog = true := by kernel_rfl
/-- The walk of a statement that tells true. -/
theorem tells_true {f : FuncId} {args : Array Value} {w : World} (c : Cn P f args (readAll w) fun v _ => v = .bool true) : Calls P f args w fun e w' => e = .returned (.bool true) ∧ Below w.heap.size w w' :=
  (c.2 w (readAll_sat w)).mono fun e w' ⟨v, h', he, _, f', hv⟩ => ⟨by rw [he, hv], below_of f'⟩
end Go.Proofs.Ytbglokdjlbknaaa
set_option linter.unusedSimpArgs false
set_option linter.unusedVariables false
set_option maxRecDepth 100000
namespace Go.Proofs.Ytbglokdjlbknaaa
open Go Go.SL Go.Pure
open Go.ChangeShapes Go.WideShapes Go.ChangeAt Go.RowKit
theorem ty_open {H : Type} {enc : TypeId × Value → H} {w : World} : ∀ (ty : Ty),
    (∀ (t : TypeId) (fuel : Nat) (cs : List Value) (x : DataW H × List MemPlace), tyB P ty (.inl t) = true → DataW.trod enc P w 0 (fun _ => true) true fuel t cs = some x → ty.Rd (readAll w) cs) ∧
    (∀ (o : Nat) (l : List Field) (n : Nat) (cs : List Value), tyB P ty (.inr (o, l)) = true → cs.length = o + ty.size → (∀ (j : Nat) (f : Field), l[j]? = some f → ∃ y, DataW.trod enc P w 0 (fun _ => true) true n f.type ((cs.drop f.offset).take (P.cellsOf f.type)) = some y) → ty.Rd (readAll w) (cs.drop o)) := by
  intro ty
  induction ty with
  | int k =>
    refine ⟨fun t fuel cs x hb h => ?_, fun o l n cs hb => by simp [tyB] at hb⟩
    unfold tyB at hb
    split at hb
    · rename_i k' hu
      obtain ⟨n, rfl, _, hw⟩ := DataW.trod_int hu h
      rw [beq_iff_eq] at hb
      subst hb
      exact ⟨n, rfl, hw⟩
    · cases hb
  | bool =>
    refine ⟨fun t fuel cs x hb h => ?_, fun o l n cs hb => by simp [tyB] at hb⟩
    unfold tyB at hb
    split at hb
    · rename_i hu
      obtain ⟨b, rfl, _⟩ := DataW.trod_bool hu h
      exact ⟨b, rfl⟩
    · cases hb
  | str =>
    refine ⟨fun t fuel cs x hb h => ?_, fun o l n cs hb => by simp [tyB] at hb⟩
    unfold tyB at hb
    split at hb
    · rename_i hu
      obtain ⟨s, rfl, _, hs⟩ := DataW.trod_string hu h
      exact ⟨s, rfl, Nat.le_trans hs (by decide)⟩
    · cases hb
  | sl e ih =>
    refine ⟨fun t fuel cs x hb h => ?_, fun o l n cs hb => by simp [tyB] at hb⟩
    unfold tyB at hb
    split at hb
    · rename_i te hu
      simp only [Bool.and_eq_true, beq_iff_eq, decide_eq_true_eq] at hb
      obtain ⟨⟨hc, h0⟩, hb⟩ := hb
      rcases DataW.trod_slice hu h with ⟨rfl, _⟩ | ⟨a', len, cap, elems, rest, m, _, rfl, _, _, hl, hm, hlen, hel, _, _⟩
      · exact ⟨_, [], rfl, ⟨none, 0, rfl, Nat.le_refl _, .inl rfl⟩, by simp, by simp⟩
      · have each : ∀ i, i < len → ∃ cs : List Value, cs.length = e.size ∧ e.Rd (readAll w) cs ∧ ∀ j y, cs[j]? = some y → w.cell? ((a'.add (i * e.size)).add j) = some y := by
          intro i hi
          have h1 := hel i hi
          rw [hc, List.getElem?_eq_getElem (by omega), Option.bind_eq_some_iff] at h1
          obtain ⟨cs, hcs, htr⟩ := h1
          obtain ⟨_, hlen, hcell⟩ := World.cells?_some hcs
          refine ⟨cs, hlen, ih.1 te m cs _ hb htr, fun j y ey => ?_⟩
          have hlt := (List.getElem?_eq_some_iff.1 ey).1
          rw [hcell j (by omega)]
          exact ey
        obtain ⟨f, hfn⟩ : ∃ f : Nat → List Value, ∀ i, i < len → (f i).length = e.size ∧ e.Rd (readAll w) (f i) ∧ ∀ j y, (f i)[j]? = some y → w.cell? ((a'.add (i * e.size)).add j) = some y := by
          refine ⟨fun i => if q : i < len then (each i q).choose else [], fun i hi => ?_⟩
          simp only [hi, dif_pos]
          exact (each i hi).choose_spec
        have hget : ∀ (i : Nat) (x : List Value), ((List.range len).map f)[i]? = some x → i < len ∧ x = f i := by
          intro i x e
          have hi : i < len := by simpa using (List.getElem?_eq_some_iff.1 e).1
          rw [List.getElem?_map, List.getElem?_range hi] at e
          exact ⟨hi, by simpa using e.symm⟩
        have ll : ((List.range len).map f).length = len := by simp
        have hm' : cap ≤ 9223372036854775807 := Nat.le_trans hm (by decide)
        refine ⟨_, (List.range len).map f, rfl, ⟨some a', cap, by rw [ll], by rw [ll]; exact hl, ?_⟩, by rw [ll]; omega, fun x hx => ?_⟩
        · by_cases hl0 : len = 0
          · left; subst hl0; rfl
          · right
            obtain ⟨l0, _, c0⟩ := hfn 0 (by omega)
            have hc0 := c0 0 _ (List.getElem?_eq_getElem (by omega))
            obtain ⟨b, o, sp⟩ := a'
            have hsp : sp = none := by
              cases sp with
              | none => rfl
              | some s =>
                unfold World.cell? Addr.add at hc0
                dsimp only at hc0
                split at hc0 <;> simp at hc0
            subst hsp
            refine ⟨b, o, rfl, fun i x e j y ey => ?_⟩
            obtain ⟨hi, rfl⟩ := hget i x e
            have := (hfn i hi).2.2 j y ey
            rw [add_off, add_off] at this
            exact readAll_cell this
        · obtain ⟨i, hi, rfl⟩ := List.mem_map.1 hx
          have hi : i < len := by simpa using hi
          exact ⟨(hfn i hi).1, (hfn i hi).2.1⟩
    · cases hb
  | arr n e ih =>
    refine ⟨fun t fuel cs x hb h => ?_, fun o l n cs hb => by simp [tyB] at hb⟩
    unfold tyB at hb
    split at hb
    · rename_i m te hu
      simp only [Bool.and_eq_true, beq_iff_eq] at hb
      obtain ⟨⟨⟨rfl, hc⟩, hct⟩, hb⟩ := hb
      obtain ⟨xs, k, _, _, hlen, hl, hel⟩ := DataW.trod_array hu h
      rw [hct] at hlen
      have piece : ∀ i, i < m → ((cs.drop (i * e.size)).take e.size).length = e.size ∧ e.Rd (readAll w) ((cs.drop (i * e.size)).take e.size) := fun i hi => by
        have h1 := hel i hi
        rw [hc, List.getElem?_eq_getElem (by omega)] at h1
        refine ⟨?_, ih.1 te k _ _ hb h1⟩
        rw [List.length_take, List.length_drop, hlen]
        have : (i + 1) * e.size ≤ m * e.size := Nat.mul_le_mul_right _ hi
        rw [Nat.succ_mul] at this
        omega
      have flat : ∀ (m : Nat) (cs : List Value), cs.length = m * e.size → ((List.range m).map fun i => (cs.drop (i * e.size)).take e.size).flatten = cs := by
        intro m
        induction m with
        | zero => intro cs hl; obtain rfl : cs = [] := List.eq_nil_of_length_eq_zero (by simpa using hl); rfl
        | succ m ihm =>
          intro cs hl
          rw [Nat.succ_mul] at hl
          rw [List.range_succ_eq_map, List.map_cons, List.map_map, List.flatten_cons, Nat.zero_mul, List.drop_zero]
          have e1 : ((fun i => (cs.drop (i * e.size)).take e.size) ∘ Nat.succ) = fun i => ((cs.drop e.size).drop (i * e.size)).take e.size := by
            funext i
            show (cs.drop ((i + 1) * e.size)).take e.size = _
            rw [List.drop_drop, Nat.succ_mul, Nat.add_comm]
          rw [e1, ihm (cs.drop e.size) (by rw [List.length_drop]; omega), List.take_append_drop]
      refine ⟨_, (flat m cs hlen).symm, by simp, fun x hx => ?_⟩
      obtain ⟨i, hi, rfl⟩ := List.mem_map.1 hx
      exact piece i (by simpa using hi)
    · cases hb
  | rcd fs ih =>
    refine ⟨fun t fuel cs x hb h => ?_, fun o l n cs hb => by simp [tyB] at hb⟩
    unfold tyB at hb
    split at hb
    · rename_i fa hu
      simp only [Bool.and_eq_true, beq_iff_eq] at hb
      obtain ⟨xs, n, _, _, hl, hlen, hf⟩ := DataW.trod_struct hu h
      have := ih.2 0 fa.toList n cs hb.2 (by rw [hl, hb.1, Nat.zero_add]) fun j f hj => by
        have := hf j f (by simpa using hj)
        have hlt : j < xs.length := by
          have := (List.getElem?_eq_some_iff.1 hj).1
          simp at this
          omega
        exact ⟨_, this.trans (List.getElem?_eq_getElem hlt)⟩
      exact this
    · cases hb
  | nil =>
    refine ⟨fun t fuel cs x hb h => by simp [tyB] at hb, fun o l n cs hb hl hf => ?_⟩
    exact List.drop_of_length_le (by rw [hl]; exact Nat.le_refl _)
  | cons a b iha ihb =>
    refine ⟨fun t fuel cs x hb h => by simp [tyB] at hb, fun o l n cs hb hl hf => ?_⟩
    unfold tyB at hb
    cases l with
    | nil => cases hb
    | cons f l =>
      simp only [Bool.and_eq_true, beq_iff_eq] at hb
      obtain ⟨⟨⟨ho, hc⟩, h1⟩, h2⟩ := hb
      have hsz : (Ty.cons a b).size = a.size + b.size := rfl
      obtain ⟨y, hy⟩ := hf 0 f rfl
      rw [ho, hc] at hy
      refine ⟨(cs.drop o).take a.size, cs.drop (o + a.size), by rw [← List.drop_drop, List.take_append_drop], ?_, iha.1 f.type n _ _ h1 hy, ihb.2 (o + a.size) l n cs h2 (by omega) fun j g hj => hf (j + 1) g hj⟩
      rw [List.length_take, List.length_drop]
      omega
/-- A thing that is handed in. -/
theorem rd_open {H : Type} {enc : TypeId × Value → H} {w : World} {v : Value} {d : DataW H} {p : List MemPlace} (ty : Ty) {t : TypeId} (hb : tyB P ty (.inl t) = true) (h : DataW.Trod enc P w 0 (fun _ => true) true t v d p) : ty.Rd (readAll w) v.cells.toList := by
  obtain ⟨fuel, hf⟩ := h
  exact (ty_open ty).1 t fuel _ _ hb hf
end Go.Proofs.Ytbglokdjlbknaaa
set_option linter.unusedSimpArgs false
set_option linter.unusedVariables false
namespace Go.SL
open Go
theorem Ty.Rd.asNats {R : Hp} {vs : List Value} {k : IntKind} {B : Nat} (hB : ∀ n : Int, (Lit.int k n).wf = true → 0 ≤ n ∧ n < B) (h : (Ty.sl (.int k)).Rd R vs) : ∃ (v : Value) (l : List Nat), vs = [v] ∧ Rn R k v l ∧ (∀ x ∈ l, x < B) ∧ l.length ≤ 9223372036854775807 := by
  obtain ⟨v, items, rfl, ⟨a, c, hv, hc, hcell⟩, hl, hi⟩ := h
  have hf : ∀ x ∈ items, ∃ n : Nat, n < B ∧ x = [.int k (n : Int)] := fun x hx => by
    obtain ⟨_, n, rfl, hw⟩ := hi x hx
    have := hB n hw
    exact ⟨n.toNat, by omega, by rw [Int.toNat_of_nonneg this.1]⟩
  obtain ⟨l, rfl, hb⟩ : ∃ l : List Nat, items = l.map (fun (n : Nat) => [Value.int k (n : Int)]) ∧ ∀ x ∈ l, x < B := by
    clear hcell hc hv hl hi
    induction items with
    | nil => exact ⟨[], rfl, by simp⟩
    | cons x xs ih =>
      obtain ⟨l, e, hb⟩ := ih fun y hy => hf y (List.mem_cons_of_mem _ hy)
      obtain ⟨n, hn, ex⟩ := hf x (by simp)
      refine ⟨n :: l, by rw [e, ex]; rfl, fun y hy => ?_⟩
      rcases List.mem_cons.1 hy with rfl | hy
      · exact hn
      · exact hb y hy
  rw [List.length_map] at hv hc hl
  refine ⟨v, l, rfl, ⟨by rw [nv_len]; omega, a, c, hv, hc, ?_⟩, hb, hl⟩
  rcases hcell with h0 | ⟨b, o, ha, hcl⟩
  · left; simpa using h0
  · right
    refine ⟨b, o, ha, fun i x e => ?_⟩
    have hi : i < l.length := by have := (List.getElem?_eq_some_iff.1 e).1; rwa [nv_len] at this
    have := hcl i [.int k ((l[i] : Nat) : Int)] (by rw [List.getElem?_map, List.getElem?_eq_getElem hi]; rfl) 0 _ rfl
    rw [nv_get _ _ _ hi] at e
    rw [← Option.some.inj e, ← this]
    show R.cell _ = R.cell _
    congr 2
    show o + i = o + i * 1 + 0
    omega
theorem wf_u8n (n : Int) (h : (Lit.int .u8 n).wf = true) : 0 ≤ n ∧ n < (256 : Nat) := by
  simp [Lit.wf, IntKind.min, IntKind.max, IntKind.signed, IntKind.bits] at h
  omega
end Go.SL
set_option linter.unusedSimpArgs false
set_option linter.unusedVariables false
set_option maxRecDepth 100000
namespace Go.Proofs.Ytbglokdjlbknaaa
open Go Go.SL Go.Pure
open Go.ChangeShapes Go.WideShapes Go.ChangeAt Go.RowKit
namespace cacheTouched
theorem lifted (os : Os) (started : os.Started) (H : Type) (enc : TypeId × Value → H) :
    ReturnsInHanded {} Try.checked os n_orloplaw22_CacheTouched .any (Rows.cacheTouchedSpec.pre6 enc Try.prog Try.f4 Rows.cacheTouchedRow.domain false) (Rows.cacheTouchedSpec.post enc Try.prog Try.f4 false true false false) := by
  refine returnsInHanded_of_change_sized (C := Try.checked) ownNone started (by kernel_rfl) Try.func4
    (ChangeSpec.witness6 (enc := enc) (C := Try.checked) false ⟨#[], #[.slice none 0 0], []⟩ 8 (by kernel_rfl) (by kernel_rfl) (by kernel_rfl) (by kernel_rfl)) ?_
  intro W base args ds gs before hval0 hW hcnd hsz0 _
  have hval : ∀ (j : Nat) t v, Try.f4.params[j]? = some t → args[j]? = some v → Value.okWide Try.prog W .any base t v := hval0
  have hW' := hW
  obtain ⟨p, q, hA0, hV, rfl, hfz, hnd⟩ := hW
  have hA : DataW.TrodAll enc Try.prog W 0 (fun _ => true) true Try.f4.params.toList args.toList ds p := hA0
  rw [Try.params4] at hA hval
  obtain ⟨v0, vs0, d0, ds0, p0, q0, hargs, rfl, rfl, h0, r0⟩ := trodAll_cons hA
  obtain ⟨rfl, rfl, rfl⟩ := trodAll_nil r0
  obtain rfl : args = #[v0] := by cases args; simp_all
  obtain ⟨rfl, rfl⟩ := trodVars_none hV
  have lt0 : ∀ x ∈ p0, x.block < W.heap.size := by obtain ⟨m, hm⟩ := h0; exact DataW.trod_lt m _ _ _ hm
  obtain ⟨a0, n0, c0, rfl⟩ := okWide_slice Try.underlying32 (hval 0 32 v0 rfl rfl)
  obtain ⟨w0, l0, e0, r0', hb0, hl0⟩ := Ty.Rd.asNats wf_u8n (rd_open (.sl (.int .u8)) (by kernel_rfl) h0)
  have e0 : [Value.slice a0 n0 c0] = [w0] := e0
  simp only [List.cons.injEq, and_true] at e0
  subst e0
  clear hA0 hval0 hsz0
  refine (tells_true (T_CacheTouched r0' hb0 hl0 (K := fun v _ => v = .bool true) fun _ => rfl)).mono fun e W' ⟨he, bel⟩ => ?_
  subst he
  exact ⟨_, rfl, _, _, _, [], _, [], hW', trodAll_mk1 (shut_bool Try.underlying4 _), (trodAll_cons_mk (Below.trod laidOut (by kernel_rfl) (of_decide_eq_true (by kernel_rfl)) h0 bel lt0) trodAll_mk0), rfl, bel.frame _, fun h => by cases h⟩
theorem over : Rows.cacheTouchedRow.holds Try.pinned (OpenSpec.ofChange Rows.cacheTouchedSpec) :=
  OpenClaim.holds_of_wide 4 Try.f4 rfl rfl rfl rfl rfl rfl rfl ⟨rfl, rfl, rfl, rfl, rfl⟩ rfl rfl rfl rfl rfl (by kernel_rfl) Try.func4 (by kernel_rfl)
    (of_decide_eq_true (by kernel_rfl)) (by unfold Func.isWrapper; first | (rw [if_pos (by decide +kernel)]; kernel_rfl) | (rw [if_neg (by decide +kernel)]; exact ⟨rfl, rfl⟩))
    (fun os started H enc _ => lifted os started H enc)
theorem proved : Rows.CacheTouchedSaid := over
end cacheTouched
/-- The row, under a short name. -/
theorem cacheTouched_holds : Rows.CacheTouchedSaid := cacheTouched.proved
end Go.Proofs.Ytbglokdjlbknaaa
