/- Slices of slices; arrays told whole. Conditions: each lemma names its own; plain lemmas over any program. -/
import Derived.Test.YtnecdbclhdbaoaaSLg
set_option linter.unusedSimpArgs false
set_option linter.unusedVariables false
namespace Go.SL
open Go

section
variable {P : Program} {h : Hp}

theorem pk_bound (k : IntKind) (x y : Nat) (hx : x ≤ y) (code : BoundsCode) : peek P h (Instr.sliceBound (.int k (x : Int)) y code) = some x := by
  show peek P h (if 0 ≤ (x : Int) ∧ (x : Int) ≤ (y : Int) then _ else _) = _
  rw [if_pos ⟨by omega, by omega⟩]
  rfl

def cut (a : Option Addr) (c lo s : Nat) : Option Addr := if c = lo then a else a.map (·.add (lo * s))

theorem q_slLo {t e s : Nat} {K : Value → Prop} (ht : P.underlying t = some (.slice e)) (hs : sz P e = some s) (a : Option Addr) (n c : Nat) (k : IntKind) (lo : Nat) (h1 : lo ≤ n) (hc : n ≤ c) :
    q P h (Instr.sliceAt t (.slice a n c) (some (.int k lo)) none none) K = K (.slice (cut a c lo s) (n - lo) (c - lo)) := q_of (by
  show peek P h (Sem.bind (underlying t) _) = _
  rw [peek_bind, pk_und ht, Option.bind_some]
  show peek P h (Sem.bind (underlying t) _) = _
  rw [peek_bind, pk_und ht, Option.bind_some]
  show peek P h (Sem.bind (Sem.bind (Instr.sliceBound (.int k (lo : Int)) n .sliceB) _) _) = _
  rw [peek_bind, peek_bind, pk_bound k lo n h1, Option.bind_some]
  show peek P h (Sem.bind (sizeOf e) _) = _
  rw [peek_bind, pk_size hs]
  rfl) K
theorem q_slHi {t e s : Nat} {K : Value → Prop} (ht : P.underlying t = some (.slice e)) (hs : sz P e = some s) (a : Option Addr) (n c : Nat) (k : IntKind) (hi : Nat) (h1 : hi ≤ c) :
    q P h (Instr.sliceAt t (.slice a n c) none (some (.int k hi)) none) K = K (.slice (cut a c 0 s) hi c) := q_of (by
  show peek P h (Sem.bind (underlying t) _) = _
  rw [peek_bind, pk_und ht, Option.bind_some]
  show peek P h (Sem.bind (underlying t) _) = _
  rw [peek_bind, pk_und ht, Option.bind_some]
  show peek P h (Sem.bind (Sem.bind (Instr.sliceBound (.int k (hi : Int)) c .sliceAcap) _) _) = _
  rw [peek_bind, peek_bind, pk_bound k hi c h1, Option.bind_some]
  show peek P h (Sem.bind (sizeOf e) _) = _
  rw [peek_bind, pk_size hs]
  rfl) K
theorem pk_boundsLH (n c : Nat) (k k' : IntKind) (lo hi : Nat) (h1 : lo ≤ hi) (h2 : hi ≤ c) : peek P h (Instr.sliceBounds true n c (some (.int k lo)) (some (.int k' hi)) none) = some (lo, hi, c) := by
  have e1 : peek P h (Instr.sliceBound (.int k' (hi : Int)) c .sliceAcap) = some hi := pk_bound k' hi c h2 _
  have e2 : peek P h (Instr.sliceBound (.int k (lo : Int)) hi .sliceB) = some lo := pk_bound k lo hi h1 _
  unfold Instr.sliceBounds
  simp only [if_true, Option.isSome_none, Bool.false_eq_true, if_false, pure_bind, pk_bind e1, pk_bind e2]
  rfl
theorem q_slLH {t e s : Nat} {K : Value → Prop} (ht : P.underlying t = some (.slice e)) (hs : sz P e = some s) (a : Option Addr) (n c : Nat) (k k' : IntKind) (lo hi : Nat) (h1 : lo ≤ hi) (h2 : hi ≤ c) :
    q P h (Instr.sliceAt t (.slice a n c) (some (.int k lo)) (some (.int k' hi)) none) K = K (.slice (cut a c lo s) (hi - lo) (c - lo)) := q_of (by
  show peek P h (Sem.bind (underlying t) _) = _
  rw [peek_bind, pk_und ht, Option.bind_some]
  show peek P h (Sem.bind (underlying t) _) = _
  rw [peek_bind, pk_und ht, Option.bind_some]
  show peek P h (Sem.bind (Instr.sliceBounds true n c _ _ none) _) = _
  rw [peek_bind, pk_boundsLH n c k k' lo hi h1 h2, Option.bind_some]
  show peek P h (Sem.bind (sizeOf e) _) = _
  rw [peek_bind, pk_size hs]
  rfl) K

theorem pk_boundsLHM (n c : Nat) (k k' k2 : IntKind) (lo hi mx : Nat) (h1 : lo ≤ hi) (h2 : hi ≤ mx) (h3 : mx ≤ c) : peek P h (Instr.sliceBounds true n c (some (.int k lo)) (some (.int k' hi)) (some (.int k2 mx))) = some (lo, hi, mx) := by
  have e0 : peek P h (Instr.sliceBound (.int k2 (mx : Int)) c .slice3Acap) = some mx := pk_bound k2 mx c h3 _
  have e1 : peek P h (Instr.sliceBound (.int k' (hi : Int)) mx .slice3B) = some hi := pk_bound k' hi mx h2 _
  have e2 : peek P h (Instr.sliceBound (.int k (lo : Int)) hi .slice3C) = some lo := pk_bound k lo hi h1 _
  unfold Instr.sliceBounds
  simp only [if_true, Option.isSome_some, pk_bind e0, pk_bind e1, pk_bind e2]
  rfl
theorem q_slLHM {t e s : Nat} {K : Value → Prop} (ht : P.underlying t = some (.slice e)) (hs : sz P e = some s) (a : Option Addr) (n c : Nat) (k k' k2 : IntKind) (lo hi mx : Nat) (h1 : lo ≤ hi) (h2 : hi ≤ mx) (h3 : mx ≤ c) :
    q P h (Instr.sliceAt t (.slice a n c) (some (.int k lo)) (some (.int k' hi)) (some (.int k2 mx))) K = K (.slice (cut a mx lo s) (hi - lo) (mx - lo)) := q_of (by
  show peek P h (Sem.bind (underlying t) _) = _
  rw [peek_bind, pk_und ht, Option.bind_some]
  show peek P h (Sem.bind (underlying t) _) = _
  rw [peek_bind, pk_und ht, Option.bind_some]
  show peek P h (Sem.bind (Instr.sliceBounds true n c _ _ _) _) = _
  rw [peek_bind, pk_boundsLHM n c k k' k2 lo hi mx h1 h2 h3, Option.bind_some]
  show peek P h (Sem.bind (sizeOf e) _) = _
  rw [peek_bind, pk_size hs]
  rfl) K
/-- Less capacity. -/
theorem Rds.capped {s : Nat} {a : Option Addr} {n c c' : Nat} {ys : List Value} (r : Rds h s (.slice a n c) ys n) (h1 : n ≤ c') : Rds h s (.slice a n c') ys n := by
  obtain ⟨hl, a', cc, e, hc, q⟩ := r
  simp only [Value.slice.injEq] at e
  obtain ⟨rfl, -, rfl⟩ := e
  exact ⟨hl, _, _, rfl, h1, q⟩
theorem Rds.cut {s : Nat} {a : Option Addr} {n c : Nat} {ys : List Value} (r : Rds h s (.slice a n c) ys n) (lo hi : Nat) (h1 : lo ≤ hi) (h2 : hi ≤ n) :
    Rds h s (.slice (SL.cut a c lo s) (hi - lo) (c - lo)) ((ys.take (hi * s)).drop (lo * s)) (hi - lo) := by
  obtain ⟨hl, a', c', e, hc, q⟩ := r
  simp only [Value.slice.injEq] at e
  obtain ⟨rfl, -, rfl⟩ := e
  have hle : hi * s ≤ n * s := Nat.mul_le_mul_right s h2
  refine ⟨by rw [List.length_drop, List.length_take, hl, Nat.sub_mul]; omega, _, _, rfl, by omega, ?_⟩
  rcases q with rfl | ⟨b, o, rfl, hy⟩
  · exact .inl (by omega)
  · unfold SL.cut
    split
    · by_cases h0 : hi - lo = 0
      · refine .inr ⟨b, o, rfl, fun i x e => ?_⟩
        have hl0 : ((ys.take (hi * s)).drop (lo * s)).length = 0 := by
          rw [List.length_drop, List.length_take, hl]
          have : hi = lo := by omega
          subst this
          omega
        rw [List.eq_nil_of_length_eq_zero hl0] at e
        cases e
      · omega
    · refine .inr ⟨b, o + lo * s, by rw [Option.map_some, add_off], fun i x e => ?_⟩
      rw [List.getElem?_drop, List.getElem?_take] at e
      split at e
      · rw [Nat.add_assoc]; exact hy _ x e
      · cases e

theorem Rn.cut {k : IntKind} {a : Option Addr} {n c : Nat} {l : List Nat} (r : Rn h k (.slice a n c) l) (lo hi : Nat) (h1 : lo ≤ hi) (h2 : hi ≤ l.length) :
    Rn h k (.slice (SL.cut a c lo 1) (hi - lo) (c - lo)) ((l.take hi).drop lo) := by
  have hn : n = l.length := by
    obtain ⟨_, a', c', e, _⟩ := r
    simp only [Value.slice.injEq] at e
    exact e.2.1
  subst hn
  have := Rds.cut (h := h) (s := 1) r lo hi h1 h2
  unfold Rn
  have e1 : nv k ((l.take hi).drop lo) = ((nv k l).take (hi * 1)).drop (lo * 1) := by
    unfold nv; rw [Nat.mul_one, Nat.mul_one, List.map_drop, List.map_take]
  have e2 : ((l.take hi).drop lo).length = hi - lo := by rw [List.length_drop, List.length_take]; omega
  rw [e1, e2]
  exact this

/-- A part of a row of numbers, as the walk meets it. -/
theorem q_slRn {t e : Nat} {K : Value → Prop} {kk : IntKind} {w : Value} {l : List Nat} (ht : P.underlying t = some (.slice e)) (hs : sz P e = some 1) (r : Rn h kk w l) (k : IntKind) (lo : Nat) (h1 : lo ≤ l.length)
    (hk : ∀ w', Rn h kk w' (l.drop lo) → K w') : q P h (Instr.sliceAt t w (some (.int k lo)) none none) K := by
  obtain ⟨a, c, rfl, hc⟩ := r.shape
  rw [q_slLo ht hs a _ c k lo h1 hc]
  refine hk _ ?_
  have := r.cut lo l.length h1 (Nat.le_refl _)
  rwa [List.take_length] at this
theorem q_slRnHi {t e : Nat} {K : Value → Prop} {kk : IntKind} {w : Value} {l : List Nat} (ht : P.underlying t = some (.slice e)) (hs : sz P e = some 1) (r : Rn h kk w l) (k : IntKind) (hi : Nat) (h1 : hi ≤ l.length)
    (hk : ∀ w', Rn h kk w' (l.take hi) → K w') : q P h (Instr.sliceAt t w none (some (.int k hi)) none) K := by
  obtain ⟨a, c, rfl, hc⟩ := r.shape
  rw [q_slHi ht hs a _ c k hi (by omega)]
  refine hk _ ?_
  have := r.cut 0 hi (by omega) h1
  simpa using this
theorem q_slRnLH {t e : Nat} {K : Value → Prop} {kk : IntKind} {w : Value} {l : List Nat} (ht : P.underlying t = some (.slice e)) (hs : sz P e = some 1) (r : Rn h kk w l) (k k' : IntKind) (lo hi : Nat) (h0 : lo ≤ hi) (h1 : hi ≤ l.length)
    (hk : ∀ w', Rn h kk w' ((l.take hi).drop lo) → K w') : q P h (Instr.sliceAt t w (some (.int k lo)) (some (.int k' hi)) none) K := by
  obtain ⟨a, c, rfl, hc⟩ := r.shape
  rw [q_slLH ht hs a _ c k k' lo hi h0 (by omega)]
  exact hk _ (r.cut lo hi h0 h1)

theorem q_slRnLHM {t e : Nat} {K : Value → Prop} {kk : IntKind} {w : Value} {l : List Nat} (ht : P.underlying t = some (.slice e)) (hs : sz P e = some 1) (r : Rn h kk w l) (k k' k2 : IntKind) (lo hi : Nat) (h0 : lo ≤ hi) (h1 : hi ≤ l.length)
    (hk : ∀ w', (∀ H, Rn H kk w l → Rn H kk w' ((l.take hi).drop lo)) → K w') : q P h (Instr.sliceAt t w (some (.int k lo)) (some (.int k' hi)) (some (.int k2 hi))) K := by
  obtain ⟨a, c, rfl, hc⟩ := r.shape
  rw [q_slLHM ht hs a _ c k k' k2 lo hi hi h0 (Nat.le_refl _) (by omega)]
  refine hk _ fun H r => ?_
  have e1 : nv kk ((l.take hi).drop lo) = ((nv kk l).take (hi * 1)).drop (lo * 1) := by
    unfold nv; rw [Nat.mul_one, Nat.mul_one, List.map_drop, List.map_take]
  have e2 : ((l.take hi).drop lo).length = hi - lo := by rw [List.length_drop, List.length_take]; omega
  have hi' : Rds H 1 (.slice a hi hi) ((nv kk l).take hi) hi := by
    obtain ⟨hl, a', cc, e, hcc, q⟩ := r
    simp only [Value.slice.injEq] at e
    obtain ⟨rfl, -, rfl⟩ := e
    refine ⟨by rw [List.length_take, nv_len]; omega, _, _, rfl, Nat.le_refl _, ?_⟩
    rcases q with q | ⟨b, o, rfl, hy⟩
    · exact .inl (by omega)
    · refine .inr ⟨b, o, rfl, fun i x ex => ?_⟩
      rw [List.getElem?_take] at ex
      split at ex
      · exact hy i x ex
      · cases ex
  have := hi'.cut lo hi h0 (Nat.le_refl _)
  unfold Rn
  rw [e1, e2]
  simp only [Nat.mul_one] at this ⊢
  rw [List.take_of_length_le (l := (nv kk l).take hi) (by rw [List.length_take]; omega)] at this
  exact this

/-! ### Arrays and structs told whole -/
theorem pk_loadCells {b o : Nat} : ∀ (ys : List Value) (i : Nat) (acc : Array Value), (∀ (j : Nat) (x : Value), ys[j]? = some x → h.cell ⟨b, o + (i + j), none⟩ = some x) →
    peek P h (loadCellsFrom ⟨b, o, none⟩ i ys.length acc) = some (acc ++ ys.toArray) := by
  intro ys
  induction ys with
  | nil => intro i acc _; simp; rfl
  | cons y ys ih =>
    intro i acc hy
    have h0 := hy 0 y rfl
    simp only [Nat.add_zero] at h0
    show peek P h (Sem.bind (load ((⟨b, o, none⟩ : Addr).add i)) fun v => loadCellsFrom ⟨b, o, none⟩ (i + 1) ys.length (acc.push v)) = _
    rw [peek_bind, add_off]
    have : peek P h (load ⟨b, o + i, none⟩) = some y := by
      show peek P h (Sem.load .plain _ .pure) = _
      simp only [peek, h0]
    rw [this, Option.bind_some, ih (i + 1) (acc.push y) (fun j x e => by
      have := hy (j + 1) x e
      rw [show i + 1 + j = i + (j + 1) by omega]
      exact this)]
    simp
theorem q_ldAgg {t : Nat} {d : TypeDesc} {K : Value → Prop} {b o : Nat} {ys : List Value} (ht : P.underlying t = some d) (hd : aggB d = true) (hs : sz P t = some ys.length)
    (hy : ∀ (j : Nat) (x : Value), ys[j]? = some x → h.cell ⟨b, o + j, none⟩ = some x) : q P h (Instr.loadAt t (.pointer (some ⟨b, o, none⟩))) K = K (.agg ys.toArray) := q_of (by
  show peek P h (Sem.bind (isAgg t) _) = _
  rw [peek_bind, pk_isAgg ht, Option.bind_some, hd]
  show peek P h (Sem.bind (sizeOf t) _) = _
  rw [peek_bind, pk_size hs, Option.bind_some]
  show peek P h (Sem.bind (loadCellsFrom ⟨b, o, none⟩ 0 ys.length #[]) _) = _
  rw [peek_bind, pk_loadCells ys 0 #[] (fun j x e => by simpa using hy j x e)]
  simp; rfl) K
/-- A row that is read whole. -/
theorem q_ldRow {t : Nat} {d : TypeDesc} {K : Value → Prop} {b : Nat} {e : TypeId} {ys : List Value} {cap : Nat} {fz : Option (Nat × Nat)} (ht : P.underlying t = some d) (hd : aggB d = true) (hs : sz P t = some ys.length)
    (hb : h b = some (.row e ys cap fz)) : q P h (Instr.loadAt t (.pointer (some ⟨b, 0, none⟩))) K = K (.agg ys.toArray) :=
  q_ldAgg ht hd hs fun j x ex => by rw [cell_row hb, Nat.zero_add]; exact ex
theorem q_resRow {t : Nat} {d : TypeDesc} {K : Value → Prop} {b : Nat} {e : TypeId} {ys : List Value} {cap : Nat} {fz : Option (Nat × Nat)} (ht : P.underlying t = some d) (hd : aggB d = true) (hs : sz P t = some ys.length)
    (hb : h b = some (.row e ys cap fz)) : q P h ((asAddr (.pointer (some ⟨b, 0, none⟩))).bind (loadVar t)) K = K (.agg ys.toArray) := q_ldRow ht hd hs hb

theorem awp_overCells {b : Nat} {e : TypeId} {cap : Nat} {f : Nat × Nat} : ∀ (ys xs : List Value) (h : Hp) (K : Unit → Hp → Prop) (i : Nat), h b = some (.row e xs cap (some f)) → (∀ y ∈ ys, flat y = true) → xs.length = i + ys.length →
    (∀ i, i < xs.length → ¬ (f.1 ≤ i ∧ i < f.2)) → K () (h.set b (.row e (xs.take i ++ ys) cap (some f))) → awp P (storeCells ⟨b, 0, none⟩ ys i) K h := by
  intro ys
  induction ys with
  | nil =>
    intro xs h K i hb _ hl _ k
    have : h.set b (.row e (xs.take i ++ []) cap (some f)) = h := by
      funext j
      unfold Hp.set
      split
      · rename_i e1; subst e1; rw [hb, List.append_nil, List.take_of_length_le (by simp at hl; omega)]
      · rfl
    rw [this] at k
    exact k
  | cons y ys ih =>
    intro xs h K i hb hfl hl hf k
    simp only [List.length_cons] at hl
    show awp P (Sem.bind (store ((⟨b, 0, none⟩ : Addr).add i) y) fun _ => storeCells ⟨b, 0, none⟩ ys (i + 1)) K h
    rw [awp_bind, add_off, Nat.zero_add]
    refine ⟨hfl y (List.mem_cons_self ..), ?_⟩
    rw [put_row hb (by omega) (hf i (by omega))]
    refine ih (xs.set i y) _ K (i + 1) (Hp.set_same ..) (fun z hz => hfl z (List.mem_cons_of_mem _ hz)) (by rw [List.length_set]; omega) (fun j hj => hf j (by rwa [List.length_set] at hj)) ?_
    rw [Hp.set_set]
    have : (xs.set i y).take (i + 1) ++ ys = xs.take i ++ y :: ys := by
      rw [List.take_succ_eq_append_getElem (by rw [List.length_set]; omega), List.getElem_set_self, List.take_set_of_le (Nat.le_refl _), List.append_assoc]
      rfl
    rw [this]
    exact k
/-- A row is overwritten whole. -/
theorem aw_storeRow {t : Nat} {b : Nat} {e : TypeId} {xs : List Value} {cap : Nat} {f : Nat × Nat} {ys : List Value} {K : Unit → Hp → Prop} (hs : sz P t = some ys.length) (hb : h b = some (.row e xs cap (some f))) (hl : xs.length = ys.length) (hfl : ∀ y ∈ ys, flat y = true)
    (hf : ∀ i, i < xs.length → ¬ (f.1 ≤ i ∧ i < f.2)) (k : K () (h.set b (.row e ys cap (some f)))) : aw P (Instr.storeAt t (.pointer (some ⟨b, 0, none⟩)) (.agg ys.toArray)) K h := by
  refine aw_of ?_
  show awp P (Sem.bind (sizeOf t) _) K h
  rw [awp_bind, peek_awp P _ _ _ (pk_size hs)]
  show awp P (if (Value.agg ys.toArray).cells.size ≠ ys.length then _ else _) K h
  rw [if_neg (by simp [Value.cells])]
  show awp P (storeCells ⟨b, 0, none⟩ ys.toArray.toList 0) K h
  refine awp_overCells ys xs h K 0 hb hfl (by omega) hf ?_
  simpa using k
/-- What was made over more is made over less. -/
theorem New.down {h H : Hp} {e s : Nat} {v : Value} {h' : Hp} {xs : List Value} {n : Nat} (l : Hp.le h H) (w : New H e s v h' xs n) : ∃ h0, Hp.le h0 h' ∧ New h e s v h0 xs n := by
  rcases w.2 with ⟨e1, e2, rfl⟩ | ⟨b, c, f, hb, hc, hv, rfl, hf⟩
  · exact ⟨h, l, w.1, .inl ⟨e1, e2, rfl⟩⟩
  · exact ⟨_, le_set l, w.1, .inr ⟨b, c, f, le_none l hb, hc, hv, rfl, hf⟩⟩
theorem Nn.down {h H : Hp} {e : Nat} {k : IntKind} {v : Value} {h' : Hp} {l : List Nat} (le : Hp.le h H) (w : Nn H e k v h' l) : ∃ h0, Hp.le h0 h' ∧ Nn h e k v h0 l := New.down le w
theorem New.le {h : Hp} {e s : Nat} {v : Value} {h' : Hp} {xs : List Value} {n : Nat} (w : New h e s v h' xs n) : Hp.le h h' := by
  rcases w.2 with ⟨_, _, rfl⟩ | ⟨b, c, f, hb, _, _, rfl, _⟩
  · exact .refl _
  · exact le_fresh hb
/-- Appending what was made just before. -/
theorem aw_appendN {h0 h1 h2 : Hp} {t t2 T e e2 s B n m : Nat} {v w : Value} {xs ys : List Value} {z : Value} {K : Value → Hp → Prop}
    (ht : P.underlying t = some (.slice e)) (ht2 : P.underlying t2 = some (.slice e2)) (hi : (P.info? e).map (fun i => (i.zero, i.size, i.bytes)) = some (some z, s, B)) (hzs : z.cells.size = s) (hB1 : 1 ≤ B) (hw : New h0 e s v h1 xs n) (hs : New h1 e s w h2 ys m) (hfl : ∀ y ∈ ys, flat y = true)
    (hB : (2 * (n + m) + 768) * B ≤ 2 ^ 48) (k : ∀ v' h'', New h0 e s v' h'' (xs ++ ys) (n + m) → K v' h'') : aw P (Builtin.append_ #[t, t2] T #[v, w]) K h2 := by
  have hr := hs.rds
  rcases hs.2 with ⟨_, _, rfl⟩ | ⟨b, c, f, hb, _, _, rfl, _⟩
  · exact aw_append ht ht2 hi hzs hB1 hw hr hfl hB (.refl _) k
  · exact aw_append ht ht2 hi hzs hB1 (hw.add hb _) hr hfl hB (le_fresh (hw.noneAt hb)) k
/-- Room is made where nothing was. -/
theorem aw_growNil {t ti T e B : Nat} {z : Value} {n : Nat} {K : Value → Hp → Prop} (ht : P.underlying t = some (.slice e)) (hti : P.underlying ti = some (.int .i64)) (hi : (P.info? e).map (fun i => (i.zero, i.size, i.bytes)) = some (some z, 1, B)) (hz : z.cells = #[z]) (hB1 : 1 ≤ B)
    (hn : 0 < n) (hB : (2 * n + 768) * B ≤ 2 ^ 48) (k : ∀ r c, h r = none → n ≤ c → K (.slice (some ⟨r, 0, none⟩) n c) (h.set r (.row e [] c (some (0, 0))))) :
    aw P (Builtin.append_ #[t, ti] T #[.slice none 0 0, .int .i64 n]) K h := by
  obtain ⟨i, hi0, hi1⟩ := Option.map_eq_some_iff.1 hi
  simp only [Prod.mk.injEq] at hi1
  have hs : sz P e = some 1 := by simp [sz, hi0, hi1.2.1]
  have hzr : zr P e = some z := by simp [zr, hi0, hi1.1]
  have hinfo : peek P h (typeInfo e) = some i := pk_info hi0
  have hbound : n ≤ 140737488355328 := by
    have : (2 * n + 768) * 1 ≤ (2 * n + 768) * B := Nat.mul_le_mul_left _ hB1
    omega
  have hnB : n * B ≤ (2 * n + 768) * B := Nat.mul_le_mul_right B (by omega)
  have w1 : IntKind.i64.wrap (n : Int) = n := by unfold IntKind.wrap; simp [IntKind.bits, IntKind.signed]; omega
  show awp P (Sem.bind (underlying t) _) _ h
  rw [awp_bind, peek_awp P _ _ _ (pk_und ht)]
  show awp P (Sem.bind (sizeOf e) _) _ h
  rw [awp_bind, peek_awp P _ _ _ (pk_size hs)]
  show awp P (Sem.bind (underlying ti) _) _ h
  rw [awp_bind, peek_awp P _ _ _ (pk_und hti)]
  show awp P (if IntKind.i64.wrap (n : Int) < 0 then _ else _) _ h
  rw [if_neg (by rw [w1]; omega)]
  show awp P (Sem.bind (typeInfo e) _) _ h
  rw [awp_bind, peek_awp P _ _ _ hinfo]
  show awp P (if IntKind.i64.wrap (n : Int) * (i.bytes : Int) > 2 ^ 48 then _ else _) _ h
  rw [if_neg (by rw [w1, hi1.2.2]; have : ((n * B : Nat) : Int) ≤ 2 ^ 48 := by exact_mod_cast Nat.le_trans hnB hB
                 push_cast at this; omega)]
  show awp P (if 0 + (IntKind.i64.wrap (n : Int)).toNat ≤ 0 then _ else _) _ h
  rw [w1, Int.toNat_natCast, Nat.zero_add, if_neg (by omega)]
  show awp P (Sem.bind (typeInfo e) _) _ h
  rw [awp_bind, peek_awp P _ _ _ hinfo]
  show awp P (if ((n : Nat) : Int) > IntKind.i64.max ∧ (true = true ∨ i.bytes = 0) then _ else _) _ h
  rw [if_neg (fun q => by have := q.1; simp [IntKind.max, IntKind.bits, IntKind.signed] at this; omega)]
  show awp P (Sem.bind (typeInfo e) _) _ h
  rw [awp_bind, peek_awp P _ _ _ hinfo]
  have hnc : Builtin.nextslicecap n 0 * B ≤ 2 ^ 48 := Nat.le_trans (Nat.mul_le_mul_right B (nextcap_le n 0 (by omega))) hB
  show awp P (if Builtin.nextslicecap n 0 * i.bytes > 2 ^ 48 then _ else _) _ h
  rw [if_neg (by rw [hi1.2.2]; omega)]
  show awp P (Sem.choose (.appendCap n 0 e) _) _ h
  simp only [awp, Question.forced, Bool.false_eq_true, if_false]
  intro tp
  obtain ⟨nc, hncap, hge⟩ : ∃ nc, Question.cut (.appendCap n 0 e) tp = nc ∧ n ≤ nc := ⟨_, rfl, by simp [Question.cut]⟩
  rw [hncap]
  show awp P (Sem.bind (typeInfo e) _) _ h
  rw [awp_bind, peek_awp P _ _ _ hinfo]
  show awp P (Sem.bind (askRoom (nc * i.bytes)) _) _ h
  rw [awp_bind]
  have hroom : ∀ (x : Nat) (K : Unit → Hp → Prop), K () h → awp P (askRoom x) K h := by
    intro x K q
    unfold askRoom
    split <;> exact q
  refine hroom _ _ ?_
  show awp P (Sem.bind (if n * 1 = 0 then _ else _) _) _ h
  rw [awp_bind, if_neg (by omega)]
  show awp P (Sem.bind (zeroValue e) _) _ h
  rw [awp_bind, peek_awp P _ _ _ (pk_zero hzr)]
  show awp P (Sem.bind (zeroValue e) _) _ h
  rw [awp_bind, peek_awp P _ _ _ (pk_zero hzr)]
  intro r hr
  refine ⟨_, fun b o ho => ?_, k r nc hr hge⟩
  by_cases e1 : b = r
  · subst e1
    rw [Hp.set_same] at ho
    cases ho
    refine ⟨_, Hp.set_same .., rfl, ?_, List.nil_prefix, .inl rfl⟩
    simp [zeroCells_size, hz]
    omega
  · rw [Hp.set_ne _ _ e1] at ho ⊢
    exact ⟨o, ho, .refl _⟩
theorem aw_allocL {e : TypeId} {z : Value} (xs : List Value) {K : Value → Hp → Prop} (hz : zr P e = some z) (hc : z.cells.toList = xs) (k : ∀ r, h r = none → K (.pointer (some ⟨r, 0, none⟩)) (h.set r (.row e xs xs.length (some (0, 0))))) :
    aw P (Instr.alloc e true (.tuple #[])) K h := aw_alloc hz fun r hr => by
  have := k r hr
  subst hc
  simpa using this
end
end Go.SL
