/- More of what operations come to: methods of interfaces, maps, copies, slices of structs; what stays in memory. Conditions: each lemma names its own; plain lemmas over any program. -/
import Derived.Test.YtnecdbclhdbaoaaSLh
set_option linter.unusedSimpArgs false
set_option linter.unusedVariables false
namespace Go.SL
open Go

/-- All that is known stays known. -/
def Hp.ext (h h' : Hp) : Prop := ∀ b o, h b = some o → h' b = some o
theorem Hp.ext.refl (h : Hp) : Hp.ext h h := fun _ _ e => e
theorem Hp.ext.trans {a b c : Hp} (x : Hp.ext a b) (y : Hp.ext b c) : Hp.ext a c := fun i o e => y i o (x i o e)
theorem ext_set {h : Hp} {r : Nat} (o : AObj) (hr : h r = none) : Hp.ext h (h.set r o) := fun i x e => by
  have : i ≠ r := by rintro rfl; rw [hr] at e; cases e
  rw [Hp.set_ne _ _ this]; exact e
theorem Hp.ext.le {h h' : Hp} (x : Hp.ext h h') : Hp.le h h' := fun b o e => ⟨o, x b o e, .refl o⟩
theorem Hp.ext.cle {h h' : Hp} (x : Hp.ext h h') : Hp.cle h h' := fun a v e => by
  unfold Hp.cell at e ⊢
  split at e
  · cases e
  · rename_i hs
    rw [if_neg hs]
    cases hb : h a.block with
    | none => rw [hb] at e; cases e
    | some o => rw [x _ _ hb]; rw [hb] at e; exact e
theorem Hp.ext.none {h h' : Hp} (x : Hp.ext h h') {b : Nat} (e : h' b = none) : h b = none := by
  cases hb : h b with
  | none => rfl
  | some o => rw [x b o hb] at e; cases e
theorem New.ext {h : Hp} {e s : Nat} {v : Value} {h' : Hp} {xs : List Value} {n : Nat} (w : New h e s v h' xs n) : Hp.ext h h' := by
  rcases w.2 with ⟨_, _, rfl⟩ | ⟨b, c, f, hb, _, _, rfl, _⟩
  · exact .refl _
  · exact ext_set _ hb
theorem Nn.ext {h : Hp} {e : Nat} {k : IntKind} {v : Value} {h' : Hp} {l : List Nat} (w : Nn h e k v h' l) : Hp.ext h h' := New.ext w
theorem del_set (h : Hp) {b : Nat} {o : AObj} (e : h b = some o) : (h.del b).set b o = h := by
  funext i
  unfold Hp.set Hp.del
  by_cases hi : i = b
  · subst hi; simp [e]
  · simp [hi]
theorem del_at (h : Hp) (b : Nat) : (h.del b) b = none := by simp [Hp.del]
/-- A row of the call's own that stands somewhere, as a new one. -/
theorem New.at {h : Hp} {b : Nat} {e s n c : Nat} {xs : List Value} {f : Nat × Nat} (hb : h b = some (.row e xs (c * s) (some f))) (hl : xs.length = n * s) (hc : n ≤ c) (hf : ∀ i, i < c * s → ¬ (f.1 ≤ i ∧ i < f.2)) :
    New (h.del b) e s (.slice (some ⟨b, 0, none⟩) n c) h xs n := ⟨hl, .inr ⟨b, c, f, del_at h b, hc, rfl, (del_set h hb).symm, hf⟩⟩

section
variable {P : Program} {h : Hp}

/-! ### Methods -/
/-- The method that a call reaches: by the type's table. -/
def meth (P : Program) (t : TypeId) (name : String) : Option (Array FieldStep × Option (FuncId × Bool)) :=
  (P.info? t).bind fun i => (i.methods.find? (·.name == name)).map fun m => (m.path, m.func)
theorem awp_method {t : TypeId} {v : Value} {name : String} {args : Array Value} {K : Next → Hp → Prop} {g : FuncId} {r : Value}
    (hm : peek P h (method (P.types.size + Made.depth) t v name) = some (g, r)) (c : Callable P g) (k : K (.enter g (#[r] ++ args)) h) : awp P (callMethod (.iface t v) name args) K h := by
  show awp P (Sem.program fun p => Sem.bind (method (p.types.size + Made.depth) t v name) fun x => callFunc x.1 (#[x.2] ++ args)) K h
  show awp P (Sem.bind (method (P.types.size + Made.depth) t v name) fun x => callFunc x.1 (#[x.2] ++ args)) K h
  rw [awp_bind, peek_awp P _ _ _ hm, awp_call c]
  exact k
/-- A call of a method of an interface. -/
theorem aw_method {t : TypeId} {v : Value} {name : String} {args : Array Value} {K : Value → Hp → Prop} {g : FuncId} {r : Value}
    (hm : peek P h (method (P.types.size + Made.depth) t v name) = some (g, r)) (c : Cn P g (#[r] ++ args) h K) : aw P (callMethod (.iface t v) name args) (nextP P K) h :=
  awp_method hm c.1 ⟨h, .refl _, c⟩
theorem q_mkI {t : TypeId} {d : TypeDesc} {K : Value → Prop} (ht : P.underlying t = some d) (hd : (match d with | .interface _ => true | _ => false) = false) (x : Value) : q P h (Instr.makeInterface t x) K = K (.iface t x) := q_of (by
  show peek P h (Sem.bind (underlying t) _) = _
  rw [peek_bind, pk_und ht, Option.bind_some]
  cases d <;> first | rfl | cases hd) K

/-! ### Maps whose keys are strings -/
/-- The entries, by their keys. -/
def mget (es : List MapEntry) (k : ByteArray) : Option (Nat × Value) :=
  match es with
  | [] => none
  | e :: es => match e.key with
    | .string s => if (k == s) = true then some (0, e.val) else (mget es k).map fun p => (p.1 + 1, p.2)
    | _ => none
def strKeys (es : List MapEntry) : Prop := ∀ e ∈ es, ∃ s, e.key = .string s
theorem findNow_str {es : List MapEntry} (hs : strKeys es) (k : ByteArray) : ∀ i, Instr.findNow .string (.string k) es i = some ((mget es k).map fun p => (p.1 + i, p.2)) := by
  induction es with
  | nil => intro i; rfl
  | cons e es ih =>
    intro i
    obtain ⟨s, he⟩ := hs e (List.mem_cons_self ..)
    have ih := ih (fun x hx => hs x (List.mem_cons_of_mem _ hx)) (i + 1)
    simp only [Instr.findNow, Instr.sameNow, he, mget]
    cases hk : (k == s)
    · simp only [Bool.false_eq_true, if_false, ih, Option.map_map]
      congr 2
      funext p
      simp only [Function.comp]
      congr 1
      omega
    · simp
theorem pk_findKey {t : TypeId} (ht : P.underlying t = some .string) {es : List MapEntry} (hs : strKeys es) (k : ByteArray) : peek P h (Instr.findKey t (.string k) es) = some (mget es k) := by
  show peek P h (Sem.bind (underlying t) _) = _
  rw [peek_bind, pk_und ht, Option.bind_some, findNow_str hs k 0]
  show some ((mget es k).map fun p => (p.1 + 0, p.2)) = _
  congr 1
  cases mget es k <;> rfl
theorem pk_checkKey {t : TypeId} (ht : P.underlying t = some .string) (b : Bool) (k : ByteArray) : peek P h (Instr.checkKey b 10000 t (.string k)) = some () := by
  show peek P h (Sem.bind (underlying t) _) = _
  rw [peek_bind, pk_und ht, Option.bind_some]
  rfl
theorem q_lookup {t kt e : TypeId} {r c : Nat} {es : Array MapEntry} {z : Value} {K : Value → Prop} (ht : P.underlying t = some (.map kt e)) (hk : P.underlying kt = some .string) (hz : zr P e = some z) (hr : h r = some (.obj (.map es c))) (hs : strKeys es.toList) (k : ByteArray) :
    q P h (Instr.lookup t (.map (some r)) (.string k) true) K = K (.tuple #[((mget es.toList k).map (·.2)).getD z, .bool (mget es.toList k).isSome]) := q_of (by
  show peek P h (Sem.bind (underlying t) _) = _
  rw [peek_bind, pk_und ht, Option.bind_some]
  show peek P h (Sem.bind (getObj r) _) = _
  have : peek P h (getObj r) = some (.map es c) := by
    unfold getObj
    simp only [peek, hr]
  rw [peek_bind, this, Option.bind_some]
  show peek P h (Sem.bind (Instr.checkKey es.isEmpty 10000 kt (.string k)) _) = _
  rw [peek_bind, pk_checkKey hk, Option.bind_some]
  show peek P h (Sem.bind (Instr.findKey kt (.string k) es.toList) _) = _
  rw [peek_bind, pk_findKey hk hs, Option.bind_some]
  cases mget es.toList k with
  | none =>
    show peek P h (Sem.bind (zeroValue e) _) = _
    rw [peek_bind, pk_zero hz]
    rfl
  | some p => rfl) K
theorem q_lenM {t kt e T : TypeId} {r c : Nat} {es : Array MapEntry} {K : Value → Prop} (ht : P.underlying t = some (.map kt e)) (hr : h r = some (.obj (.map es c))) : q P h (Builtin.len_ #[t] T #[.map (some r)]) K = K (.int .i64 es.size) := q_of (by
  show peek P h (Sem.bind (underlying t) _) = _
  rw [peek_bind, pk_und ht, Option.bind_some]
  show peek P h (Sem.bind (getObj r) _) = _
  have : peek P h (getObj r) = some (.map es c) := by
    unfold getObj
    simp only [peek, hr]
  rw [peek_bind, this]
  rfl) K
/-- A key that isn't there yet is put. -/
theorem aw_mapNew {t kt e : TypeId} {r c : Nat} {es : Array MapEntry} {K : Unit → Hp → Prop} (ht : P.underlying t = some (.map kt e)) (hk : P.underlying kt = some .string) (hr : h r = some (.obj (.map es c))) (hs : strKeys es.toList) (k : ByteArray) (v : Value)
    (hn : mget es.toList k = none) (kk : K () (h.set r (.obj (.map (es.push ⟨.string k, v, c⟩) (c + 1))))) : aw P (Instr.mapUpdate t (.map (some r)) (.string k) v) K h := by
  refine aw_of ?_
  show awp P (Sem.bind (underlying t) _) K h
  rw [awp_bind, peek_awp P _ _ _ (pk_und ht)]
  show awp P (Sem.bind (getObj r) _) K h
  have hg : peek P h (getObj r) = some (.map es c) := by
    unfold getObj
    simp only [peek, hr]
  rw [awp_bind, peek_awp P _ _ _ hg]
  show awp P (Sem.bind (Instr.checkKey false 10000 kt (.string k)) _) K h
  rw [awp_bind, peek_awp P _ _ _ (pk_checkKey hk false k)]
  show awp P (Sem.bind (Instr.findKey kt (.string k) es.toList) _) K h
  rw [awp_bind, peek_awp P _ _ _ (pk_findKey hk hs k), hn]
  show awp P (setObj r (.map (es.push ⟨.string k, v, c⟩) (c + 1))) K h
  show (match h r with | some (.obj _) => isCells _ = false ∧ awp P (.pure ()) K _ | _ => False)
  rw [hr]
  exact ⟨rfl, kk⟩
theorem aw_makeMap {t : TypeId} {K : Value → Hp → Prop} (k : ∀ r, h r = none → K (.map (some r)) (h.set r (.obj (.map #[] 0)))) : aw P (Instr.makeMap t none) K h := by
  refine aw_of ?_
  show awp P (Sem.bind (newObj (.map #[] 0)) fun r => Sem.pure (.map (some r))) K h
  rw [awp_bind]
  exact fun r hr => k r hr
theorem mget_push {es : Array MapEntry} (hs : strKeys es.toList) (k k' : ByteArray) (v : Value) (c : Nat) :
    mget (es.push ⟨.string k, v, c⟩).toList k' = (mget es.toList k').or (if (k' == k) = true then some (es.size, v) else none) := by
  have : ∀ l : List MapEntry, strKeys l → mget (l ++ [⟨.string k, v, c⟩]) k' = (mget l k').or (if (k' == k) = true then some (l.length, v) else none) := by
    intro l
    induction l with
    | nil => intro _; simp only [List.nil_append, mget]; split <;> rfl
    | cons e l ih =>
      intro hl
      obtain ⟨s, he⟩ := hl e (List.mem_cons_self ..)
      have ih := ih fun x hx => hl x (List.mem_cons_of_mem _ hx)
      simp only [List.cons_append, mget, he]
      split
      · rfl
      · rw [ih]
        cases mget l k' with
        | none => simp only [Option.none_or, Option.map_none]; split <;> rfl
        | some p => rfl
  simpa using this es.toList hs
theorem strKeys_push {es : Array MapEntry} (hs : strKeys es.toList) (k : ByteArray) (v : Value) (c : Nat) : strKeys (es.push ⟨.string k, v, c⟩).toList := by
  intro e he
  rw [Array.toList_push, List.mem_append, List.mem_singleton] at he
  rcases he with he | rfl
  · exact hs e he
  · exact ⟨k, rfl⟩

/-! ### Copies -/
def putL : List Value → Nat → List Value → List Value
  | xs, _, [] => xs
  | xs, j, y :: ys => putL (xs.set j y) (j + 1) ys
theorem putL_len : ∀ (ys xs : List Value) (j : Nat), (putL xs j ys).length = xs.length
  | [], _, _ => rfl
  | y :: ys, xs, j => by rw [putL, putL_len ys, List.length_set]
theorem putL_eq : ∀ (ys xs : List Value) (j : Nat), j + ys.length ≤ xs.length → putL xs j ys = xs.take j ++ ys ++ xs.drop (j + ys.length)
  | [], xs, j, _ => by simp [putL]
  | y :: ys, xs, j, h => by
    simp only [List.length_cons] at h
    rw [putL, putL_eq ys _ _ (by rw [List.length_set]; omega), List.take_succ_eq_append_getElem (by rw [List.length_set]; omega), List.getElem_set_self, List.take_set_of_le (Nat.le_refl _), List.drop_set_of_lt (by omega)]
    simp only [List.append_assoc, List.singleton_append, List.cons_append, List.nil_append, List.length_cons]
    rw [show j + 1 + ys.length = j + (ys.length + 1) by omega]
theorem awp_putCells {b e cap : Nat} {f : Nat × Nat} : ∀ (ys xs : List Value) (h : Hp) (K : Unit → Hp → Prop) (o i : Nat), h b = some (.row e xs cap (some f)) → (∀ y ∈ ys, flat y = true) → o + i + ys.length ≤ xs.length →
    (∀ i, i < xs.length → ¬ (f.1 ≤ i ∧ i < f.2)) → K () (h.set b (.row e (putL xs (o + i) ys) cap (some f))) → awp P (storeCells ⟨b, o, none⟩ ys i) K h := by
  intro ys
  induction ys with
  | nil =>
    intro xs h K o i hb _ hl _ k
    have : h.set b (.row e (putL xs (o + i) []) cap (some f)) = h := by
      funext j
      unfold Hp.set
      split
      · rename_i e1; subst e1; rw [hb]; rfl
      · rfl
    rw [this] at k
    exact k
  | cons y ys ih =>
    intro xs h K o i hb hfl hl hf k
    simp only [List.length_cons] at hl
    show awp P (Sem.bind (store ((⟨b, o, none⟩ : Addr).add i) y) fun _ => storeCells ⟨b, o, none⟩ ys (i + 1)) K h
    rw [awp_bind, add_off]
    refine ⟨hfl y (List.mem_cons_self ..), ?_⟩
    rw [put_row hb (by omega) (hf (o + i) (by omega))]
    refine ih (xs.set (o + i) y) _ K o (i + 1) (Hp.set_same ..) (fun z hz => hfl z (List.mem_cons_of_mem _ hz)) (by rw [List.length_set]; omega) (fun j hj => hf j (by rwa [List.length_set] at hj)) ?_
    rw [Hp.set_set]
    exact k
/-- A copy into a row of the call's own, at a place, of a row that is read. -/
theorem aw_copy {t t2 T e b o dl dc n : Nat} {cap : Nat} {f : Nat × Nat} {xs ys : List Value} {w : Value} {K : Value → Hp → Prop} (ht : P.underlying t = some (.slice e)) (hs : sz P e = some 1) (hb : h b = some (.row e xs cap (some f)))
    (hr : Rds h 1 w ys n) (hfl : ∀ y ∈ ys, flat y = true) (hn : n ≤ dl) (hl : o + dl ≤ xs.length) (hf : ∀ i, i < xs.length → ¬ (f.1 ≤ i ∧ i < f.2))
    (k : K (.int .i64 n) (h.set b (.row e (putL xs o ys) cap (some f)))) : aw P (Builtin.copy_ #[t, t2] T #[.slice (some ⟨b, o, none⟩) dl dc, w]) K h := by
  refine aw_of ?_
  obtain ⟨hyl, wa, wc, rfl, hwc, hwr⟩ := hr
  have hr : Rds h 1 (.slice wa n wc) ys n := ⟨hyl, wa, wc, rfl, hwc, hwr⟩
  show awp P (Sem.bind (underlying t) _) _ h
  rw [awp_bind, peek_awp P _ _ _ (pk_und ht)]
  show awp P (Sem.bind (sizeOf e) _) _ h
  rw [awp_bind, peek_awp P _ _ _ (pk_size hs)]
  show awp P (Sem.bind (Builtin.firstCells 1 (Nat.min n dl) (.slice wa n wc)) _) _ h
  have hmin : Nat.min n dl = n := Nat.min_eq_left hn
  rw [hmin, awp_bind]
  refine awp_firstCells hr ?_
  show awp P (Sem.bind (storeCells ⟨b, o, none⟩ ys.toArray.toList 0) _) _ h
  rw [awp_bind]
  exact awp_putCells ys xs h _ o 0 hb hfl (by omega) hf (by rw [Nat.add_zero]; exact k)
/-- A copy of a part: as much as there is room for. -/
theorem aw_copyMin {t t2 T e b o dl dc n : Nat} {cap : Nat} {f : Nat × Nat} {xs ys : List Value} {w : Value} {K : Value → Hp → Prop} (ht : P.underlying t = some (.slice e)) (hs : sz P e = some 1) (hb : h b = some (.row e xs cap (some f)))
    (hr : Rds h 1 w ys n) (hfl : ∀ y ∈ ys, flat y = true) (hl : o + dl ≤ xs.length) (hf : ∀ i, i < xs.length → ¬ (f.1 ≤ i ∧ i < f.2))
    (k : K (.int .i64 (Nat.min n dl : Nat)) (h.set b (.row e (putL xs o (ys.take dl)) cap (some f)))) : aw P (Builtin.copy_ #[t, t2] T #[.slice (some ⟨b, o, none⟩) dl dc, w]) K h := by
  refine aw_of ?_
  obtain ⟨hyl, wa, wc, rfl, hwc, hwr⟩ := hr
  have hr : Rds h 1 (.slice wa (Nat.min n dl) wc) (ys.take dl) (Nat.min n dl) := by
    refine ⟨by rw [List.length_take, hyl]; simp [Nat.min_comm, Nat.min_def], wa, wc, rfl, Nat.le_trans (Nat.min_le_left _ _) hwc, ?_⟩
    rcases hwr with h0 | ⟨b', o', ha, hy⟩
    · left; subst h0; exact Nat.zero_min _
    · right
      refine ⟨b', o', ha, fun i x ex => ?_⟩
      rw [List.getElem?_take] at ex
      split at ex
      · exact hy i x ex
      · cases ex
  show awp P (Sem.bind (underlying t) _) _ h
  rw [awp_bind, peek_awp P _ _ _ (pk_und ht)]
  show awp P (Sem.bind (sizeOf e) _) _ h
  rw [awp_bind, peek_awp P _ _ _ (pk_size hs)]
  show awp P (Sem.bind (Builtin.firstCells 1 (Nat.min n dl) (.slice wa n wc)) _) _ h
  have e1 : Builtin.firstCells 1 (Nat.min n dl) (.slice wa n wc) = Builtin.firstCells 1 (Nat.min n dl) (.slice wa (Nat.min n dl) wc) := by cases wa <;> rfl
  rw [e1, awp_bind]
  refine awp_firstCells hr ?_
  show awp P (Sem.bind (storeCells ⟨b, o, none⟩ (ys.take dl).toArray.toList 0) _) _ h
  rw [awp_bind]
  exact awp_putCells (ys.take dl) xs h _ o 0 hb (fun y hy => hfl y (List.mem_of_mem_take hy)) (by rw [List.length_take]; omega) hf (by rw [Nat.add_zero]; exact k)
/-- A copy of a text. -/
theorem aw_copyS {t t2 T e b o dl dc : Nat} {cap : Nat} {f : Nat × Nat} {xs ys : List Value} {s : ByteArray} {K : Value → Hp → Prop} (ht : P.underlying t = some (.slice e)) (hs : sz P e = some 1) (hb : h b = some (.row e xs cap (some f)))
    (hy : (s.extract 0 s.size).data.map (fun b => Value.int .u8 b.toNat) = ys.toArray) (hfl : ∀ y ∈ ys, flat y = true) (hn : s.size ≤ dl) (hyl : ys.length = s.size) (hl : o + dl ≤ xs.length) (hf : ∀ i, i < xs.length → ¬ (f.1 ≤ i ∧ i < f.2))
    (k : K (.int .i64 s.size) (h.set b (.row e (putL xs o ys) cap (some f)))) : aw P (Builtin.copy_ #[t, t2] T #[.slice (some ⟨b, o, none⟩) dl dc, .string s]) K h := by
  refine aw_of ?_
  show awp P (Sem.bind (underlying t) _) _ h
  rw [awp_bind, peek_awp P _ _ _ (pk_und ht)]
  show awp P (Sem.bind (sizeOf e) _) _ h
  rw [awp_bind, peek_awp P _ _ _ (pk_size hs)]
  show awp P (Sem.bind (Builtin.firstCells 1 (Nat.min s.size dl) (.string s)) _) _ h
  have hmin : Nat.min s.size dl = s.size := Nat.min_eq_left hn
  rw [hmin, awp_bind]
  show awp P (Sem.bind (storeCells ⟨b, o, none⟩ ((s.extract 0 s.size).data.map (fun b => Value.int .u8 b.toNat)).toList 0) _) _ h
  rw [hy, awp_bind]
  exact awp_putCells ys xs h _ o 0 hb hfl (by omega) hf (by rw [Nat.add_zero]; exact k)

/-! ### Slices of structs -/
/-- A slice's literal of one struct. -/
theorem aw_litA {t e s : Nat} {z : Value} {ys : List Value} {K : Value → Hp → Prop} (ht : P.underlying t = some (.slice e)) (hs : sz P e = some s) (hzr : zr P e = some z) (hz : z.cells.size = s) (hy : ys.length = s) (h0 : 0 < s) (hn : s ≤ 1000)
    (k : ∀ v h', New h e s v h' ys 1 → K v h') : aw P (Instr.buildSlice t 1 #[(0, .agg ys.toArray)]) K h := by
  refine aw_of ?_
  show awp P (Sem.bind (underlying t) _) _ h
  rw [awp_bind, peek_awp P _ _ _ (pk_und ht)]
  show awp P (Sem.bind (sizeOf e) _) _ h
  rw [awp_bind, peek_awp P _ _ _ (pk_size hs)]
  show awp P (if 1 * s > 2 ^ 24 then _ else _) _ h
  rw [if_neg (by omega)]
  show awp P (if 1 * s = 0 then _ else _) _ h
  rw [if_neg (by omega)]
  show awp P (Sem.bind (zeroValue e) _) _ h
  rw [awp_bind, peek_awp P _ _ _ (pk_zero hzr)]
  have hfill : Instr.fill (fun i => some (i * s, s)) ((Array.range (1 * s)).map (fun x => z.cells[x % z.cells.size]!)) [(0, .agg ys.toArray)] = some ys.toArray := by
    simp only [Instr.fill, Value.cells, List.size_toArray, hy, Nat.zero_mul, Nat.zero_add, Array.size_map, Array.size_range, Nat.one_mul]
    rw [if_neg (by simp)]
    congr 1
    have key : ∀ (l : List Value) (j : Nat) (cs : Array Value), j + l.length ≤ cs.size → (l.zipIdx j).foldl (fun cs (p : Value × Nat) => cs.setIfInBounds p.2 p.1) cs = (cs.toList.take j ++ l ++ cs.toList.drop (j + l.length)).toArray := by
      intro l
      induction l with
      | nil => intro j cs _; simp
      | cons y l ih =>
        intro j cs hj
        simp only [List.length_cons] at hj
        rw [List.zipIdx_cons, List.foldl_cons, ih (j + 1) _ (by simp; omega)]
        congr 1
        simp only [Array.toList_setIfInBounds]
        rw [List.take_succ_eq_append_getElem (by rw [List.length_set, Array.length_toList]; omega), List.getElem_set_self, List.take_set_of_le (Nat.le_refl _), List.drop_set_of_lt (by omega)]
        simp only [List.append_assoc, List.singleton_append, List.cons_append, List.nil_append, List.length_cons]
        rw [show j + 1 + l.length = j + (l.length + 1) by omega]
    have := key ys 0 ((Array.range s).map (fun x => z.cells[x % z.cells.size]!)) (by simp [hy])
    have e1 : ys.toArray.zipIdx.foldl (fun cs (p : Value × Nat) => cs.setIfInBounds p.2 p.1) ((Array.range s).map (fun x => z.cells[x % z.cells.size]!)) = (ys.zipIdx 0).foldl (fun cs (p : Value × Nat) => cs.setIfInBounds p.2 p.1) ((Array.range s).map (fun x => z.cells[x % z.cells.size]!)) := by
      simp
    refine e1.trans (this.trans ?_)
    rw [List.take_zero, List.nil_append, Nat.zero_add, List.drop_of_length_le (by simp [hy]), List.append_nil]
  show awp P (match Instr.fill (fun i => some (i * s, s)) ((Array.range (1 * s)).map (fun x => z.cells[x % z.cells.size]!)) [(0, .agg ys.toArray)] with
      | some cells => Sem.bind (newRow e cells) fun a => Sem.pure (.slice (some a) 1 1)
      | _ => stuck "buildSlice: a part of the wrong size") K h
  rw [hfill]
  show awp P (Sem.bind (newRow e _) _) K h
  rw [awp_bind]
  intro r hr
  refine k _ _ ⟨by rw [Nat.one_mul]; exact hy, .inr ⟨r, 1, (0, 0), hr, Nat.le_refl _, rfl, ?_, fun i _ => by simp⟩⟩
  simp [absOf, hy]
/-- A part of a struct told whole. -/
theorem q_fieldV {t : TypeId} {fs : Array Field} {f : Field} {j : Nat} {cs : Array Value} {v : Value} {d : TypeDesc} {K : Value → Prop} (ht : P.underlying t = some (.struct fs)) (hf : fs[j]? = some f) (hd : P.underlying f.type = some d) (hg : aggB d = false) (hv : cs[f.offset]? = some v) :
    q P h (Instr.field t (.agg cs) j) K = K v := q_of (by
  show peek P h (Sem.bind (underlying t) _) = _
  rw [peek_bind, pk_und ht, Option.bind_some]
  dsimp only
  rw [hf]
  show peek P h (part f.type cs f.offset) = _
  show peek P h (Sem.bind (isAgg f.type) _) = _
  rw [peek_bind, pk_isAgg hd, Option.bind_some, hg]
  show peek P h (match cs[f.offset]? with
    | some v => _
    | none => _) = _
  rw [hv]
  rfl) K
end
end Go.SL
