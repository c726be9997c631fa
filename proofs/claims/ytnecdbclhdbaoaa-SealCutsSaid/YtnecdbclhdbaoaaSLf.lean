/- What each operation that writes comes to; rows of a call's own, and rows that are read. Conditions: each lemma names its own; plain lemmas over any program. -/
import Derived.Test.YtnecdbclhdbaoaaSLe
set_option linter.unusedSimpArgs false
set_option linter.unusedVariables false
namespace Go.SL
open Go

section
variable {P : Program} {h : Hp}

theorem put_row {b off : Nat} {e : TypeId} {vs : List Value} {cap : Nat} {f : Nat × Nat} (hb : h b = some (.row e vs cap (some f))) (ho : off < vs.length) (hf : ¬ (f.1 ≤ off ∧ off < f.2)) (v : Value) :
    h.put ⟨b, off, none⟩ v = some (h.set b (.row e (vs.set off v) cap (some f))) := by
  simp [Hp.put, hb, hf, ho]
theorem put_end {b : Nat} {e : TypeId} {vs : List Value} {cap : Nat} {f : Nat × Nat} (hb : h b = some (.row e vs cap (some f))) (ho : vs.length < cap) (hf : ¬ (f.1 ≤ vs.length ∧ vs.length < f.2)) (v : Value) :
    h.put ⟨b, vs.length, none⟩ v = some (h.set b (.row e (vs ++ [v]) cap (some f))) := by
  simp [Hp.put, hb, hf, ho]
theorem cell_row {b off : Nat} {e : TypeId} {vs : List Value} {cap : Nat} {fz : Option (Nat × Nat)} (hb : h b = some (.row e vs cap fz)) : h.cell ⟨b, off, none⟩ = vs[off]? := by
  simp [Hp.cell, hb]

theorem cells_flat {v : Value} (f : flat v = true) : v.cells = #[v] := by cases v <;> first | rfl | cases f

theorem aw_store {t : TypeId} {a : Addr} {v : Value} {h' : Hp} {K : Unit → Hp → Prop} (hs : sz P t = some 1) (hv : flat v = true) (hp : h.put a v = some h') (k : K () h') :
    aw P (Instr.storeAt t (.pointer (some a)) v) K h := by
  refine aw_of ?_
  show awp P (Sem.bind (Instr.sureAddr (.pointer (some a))) fun x => storeVar t x v) K h
  rw [awp_bind]
  show awp P (Sem.bind (sizeOf t) _) K h
  rw [awp_bind, peek_awp P _ _ _ (pk_size hs), cells_flat hv]
  show awp P (storeCells a [v] 0) K h
  have : a.add 0 = a := by simp [Addr.add]
  simp only [storeCells, this]
  show flat v = true ∧ _
  refine ⟨hv, ?_⟩
  rw [hp]
  exact k

theorem aw_box {e : TypeId} {v : Value} {K : Value → Hp → Prop} (k : ∀ r, h r = none → K (.pointer (some ⟨r, 0, none⟩)) (h.set r (.row e v.cells.toList v.cells.size (some (0, 0))))) : aw P (Instr.box e v) K h :=
  aw_of fun r hr => k r hr
theorem aw_alloc {e : TypeId} {z : Value} {K : Value → Hp → Prop} (hz : zr P e = some z) (k : ∀ r, h r = none → K (.pointer (some ⟨r, 0, none⟩)) (h.set r (.row e z.cells.toList z.cells.size (some (0, 0))))) :
    aw P (Instr.alloc e true (.tuple #[])) K h := by
  refine aw_of ?_
  show awp P (Sem.bind (zeroValue e) _) K h
  rw [awp_bind, peek_awp P _ _ _ (pk_zero hz)]
  exact fun r hr => k r hr

theorem Cn_wk {P : Program} {f : FuncId} {args : Array Value} {h : Hp} {K : Value → Hp → Prop} (z : Cn P f args h fun v h' => ∃ h0, Hp.le h0 h' ∧ K v h0) : Cn P f args h K :=
  ⟨z.1, fun w s => (z.2 w s).mono fun _ _ ⟨v, h', e, s', f', h0, l, k⟩ => ⟨v, h0, e, l.sat s', f'.weaken l, k⟩⟩

/-! ### Rows -/
/-- A slice that is read: its cells, its length, the cells of an element. -/
def Rds (h : Hp) (s : Nat) (w : Value) (ys : List Value) (m : Nat) : Prop :=
  ys.length = m * s ∧ ∃ a c, w = .slice a m c ∧ m ≤ c ∧ (m = 0 ∨ ∃ b o, a = some ⟨b, o, none⟩ ∧ ∀ (i : Nat) (x : Value), ys[i]? = some x → h.cell ⟨b, o + i, none⟩ = some x)

/-- More is known of cells. -/
def Hp.cle (h h' : Hp) : Prop := ∀ a v, h.cell a = some v → h'.cell a = some v
theorem Hp.cle.refl (h : Hp) : Hp.cle h h := fun _ _ e => e
theorem Hp.cle.trans {a b c : Hp} (x : Hp.cle a b) (y : Hp.cle b c) : Hp.cle a c := fun p v e => y p v (x p v e)
theorem cle_set (r : Nat) (o : AObj) (hr : h r = none) : Hp.cle h (h.set r o) := by
  intro a v e
  unfold Hp.cell at e ⊢
  by_cases hb : a.block = r
  · rw [hb, hr] at e
    split at e <;> cases e
  · rw [Hp.set_ne _ _ hb]
    exact e
theorem Rds.mono {h' : Hp} {s : Nat} {w : Value} {ys : List Value} {m : Nat} (r : Rds h s w ys m) (l : Hp.cle h h') : Rds h' s w ys m := by
  obtain ⟨hl, a, c, hw, hc, q⟩ := r
  exact ⟨hl, a, c, hw, hc, q.imp id fun ⟨b, o, ha, hy⟩ => ⟨b, o, ha, fun i x e => l _ _ (hy i x e)⟩⟩

/-- A new row of the call's own, or nil: in memory h' that is h beside it. -/
def New (h : Hp) (e s : Nat) (v : Value) (h' : Hp) (xs : List Value) (n : Nat) : Prop :=
  xs.length = n * s ∧ ((v = .slice none 0 0 ∧ n = 0 ∧ h' = h) ∨
    ∃ b c f, h b = none ∧ n ≤ c ∧ v = .slice (some ⟨b, 0, none⟩) n c ∧ h' = h.set b (.row e xs (c * s) (some f)) ∧ ∀ i, i < c * s → ¬ (f.1 ≤ i ∧ i < f.2))
theorem New.cle {e s : Nat} {v : Value} {h' : Hp} {xs : List Value} {n : Nat} (w : New h e s v h' xs n) : Hp.cle h h' := by
  rcases w.2 with ⟨_, _, rfl⟩ | ⟨b, c, f, hb, _, _, rfl, _⟩
  · exact .refl _
  · exact cle_set b _ hb
theorem New.rds {e s : Nat} {v : Value} {h' : Hp} {xs : List Value} {n : Nat} (w : New h e s v h' xs n) : Rds h' s v xs n := by
  refine ⟨w.1, ?_⟩
  rcases w.2 with ⟨rfl, rfl, rfl⟩ | ⟨b, c, f, hb, hc, rfl, rfl, _⟩
  · exact ⟨none, 0, rfl, Nat.le_refl _, .inl rfl⟩
  · refine ⟨_, c, rfl, hc, .inr ⟨b, 0, rfl, fun i x e => ?_⟩⟩
    rw [cell_row (Hp.set_same ..), Nat.zero_add]
    exact e

theorem awp_loadCells {a : Addr} (ha : a.spot = none) : ∀ (ys : List Value) (i : Nat) (acc : Array Value) (K : Array Value → Hp → Prop), (∀ (j : Nat) (x : Value), ys[j]? = some x → h.cell ⟨a.block, a.off + (i + j), none⟩ = some x) →
    K (acc ++ ys.toArray) h → awp P (loadCellsFrom a i ys.length acc) K h := by
  obtain ⟨b, o, sp⟩ := a
  dsimp only at ha
  subst ha
  intro ys
  induction ys with
  | nil => intro i acc K _ k; have : acc ++ ([] : List Value).toArray = acc := by simp
           rw [this] at k; exact k
  | cons y ys ih =>
    intro i acc K hy k
    have h0 := hy 0 y rfl
    simp only [Nat.add_zero] at h0
    show awp P (Sem.bind (load ((⟨b, o, none⟩ : Addr).add i)) fun v => loadCellsFrom ⟨b, o, none⟩ (i + 1) ys.length (acc.push v)) K h
    rw [awp_bind, add_off]
    show awp P (Sem.load .plain ⟨b, o + i, none⟩ .pure) _ h
    simp only [awp, h0]
    refine ih (i + 1) (acc.push y) K (fun j x e => ?_) ?_
    · have := hy (j + 1) x e
      rw [show i + 1 + j = i + (j + 1) by omega]
      exact this
    · have : acc.push y ++ ys.toArray = acc ++ (y :: ys).toArray := by
        apply Array.ext'; simp
      rw [this]
      exact k

theorem awp_firstCells {s : Nat} {w : Value} {ys : List Value} {m : Nat} (r : Rds h s w ys m) {K : Array Value → Hp → Prop} (k : K ys.toArray h) : awp P (Builtin.firstCells s m w) K h := by
  obtain ⟨hl, a, c, rfl, hc, rfl | ⟨b, o, rfl, hy⟩⟩ := r
  · have : ys = [] := List.eq_nil_of_length_eq_zero (by simpa using hl)
    subst this
    cases a with
    | none => exact k
    | some a =>
      show awp P (loadCellsFrom a 0 (0 * s) #[]) K h
      rw [Nat.zero_mul]
      exact k
  · show awp P (loadCellsFrom ⟨b, o, none⟩ 0 (m * s) #[]) K h
    rw [← hl]
    refine awp_loadCells rfl ys 0 #[] K (fun j x e => by simpa using hy j x e) (by simpa using k)

theorem awp_storeCells {b : Nat} {e : TypeId} {cap : Nat} {f : Nat × Nat} : ∀ (ys xs : List Value) (h : Hp) (K : Unit → Hp → Prop), h b = some (.row e xs cap (some f)) → (∀ y ∈ ys, flat y = true) → xs.length + ys.length ≤ cap →
    (∀ i, i < cap → ¬ (f.1 ≤ i ∧ i < f.2)) → ∀ (i o : Nat), o + i = xs.length → K () (if ys = [] then h else h.set b (.row e (xs ++ ys) cap (some f))) → awp P (storeCells ⟨b, o, none⟩ ys i) K h := by
  intro ys
  induction ys with
  | nil => intro xs h K _ _ _ _ i o _ k; rw [if_pos rfl] at k; exact k
  | cons y ys ih =>
    intro xs h K hb hfl hl hf i o hio k
    simp only [List.length_cons] at hl
    show awp P (Sem.bind (store ((⟨b, o, none⟩ : Addr).add i) y) fun _ => storeCells ⟨b, o, none⟩ ys (i + 1)) K h
    rw [awp_bind, add_off, hio]
    refine ⟨hfl y (List.mem_cons_self ..), ?_⟩
    rw [put_end hb (by omega) (hf _ (by omega))]
    refine ih (xs ++ [y]) _ K (Hp.set_same ..) (fun z hz => hfl z (List.mem_cons_of_mem _ hz)) (by simp; omega) hf (i + 1) o (by simp; omega) ?_
    rw [if_neg (by simp)] at k
    split
    · rename_i e; subst e; exact k
    · rw [Hp.set_set, List.append_assoc]; exact k

theorem New.noneAt {h : Hp} {e s : Nat} {v : Value} {h' : Hp} {xs : List Value} {n r : Nat} (w : New h e s v h' xs n) (hr : h' r = none) : h r = none := by
  rcases w.2 with ⟨_, _, rfl⟩ | ⟨b, c, f, hb, _, _, rfl, _⟩
  · exact hr
  · by_cases e1 : r = b
    · subst e1; rw [Hp.set_same] at hr; cases hr
    · rwa [Hp.set_ne _ _ e1] at hr
/-- A new block beside. -/
theorem New.add {h : Hp} {e s : Nat} {v : Value} {h' : Hp} {xs : List Value} {n r : Nat} (w : New h e s v h' xs n) (hr : h' r = none) (o : AObj) : New (h.set r o) e s v (h'.set r o) xs n := by
  refine ⟨w.1, ?_⟩
  rcases w.2 with ⟨e1, e2, rfl⟩ | ⟨b, c, f, hb, hc, hv, rfl, hf⟩
  · exact .inl ⟨e1, e2, rfl⟩
  · have hne : b ≠ r := by rintro rfl; rw [Hp.set_same] at hr; cases hr
    exact .inr ⟨b, c, f, by rw [Hp.set_ne _ _ hne]; exact hb, hc, hv, by rw [Hp.set_comm _ _ _ hne], hf⟩

theorem nextcap_le (n c : Nat) (h : c < n) : Builtin.nextslicecap n c ≤ 2 * n + 768 := by
  unfold Builtin.nextslicecap
  split
  · omega
  · split
    · omega
    · have key : ∀ r c, c < n + (n + 768) / 4 + 1 → Builtin.growBy n r c < n + (n + 768) / 4 + 1 ∨ Builtin.growBy n r c = c := by
        intro r
        induction r with
        | zero => intro c h; exact .inr rfl
        | succ r ih =>
          intro c h
          simp only [Builtin.growBy]
          split
          · exact .inr rfl
          · rename_i hc
            have hlt : c + (c + 768) / 4 < n + (n + 768) / 4 + 1 := by omega
            rcases ih _ hlt with q | q
            · exact .inl q
            · exact .inl (by omega)
      rcases key 4 c (by omega) with q | q <;> omega

theorem zeroCells_size (z : Array Value) (n : Nat) : (Builtin.zeroCells z n).size = n * z.size := by simp [Builtin.zeroCells]

/-- Appending to a row of the call's own. -/
theorem aw_append {h0 h h' : Hp} {t t2 T e e2 s B n m : Nat} {v w : Value} {xs ys : List Value} {z : Value} {K : Value → Hp → Prop}
    (ht : P.underlying t = some (.slice e)) (ht2 : P.underlying t2 = some (.slice e2)) (hi : (P.info? e).map (fun i => (i.zero, i.size, i.bytes)) = some (some z, s, B)) (hzs : z.cells.size = s) (hB1 : 1 ≤ B) (hw : New h e s v h' xs n) (hr : Rds h' s w ys m) (hfl : ∀ y ∈ ys, flat y = true)
    (hB : (2 * (n + m) + 768) * B ≤ 2 ^ 48) (hle0 : Hp.le h0 h)
    (k : ∀ v' h'', New h0 e s v' h'' (xs ++ ys) (n + m) → K v' h'') : aw P (Builtin.append_ #[t, t2] T #[v, w]) K h' := by
  obtain ⟨i, hi0, hi1⟩ := Option.map_eq_some_iff.1 hi
  simp only [Prod.mk.injEq] at hi1
  have hs : sz P e = some s := by simp [sz, hi0, hi1.2.1]
  have hz : zr P e = some z := by simp [zr, hi0, hi1.1]
  have hbound : n + m ≤ 140737488355328 := by
    have : (2 * (n + m) + 768) * 1 ≤ (2 * (n + m) + 768) * B := Nat.mul_le_mul_left _ hB1
    omega
  obtain ⟨hyl, wa, wc, rfl, hwc, hwr⟩ := hr
  have hr : Rds h' s (.slice wa m wc) ys m := ⟨hyl, wa, wc, rfl, hwc, hwr⟩
  have hrv := hw.rds
  obtain ⟨hxl, hv⟩ := hw
  obtain ⟨a, c, rfl⟩ : ∃ a c, v = .slice a n c := by
    obtain ⟨_, a, c, e1, _⟩ := hrv
    exact ⟨a, c, e1⟩
  show awp P (Sem.bind (underlying t) _) _ h'
  rw [awp_bind, peek_awp P _ _ _ (pk_und ht)]
  show awp P (Sem.bind (sizeOf e) _) _ h'
  rw [awp_bind, peek_awp P _ _ _ (pk_size hs)]
  show awp P (Sem.bind (underlying t2) _) _ h'
  rw [awp_bind, peek_awp P _ _ _ (pk_und ht2)]
  show awp P (if n + m ≤ c then _ else _) _ h'
  split
  · rename_i hle
    show awp P (Sem.bind (Builtin.firstCells s m _) _) _ h'
    rw [awp_bind]
    refine awp_firstCells hr ?_
    rcases hv with ⟨hv, hn, hh⟩ | ⟨b, c', f, hb, hn, hv, hh, hf⟩
    · simp only [Value.slice.injEq] at hv
      obtain ⟨rfl, rfl, rfl⟩ := hv
      have hm0 : m = 0 := by omega
      subst hm0
      have : ys = [] := List.eq_nil_of_length_eq_zero (by simpa using hyl)
      subst this
      refine ⟨h0, by rw [hh]; exact hle0, k _ _ ⟨by simpa using hxl, .inl ⟨rfl, rfl, rfl⟩⟩⟩
    · simp only [Value.slice.injEq] at hv
      obtain ⟨rfl, _, rfl⟩ := hv
      show awp P (Sem.bind (storeCells ((⟨b, 0, none⟩ : Addr).add (n * s)) ys.toArray.toList) _) _ h'
      rw [awp_bind, add_off]
      have hb' : h' b = some (.row e xs (c * s) (some f)) := by rw [hh]; exact Hp.set_same ..
      have hcs : (n + m) * s ≤ c * s := Nat.mul_le_mul_right s hle
      refine awp_storeCells ys xs h' _ hb' hfl (by rw [hxl, hyl, ← Nat.add_mul]; exact hcs) hf 0 (0 + n * s) (by omega) ?_
      refine ⟨h0.set b (.row e (xs ++ ys) (c * s) (some f)), ?_, k _ _ ⟨by rw [List.length_append, hxl, hyl, Nat.add_mul], .inr ⟨b, c, f, le_none hle0 hb, hle, rfl, rfl, hf⟩⟩⟩
      have e1 : (if ys = [] then h' else h'.set b (.row e (xs ++ ys) (c * s) (some f))) = h.set b (.row e (xs ++ ys) (c * s) (some f)) := by
        split
        · rename_i e0; subst e0; rw [List.append_nil]; exact hh
        · rw [hh, Hp.set_set]
      rw [e1]
      exact le_set hle0
  · rename_i hgt
    have hnc : Builtin.nextslicecap (n + m) c * B ≤ 2 ^ 48 := Nat.le_trans (Nat.mul_le_mul_right B (nextcap_le (n + m) c (by omega))) hB
    have hinfo : peek P h' (typeInfo e) = some i := pk_info hi0
    show awp P (Sem.bind (typeInfo e) _) _ h'
    rw [awp_bind, peek_awp P _ _ _ hinfo]
    show awp P (if ((n + m : Nat) : Int) > IntKind.i64.max ∧ (false = true ∨ i.bytes = 0) then _ else _) _ h'
    rw [if_neg (by rw [hi1.2.2]; simp; omega)]
    show awp P (Sem.bind (typeInfo e) _) _ h'
    rw [awp_bind, peek_awp P _ _ _ hinfo]
    show awp P (if Builtin.nextslicecap (n + m) c * i.bytes > 2 ^ 48 then _ else _) _ h'
    rw [if_neg (by rw [hi1.2.2]; omega)]
    show awp P (Sem.choose (.appendCap (n + m) c e) _) _ h'
    simp only [awp, Question.forced, Bool.false_eq_true, if_false]
    intro tp
    obtain ⟨nc, hncap, hge⟩ : ∃ nc, Question.cut (.appendCap (n + m) c e) tp = nc ∧ n + m ≤ nc := ⟨_, rfl, by simp [Question.cut]⟩
    rw [hncap]
    show awp P (Sem.bind (typeInfo e) _) _ h'
    rw [awp_bind, peek_awp P _ _ _ hinfo]
    show awp P (Sem.bind (askRoom (nc * i.bytes)) _) _ h'
    rw [awp_bind]
    have hroom : ∀ (x : Nat) (K : Unit → Hp → Prop), K () h' → awp P (askRoom x) K h' := by
      intro x K q
      unfold askRoom
      split <;> exact q
    refine hroom _ _ ?_
    show awp P (Sem.bind (Builtin.firstCells s n _) _) _ h'
    rw [awp_bind]
    refine awp_firstCells hrv ?_
    show awp P (Sem.bind (Builtin.firstCells s m _) _) _ h'
    rw [awp_bind]
    refine awp_firstCells hr ?_
    show awp P (Sem.bind (zeroValue e) _) _ h'
    rw [awp_bind, peek_awp P _ _ _ (pk_zero hz)]
    intro r hrn
    obtain ⟨rest, hrest, hsz⟩ : ∃ rest : Array Value, Builtin.zeroCells z.cells (nc - (n + m)) = rest ∧ rest.size = (nc - (n + m)) * s := ⟨_, rfl, by rw [zeroCells_size, hzs]⟩
    have hh0 : h r = none := by
      rcases hv with ⟨_, _, rfl⟩ | ⟨b, c', f, hb, _, _, rfl, _⟩
      · exact hrn
      · by_cases e1 : r = b
        · subst e1; rw [Hp.set_same] at hrn; cases hrn
        · rwa [Hp.set_ne _ _ e1] at hrn
    refine ⟨h0.set r (.row e (xs ++ ys) (nc * s) (some (0, 0))), Hp.le.trans (le_set hle0) fun b' o ho => ?_, k _ _ ⟨by rw [List.length_append, hxl, hyl, Nat.add_mul], .inr ⟨r, nc, (0, 0), le_none hle0 hh0, hge, rfl, rfl, fun i _ => by simp⟩⟩⟩
    by_cases e1 : b' = r
    · subst e1
      rw [Hp.set_same] at ho
      cases ho
      refine ⟨_, Hp.set_same .., ?_⟩
      rw [hrest]
      refine ⟨rfl, ?_, ?_, .inl rfl⟩
      · simp only [Array.size_append, List.size_toArray, hxl, hyl, hsz]
        rw [← Nat.add_mul, ← Nat.add_mul]
        congr 1
        omega
      · simp only [Array.toList_append, List.append_assoc]
        exact ⟨rest.toList, by simp⟩
    · rw [Hp.set_ne _ _ e1] at ho ⊢
      rcases hv with ⟨_, _, rfl⟩ | ⟨b, c', f, hb, _, _, rfl, _⟩
      · exact ⟨o, ho, .refl _⟩
      · have : b' ≠ b := by rintro rfl; rw [hb] at ho; cases ho
        exact ⟨o, by rw [Hp.set_ne _ _ this]; exact ho, .refl _⟩

/-! ### Rows that are made -/
theorem aw_make {t e B : Nat} {z : Value} {k1 k2 : IntKind} {n c : Nat} {K : Value → Hp → Prop} (ht : P.underlying t = some (.slice e)) (hi : (P.info? e).map (fun i => (i.zero, i.size, i.bytes)) = some (some z, 1, B)) (hz : z.cells = #[z]) (hnc : n ≤ c)
    (hB : B * c ≤ 2 ^ 48) (hc : c ≤ 281474976710656) (k : ∀ v h', New h e 1 v h' (List.replicate n z) n → K v h') : aw P (Instr.makeSlice t (.int k1 n) (.int k2 c)) K h := by
  obtain ⟨i, hi0, hi1⟩ := Option.map_eq_some_iff.1 hi
  simp only [Prod.mk.injEq] at hi1
  have hs : sz P e = some 1 := by simp [sz, hi0, hi1.2.1]
  have hzr : zr P e = some z := by simp [zr, hi0, hi1.1]
  have hinfo : peek P h (typeInfo e) = some i := pk_info hi0
  show awp P (Sem.bind (underlying t) _) _ h
  rw [awp_bind, peek_awp P _ _ _ (pk_und ht)]
  show awp P (Sem.bind (typeInfo e) _) _ h
  rw [awp_bind, peek_awp P _ _ _ hinfo]
  have w1 : IntKind.i64.wrap (n : Int) = n := by unfold IntKind.wrap; simp [IntKind.bits, IntKind.signed]; omega
  have w2 : IntKind.i64.wrap (c : Int) = c := by unfold IntKind.wrap; simp [IntKind.bits, IntKind.signed]; omega
  show awp P (if (((decide (IntKind.i64.wrap (c : Int) < 0) || decide ((i.bytes : Int) * IntKind.i64.wrap (c : Int) > 2 ^ 48)) || decide (IntKind.i64.wrap (n : Int) < 0)) || decide (IntKind.i64.wrap (n : Int) > IntKind.i64.wrap (c : Int))) = true then _ else _) _ h
  rw [w1, w2, hi1.2.2]
  have hBi : ((B : Int) * (c : Int)) ≤ 2 ^ 48 := by exact_mod_cast hB
  rw [if_neg (by simp; omega)]
  show awp P (Sem.bind (askRoom _) _) _ h
  rw [awp_bind]
  have hroom : ∀ (x : Nat) (K : Unit → Hp → Prop), K () h → awp P (askRoom x) K h := by
    intro x K q
    unfold askRoom
    split <;> exact q
  refine hroom _ _ ?_
  show awp P (Sem.bind (sizeOf e) _) _ h
  rw [awp_bind, peek_awp P _ _ _ (pk_size hs)]
  have fin : ∀ (zs : Array Value), (zs = #[z] ∨ c = 0) → awp P (Sem.bind (newRow e ((Array.range ((c : Int).toNat * 1)).map (fun x => zs[x % zs.size]!))) fun a => Sem.pure (.slice (some a) (n : Int).toNat (c : Int).toNat)) (fun v h' => ∃ h0, Hp.le h0 h' ∧ K v h0) h := by
    intro zs hzs
    rw [awp_bind]
    intro r hr
    refine ⟨h.set r (.row e (List.replicate n z) (c * 1) (some (0, 0))), fun b o ho => ?_, k _ _ ⟨by simp, .inr ⟨r, c, (0, 0), hr, hnc, rfl, rfl, fun i _ => by simp⟩⟩⟩
    by_cases e1 : b = r
    · subst e1
      rw [Hp.set_same] at ho
      cases ho
      refine ⟨_, Hp.set_same .., rfl, by simp, ?_, .inl rfl⟩
      have : ((Array.range ((c : Int).toNat * 1)).map (fun x => zs[x % zs.size]!)).toList = List.replicate c z := by
        rcases hzs with rfl | rfl
        · apply List.ext_getElem
          · simp
          · intro i h1 h2
            simp [Nat.mod_one]
        · simp
      rw [this]
      exact ⟨List.replicate (c - n) z, by rw [List.replicate_append_replicate]; congr 1; omega⟩
    · rw [Hp.set_ne _ _ e1] at ho ⊢
      exact ⟨o, ho, .refl _⟩
  show awp P (if (c : Int).toNat * 1 = 0 then _ else _) _ h
  split
  · rename_i h0
    exact fin #[] (.inr (by simpa using h0))
  · show awp P (Sem.bind (zeroValue e) _) _ h
    rw [awp_bind, peek_awp P _ _ _ (pk_zero hzr)]
    have := fin z.cells (.inl hz)
    exact this

def fillL : List (Nat × Value) → List Value → List Value
  | [], l => l
  | p :: ps, l => fillL ps (l.set p.1 p.2)
theorem fillL_len : ∀ (ps : List (Nat × Value)) (l : List Value), (fillL ps l).length = l.length
  | [], _ => rfl
  | p :: ps, l => by rw [fillL, fillL_len ps, List.length_set]
theorem fill_flat : ∀ (ps : List (Nat × Value)) (cells : Array Value), (∀ p ∈ ps, flat p.2 = true ∧ p.1 < cells.size) → Instr.fill (fun i => some (i * 1, 1)) cells ps = some (fillL ps cells.toList).toArray
  | [], cells, _ => by simp [Instr.fill, fillL]
  | p :: ps, cells, hp => by
    obtain ⟨i, v⟩ := p
    obtain ⟨h1, h2⟩ := hp (i, v) (List.mem_cons_self ..)
    have ih := fill_flat ps (cells.setIfInBounds i v) (fun q hq => by
      have := hp q (List.mem_cons_of_mem _ hq)
      exact ⟨this.1, by simpa using this.2⟩)
    simp only at h1 h2
    simp only [Instr.fill, cells_flat h1]
    rw [if_neg (by simp; omega)]
    have : ((#[v] : Array Value).zipIdx.foldl (fun cs (x : Value × Nat) => cs.setIfInBounds (i * 1 + x.2) x.1) cells) = cells.setIfInBounds i v := by simp
    rw [this, ih]
    simp [fillL]

/-- A slice's literal. -/
theorem aw_lit {t e : Nat} {z : Value} {n : Nat} {ps : List (Nat × Value)} {K : Value → Hp → Prop} (ht : P.underlying t = some (.slice e)) (hs : sz P e = some 1) (hzr : zr P e = some z) (hz : z.cells = #[z]) (hn : n ≤ 16777216)
    (hp : ∀ p ∈ ps, flat p.2 = true ∧ p.1 < n) (k : ∀ v h', New h e 1 v h' (fillL ps (List.replicate n z)) n → (∃ r, h r = none ∧ v = .slice (some ⟨r, 0, none⟩) n n ∧ h' = h.set r (.row e (fillL ps (List.replicate n z)) n (some (0, 0)))) → K v h') :
    aw P (Instr.buildSlice t n ps.toArray) K h := by
  refine aw_of ?_
  show awp P (Sem.bind (underlying t) _) _ h
  rw [awp_bind, peek_awp P _ _ _ (pk_und ht)]
  show awp P (Sem.bind (sizeOf e) _) _ h
  rw [awp_bind, peek_awp P _ _ _ (pk_size hs)]
  show awp P (if n * 1 > 2 ^ 24 then _ else _) _ h
  rw [if_neg (by omega)]
  have fin : ∀ zs : Array Value, (zs = #[z] ∨ n = 0) → awp P (match Instr.fill (fun i => some (i * 1, 1)) ((Array.range (n * 1)).map (fun x => zs[x % zs.size]!)) ps.toArray.toList with
      | some cells => Sem.bind (newRow e cells) fun a => Sem.pure (.slice (some a) n n)
      | _ => stuck "buildSlice: a part of the wrong size") K h := by
    intro zs hzs
    have hl : ((Array.range (n * 1)).map (fun x => zs[x % zs.size]!)).toList = List.replicate n z := by
      rcases hzs with rfl | rfl
      · apply List.ext_getElem
        · simp
        · intro i h1 h2; simp [Nat.mod_one]
      · simp
    rw [show ps.toArray.toList = ps by simp, fill_flat ps _ (fun p q => ⟨(hp p q).1, by simpa using (hp p q).2⟩), hl]
    show awp P (Sem.bind (newRow e _) _) K h
    rw [awp_bind]
    intro r hr
    refine k _ _ ⟨by rw [fillL_len]; simp, .inr ⟨r, n, (0, 0), hr, Nat.le_refl _, rfl, ?_, fun i _ => by simp⟩⟩ ⟨r, hr, rfl, ?_⟩
    · simp [absOf, fillL_len]
    · simp [absOf, fillL_len]
  show awp P (if n * 1 = 0 then _ else _) _ h
  split
  · rename_i h0
    exact fin #[] (.inr (by simpa using h0))
  · show awp P (Sem.bind (zeroValue e) _) _ h
    rw [awp_bind, peek_awp P _ _ _ (pk_zero hzr)]
    have := fin z.cells (.inl hz)
    exact this

theorem New.form {e s : Nat} {v : Value} {h' : Hp} {xs : List Value} {n : Nat} (w : New h e s v h' xs n) (hn : 0 < n) :
    ∃ b c f, h b = none ∧ n ≤ c ∧ v = .slice (some ⟨b, 0, none⟩) n c ∧ h' = h.set b (.row e xs (c * s) (some f)) ∧ ∀ i, i < c * s → ¬ (f.1 ≤ i ∧ i < f.2) := by
  rcases w.2 with ⟨_, h0, _⟩ | q
  · omega
  · exact q
/-- A cell of a new row is written. -/
theorem aw_storeN {t e b c n i : Nat} {y : Value} {h' : Hp} {xs : List Value} {K : Unit → Hp → Prop} (hs : sz P t = some 1) (w : New h e 1 (.slice (some ⟨b, 0, none⟩) n c) h' xs n) (hi : i < n) (hy : flat y = true)
    (k : ∀ h'', New h e 1 (.slice (some ⟨b, 0, none⟩) n c) h'' (xs.set i y) n → K () h'') : aw P (Instr.storeAt t (.pointer (some ⟨b, i, none⟩)) y) K h' := by
  obtain ⟨b', c', f, hb, hc, hv, hh, hf⟩ := w.form (by omega)
  have hl := w.1
  simp only [Value.slice.injEq, Option.some.injEq, Addr.mk.injEq] at hv
  obtain ⟨⟨rfl, _⟩, _, rfl⟩ := hv
  have hb' : h' b = some (.row e xs (c * 1) (some f)) := by rw [hh]; exact Hp.set_same ..
  refine aw_store hs hy (put_row hb' (by omega) (hf i (by omega)) y) (k _ ⟨by rw [List.length_set]; exact hl, .inr ⟨b, c, f, hb, hc, rfl, ?_, hf⟩⟩)
  rw [hh, Hp.set_set]
end
end Go.SL
