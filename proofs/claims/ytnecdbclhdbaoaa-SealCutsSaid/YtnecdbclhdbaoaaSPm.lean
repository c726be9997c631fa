/- Plain: with a book, what is opened is what was sealed. Conditions: none; no program in sight. -/
import Derived.Test.YtnecdbclhdbaoaaSPl
set_option linter.unusedSimpArgs false
set_option linter.unusedVariables false
set_option maxRecDepth 100000
namespace Go.Pure
/-- The boxes that a layer's pieces come to, and what a book keeps of them. -/
def outsB : Nat → List (List Nat) → List (List Nat)
  | _, [] => []
  | n, p :: ps => boxB n (p.length + 16) :: outsB (n + 1) ps
def keptB (key beside pre : List Nat) (total : Nat) : Nat → List (List Nat) → List Box
  | _, [] => []
  | i, p :: ps => ⟨key, nonceN pre i (i + 1 == total), beside, p⟩ :: keptB key beside pre total (i + 1) ps
theorem outsB_len : ∀ (ps : List (List Nat)) (n : Nat), (outsB n ps).length = ps.length
  | [], _ => rfl
  | p :: ps, n => by simp [outsB, outsB_len ps]
theorem keptB_len (key beside pre : List Nat) (total : Nat) : ∀ (ps : List (List Nat)) (i : Nat), (keptB key beside pre total i ps).length = ps.length
  | [], _ => rfl
  | p :: ps, i => by simp [keptB, keptB_len key beside pre total ps]
theorem outsB_get : ∀ (ps : List (List Nat)) (n j : Nat) (p : List Nat), ps[j]? = some p → (outsB n ps)[j]? = some (boxB (n + j) (p.length + 16))
  | [], _, j, p, e => by simp at e
  | q :: ps, n, 0, p, e => by simp only [List.getElem?_cons_zero, Option.some.injEq] at e; subst e; rfl
  | q :: ps, n, j + 1, p, e => by
    simp only [outsB, List.getElem?_cons_succ] at e ⊢
    rw [outsB_get ps (n + 1) j p e, show n + 1 + j = n + (j + 1) by omega]
theorem keptB_get {key beside pre : List Nat} {total : Nat} : ∀ (ps : List (List Nat)) (i j : Nat) (s : Box), (keptB key beside pre total i ps)[j]? = some s → ps[j]? = some s.text ∧ s.key = key ∧ s.beside = beside ∧ s.nonce = nonceN pre (i + j) (i + j + 1 == total)
  | [], _, j, s, e => by simp [keptB] at e
  | q :: ps, i, 0, s, e => by simp only [keptB, List.getElem?_cons_zero, Option.some.injEq] at e; subst e; exact ⟨rfl, rfl, rfl, rfl⟩
  | q :: ps, i, j + 1, s, e => by
    simp only [keptB, List.getElem?_cons_succ] at e ⊢
    have := keptB_get ps (i + 1) j s e
    rwa [show i + 1 + j = i + (j + 1) by omega] at this
theorem goL_book {key pre : List Nat} (hk : key.length = 32) (hp : pre.length = 7) (beside : List Nat) (total : Nat) (ts : List (List Nat)) : ∀ (ps : List (List Nat)) (bs : List Box) (i : Nat),
    goL (sealStep key beside pre total) (.book ts bs) i ps = (0, outsB bs.length ps, .book ts (bs ++ keptB key beside pre total i ps))
  | [], bs, i => by simp [goL, outsB, keptB]
  | p :: ps, bs, i => by
    have e : sealStep key beside pre total (.book ts bs) i p = (0, boxB bs.length (p.length + 16), .book ts (bs ++ [⟨key, nonceN pre i (i + 1 == total), beside, p⟩])) := by
      unfold sealStep crSeal
      have hm : may key (nonceN pre i (i + 1 == total)) := ⟨hk, by rw [nonceN_len, hp]⟩
      simp only [if_pos hm]
    simp only [goL, e, if_true]
    rw [goL_book hk hp beside total ts ps _ (i + 1)]
    simp [outsB, keptB]
/-- A layer sealed with a book. -/
theorem sealS_book {key pre ctx layer : List Nat} {size : Int} (h : okAsk key pre size) (ts : List (List Nat)) (bs : List Box) :
    sealS (.book ts bs) key pre ctx layer size = (0, headL pre size.toNat ++ (outsB bs.length (cutL size.toNat layer)).flatten, .book ts (bs ++ keptB key (headL pre size.toNat ++ ctx) pre (cutL size.toNat layer).length 0 (cutL size.toNat layer))) := by
  unfold sealS
  simp only [if_pos h]
  rw [goL_book h.1 h.2.1]
  rfl
theorem nonceN_inj {p q : List Nat} {i j : Nat} {a b : Bool} (hl : p.length = q.length) (hi : i < 4294967296) (hj : j < 4294967296) (e : nonceN p i a = nonceN q j b) : p = q ∧ i = j ∧ a = b := by
  unfold nonceN at e
  rw [List.append_assoc, List.append_assoc] at e
  obtain ⟨e1, e2⟩ := List.append_inj e hl
  obtain ⟨e3, e4⟩ := List.append_inj e2 (by rw [bg_len, bg_len])
  have e5 := congrArg bval e3
  rw [bval_bg, bval_bg] at e5
  have p4 : (256 : Nat) ^ 4 = 4294967296 := rfl
  rw [p4] at e5
  refine ⟨e1, by omega, ?_⟩
  cases a <;> cases b <;> simp_all
theorem goL_opened {key beside pre : List Nat} {total : Nat} {c : Cr} : ∀ (l : List (List Nat)) (i : Nat), (goL (openStep key beside pre total) c i l).1 = 0 → ∀ (j : Nat) (x : List Nat), l[j]? = some x → (crOpen c key (nonceN pre (i + j) (i + j + 1 == total)) beside x).1 = 0
  | [], _, _, j, x, e => by simp at e
  | p :: l, i, h, j, x, e => by
    simp only [goL] at h
    by_cases h0 : (openStep key beside pre total c i p).1 = 0
    case neg => rw [if_neg h0] at h; exact absurd h h0
    rw [if_pos h0] at h
    match j, e with
    | 0, e => simp only [List.getElem?_cons_zero, Option.some.injEq] at e; subst e; exact h0
    | j + 1, e =>
      have := goL_opened l (i + 1) h j x (by simpa using e)
      rwa [show i + 1 + j = i + (j + 1) by omega] at this
theorem bookOpen_some {ts : List (List Nat)} {bs : List Box} {key nonce beside x : List Nat} (h : (crOpen (.book ts bs) key nonce beside x).1 = 0) : ∃ m s, bs[m]? = some s ∧ s.key = key ∧ s.nonce = nonce ∧ s.beside = beside ∧ x = boxB m (s.text.length + 16) := by
  unfold crOpen at h
  by_cases hm : may key nonce
  case neg => rw [if_neg hm] at h; cases h
  simp only [if_pos hm] at h
  unfold bookOpen at h
  by_cases h16 : x.length < 16
  · rw [if_pos h16] at h; cases h
  rw [if_neg h16] at h
  cases e : bs[bval (x.take 8)]? with
  | none => rw [e] at h; cases h
  | some s =>
    rw [e] at h
    dsimp only at h
    split at h
    · rename_i q
      exact ⟨_, s, e, q.1, q.2.1, q.2.2.1, q.2.2.2.symm⟩
    · cases h

/-- The pieces of what is opened are those that were sealed under its prefix. -/
theorem pieces_same {pre pre2 B P key2 : List Nat} {ts : List (List Nat)} {ps l : List (List Nat)} {off off2 : Nat} {bs : List Box} (hp : pre.length = 7) (hp2 : pre2.length = 7) (hP : P = pre) (hne : pre ≠ pre2) (hps : ps.length < 4294967296) (hl : l.length < 4294967296) (hl0 : l ≠ [])
    (hbs : ∀ m s, bs[m]? = some s → (∃ j, m = off + j ∧ ps[j]? = some s.text ∧ s.nonce = nonceN pre j (j + 1 == ps.length)) ∨ (∃ j, m = off2 + j ∧ ps[j]? = some s.text ∧ s.nonce = nonceN pre2 j (j + 1 == ps.length)))
    (ho : ∀ (j : Nat) (x : List Nat), l[j]? = some x → (crOpen (.book ts bs) key2 (nonceN P j (j + 1 == l.length)) B x).1 = 0) : l = outsB off ps := by
  subst hP
  have each : ∀ (j : Nat) (x : List Nat), l[j]? = some x → (j + 1 == l.length) = (j + 1 == ps.length) ∧ ∃ t, ps[j]? = some t ∧ x = boxB (off + j) (t.length + 16) := by
    intro j x e
    have hj : j < l.length := (List.getElem?_eq_some_iff.1 e).1
    obtain ⟨m, s, es, _, en, _, ex⟩ := bookOpen_some (ho j x e)
    rcases hbs m s es with ⟨i, em, et, en2⟩ | ⟨i, em, et, en2⟩
    · have hi : i < ps.length := (List.getElem?_eq_some_iff.1 et).1
      rw [en2] at en
      obtain ⟨_, rfl, e3⟩ := nonceN_inj rfl (by omega) (by omega) en
      exact ⟨e3.symm, s.text, et, by rw [ex, em]⟩
    · have hi : i < ps.length := (List.getElem?_eq_some_iff.1 et).1
      rw [en2] at en
      obtain ⟨e1, _⟩ := nonceN_inj (by omega) (by omega) (by omega) en
      exact absurd e1.symm hne
  have hlen : l.length = ps.length := by
    have hpos : 0 < l.length := by cases l with | nil => exact absurd rfl hl0 | cons a b => simp
    obtain ⟨e1, _⟩ := each (l.length - 1) _ (List.getElem?_eq_getElem (by omega))
    rw [show l.length - 1 + 1 = l.length by omega] at e1
    simpa using e1
  apply List.ext_getElem?
  intro j
  by_cases hj : j < l.length
  · obtain ⟨_, t, et, ex⟩ := each j _ (List.getElem?_eq_getElem hj)
    rw [outsB_get ps off j t et, List.getElem?_eq_getElem hj, ex]
  · rw [List.getElem?_eq_none (by omega), List.getElem?_eq_none (by rw [outsB_len]; omega)]

/-- With a book in which a layer was sealed under two prefixes, what is opened is one of the two. -/
theorem cuts_open {key pre pre2 ctx layer key2 ctx2 s : List Nat} {ts : List (List Nat)} {n : Nat} (hk : key.length = 32) (hp : pre.length = 7) (hp2 : pre2.length = 7) (hne : pre ≠ pre2) (hn : 1 ≤ n ∧ n ≤ 65536) (hL : (cutL n layer).length < 4294967296) (hs : s.length < 4294967290)
    (h : (openS (.book ts (keptB key (headL pre n ++ ctx) pre (cutL n layer).length 0 (cutL n layer) ++ keptB key (headL pre2 n ++ ctx) pre2 (cutL n layer).length 0 (cutL n layer))) key2 ctx2 s).1 = 0) :
    key2 = key ∧ ctx2 = ctx ∧ (s = headL pre n ++ (outsB 0 (cutL n layer)).flatten ∨ s = headL pre2 n ++ (outsB (cutL n layer).length (cutL n layer)).flatten) := by
  generalize cutL n layer = ps at *
  have hbs : ∀ m b, (keptB key (headL pre n ++ ctx) pre ps.length 0 ps ++ keptB key (headL pre2 n ++ ctx) pre2 ps.length 0 ps)[m]? = some b →
      (∃ j, m = 0 + j ∧ ps[j]? = some b.text ∧ b.nonce = nonceN pre j (j + 1 == ps.length) ∧ b.key = key ∧ b.beside = headL pre n ++ ctx) ∨ (∃ j, m = ps.length + j ∧ ps[j]? = some b.text ∧ b.nonce = nonceN pre2 j (j + 1 == ps.length) ∧ b.key = key ∧ b.beside = headL pre2 n ++ ctx) := by
    intro m b e
    by_cases hm : m < ps.length
    · rw [List.getElem?_append_left (by rw [keptB_len]; exact hm)] at e
      obtain ⟨e1, e2, e3, e4⟩ := keptB_get ps 0 m b e
      rw [Nat.zero_add] at e4
      exact .inl ⟨m, by omega, e1, e4, e2, e3⟩
    · rw [List.getElem?_append_right (by rw [keptB_len]; omega), keptB_len] at e
      obtain ⟨e1, e2, e3, e4⟩ := keptB_get ps 0 (m - ps.length) b e
      rw [Nat.zero_add] at e4
      exact .inr ⟨m - ps.length, by omega, e1, e4, e2, e3⟩
  generalize keptB key (headL pre n ++ ctx) pre ps.length 0 ps ++ keptB key (headL pre2 n ++ ctx) pre2 ps.length 0 ps = bs at h hbs
  unfold openS at h
  by_cases c1 : key2.length ≠ 32
  · rw [if_pos c1] at h; cases h
  rw [if_neg c1] at h
  by_cases c2 : s.length < 12 ∨ s.getD 0 0 ≠ 1
  · rw [if_pos c2] at h; cases h
  rw [if_neg c2] at h
  dsimp only at h
  by_cases c3 : ¬ (1 ≤ bval ((s.take 12).drop 8) ∧ bval ((s.take 12).drop 8) ≤ 65536)
  · rw [if_pos c3] at h; cases h
  rw [if_neg c3] at h
  have hlne := cutL_ne (bval ((s.take 12).drop 8) + 16) (s.drop 12)
  have hflat := cutL_flat (bval ((s.take 12).drop 8) + 16) (s.drop 12)
  have hcnt := pcs_len (n := bval ((s.take 12).drop 8) + 16) (by omega) _ (cutL_pcs (by omega) (s.drop 12))
  rw [hflat, List.length_drop] at hcnt
  generalize cutL (bval ((s.take 12).drop 8) + 16) (s.drop 12) = l at h hlne hflat hcnt
  split at h
  · cases h
  by_cases c4 : (goL (openStep key2 (s.take 12 ++ ctx2) ((s.take 8).drop 1) l.length) (.book ts bs) 0 l).1 = 0
  case neg => rw [if_neg c4] at h; exact absurd h c4
  have ho : ∀ (j : Nat) (x : List Nat), l[j]? = some x → (crOpen (.book ts bs) key2 (nonceN ((s.take 8).drop 1) j (j + 1 == l.length)) (s.take 12 ++ ctx2) x).1 = 0 := fun j x e => by
    have := goL_opened l 0 c4 j x e
    rwa [Nat.zero_add] at this
  have hlpos : 0 < l.length := by cases l with | nil => exact absurd rfl hlne | cons a b => simp
  obtain ⟨m, b, eb, k1, k2, k3, _⟩ := bookOpen_some (ho 0 _ (List.getElem?_eq_getElem hlpos))
  have lP : ((s.take 8).drop 1).length = 7 := by rw [List.length_drop, List.length_take]; omega
  have l12 : (s.take 12).length = 12 := by rw [List.length_take]; omega
  have es : s = s.take 12 ++ l.flatten := by rw [hflat, List.take_append_drop]
  have hbs' : ∀ m b, bs[m]? = some b → (∃ j, m = 0 + j ∧ ps[j]? = some b.text ∧ b.nonce = nonceN pre j (j + 1 == ps.length)) ∨ (∃ j, m = ps.length + j ∧ ps[j]? = some b.text ∧ b.nonce = nonceN pre2 j (j + 1 == ps.length)) := fun m b e => by
    rcases hbs m b e with ⟨j, a1, a2, a3, _⟩ | ⟨j, a1, a2, a3, _⟩
    · exact .inl ⟨j, a1, a2, a3⟩
    · exact .inr ⟨j, a1, a2, a3⟩
  rcases hbs m b eb with ⟨j, em, et, en, ek, ebs⟩ | ⟨j, em, et, en, ek, ebs⟩
  · have hj : j < ps.length := (List.getElem?_eq_some_iff.1 et).1
    rw [en] at k2
    obtain ⟨e1, _, _⟩ := nonceN_inj (by omega) (by omega) (by omega) k2
    rw [ebs] at k3
    obtain ⟨e2, e3⟩ := List.append_inj k3 (by rw [headL_len _ _ hp, l12])
    have := pieces_same hp hp2 e1.symm hne (by omega) (by omega) hlne hbs' ho
    exact ⟨by rw [← k1, ek], e3.symm, .inl (by rw [es, ← e2, this])⟩
  · have hj : j < ps.length := (List.getElem?_eq_some_iff.1 et).1
    rw [en] at k2
    obtain ⟨e1, _, _⟩ := nonceN_inj (by omega) (by omega) (by omega) k2
    rw [ebs] at k3
    obtain ⟨e2, e3⟩ := List.append_inj k3 (by rw [headL_len _ _ hp2, l12])
    have := pieces_same hp2 hp e1.symm (Ne.symm hne) (by omega) (by omega) hlne (fun m b e => (hbs' m b e).symm) ho
    exact ⟨by rw [← k1, ek], e3.symm, .inr (by rw [es, ← e2, this])⟩
/-- What isn't opened is wrong or has no form. -/
theorem openS_codes {ts : List (List Nat)} {bs : List Box} {key ctx s : List Nat} (hk : key.length = 32) : (openS (.book ts bs) key ctx s).1 = 0 ∨ (openS (.book ts bs) key ctx s).1 = 7 ∨ (openS (.book ts bs) key ctx s).1 = 8 := by
  unfold openS
  rw [if_neg (by omega)]
  by_cases c2 : s.length < 12 ∨ s.getD 0 0 ≠ 1
  · rw [if_pos c2]; exact .inr (.inr rfl)
  rw [if_neg c2]
  dsimp only
  split
  · exact .inr (.inr rfl)
  split
  · exact .inr (.inr rfl)
  have hP : ((s.take 8).drop 1).length = 7 := by rw [List.length_drop, List.length_take]; omega
  generalize (s.take 8).drop 1 = P at hP
  have key2 : ∀ (l : List (List Nat)) (B : List Nat) (total i : Nat), (goL (openStep key B P total) (.book ts bs) i l).1 = 0 ∨ (goL (openStep key B P total) (.book ts bs) i l).1 = 7 ∨ (goL (openStep key B P total) (.book ts bs) i l).1 = 8 := by
    intro l B total
    induction l with
    | nil => intro i; exact .inl rfl
    | cons p l ih =>
      intro i
      simp only [goL]
      split
      · exact ih (i + 1)
      · have hm : may key (nonceN P i (i + 1 == total)) := ⟨hk, by rw [nonceN_len, hP]⟩
        have e : (openStep key B P total (.book ts bs) i p).1 = (bookOpen bs key (nonceN P i (i + 1 == total)) B p).1 := by
          unfold openStep crOpen
          simp only [if_pos hm]
        show (openStep key B P total (.book ts bs) i p).1 = 0 ∨ (openStep key B P total (.book ts bs) i p).1 = 7 ∨ (openStep key B P total (.book ts bs) i p).1 = 8
        rw [e]
        unfold bookOpen
        split
        · exact .inr (.inr rfl)
        · split
          · exact .inr (.inl rfl)
          · split
            · exact .inl rfl
            · exact .inr (.inl rfl)
  split
  · exact .inl rfl
  · exact key2 _ _ _ _
end Go.Pure
