/- Plain: what is sealed is opened to itself, by whatever has sealed more since. Conditions: none; no program in sight. -/
import Derived.Test.YtnecdbclhdbaoaaSPk
set_option linter.unusedSimpArgs false
set_option linter.unusedVariables false
set_option maxRecDepth 100000
namespace Go.Pure
/-- A crypt that has sealed more since. -/
def Later (c c' : Cr) : Prop :=
  match c, c' with
  | .real, .real => True
  | .book _ bs, .book _ bs' => bs <+: bs'
  | _, _ => False
theorem Later.refl (c : Cr) : Later c c := by cases c <;> simp [Later]
theorem Later.trans {a b c : Cr} (x : Later a b) (y : Later b c) : Later a c := by
  cases a <;> cases b <;> cases c <;> simp only [Later] at * <;> first | trivial | exact x.elim | exact y.elim | exact x.trans y
theorem seal_later (c : Cr) (key nonce b t : List Nat) : Later c (crSeal c key nonce b t).2.2 := by
  cases c with
  | real => unfold crSeal; dsimp only; split <;> trivial
  | book ts bs =>
    unfold crSeal; dsimp only; split
    · exact List.prefix_append _ _
    · exact List.prefix_refl _
/-- How much was sealed. -/
def much (c : Cr) : Nat := match c with
  | .real => 0
  | .book _ bs => bs.length
theorem crSeal_open {c c2 : Cr} {key nonce b t : List Nat} (h0 : (crSeal c key nonce b t).1 = 0) (hl : Later (crSeal c key nonce b t).2.2 c2) (hm : much c < 18446744073709551616) : crOpen c2 key nonce b (crSeal c key nonce b t).2.1 = (0, t) := by
  cases c with
  | real =>
    unfold crSeal at h0 hl ⊢
    dsimp only at h0 hl ⊢
    by_cases hmay : may key nonce
    · rw [if_pos hmay] at hl ⊢
      cases c2 with
      | real => unfold crOpen; rw [if_pos hmay]; exact open_seal _ _ _ _
      | book _ _ => exact hl.elim
    · rw [if_neg hmay] at h0; cases h0
  | book ts bs =>
    unfold crSeal at h0 hl ⊢
    dsimp only at h0 hl ⊢
    by_cases hmay : may key nonce
    · rw [if_pos hmay] at hl ⊢
      cases c2 with
      | real => exact hl.elim
      | book ts2 bs2 =>
        unfold crOpen; rw [if_pos hmay]
        show bookOpen bs2 key nonce b (boxB bs.length (t.length + 16)) = _
        unfold bookOpen
        have hm : bs.length < 18446744073709551616 := hm
        have p8 : (256 : Nat) ^ 8 = 18446744073709551616 := rfl
        rw [if_neg (by rw [boxB_len]; omega), boxB_take8 _ _ (by omega), bval_bg, p8, Nat.mod_eq_of_lt hm]
        have hl' : bs ++ [(⟨key, nonce, b, t⟩ : Box)] <+: bs2 := hl
        obtain ⟨z, hz⟩ := hl'
        have : bs2[bs.length]? = some ⟨key, nonce, b, t⟩ := by rw [← hz]; simp
        rw [this]
        simp
    · rw [if_neg hmay] at h0; cases h0
theorem goL_later (key beside pre : List Nat) (total : Nat) : ∀ (ps : List (List Nat)) (c : Cr) (i : Nat), Later c (goL (sealStep key beside pre total) c i ps).2.2
  | [], c, _ => Later.refl c
  | p :: ps, c, i => by
    simp only [goL]
    split
    · exact (seal_later _ _ _ _ _).trans (goL_later key beside pre total ps _ (i + 1))
    · exact seal_later _ _ _ _ _
theorem much_next (c : Cr) (key nonce b t : List Nat) : much (crSeal c key nonce b t).2.2 ≤ much c + 1 := by
  cases c with
  | real => unfold crSeal; dsimp only; split <;> simp [much]
  | book ts bs => unfold crSeal; dsimp only; split <;> simp [much]
theorem crSeal_len' {c : Cr} {key nonce b t : List Nat} (h : (crSeal c key nonce b t).1 = 0) : (crSeal c key nonce b t).2.1.length = t.length + 16 := by
  cases c with
  | real =>
    unfold crSeal at h ⊢; dsimp only at h ⊢; split at h
    · rename_i hm; rw [if_pos hm]; exact sealL_len _ _ _ _
    · cases h
  | book ts bs =>
    unfold crSeal at h ⊢; dsimp only at h ⊢; split at h
    · rename_i hm; rw [if_pos hm]; exact boxB_len _ _
    · cases h
/-- Sealed piece by piece, and opened so. -/
theorem goL_open (key beside pre : List Nat) (total : Nat) : ∀ (ps : List (List Nat)) (c c2 : Cr) (i : Nat), (goL (sealStep key beside pre total) c i ps).1 = 0 → Later (goL (sealStep key beside pre total) c i ps).2.2 c2 → much c + ps.length < 18446744073709551616 →
    goL (openStep key beside pre total) c2 i (goL (sealStep key beside pre total) c i ps).2.1 = (0, ps, c2) ∧ ((goL (sealStep key beside pre total) c i ps).2.1).map List.length = ps.map (fun p => p.length + 16)
  | [], c, c2, i, _, _, _ => ⟨rfl, rfl⟩
  | p :: ps, c, c2, i, h0, hl, hm => by
    simp only [goL] at h0 hl ⊢
    by_cases h1 : (sealStep key beside pre total c i p).1 = 0
    · simp only [if_pos h1] at h0 hl ⊢
      have hm1 : much c + (ps.length + 1) < 18446744073709551616 := hm
      have hn := much_next c key (nonceN pre i (i + 1 == total)) beside p
      obtain ⟨e1, e2⟩ := goL_open key beside pre total ps (sealStep key beside pre total c i p).2.2 c2 (i + 1) h0 hl (by
        have : much (sealStep key beside pre total c i p).2.2 ≤ much c + 1 := hn
        omega)
      have hopen : crOpen c2 key (nonceN pre i (i + 1 == total)) beside (crSeal c key (nonceN pre i (i + 1 == total)) beside p).2.1 = (0, p) := crSeal_open h1 ((goL_later key beside pre total ps _ (i + 1)).trans hl) (by omega)
      have hstep : openStep key beside pre total c2 i (sealStep key beside pre total c i p).2.1 = (0, p, c2) := by
        unfold openStep
        have : (sealStep key beside pre total c i p).2.1 = (crSeal c key (nonceN pre i (i + 1 == total)) beside p).2.1 := rfl
        rw [this, hopen]
      refine ⟨?_, ?_⟩
      · simp only [goL, hstep, if_true, e1]
      · simp only [List.map_cons, e2]
        congr 1
        exact crSeal_len' h1
    · simp only [if_neg h1] at h0
      exact absurd h0 h1
theorem pcs_map {n : Nat} : ∀ {ps xs : List (List Nat)}, Pcs n ps → xs.map List.length = ps.map (fun p => p.length + 16) → Pcs (n + 16) xs
  | [], _, h, _ => h.elim
  | [p], xs, h, e => by
    match xs, e with
    | [x], e =>
      simp only [List.map_cons, List.map_nil, List.cons.injEq, and_true] at e
      have hp : p.length ≤ n := h
      show x.length ≤ n + 16
      omega
    | [], e => simp at e
    | _ :: _ :: _, e => simp at e
  | p :: q :: ps, xs, h, e => by
    match xs, e with
    | x :: y :: xs, e =>
      simp only [List.map_cons, List.cons.injEq] at e
      refine ⟨by rw [e.1, h.1], fun _ => by omega, pcs_map h.2.2 (by simp only [List.map_cons, List.cons.injEq]; exact e.2)⟩
    | [], e => simp at e
    | [_], e => simp at e
/-- The last piece is something, if it isn't alone. -/
theorem pcs_last {n : Nat} (hn : 0 < n) : ∀ {ps : List (List Nat)}, Pcs n ps → 1 < ps.length → 0 < (ps.getLastD []).length
  | [], h, _ => h.elim
  | [p], _, hl => by simp at hl
  | [p, q], h, _ => h.2.1 rfl
  | p :: q :: r :: ps, h, _ => by
    have := pcs_last hn (ps := q :: r :: ps) h.2.2 (by simp)
    simpa using this
theorem map_last {α β : Type} (f : α → β) (d : α) (e : β) : ∀ (l : List α), l ≠ [] → (l.map f).getLastD e = f (l.getLastD d)
  | [], h => absurd rfl h
  | [x], _ => rfl
  | x :: y :: l, _ => by
    have := map_last f d e (y :: l) (by simp)
    simpa using this
theorem seal_open {c c2 : Cr} {key pre ctx layer : List Nat} {size : Int} (h0 : (sealS c key pre ctx layer size).1 = 0) (hl : Later (sealS c key pre ctx layer size).2.2 c2) (hm : much c + layer.length + 1 < 18446744073709551616) :
    openS c2 key ctx (sealS c key pre ctx layer size).2.1 = (0, layer) ∧ okAsk key pre size := by
  unfold sealS at h0 hl ⊢
  by_cases hok : okAsk key pre size
  case neg => rw [if_neg hok] at h0; cases h0
  simp only [if_pos hok] at h0 hl ⊢
  obtain ⟨h32, h7, hs1, hs2⟩ := hok
  obtain ⟨n, rfl⟩ : ∃ n : Nat, size = (n : Int) := ⟨size.toNat, by omega⟩
  simp only [Int.toNat_natCast] at h0 hl ⊢
  have hn : 0 < n := by omega
  have hcnt := pcs_len hn _ (cutL_pcs hn layer)
  have hpcs := cutL_pcs hn layer
  have hflat := cutL_flat n layer
  have hne := cutL_ne n layer
  rw [hflat] at hcnt
  generalize hps : cutL n layer = ps at *
  by_cases g0 : (goL (sealStep key (headL pre n ++ ctx) pre ps.length) c 0 ps).1 = 0
  case neg => simp only [if_neg g0] at h0; exact absurd h0 g0
  simp only [if_pos g0] at h0 hl ⊢
  obtain ⟨e1, e2⟩ := goL_open key (headL pre n ++ ctx) pre ps.length ps c c2 0 g0 hl (by omega)
  generalize (goL (sealStep key (headL pre n ++ ctx) pre ps.length) c 0 ps).2.1 = xs at e1 e2 ⊢
  have lh := headL_len pre n h7
  have lx : xs.length = ps.length := by have := congrArg List.length e2; simpa using this
  have hpx := pcs_map hpcs e2
  have ecut := cutL_of (n := n + 16) (by omega) hpx
  refine ⟨?_, ⟨h32, h7, hs1, hs2⟩⟩
  unfold openS
  have t12 : (headL pre n ++ xs.flatten).take 12 = headL pre n := by rw [List.take_append_of_le_length (by omega), List.take_of_length_le (by omega)]
  have d12 : (headL pre n ++ xs.flatten).drop 12 = xs.flatten := by rw [List.drop_append_of_le_length (by omega), List.drop_of_length_le (by omega), List.nil_append]
  have t8 : ((headL pre n ++ xs.flatten).take 8).drop 1 = pre := by
    rw [List.take_append_of_le_length (by omega)]
    unfold headL
    rw [List.take_append_of_le_length (by simp [h7]), List.take_of_length_le (by simp [h7])]
    simp
  have g0' : (headL pre n ++ xs.flatten).getD 0 0 = 1 := by simp [headL]
  have hd8 : (headL pre n).drop 8 = bg 4 n := by
    unfold headL
    rw [List.drop_append_of_le_length (by simp [h7]), List.drop_of_length_le (by simp [h7]), List.nil_append]
  have hb : bval (bg 4 n) = n := by
    rw [bval_bg]
    exact Nat.mod_eq_of_lt (by have : (256 : Nat) ^ 4 = 4294967296 := rfl; omega)
  rw [if_neg (by omega), if_neg (by rw [g0', List.length_append]; omega)]
  simp only [t12, d12, t8, hd8, hb, ecut]
  rw [if_neg (by omega)]
  have lastlen : (xs.getLastD []).length = (ps.getLastD []).length + 16 := by
    have q1 := map_last List.length [] 0 xs (by intro e; rw [e] at lx; exact hne (List.eq_nil_of_length_eq_zero (by simpa using lx.symm)))
    have q2 := map_last (fun p : List Nat => p.length + 16) [] 0 ps hne
    rw [← q1, e2, q2]
  have hlast : ¬ ((xs.getLastD []).length < 16 ∨ (xs.getLastD []).length = 16 ∧ 1 < xs.length) := by
    rintro (q | ⟨q, q2⟩)
    · omega
    · have := pcs_last hn hpcs (by omega)
      omega
  rw [if_neg hlast, lx, e1]
  simp only [if_true, hflat]
theorem sealS_len {c : Cr} {key pre ctx layer : List Nat} {size : Int} (h0 : (sealS c key pre ctx layer size).1 = 0) (hm : much c + layer.length + 1 < 18446744073709551616) (hlay : layer.length ≤ 2147483647) :
    ((sealS c key pre ctx layer size).2.1.length : Int) = lengthS layer.length size := by
  unfold sealS at h0 ⊢
  by_cases hok : okAsk key pre size
  case neg => rw [if_neg hok] at h0; cases h0
  simp only [if_pos hok] at h0 ⊢
  obtain ⟨h32, h7, hs1, hs2⟩ := hok
  obtain ⟨n, rfl⟩ : ∃ n : Nat, size = (n : Int) := ⟨size.toNat, by omega⟩
  simp only [Int.toNat_natCast] at h0 ⊢
  have hn : 0 < n := by omega
  have hcnt := pcs_len hn _ (cutL_pcs hn layer)
  have hct := pcs_count hn _ (cutL_pcs hn layer)
  have hflat := cutL_flat n layer
  rw [hflat] at hcnt hct
  generalize hps : cutL n layer = ps at *
  by_cases g0 : (goL (sealStep key (headL pre n ++ ctx) pre ps.length) c 0 ps).1 = 0
  case neg => simp only [if_neg g0] at h0; exact absurd h0 g0
  simp only [if_pos g0]
  obtain ⟨_, e2⟩ := goL_open key (headL pre n ++ ctx) pre ps.length ps c _ 0 g0 (Later.refl _) (by omega)
  generalize (goL (sealStep key (headL pre n ++ ctx) pre ps.length) c 0 ps).2.1 = xs at e2 ⊢
  have key : ∀ (ps xs : List (List Nat)), xs.map List.length = ps.map (fun p => p.length + 16) → xs.flatten.length = ps.flatten.length + 16 * ps.length := by
    intro ps
    induction ps with
    | nil => intro xs e; have : xs = [] := by simpa using e
             subst this; rfl
    | cons p ps ih =>
      intro xs e
      match xs, e with
      | x :: xs, e =>
        simp only [List.map_cons, List.cons.injEq] at e
        have := ih xs e.2
        simp only [List.flatten_cons, List.length_append, List.length_cons]
        omega
  have hk := key ps xs e2
  rw [List.length_append, headL_len pre n h7, hk, hflat]
  unfold lengthS
  rw [if_neg (by omega)]
  have e3 : ((layer.length : Int) + (n : Int) - 1) / (n : Int) = (((layer.length + n - 1) / n : Nat) : Int) := by
    rw [Int.natCast_ediv]
    congr 1
    omega
  rw [e3, hct]
  split
  · rename_i h00
    have : (layer.length + n - 1) / n = 0 := by rw [h00]; exact Nat.div_eq_of_lt (by omega)
    rw [this]
    simp
    omega
  · have : 1 ≤ (layer.length + n - 1) / n := (Nat.le_div_iff_mul_le hn).2 (by omega)
    rw [Int.max_eq_right (by omega)]
    push_cast
    omega
end Go.Pure
