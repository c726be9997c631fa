/- What a row that grows comes to; bytes in pieces. Conditions: each names its own. -/
import Derived.Test.YtnecdbclhdbaoaaSYe
import Derived.Test.YtnecdbclhdbaoaaSPk
set_option linter.unusedSimpArgs false
set_option linter.unusedVariables false
set_option maxRecDepth 100000
set_option maxHeartbeats 1000000
namespace Go.Proofs.Ytnecdbclhdbaoaa
open Go Go.SL Go.Pure

/-- A row of the call's own that may be appended to, or nil; the block that it lies in. -/
def OutAt (t s : Nat) (h : Hp) (v : Value) (xs : List Value) (n : Nat) (So : List Nat) : Prop :=
  (v = .slice none 0 0 ∧ n = 0 ∧ xs = [] ∧ So = []) ∨
  ∃ b c f, h b = some (.row t xs (c * s) (some f)) ∧ v = .slice (some ⟨b, 0, none⟩) n c ∧ n ≤ c ∧ (∀ i, i < c * s → ¬ (f.1 ≤ i ∧ i < f.2)) ∧ So = [b] ∧ xs.length = n * s
theorem OutAt.of {t s : Nat} {h h' : Hp} {v : Value} {xs : List Value} {n : Nat} (w : New h t s v h' xs n) : ∃ So, OutAt t s h' v xs n So ∧ (∀ x, x ∈ So → h x = none) := by
  rcases w.2 with ⟨rfl, rfl, rfl⟩ | ⟨b, c, f, hb, hc, rfl, rfl, hf⟩
  · exact ⟨[], .inl ⟨rfl, rfl, List.eq_nil_of_length_eq_zero (by have := w.1; omega), rfl⟩, fun x hx => by cases hx⟩
  · exact ⟨[b], .inr ⟨b, c, f, Hp.set_same .., rfl, hc, hf, rfl, w.1⟩, fun x hx => by rw [List.mem_singleton.1 hx]; exact hb⟩
theorem OutAt.new {t s : Nat} {h : Hp} {v : Value} {xs : List Value} {n : Nat} {So : List Nat} (a : OutAt t s h v xs n So) : ∃ X, New X t s v h xs n ∧ (∀ x, x ∉ So → X x = h x) ∧ (∀ x, x ∈ So → X x = none) := by
  rcases a with ⟨rfl, rfl, rfl, rfl⟩ | ⟨b, c, f, hb, rfl, hc, hf, rfl, hl⟩
  · exact ⟨h, ⟨by simp, .inl ⟨rfl, rfl, rfl⟩⟩, fun _ _ => rfl, fun x hx => by cases hx⟩
  · refine ⟨h.del b, New.at hb hl hc hf, fun x hx => Hp.del_ne _ (by simpa using hx), fun x hx => by rw [List.mem_singleton.1 hx]; exact del_at _ _⟩
theorem OutAt.keep {t s : Nat} {h h' : Hp} {v : Value} {xs : List Value} {n : Nat} {So : List Nat} (a : OutAt t s h v xs n So) (k : ∀ x, x ∈ So → h' x = h x) : OutAt t s h' v xs n So := by
  rcases a with a | ⟨b, c, f, hb, hv, hc, hf, hS, hl⟩
  · exact .inl a
  · exact .inr ⟨b, c, f, by rw [k b (by simp [hS])]; exact hb, hv, hc, hf, hS, hl⟩
theorem OutAt.rds {t s : Nat} {h : Hp} {v : Value} {xs : List Value} {n : Nat} {So : List Nat} (a : OutAt t s h v xs n So) : Rds h s v xs n := by
  obtain ⟨X, w, _⟩ := a.new
  exact w.rds
theorem aw_appendO {t2 T ts e e2 s B n m : Nat} {h : Hp} {v w : Value} {xs ys : List Value} {z : Value} {So : List Nat} {K : Value → Hp → Prop}
    (ht : P.underlying ts = some (.slice e)) (ht2 : P.underlying t2 = some (.slice e2)) (hi : (P.info? e).map (fun i => (i.zero, i.size, i.bytes)) = some (some z, s, B)) (hzs : z.cells.size = s) (hB1 : 1 ≤ B) (ho : OutAt e s h v xs n So) (hr : Rds h s w ys m) (hfl : ∀ y ∈ ys, flat y = true)
    (hB : (2 * (n + m) + 768) * B ≤ 2 ^ 48)
    (k : ∀ v' h' So', OutAt e s h' v' (xs ++ ys) (n + m) So' → (∀ x o, x ∉ So → h x = some o → h' x = some o) → (∀ x o, x ∉ So → h x = some o → x ∉ So') → K v' h') : aw P (Builtin.append_ #[ts, t2] T #[v, w]) K h := by
  obtain ⟨X, nX, X1, X2⟩ := ho.new
  refine aw_append ht ht2 hi hzs hB1 nX hr hfl hB (.refl _) fun v' h' n' => ?_
  obtain ⟨So', o', f'⟩ := OutAt.of n'
  refine k v' h' So' o' (fun x o hx e => ?_) (fun x o hx e q => ?_)
  · exact n'.ext _ _ (by rw [X1 x hx]; exact e)
  · have := f' x q
    rw [X1 x hx, e] at this
    cases this

section
variable {h : Hp} {K : Value → Hp → Prop}
theorem T_Collect {R : Hp} {S : List Nat} {v : Value} {b : List Nat} {n : Nat} (w : Own R h S) (hv : Rn R .u8 v b) (hn : 0 < n) (hn2 : n ≤ 1099511627776) (hb : b.length ≤ 1099511627776) (h0 : 0 < b.length)
    {r2 r3 : Nat} (c2 : R.cell ⟨r2, 0, none⟩ = some v) (c3 : R.cell ⟨r3, 0, none⟩ = some (.int .i64 n))
    (k : ∀ vl R' h', Stp R h R' h' S S → Parts R' vl ((List.range ((b.length + n - 1) / n)).map (chunkN n b)) → K vl h') :
    Cn P n_slices_Collect_byte #[.func (.func n_slices_Chunk_byte_byte_1) #[] #[.pointer (some ⟨r2, 0, none⟩), .pointer (some ⟨r3, 0, none⟩)]] h K := by
  refine F_slices_Collect_byte ?_
  unfold s_slices_Collect_byte
  refine F_slices_AppendSeq_byte_byte ?_
  unfold s_slices_AppendSeq_byte_byte
  refine aw_box fun rb hrb => ?_
  have hE : (Value.slice none 0 0).cells.toList = [.slice none 0 0] := rfl
  have hS1 : (Value.slice none 0 0).cells.size = 1 := rfl
  rw [hE, hS1]
  intro L o hL hY
  have hLrb : L ≠ rb := by rintro rfl; rw [Hp.set_same] at hL; cases hL
  have hL0 : h L = none := by rwa [Hp.set_ne _ _ hLrb] at hL
  unfold iterP
  dsimp only
  -- what holds at each round
  let I : Nat → Hp → Prop := fun i h' => h' L = some (o .ready none) ∧ ∃ v ws So, h' rb = some (.row t_Sl_Sl_uint8 [v] 1 (some (0, 0))) ∧ OutAt t_Sl_uint8 1 h' v ws i So ∧ Hp.ext h h' ∧
    rb ∉ So ∧ L ∉ So ∧ (∀ x o, h x = some o → x ∉ So) ∧ (∀ j, j < i → ∃ y, ws[j]? = some y ∧ Rn R .u8 y (chunkN n b j))
  have x0 : Hp.ext h ((h.set rb (.row t_Sl_Sl_uint8 [.slice none 0 0] 1 (some (0, 0)))).set L (o .ready none)) := (ext_set _ hrb).trans (ext_set _ hL)
  refine T_Chunk_1 (y := .func (.yield L) #[] #[]) (v := v) (p2 := ⟨r2, 0, none⟩) (p3 := ⟨r3, 0, none⟩) (m := b) (n := n) hn (by omega) (by omega) I (fun _ => False) ?_ ?_ ?_ ?_
  · rintro i h' ⟨_, v', ws, So, _, _, hk, _⟩
    have c := w.sub.cle.trans hk.cle
    exact ⟨c _ _ c2, c _ _ c3, hv.mono c⟩
  · exact ⟨Hp.set_same .., .slice none 0 0, [], [], by rw [Hp.set_ne _ _ (Ne.symm hLrb), Hp.set_same], .inl ⟨rfl, rfl, rfl, rfl⟩, x0, by simp, by simp, by simp, fun j hj => by omega⟩
  · rintro i h' y hi ⟨hl, v', ws, So, hrb', hO, hk, nrb, nL, hfS, hws⟩ hy
    have hi2 : i ≤ b.length := by have := Nat.le_mul_of_pos_left i hn; omega
    refine hY y h' _ hl ?_
    show (fun h => _) ((h'.del L).set L (o .busy none))
    have eB : ∀ x, x ≠ L → ((h'.del L).set L (o .busy none)) x = h' x := fun x hx => by rw [Hp.set_ne _ _ hx, Hp.del_ne _ hx]
    have eL : ((h'.del L).set L (o .busy none)) L = some (o .busy none) := Hp.set_same ..
    generalize (h'.del L).set L (o .busy none) = hB at eB eL ⊢
    have rB : hB rb = some (.row t_Sl_Sl_uint8 [v'] 1 (some (0, 0))) := by rw [eB rb (Ne.symm hLrb)]; exact hrb'
    have crb : hB.cell ⟨rb, 0, none⟩ = some v' := by rw [cell_row rB]; rfl
    simp (disch := omega) only [GL, RL, crb]
    have ry := hy R hv
    refine aw_lit (n := 1) (ps := [(0, y)]) u_Sl_Sl_uint8 z_Sl_uint8 zr_Sl_uint8 rfl (by omega) (by intro p hp; rw [List.mem_singleton.1 hp]; exact ⟨rn_flat ry, by show _ < 1; omega⟩) fun t10 h1 n10 _ => ?_
    have n10' : New hB t_Sl_uint8 1 t10 h1 [y] 1 := by simpa [fillL] using n10
    have hO1 : OutAt t_Sl_uint8 1 h1 v' ws i So := hO.keep fun x hx => by
      have hxL : x ≠ L := by rintro rfl; exact nL hx
      rcases hO with ⟨_, _, _, rfl⟩ | ⟨bb, c, f, hb', _, _, _, rfl, _⟩
      · cases hx
      · rw [List.mem_singleton.1 hx] at hxL ⊢
        rw [hb']
        exact n10'.ext _ _ (by rw [eB _ hxL]; exact hb')
    refine aw_appendO u_Sl_Sl_uint8 u_Sl_Sl_uint8 nfo_Sl_uint8 rfl (by omega) hO1 n10'.rds (by intro z hz; rw [List.mem_singleton.1 hz]; exact rn_flat ry) (by omega) fun t11 h2 So' o2 kp2 fr2 => ?_
    have r2' : h2 rb = some (.row t_Sl_Sl_uint8 [v'] 1 (some (0, 0))) := kp2 rb _ nrb (n10'.ext _ _ rB)
    have l2 : h2 L = some (o .busy none) := kp2 L _ nL (n10'.ext _ _ eL)
    have f11 : flat t11 = true := by
      rcases o2 with ⟨rfl, _⟩ | ⟨_, _, _, _, rfl, _⟩ <;> rfl
    have nrb' : rb ∉ So' := fr2 rb _ nrb (n10'.ext _ _ rB)
    have nL' : L ∉ So' := fr2 L _ nL (n10'.ext _ _ eL)
    have kh : ∀ x ox, h x = some ox → h1 x = some ox := fun x ox e => n10'.ext _ _ (by
      rw [eB x (by rintro rfl; rw [hL0] at e; cases e)]; exact hk _ _ e)
    refine aw_store z_Sl_Sl_uint8 f11 (put_row (off := 0) r2' (by simp) (by simp) _) ?_
    refine ⟨by rw [Hp.set_ne _ _ hLrb]; exact l2, .inl ⟨by trivial, Hp.set_same .., t11, ws ++ [y], So', ?_, ?_, ?_, nrb', nL', fun x ox e => fr2 x ox (hfS x ox e) (kh x ox e), fun j hj => ?_⟩⟩
    · rw [Hp.set_ne _ _ (Ne.symm hLrb), Hp.set_same]; rfl
    · refine o2.keep fun x hx => ?_
      rw [Hp.set_ne _ _ (by rintro rfl; exact nL' hx), Hp.set_ne _ _ (by rintro rfl; exact nrb' hx)]
    · intro x ox e
      have hxL : x ≠ L := by rintro rfl; rw [hL0] at e; cases e
      have hxr : x ≠ rb := by rintro rfl; rw [hrb] at e; cases e
      rw [Hp.set_ne _ _ hxL, Hp.set_ne _ _ hxr]
      exact kp2 x ox (hfS x ox e) (kh x ox e)
    · have lw : ws.length = i := by
        rcases hO with ⟨_, rfl, rfl, _⟩ | ⟨_, _, _, _, _, _, _, _, hl⟩
        · rfl
        · omega
      by_cases hji : j < i
      · obtain ⟨z, hz, rz⟩ := hws j hji
        exact ⟨z, by rw [List.getElem?_append_left (by omega)]; exact hz, rz⟩
      · obtain rfl : j = i := by omega
        exact ⟨y, by rw [List.getElem?_append_right (by omega), lw, Nat.sub_self]; rfl, ry⟩
  · rintro h' (⟨hl, v', ws, So, hrb', hO, hk, nrb, nL, hfS, hws⟩ | hf)
    case inr => exact hf.elim
    refine ⟨.ready, by simp, hl, ?_⟩
    show (fun h => _) (h'.del L)
    have kpos : 0 < (b.length + n - 1) / n := Nat.div_pos (by omega) hn
    rcases hO with ⟨_, h00, _, _⟩ | ⟨bb, c, f, hb', rfl, hc, hf', rfl, hlen⟩
    · omega
    have hbL : bb ≠ L := by rintro rfl; exact nL (List.mem_singleton.2 rfl)
    have crb : (h'.del L).cell ⟨rb, 0, none⟩ = some (.slice (some ⟨bb, 0, none⟩) ((b.length + n - 1) / n) c) := by
      rw [cell_row (b := rb) (by rw [Hp.del_ne _ (Ne.symm hLrb)]; exact hrb')]; rfl
    simp (disch := omega) only [GL, RL, crb]
    have hb0 : h bb = none := by
      cases e : h bb with
      | none => rfl
      | some ox => exact absurd (List.mem_singleton.2 rfl) (hfS bb ox e)
    have hR0 : R bb = none := w.sub.none hb0
    have kd : ∀ x ox, h x = some ox → (h'.del L) x = some ox := fun x ox e => by
      rw [Hp.del_ne _ (by rintro rfl; rw [hL0] at e; cases e)]; exact hk _ _ e
    refine k _ (R.set bb (.row t_Sl_uint8 ws (c * 1) (some f))) (h'.del L) ⟨ext_set _ hR0, fun x ox _ e => kd x ox e, fun x ox hn _ => hn, fun x ox _ e r => ?_, ⟨fun x ox e => ?_, fun x hx => ?_, fun x hx => ?_⟩⟩ ⟨bb, 0, c, by simp, by simpa using hc, fun i hi => ?_⟩
    · rw [Hp.set_ne _ _ (by rintro rfl; rw [hb0] at e; cases e)]; exact r
    · by_cases q : x = bb
      · subst q; rw [Hp.set_same] at e; rw [Hp.del_ne _ hbL, ← e]; exact hb'
      · rw [Hp.set_ne _ _ q] at e; exact kd x ox (w.sub x ox e)
    · obtain ⟨ox, e⟩ := w.kn x hx
      rw [Hp.set_ne _ _ (by rintro rfl; rw [hb0] at e; cases e)]; exact w.dis x hx
    · obtain ⟨ox, e⟩ := w.kn x hx
      exact ⟨ox, kd x ox e⟩
    · simp only [List.length_map, List.length_range] at hi
      obtain ⟨y, hy, ry⟩ := hws i hi
      refine ⟨y, by rw [cell_row (Hp.set_same ..), Nat.zero_add]; exact hy, ?_⟩
      have : ((List.range ((b.length + n - 1) / n)).map (chunkN n b)).getD i [] = chunkN n b i := by simp [List.getD_eq_getElem?_getD, hi]
      rw [this]
      exact ry.mono (cle_set bb _ hR0)

/-- Bytes in pieces; one empty one of none. -/
theorem T_pieces {R : Hp} {S : List Nat} {v : Value} {b : List Nat} {n : Nat} (w : Own R h S) (hv : Rn R .u8 v b) (hn : 0 < n) (hn2 : n ≤ 1099511627776) (hb : b.length ≤ 1099511627776)
    (k : ∀ vl R' h', Stp R h R' h' S S → Parts R' vl (cutL n b) → K vl h') : Cn P n_seal_pieces #[v, .int .i64 n] h K := by
  refine F_seal_pieces ?_
  unfold s_seal_pieces
  obtain ⟨a, c, rfl, hc⟩ := hv.shape
  have e0 : (((b.length : Nat) : Int) == 0) = decide (b.length = 0) := by rw [Bool.eq_iff_iff, beq_iff_eq, decide_eq_true_eq]; omega
  simp (disch := omega) only [GL, RL, e0]
  by_cases h0 : b.length = 0
  · simp only [h0, decide_true, if_true]
    refine aw_lit (n := 1) (ps := [(0, _)]) u_Sl_Sl_uint8 z_Sl_uint8 zr_Sl_uint8 rfl (by omega) (by intro p hp; rw [List.mem_singleton.1 hp]; exact ⟨rfl, by show _ < 1; omega⟩) fun t8 h1 n1 _ => ?_
    obtain ⟨R1, s1, r1⟩ := Stp.new w n1
    obtain rfl : b = [] := List.eq_nil_of_length_eq_zero h0
    refine k t8 R1 h1 s1 ?_
    obtain ⟨_, a', c', rfl, hc', q⟩ := r1
    rcases q with q | ⟨b1, o1, rfl, hy⟩
    · cases q
    · refine ⟨b1, o1, c', rfl, hc', fun i hi => ?_⟩
      have : i = 0 := by simp [cutL, cutF] at hi; omega
      subst this
      exact ⟨.slice none 0 0, hy 0 _ rfl, rn_nil _ _⟩
  · simp only [h0, decide_false, Bool.false_eq_true, if_false]
    refine T_Chunk hn rfl fun r2 r3 hr2 hr3 n23 => ?_
    have s1 := Stp.block (.row t_Sl_uint8 [.slice a b.length c] 1 (some (0, 0))) w hr2
    have x1 : Hp.ext h (h.set r2 (.row t_Sl_uint8 [.slice a b.length c] 1 (some (0, 0)))) := ext_set _ hr2
    have hr3' : (h.set r2 (.row t_Sl_uint8 [.slice a b.length c] 1 (some (0, 0)))) r3 = none := by rw [Hp.set_ne _ _ (Ne.symm n23)]; exact hr3
    have s2 := Stp.block (.row t_int [.int .i64 n] 1 (some (0, 0))) s1.own hr3'
    have x2 := ext_set (.row t_int [.int .i64 n] 1 (some (0, 0))) hr3'
    refine T_Collect s2.own (hv.mono (s1.trans s2).ext.cle) hn hn2 hb (by omega) (r2 := r2) (r3 := r3) ?_ ?_ fun vl R' h' st hp => ?_
    · rw [cell_row (b := r2) (by rw [Hp.set_ne _ _ n23, Hp.set_same])]; rfl
    · rw [cell_row (b := r3) (Hp.set_same ..)]; rfl
    · rw [← cutL_chunks hn b (by omega)] at hp
      exact k vl R' h' ((s1.trans s2).trans st) hp
end
end Go.Proofs.Ytnecdbclhdbaoaa
