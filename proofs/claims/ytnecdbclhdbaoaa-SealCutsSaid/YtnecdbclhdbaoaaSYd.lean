/- What sealing and opening with a book come to. Conditions: each names its own. -/
import Derived.Test.YtnecdbclhdbaoaaSYc
set_option linter.unusedSimpArgs false
set_option linter.unusedVariables false
set_option maxRecDepth 100000
set_option maxHeartbeats 1000000
namespace Go.Proofs.Ytnecdbclhdbaoaa
open Go Go.SL Go.Pure

theorem pk_ldB {h : Hp} {a : Addr} {v : Value} (e : h.cell a = some v) : peek P h (Instr.loadAt t_Sl_crypt_sealed (.pointer (some a))) = some v := by
  obtain ⟨x, hx, e⟩ := withVal_elim (K := fun x => x = v) ((q_ld (P := P) (h := h) (K := fun x => x = v) u_Sl_crypt_sealed rfl a).mpr (by rw [e]; rfl))
  rw [e] at hx
  exact hx

section
variable {h : Hp} {K : Value → Hp → Prop}
theorem T_book_Seal {R : Hp} {p : Nat} {ts : List (List Nat)} {bs : List Box} {S : List Nat} {vk vn vb vt : Value} {key nonce b t : List Nat} (w : Own R h S) (hB : BookAt R h p ts bs S) (nb : bs.length ≤ 1000000)
    (hk : Rn R .u8 vk key) (hn : Rn R .u8 vn nonce) (hb : Rn R .u8 vb b) (ht : Rn R .u8 vt t) (bk : Bytes key) (bn : Bytes nonce) (bb : Bytes b) (bt : Bytes t)
    (lb : b.length ≤ 1099511627776) (lt : t.length ≤ 1099511627776)
    (k : ∀ v R' h' S', Stp R h R' h' S S' → BookAt R' h' p ts (if may key nonce then bs ++ [⟨key, nonce, b, t⟩] else bs) S' → (if may key nonce then Rn R' .u8 v (boxB bs.length (t.length + 16)) else v = .slice none 0 0) → K (.tuple #[v, .int .i64 (if may key nonce then 0 else 1)]) h') :
    Cn P n_crypt_book_Seal #[.pointer (some ⟨p, 0, none⟩), vk, vn, vb, vt] h K := by
  refine F_crypt_book_Seal ?_
  unfold s_crypt_book_Seal
  refine T_crypt_may (w.rn hk) (w.rn hn) ?_
  by_cases hm : may key nonce
  case neg =>
    simp only [if_neg hm] at k
    simp only [hm, decide_false, GL, RL, Bool.not_false, if_true]
    exact k _ R h S (.refl w) hB rfl
  simp only [if_pos hm] at k
  simp (disch := omega) only [hm, decide_true, GL, RL, Bool.not_true, Bool.false_eq_true, if_false, bf1]
  obtain ⟨r, bx, es, c, Sb, hp, hr, hT, hX, rfl, hpr, hpS, hrS, hby⟩ := hB
  have c1 : h.cell ⟨p, 1, none⟩ = some bx := by rw [cell_row hp]; rfl
  simp (disch := omega) only [GL, RL, c1, lenBoxes hX]
  refine T_bytes_Clone (w.rn hk) (by unfold may at hm; omega) fun v28 h1 n1 => ?_
  obtain ⟨R1, s1, r28⟩ := Stp.newN w n1
  refine ⟨pk_ldB (n1.cle _ _ c1), pbf1 p, ?_⟩
  refine T_bytes_Clone (s1.own.rn (hn.mono s1.ext.cle)) (by unfold may at hm; omega) fun v30 h2 n2 => ?_
  obtain ⟨R2, s2, r30⟩ := Stp.newN s1.own n2
  refine ⟨pk_ldB (n2.cle _ _ (n1.cle _ _ c1)), pbf1 p, ?_⟩
  refine T_bytes_Clone (s2.own.rn (hb.mono (s1.trans s2).ext.cle)) (by omega) fun v32 h3 n3 => ?_
  obtain ⟨R3, s3, r32⟩ := Stp.newN s2.own n3
  refine ⟨pk_ldB (n3.cle _ _ (n2.cle _ _ (n1.cle _ _ c1))), pbf1 p, ?_⟩
  refine T_bytes_Clone (s3.own.rn (ht.mono ((s1.trans s2).trans s3).ext.cle)) (by omega) fun v34 h4 n4 => ?_
  obtain ⟨R4, s4, r34⟩ := Stp.newN s3.own n4
  have c4 := n4.cle _ _ (n3.cle _ _ (n2.cle _ _ (n1.cle _ _ c1)))
  refine ⟨pk_ldB c4, pbf1 p, ?_⟩
  have st4 := ((s1.trans s2).trans s3).trans s4
  have x4 : Hp.ext h h4 := ((n1.ext.trans n2.ext).trans n3.ext).trans n4.ext
  have q28 := r28.mono ((s2.trans s3).trans s4).ext.cle
  have q30 := r30.mono (s3.trans s4).ext.cle
  have q32 := r32.mono s4.ext.cle
  have hX4 : BoxesAt R4 h4 bx bs Sb := hX.keep st4.ext fun x hx => by
    obtain ⟨o, e⟩ := w.kn x (by simp [hx])
    rw [e, x4 _ _ e]
  have hp4 := x4 _ _ hp
  have hr4 := x4 _ _ hr
  have ow := st4.own
  clear n1 n2 n3 n4 s1 s2 s3 s4 r28 r30 r32 hX
  have hf28 := rn_flat q28
  have hf30 := rn_flat q30
  have hf32 := rn_flat q32
  have hf34 := rn_flat r34
  obtain ⟨a28, c28, e28, _⟩ := q28.shape
  obtain ⟨a30, c30, e30, _⟩ := q30.shape
  obtain ⟨a32, c32, e32, _⟩ := q32.shape
  obtain ⟨a34, c34, e34, _⟩ := r34.shape
  rw [show q P emp (Instr.build t_crypt_sealed #[(0, v28), (1, v30), (2, v32), (3, v34)]) = fun K => K (.agg #[v28, v30, v32, v34]) from by
    funext K; rw [e28, e30, e32, e34]; exact bldSealed ..]
  refine aw_litA (ys := [v28, v30, v32, v34]) u_Sl_crypt_sealed sz_sealed zr_sealed rfl rfl (by omega) (by omega) fun v36 h5 n5 => ?_
  refine ⟨pk_ldB (n5.cle _ _ c4), pbf1 p, ?_⟩
  have hfl : ∀ y ∈ [v28, v30, v32, v34], flat y = true := by
    intro y hy
    simp only [List.mem_cons, List.not_mem_nil, or_false] at hy
    rcases hy with rfl | rfl | rfl | rfl <;> assumption
  -- the row of boxes, in what stands beside
  have app : ∃ X xs, New X t_crypt_sealed 4 bx h5 xs bs.length ∧ BoxCells R4 xs bs ∧ (∀ x, x ∉ Sb → X x = h5 x) ∧ (∀ x, x ∈ Sb → X x = none) := by
    rcases hX4 with ⟨rfl, rfl, rfl⟩ | ⟨bb', cc, ff, xs, rfl, hle, hbb, hfz, hxs, rfl⟩
    · exact ⟨h5, [], ⟨rfl, .inl ⟨rfl, rfl, rfl⟩⟩, trivial, fun _ _ => rfl, fun x hx => by cases hx⟩
    · refine ⟨h5.del bb', xs, New.at (n5.ext _ _ hbb) hxs.len hle hfz, hxs, fun x hx => ?_, fun x hx => ?_⟩
      · simp only [List.mem_singleton] at hx
        exact Hp.del_ne _ hx
      · rw [List.mem_singleton.1 hx]; exact del_at _ _
  obtain ⟨X, xs, nX, hxs, X1, X2⟩ := app
  have r36 : Rds h5 4 v36 [v28, v30, v32, v34] 1 := n5.rds
  refine aw_append u_Sl_crypt_sealed u_Sl_crypt_sealed nfo_sealed rfl (by omega) nX r36 hfl (by omega) (.refl _) fun v37 h6 n6 => ?_
  obtain ⟨b6, c6, f6, hb6, hc6, rfl, rfl, hf6⟩ := n6.form (by omega)
  have hpX : X p = some (.row t_crypt_book [.map (some r), bx] 2 (some (0, 0))) := by rw [X1 p hpS]; exact n5.ext _ _ hp4
  have hrX : X r = some (.obj (.map es c)) := by rw [X1 r hrS]; exact n5.ext _ _ hr4
  have np : p ≠ b6 := by rintro rfl; rw [hb6] at hpX; cases hpX
  have nr : r ≠ b6 := by rintro rfl; rw [hb6] at hrX; cases hrX
  refine aw_store (z_Sl_crypt_sealed) rfl (put_row (off := 1) (by rw [Hp.set_ne _ _ np]; exact hpX) (by simp) (by simp) _) ?_
  obtain ⟨at', ct, rfl, _⟩ := ht.shape
  have e16 : ((t.length : Nat) : Int) + 16 = ((t.length + 16 : Nat) : Int) := by omega
  simp (disch := omega) only [GL, RL, wi64, e16]
  refine T_bytesOf bs.length (t.length + 16) (by omega) (by omega) fun v44 h8 n8 => ?_
  obtain ⟨h7, hh7⟩ : ∃ h7, (X.set b6 (.row t_crypt_sealed (xs ++ [v28, v30, v32, v34]) (c6 * 4) (some f6))).set p (.row t_crypt_book ([Value.map (some r), bx].set 1 (.slice (some ⟨b6, 0, none⟩) (bs.length + 1) c6)) 2 (some (0, 0))) = h7 := ⟨_, rfl⟩
  rw [hh7] at n8
  have k7 : ∀ x o, x ∉ p :: r :: Sb → h4 x = some o → h7 x = some o := fun x o hx e => by
    simp only [List.mem_cons, not_or] at hx
    have e5 := n5.ext _ _ e
    have eX : X x = some o := by rw [X1 x hx.2.2]; exact e5
    rw [← hh7, Hp.set_ne _ _ hx.1, Hp.set_ne _ _ (by rintro rfl; rw [hb6] at eX; cases eX)]
    exact eX
  have b6n : ∀ x o, x ∉ p :: r :: Sb → h4 x = some o → x ≠ b6 := fun x o hx e => by
    rintro rfl
    simp only [List.mem_cons, not_or] at hx
    have eX : X x = some o := by rw [X1 x hx.2.2]; exact n5.ext _ _ e
    rw [hb6] at eX; cases eX
  have st7 : Stp R4 h4 R4 h7 (p :: r :: Sb) [p, r, b6] := by
    refine ⟨.refl _, k7, fun x o hx e => ?_, fun x o _ _ e => e, ⟨fun x o e => ?_, fun x hx => ?_, fun x hx => ?_⟩⟩
    · have := b6n x o hx e
      simp only [List.mem_cons, not_or] at hx ⊢
      exact ⟨hx.1, hx.2.1, this, by simp⟩
    · refine k7 x o (fun hx => ?_) (ow.sub x o e)
      rw [ow.dis x hx] at e; cases e
    · simp only [List.mem_cons, List.not_mem_nil, or_false] at hx
      rcases hx with rfl | rfl | rfl
      · exact ow.dis _ (by simp)
      · exact ow.dis _ (by simp)
      · cases e : R4 x with
        | none => rfl
        | some o =>
          refine absurd rfl (b6n x o (fun hx => ?_) (ow.sub x o e))
          rw [ow.dis x hx] at e; cases e
    · simp only [List.mem_cons, List.not_mem_nil, or_false] at hx
      rcases hx with rfl | rfl | rfl
      · exact ⟨_, by rw [← hh7]; exact Hp.set_same ..⟩
      · exact ⟨_, by rw [← hh7, Hp.set_ne _ _ (Ne.symm hpr), Hp.set_ne _ _ nr]; exact hrX⟩
      · exact ⟨_, by rw [← hh7, Hp.set_ne _ _ (Ne.symm np)]; exact Hp.set_same ..⟩
  obtain ⟨R8, s8, r44⟩ := Stp.newN st7.own n8
  have key8 : BookAt R4 h7 p ts (bs ++ [⟨key, nonce, b, t⟩]) [p, r, b6] := by
    refine ⟨r, .slice (some ⟨b6, 0, none⟩) (bs.length + 1) c6, es, c, [b6], ?_, ?_, hT, .inr ⟨b6, c6, f6, xs ++ [v28, v30, v32, v34], ?_, ?_, ?_, hf6, BoxCells.snoc ⟨q28, q30, q32, r34⟩ hxs, rfl⟩, rfl, hpr, by simpa using np, by simpa using nr, fun bx hbx => ?_⟩
    · rw [← hh7]; exact Hp.set_same ..
    · rw [← hh7, Hp.set_ne _ _ (Ne.symm hpr), Hp.set_ne _ _ nr]; exact hrX
    · rw [List.length_append]; rfl
    · rw [List.length_append]; exact hc6
    · rw [← hh7, Hp.set_ne _ _ (Ne.symm np)]; exact Hp.set_same ..
    · rcases List.mem_append.1 hbx with q | q
      · exact hby bx q
      · rw [List.mem_singleton.1 q]; exact ⟨bk, bn, bb, bt⟩
  refine k v44 R8 h8 [p, r, b6] ((st4.trans st7).trans s8) (key8.keep s8.ext fun x hx => ?_) r44
  obtain ⟨o, e⟩ := st7.own.kn x hx
  rw [e, n8.ext _ _ e]

theorem T_book_Open {R : Hp} {p : Nat} {ts : List (List Nat)} {bs : List Box} {S : List Nat} {vk vn vb vx : Value} {key nonce b x : List Nat} (w : Own R h S) (hB : BookAt R h p ts bs S) (nb : bs.length ≤ 1000000)
    (hk : Rn R .u8 vk key) (hn : Rn R .u8 vn nonce) (hb : Rn R .u8 vb b) (hx : Rn R .u8 vx x) (bk : Bytes key) (bn : Bytes nonce) (bb : Bytes b) (bx : Bytes x) (lx : x.length ≤ 1099511627776) (lbs : ∀ s ∈ bs, s.text.length ≤ 1099511627776)
    (k : ∀ v R' h', Stp R h R' h' S S → BookAt R' h' p ts bs S → (if (crOpen (.book ts bs) key nonce b x).1 = 0 then Rn R' .u8 v (crOpen (.book ts bs) key nonce b x).2 else v = .slice none 0 0) → K (.tuple #[v, .int .i64 (((crOpen (.book ts bs) key nonce b x).1 : Nat) : Int)]) h') :
    Cn P n_crypt_book_Open #[.pointer (some ⟨p, 0, none⟩), vk, vn, vb, vx] h K := by
  refine F_crypt_book_Open ?_
  unfold s_crypt_book_Open
  refine T_crypt_may (w.rn hk) (w.rn hn) ?_
  by_cases hm : may key nonce
  case neg =>
    have e : crOpen (.book ts bs) key nonce b x = (1, []) := by unfold crOpen; rw [if_neg hm]
    rw [e] at k
    simp only [hm, decide_false, GL, RL, Bool.not_false, if_true]
    exact k _ R h (.refl w) hB rfl
  have eo : crOpen (.book ts bs) key nonce b x = bookOpen bs key nonce b x := by unfold crOpen; rw [if_pos hm]
  rw [eo] at k
  simp (disch := omega) only [hm, decide_true, GL, RL, Bool.not_true, Bool.false_eq_true, if_false]
  obtain ⟨ax, cx, rfl, hcx⟩ := hx.shape
  have e16 : decide (((x.length : Nat) : Int) < 16) = decide (x.length < 16) := lt_dec _ 16
  simp (disch := omega) only [GL, RL, e16]
  by_cases h16 : x.length < 16
  · have e : bookOpen bs key nonce b x = (8, []) := by unfold bookOpen; rw [if_pos h16]
    rw [e] at k
    simp only [h16, decide_true, if_true]
    exact k _ R h (.refl w) hB rfl
  simp only [h16, decide_false, Bool.false_eq_true, if_false]
  refine T_word_GetBig64 (w.rn hx) bx (by omega) ?_
  have eb : bookOpen bs key nonce b x = match bs[bval (x.take 8)]? with
    | none => (7, [])
    | some s => if s.key = key ∧ s.nonce = nonce ∧ s.beside = b ∧ boxB (bval (x.take 8)) (s.text.length + 16) = x then (0, s.text) else (7, []) := by unfold bookOpen; rw [if_neg h16]; rfl
  rw [eb] at k
  have hnlt := bval_take_lt bx 8
  generalize bval (x.take 8) = n at k hnlt
  have p8 : (256 : Nat) ^ 8 = 18446744073709551616 := rfl
  rw [p8] at hnlt
  have hB0 := hB
  obtain ⟨r, bxv, es, c, Sb, hp, hr, hT, hX, rfl, hpr, hpS, hrS, hby⟩ := hB
  have c1 : h.cell ⟨p, 1, none⟩ = some bxv := by rw [cell_row hp]; rfl
  have eg : decide (((bs.length : Nat) : Int) ≤ ((n : Nat) : Int)) = decide (bs.length ≤ n) := by rw [decide_eq_decide]; omega
  simp (disch := omega) only [GL, RL, bf1, c1, lenBoxes hX, wu64i, eg]
  by_cases hge : bs.length ≤ n
  · rw [List.getElem?_eq_none hge] at k
    simp only [hge, decide_true, if_true]
    exact k _ R h (.refl w) hB0 rfl
  simp only [hge, decide_false, Bool.false_eq_true, if_false]
  have hlt : n < bs.length := by omega
  rw [List.getElem?_eq_getElem hlt] at k
  have hs : bs[n]? = some bs[n] := List.getElem?_eq_getElem hlt
  have bys := hby bs[n] (List.getElem_mem hlt)
  have lbt := lbs bs[n] (List.getElem_mem hlt)
  generalize bs[n] = s at k hs bys lbt
  rcases hX with ⟨_, rfl, _⟩ | ⟨bb', cc, ff, xs, rfl, hle, hbb, hfz, hxs, rfl⟩
  · simp at hlt
  obtain ⟨wk, wn, wb, wt, hcells, rk, rn, rb, rt⟩ := hxs.get n hs
  rw [q_idxS u_Sl_crypt_sealed sz_sealed ⟨bb', 0, none⟩ bs.length cc .u64 n (by omega) (by omega), Int.toNat_natCast, add_off, Nat.zero_add]
  rw [q_ldAgg (ys := [wk, wn, wb, wt]) u_crypt_sealed rfl sz_sealed (b := bb') (o := n * 4) (fun j y e => by rw [cell_row hbb]; exact hcells j y e)]
  refine aw_allocL nil4 zr_sealed rfl fun r13 hr13 => ?_
  have hflat : ∀ y ∈ [wk, wn, wb, wt], flat y = true := by
    intro y hy
    simp only [List.mem_cons, List.not_mem_nil, or_false] at hy
    rcases hy with rfl | rfl | rfl | rfl
    · exact rn_flat rk
    · exact rn_flat rn
    · exact rn_flat rb
    · exact rn_flat rt
  refine aw_storeRow (ys := [wk, wn, wb, wt]) sz_sealed (Hp.set_same ..) rfl hflat (fun i _ => by simp) ?_
  rw [Hp.set_set]
  have s0 := Stp.block (.row t_crypt_sealed [wk, wn, wb, wt] 4 (some (0, 0))) w hr13
  have x0 : Hp.ext h (h.set r13 (.row t_crypt_sealed [wk, wn, wb, wt] 4 (some (0, 0)))) := ext_set _ hr13
  have hM : (h.set r13 (.row t_crypt_sealed [wk, wn, wb, wt] 4 (some (0, 0)))) r13 = some (.row t_crypt_sealed [wk, wn, wb, wt] 4 (some (0, 0))) := Hp.set_same ..
  generalize h.set r13 (.row t_crypt_sealed [wk, wn, wb, wt] 4 (some (0, 0))) = M at s0 x0 hM
  generalize R.set r13 (.row t_crypt_sealed [wk, wn, wb, wt] 4 (some (0, 0))) = R0 at s0
  have d0 : M.cell ⟨r13, 0, none⟩ = some wk := by rw [cell_row hM]; rfl
  have d1 : M.cell ⟨r13, 1, none⟩ = some wn := by rw [cell_row hM]; rfl
  have d2 : M.cell ⟨r13, 2, none⟩ = some wb := by rw [cell_row hM]; rfl
  have d3 : M.cell ⟨r13, 3, none⟩ = some wt := by rw [cell_row hM]; rfl
  have up : ∀ {v : Value} {l : List Nat}, Rn R .u8 v l → Rn M .u8 v l := fun r => s0.own.rn (r.mono s0.ext.cle)
  have kB : ∀ R' h', Hp.ext R R' → Hp.ext h h' → BookAt R' h' p ts bs (p :: r :: [bb']) := fun R' h' xR xh => hB0.keep xR fun x hx => by
    obtain ⟨o, e⟩ := w.kn x hx
    rw [e, xh _ _ e]
  have fin7 : ∀ R' h', Stp R0 M R' h' (p :: r :: [bb']) (p :: r :: [bb']) → Hp.ext M h' → ¬ (s.key = key ∧ s.nonce = nonce ∧ s.beside = b ∧ boxB n (s.text.length + 16) = x) → K (.tuple #[.slice none 0 0, .int .i64 7]) h' := fun R' h' st xt hne => by
    dsimp only at k
    simp only [if_neg hne] at k
    exact k _ R' h' (s0.trans st) (kB R' h' (s0.ext.trans st.ext) (x0.trans xt)) rfl
  simp (disch := omega) only [GL, RL, sf0, sf1, sf2, sf3, d0]
  refine T_bytes_Equal (up rk) (up hk) bys.1 bk ?_
  by_cases g1 : s.key = key
  case neg =>
    simp only [g1, decide_false, GL, RL, Bool.not_false, Bool.true_eq_false, if_false, if_true]
    exact fin7 _ _ (.refl s0.own) (.refl _) (fun q => g1 q.1)
  simp (disch := omega) only [g1, decide_true, GL, RL, Bool.not_true, if_true, sf1, d1]
  refine T_bytes_Equal (up rn) (up hn) bys.2.1 bn ?_
  by_cases g2 : s.nonce = nonce
  case neg =>
    simp only [g2, decide_false, GL, RL, Bool.not_false, Bool.true_eq_false, if_false, if_true]
    exact fin7 _ _ (.refl s0.own) (.refl _) (fun q => g2 q.2.1)
  simp (disch := omega) only [g2, decide_true, GL, RL, Bool.not_true, if_true, sf2, d2]
  refine T_bytes_Equal (up rb) (up hb) bys.2.2.1 bb ?_
  by_cases g3 : s.beside = b
  case neg =>
    simp only [g3, decide_false, GL, RL, Bool.not_false, Bool.true_eq_false, if_false, if_true]
    exact fin7 _ _ (.refl s0.own) (.refl _) (fun q => g3 q.2.2.1)
  obtain ⟨at', ct, rfl, hct⟩ := rt.shape
  have el : ((s.text.length : Nat) : Int) + 16 = ((s.text.length + 16 : Nat) : Int) := by omega
  simp (disch := omega) only [g3, decide_true, GL, RL, Bool.not_true, if_true, sf3, d3, wi64, el]
  refine T_bytesOf n (s.text.length + 16) (by omega) (by omega) fun v66 h2 n2 => ?_
  obtain ⟨R2, s2, _⟩ := Stp.newN s0.own n2
  refine T_bytes_Equal n2.rn ((up hx).mono n2.cle) (boxB_bytes _ _) bx ?_
  by_cases g4 : boxB n (s.text.length + 16) = x
  case neg =>
    simp only [g4, decide_false, GL, RL, Bool.not_false, if_true]
    exact fin7 _ _ s2 n2.ext (fun q => g4 q.2.2.2)
  simp only [g4, decide_true, GL, RL, Bool.not_true, Bool.false_eq_true, if_false]
  have d3' := n2.cle _ _ d3
  simp (disch := omega) only [GL, RL, sf3, d3']
  refine T_bytes_Clone ((up rt).mono n2.cle) (by omega) fun v73 h3 n3 => ?_
  obtain ⟨R3, s3, r3⟩ := Stp.newN s2.own n3
  dsimp only at k
  simp only [if_pos (show s.key = key ∧ s.nonce = nonce ∧ s.beside = b ∧ boxB n (s.text.length + 16) = x from ⟨g1, g2, g3, g4⟩)] at k
  exact k _ R3 h3 ((s0.trans s2).trans s3) (kB R3 h3 ((s0.trans s2).trans s3).ext ((x0.trans n2.ext).trans n3.ext)) (by simpa using r3)
end
end Go.Proofs.Ytnecdbclhdbaoaa
