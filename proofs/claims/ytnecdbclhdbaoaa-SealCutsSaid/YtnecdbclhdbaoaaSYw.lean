/- What SealCuts comes to. Conditions: each names its own. -/
import Derived.Test.YtnecdbclhdbaoaaSYv
set_option linter.unusedSimpArgs false
set_option linter.unusedVariables false
set_option maxRecDepth 100000
set_option maxHeartbeats 2000000
namespace Go.Proofs.Ytnecdbclhdbaoaa
open Go Go.SL Go.Pure

theorem outsB_map (k : Nat) : ∀ (ps : List (List Nat)), (outsB k ps).map List.length = ps.map (fun p => p.length + 16) := by
  intro ps
  induction ps generalizing k with
  | nil => rfl
  | cons p ps ih => simp only [outsB, List.map_cons, boxB_len, ih (k + 1)]
theorem outsB_cut {n k : Nat} (hn : 0 < n) (layer : List Nat) : cutL (n + 16) (outsB k (cutL n layer)).flatten = outsB k (cutL n layer) := cutL_of (by omega) (pcs_map (cutL_pcs hn layer) (outsB_map k _))
theorem outsB_mem {k : Nat} {x : List Nat} : ∀ {ps : List (List Nat)}, x ∈ outsB k ps → ∃ p m, p ∈ ps ∧ x = boxB m (p.length + 16)
  | [], h => by cases h
  | p :: ps, h => by
    rcases List.mem_cons.1 h with rfl | h
    · exact ⟨p, k, List.mem_cons_self .., rfl⟩
    · obtain ⟨q, m, h1, h2⟩ := outsB_mem (k := k + 1) h
      exact ⟨q, m, List.mem_cons_of_mem _ h1, h2⟩
theorem outsB_first {k m : Nat} (hk : k < 18446744073709551616) (hm : m < 18446744073709551616) {ps : List (List Nat)} (h0 : ps ≠ []) (e : outsB k ps = outsB m ps) : k = m := by
  cases ps with
  | nil => exact absurd rfl h0
  | cons p ps =>
    simp only [outsB, List.cons.injEq] at e
    have := congrArg (fun l => bval (l.take 8)) e.1
    simp only [boxB_take8 _ _ (show 8 ≤ p.length + 16 by omega), bval_bg] at this
    have p8 : (256 : Nat) ^ 8 = 18446744073709551616 := rfl
    rw [p8] at this
    omega
theorem flat_bound {b : Nat} : ∀ (l : List (List Nat)), (∀ p ∈ l, p.length ≤ b) → l.flatten.length ≤ l.length * b
  | [], _ => by simp
  | p :: l, h => by
    have h1 := h p (List.mem_cons_self ..)
    have h2 := flat_bound l fun q hq => h q (List.mem_cons_of_mem _ hq)
    rw [List.flatten_cons, List.length_append, List.length_cons, Nat.succ_mul]
    omega
theorem mem_len {l : List (List Nat)} {p : List Nat} (h : p ∈ l) : p.length ≤ l.flatten.length := by
  induction l with
  | nil => cases h
  | cons q l ih =>
    rw [List.flatten_cons, List.length_append]
    rcases List.mem_cons.1 h with rfl | h
    · omega
    · have := ih h; omega
theorem cut_count60 {n : Nat} (hn : 0 < n) (layer : List Nat) (h : (layer.length : Int).tdiv (n : Int) ≤ 60) : (cutL n layer).length ≤ 61 := by
  have := pcs_count hn _ (cutL_pcs hn layer)
  rw [cutL_flat] at this
  rw [this]
  split
  · omega
  · have e : (layer.length : Int).tdiv (n : Int) = ((layer.length / n : Nat) : Int) := by
      rw [Int.tdiv_eq_ediv_of_nonneg (by omega)]; exact (Int.natCast_ediv _ _).symm
    rw [e] at h
    have h1 : (layer.length + n - 1) / n ≤ (layer.length + n) / n := Nat.div_le_div_right (by omega)
    rw [Nat.add_div_right _ hn] at h1
    omega
theorem few_much {n : Nat} {c : Cr} (f : few n c) : much c ≤ n := by
  cases c with
  | real => exact Nat.zero_le _
  | book ts bs => exact f.1
/-- A new one, with what it was made over. -/
theorem T_Book3 {h : Hp} {K : Value → Hp → Prop} {R : Hp} {S : List Nat} (w : Own R h S) (k : ∀ p h' S', BookAt R h' p [] [] S' → Own R h' S' → Hp.ext h h' → K (.iface t_Pt_crypt_book (.pointer (some ⟨p, 0, none⟩))) h') : Cn P n_crypt_Book #[] h K :=
  T_Book w.nil fun p h' S' hB ow st _ => k p h' S' hB ow fun x o e => st.keep x o (by simp) e
/-- A row of bytes that was made since. -/
def Mine (h0 H : Hp) (v : Value) (l : List Nat) : Prop :=
  ∃ a c, v = .slice a l.length c ∧ l.length ≤ c ∧ (l = [] ∨ ∃ b f, a = some ⟨b, 0, none⟩ ∧ h0 b = none ∧ H b = some (.row t_uint8 (nv .u8 l) (c * 1) (some f)) ∧ ∀ i, i < c * 1 → ¬ (f.1 ≤ i ∧ i < f.2))
theorem Mine.ext {h0 H H' : Hp} {v : Value} {l : List Nat} (m : Mine h0 H v l) (x : Hp.ext H H') : Mine h0 H' v l := by
  obtain ⟨a, c, e, hc, q⟩ := m
  exact ⟨a, c, e, hc, q.imp id fun ⟨b, f, e1, e2, e3, e4⟩ => ⟨b, f, e1, e2, x _ _ e3, e4⟩⟩
theorem Mine.of {h0 h1 H : Hp} {v : Value} {l : List Nat} (x : Hp.ext h0 h1) (n : Nn h1 t_uint8 .u8 v H l) : Mine h0 H v l := by
  rcases n.2 with ⟨rfl, e, rfl⟩ | ⟨b, c, f, hb, hc, rfl, rfl, hf⟩
  · have : l = [] := List.eq_nil_of_length_eq_zero e
    subst this
    exact ⟨none, 0, rfl, Nat.le_refl _, .inl rfl⟩
  · exact ⟨_, c, rfl, hc, .inr ⟨b, f, rfl, x.none hb, Hp.set_same .., hf⟩⟩
/-- All that was made since is to be read. -/
def since (R h H : Hp) : Hp := fun b => (R b).or (if (h b).isNone then H b else none)
theorem since_stp {R h H : Hp} {S : List Nat} (w : Own R h S) (x : Hp.ext h H) : Stp R h (since R h H) H S S := by
  refine ⟨fun b o e => by unfold since; rw [e]; rfl, fun b o _ e => x b o e, fun b o n e => n, fun b o n e r => ?_, ⟨fun b o e => ?_, fun b hb => ?_, fun b hb => ?_⟩⟩
  · unfold since; rw [r, e]; rfl
  · unfold since at e
    cases hR : R b with
    | some o' =>
      rw [hR] at e
      have : o' = o := by simpa using e
      subst this
      exact x _ _ (w.sub _ _ hR)
    | none =>
      rw [hR, Option.none_or] at e
      split at e
      · exact e
      · cases e
  · obtain ⟨o, e⟩ := w.kn b hb
    unfold since; rw [w.dis b hb, e]; rfl
  · obtain ⟨o, e⟩ := w.kn b hb
    exact ⟨o, x _ _ e⟩
theorem Mine.rn {R h H : Hp} {S : List Nat} {v : Value} {l : List Nat} (w : Own R h S) (m : Mine h H v l) : Rn (since R h H) .u8 v l := by
  obtain ⟨a, c, rfl, hc, q⟩ := m
  refine ⟨by rw [nv_len]; omega, a, c, rfl, hc, ?_⟩
  rcases q with rfl | ⟨b, f, rfl, e2, e3, _⟩
  · exact .inl rfl
  · right
    refine ⟨b, 0, rfl, fun i x e => ?_⟩
    have : since R h H b = some (.row t_uint8 (nv .u8 l) (c * 1) (some f)) := by
      unfold since
      rw [w.sub.none e2, e2]
      exact e3
    rw [cell_row this, Nat.zero_add]
    exact e
theorem Mine.base {h0 h1 H : Hp} {v : Value} {l : List Nat} (m : Mine h1 H v l) (x : Hp.ext h0 h1) : Mine h0 H v l := by
  obtain ⟨a, c, e, hc, q⟩ := m
  exact ⟨a, c, e, hc, q.imp id fun ⟨b, f, e1, e2, e3, e4⟩ => ⟨b, f, e1, x.none e2, e3, e4⟩⟩
theorem Mine.set {h1 H : Hp} {v : Value} {l : List Nat} {b : Nat} {o : AObj} (m : Mine h1 H v l) (hb : h1 b = some o) (o' : AObj) : Mine h1 (H.set b o') v l := by
  obtain ⟨a, c, e, hc, q⟩ := m
  exact ⟨a, c, e, hc, q.imp id fun ⟨b2, f, e1, e2, e3, e4⟩ => ⟨b2, f, e1, e2, by rw [Hp.set_ne _ _ (by rintro rfl; rw [hb] at e2; cases e2)]; exact e3, e4⟩⟩
theorem ext_over {h H : Hp} {b : Nat} (x : Hp.ext h H) (hb : h b = none) (o : AObj) : Hp.ext h (H.set b o) := fun i a e => by
  rw [Hp.set_ne _ _ (by rintro rfl; rw [hb] at e; cases e)]; exact x i a e
theorem take_take' (l : List Nat) (a b : Nat) : (l.take a).take b = (l.take b).take a := by rw [List.take_take, List.take_take, Nat.min_comm]

section
variable {h : Hp} {K : Value → Hp → Prop}
theorem T_SealCuts {vk vp vx vl : Value} {key pre ctx layer : List Nat} {size : Int} (kind A B : Nat) (hkd : kind < 256) (hA : A < 65536) (hB : B < 256) (hk : Rn h .u8 vk key) (hp : Rn h .u8 vp pre) (hx : Rn h .u8 vx ctx) (hl : Rn h .u8 vl layer) (bk : Bytes key) (bp : Bytes pre) (bx : Bytes ctx) (bl : Bytes layer) (hs : -9223372036854775808 ≤ size ∧ size ≤ 9223372036854775807)
    (k : ∀ h', K (.bool true) h') : Cn P n_orloplaw17_SealCuts #[.agg #[vk, vp, vx, vl, .int .i64 size], .agg #[.int .u8 (kind : Int), .int .u16 (A : Int), .int .u8 (B : Int)]] h K := by
  refine F_orloplaw17_SealCuts ?_
  unfold s_orloplaw17_SealCuts
  refine aw_box fun r hr => ?_
  have x0 := ext_set (.row t_orloplaw17_Ask (Value.agg #[vk, vp, vx, vl, .int .i64 size]).cells.toList (Value.agg #[vk, vp, vx, vl, .int .i64 size]).cells.size (some (0, 0))) hr
  have ha : Ask17 (h.set r (.row t_orloplaw17_Ask (Value.agg #[vk, vp, vx, vl, .int .i64 size]).cells.toList (Value.agg #[vk, vp, vx, vl, .int .i64 size]).cells.size (some (0, 0)))) r vk vp vx vl size := Hp.set_same ..
  generalize h.set r (.row t_orloplaw17_Ask (Value.agg #[vk, vp, vx, vl, .int .i64 size]).cells.toList (Value.agg #[vk, vp, vx, vl, .int .i64 size]).cells.size (some (0, 0))) = M at x0 ha
  refine aw_box fun r3 hr3 => ?_
  have e3 : (M.set r3 (.row t_orloplaw17_Cut [.int .u8 (kind : Int), .int .u16 (A : Int), .int .u8 (B : Int)] 3 (some (0, 0)))) r3 = _ := Hp.set_same ..
  have x3 := ext_set (.row t_orloplaw17_Cut [.int .u8 (kind : Int), .int .u16 (A : Int), .int .u8 (B : Int)] 3 (some (0, 0))) hr3
  show Cn P _ _ (M.set r3 (.row t_orloplaw17_Cut [.int .u8 (kind : Int), .int .u16 (A : Int), .int .u8 (B : Int)] 3 (some (0, 0)))) _
  generalize M.set r3 (.row t_orloplaw17_Cut [.int .u8 (kind : Int), .int .u16 (A : Int), .int .u8 (B : Int)] 3 (some (0, 0))) = M3 at e3 x3
  refine T_awake17 fun h4 x4 => ?_
  have y4 := x3.trans x4
  replace hk := hk.mono (x0.trans y4).cle
  replace hp := hp.mono (x0.trans y4).cle
  replace hx := hx.mono (x0.trans y4).cle
  replace hl := hl.mono (x0.trans y4).cle
  have a4 : Ask17 h4 r vk vp vx vl size := y4 _ _ ha
  have e4 := x4 _ _ e3
  clear x0 x3 x4 y4 ha e3
  have w0 : Own h4 h4 [] := ⟨.refl _, fun b hb => (by cases hb), fun b hb => (by cases hb)⟩
  simp -zeta (maxSteps := 3000000) (disch := omega) only [GL, RL, Bool.not_true, Bool.false_eq_true, if_false]
  intro J5
  have good : small17 ctx layer size → okAsk key pre size → ∀ h5, Hp.ext h4 h5 → J5 h5 := by
    intro hsm hok h5 x5
    have o5 := (Stp.ext0 w0 x5).own
    simp -zeta only [J5]
    clear J5
    obtain ⟨lc, lL, hsz⟩ := hsm
    have hok' := hok
    obtain ⟨h32, hp7, hs1, hs2⟩ := hok'
    obtain ⟨n, rfl⟩ : ∃ n : Nat, size = (n : Int) := ⟨size.toNat, by omega⟩
    have hn : 0 < n := by omega
    refine T_Book3 o5 fun p h6 S1 hB1 o6 y6 => ?_
    have C6 : CrAt h4 h6 (.iface t_Pt_crypt_book (.pointer (some ⟨p, 0, none⟩))) (.book [] []) S1 := ⟨p, rfl, hB1⟩
    generalize Value.iface t_Pt_crypt_book (.pointer (some ⟨p, 0, none⟩)) = vc at C6
    obtain ⟨c0, c1, c2, c3, c4⟩ := a4.cells o6.sub
    simp -zeta (maxSteps := 3000000) (disch := omega) only [af0, af1, af2, af3, af4, GL, RL, c0, c1, c2, c3, c4]
    refine T_seal_Seal (n : Int) o6 C6 ⟨by simp, by intro s hs; cases hs⟩ hk hp hx hl bk bp bx bl (by omega) (by omega) fun v58 R7 h7 S7 s7 C7 hv7 => ?_
    -- the first
    have eX := sealS_ok (c := .book [] []) (ctx := ctx) (layer := layer) hok
    have bX : Bytes (sealS (.book [] []) key pre ctx layer n).2.1 := sealS_bytes bp bl
    have lX := sealS_len (c := .book [] []) eX (by simp [much]; omega) (by omega)
    have f7 : few 100001 (sealS (.book [] []) key pre ctx layer n).2.2 := few_sealS (n := 0) (c := .book [] []) ⟨by simp, by intro s hs; cases hs⟩ (by omega)
    have dX := sealS_book hok (ctx := ctx) (layer := layer) [] []
    have opX := fun c2 l => (seal_open (c := .book [] []) (c2 := c2) (ctx := ctx) (layer := layer) eX l (by simp [much]; omega)).1
    rw [if_pos eX] at hv7
    rw [eX, ext0, ext1]
    simp only [Int.toNat_natCast, List.length_nil, List.nil_append] at dX
    -- another prefix
    refine aw_lit (ps := []) (n := 0) u_Sl_uint8 z_uint8 zr_uint8 rfl (by omega) (by intro p hp; cases hp) fun v61 h8 n8 _ => ?_
    have d1 : h8.cell ⟨r, 1, none⟩ = some vp := ((s7.ext.trans s7.own.sub).cle.trans n8.cle) _ _ ((a4.cells (.refl _)).2.1)
    simp -zeta (maxSteps := 3000000) (disch := omega) only [af1, GL, RL, d1]
    refine aw_append u_Sl_uint8 u_Sl_uint8 nfo_uint8 rfl (by omega) n8 (hp.mono ((s7.ext.trans s7.own.sub).cle.trans n8.cle)) (nv_flat _ _) (by omega) (.refl _) fun v64 h9 n9 => ?_
    have n9' : Nn h7 t_uint8 .u8 v64 h9 pre := by unfold Nn; simpa [fillL] using n9
    obtain ⟨b9, c9, ff9, hb9, hc9, rfl, hh9, hf9⟩ := n9'.form (by omega)
    have d0 : h9.cell ⟨b9, 0, none⟩ = some (.int .u8 ((pre.getD 0 0 : Nat) : Int)) := by rw [hh9, cell_row (Hp.set_same ..)]; exact nv_getD _ _ _ (by omega)
    have t0 : Int.toNat 0 = 0 := rfl
    have ew : IntKind.u8.wrap (((pre.getD 0 0 : Nat) : Int) + 1) = (((pre.getD 0 0 + 1) % 256 : Nat) : Int) := wu8 (pre.getD 0 0 + 1)
    simp -zeta (maxSteps := 3000000) (disch := omega) only [GL, RL, t0, Nat.zero_add, d0, ew]
    refine aw_storeN z_uint8 n9' (by omega) rfl fun h10 n10 => ?_
    rw [nv_set] at n10
    have lp2 : (pre.set 0 ((pre.getD 0 0 + 1) % 256)).length = 7 := by rw [List.length_set]; exact hp7
    have n10' : Nn h7 t_uint8 .u8 (.slice (some ⟨b9, 0, none⟩) pre.length c9) h10 (pre.set 0 ((pre.getD 0 0 + 1) % 256)) := by unfold Nn; rw [lp2, ← hp7]; exact n10
    have bp2 : Bytes (pre.set 0 ((pre.getD 0 0 + 1) % 256)) := fun w hw => (List.mem_or_eq_of_mem_set hw).elim (bp w) fun e => by rw [e]; exact Nat.mod_lt _ (by omega)
    have hne : pre ≠ pre.set 0 ((pre.getD 0 0 + 1) % 256) := fun e => by
      have h0 := bp.getD 0
      have := congrArg (fun m => m.getD 0 0) e
      simp only [List.getD_eq_getElem?_getD, List.getElem?_set, if_true] at this
      rw [if_pos (show 0 < pre.length by omega)] at this
      simp only [Option.getD_some, List.getD_eq_getElem?_getD] at this h0
      omega
    generalize pre.set 0 ((pre.getD 0 0 + 1) % 256) = pre2 at n10' lp2 bp2 hne
    generalize Value.slice (some ⟨b9, 0, none⟩) pre.length c9 = vp2 at n10'
    obtain ⟨R8, s8, q8⟩ := Stp.newN s7.own n10'
    have C8 := C7.ext s7.own s8.ext n10'.ext
    have x48 := s7.ext.trans s8.ext
    obtain ⟨c0, c1, c2, c3, c4⟩ := a4.cells (x48.trans s8.own.sub)
    simp -zeta (maxSteps := 3000000) (disch := omega) only [af0, af1, af2, af3, af4, GL, RL, c0, c1, c2, c3, c4]
    refine T_seal_Seal (n : Int) s8.own C8 (f7.mono (by omega)) (hk.mono x48.cle) q8 (hx.mono x48.cle) (hl.mono x48.cle) bk bp2 bx bl (by omega) (by omega) fun v81 R9 h11 S9 s9 C9 hv9 => ?_
    have hok2 : okAsk key pre2 n := ⟨h32, lp2, hs1, hs2⟩
    have eY := sealS_ok (c := (sealS (.book [] []) key pre ctx layer n).2.2) (ctx := ctx) (layer := layer) hok2
    have bY : Bytes (sealS (sealS (.book [] []) key pre ctx layer n).2.2 key pre2 ctx layer n).2.1 := sealS_bytes bp2 bl
    have f9 : few 200002 (sealS (sealS (.book [] []) key pre ctx layer n).2.2 key pre2 ctx layer n).2.2 := few_sealS f7 (by omega)
    have lY := sealS_len (c := (sealS (.book [] []) key pre ctx layer n).2.2) (key := key) (pre := pre2) (ctx := ctx) (layer := layer) (size := n) eY (by have := few_much f7; omega) (by omega)
    rw [if_pos eY] at hv9
    rw [eY, ext0, ext1]
    rw [dX] at C9 hv7 hv9 bX lX opX bY f9 lY
    dsimp only at C9 hv7 hv9 bX lX opX bY f9 lY
    have dY := sealS_book hok2 (ctx := ctx) (layer := layer) [] (keptB key (headL pre n ++ ctx) pre (cutL n layer).length 0 (cutL n layer))
    rw [keptB_len] at dY
    simp only [Int.toNat_natCast] at dY
    rw [dY] at C9 hv9 bY f9 lY
    dsimp only at C9 hv9 bY f9 lY
    have opened := fun (key2 ctx2 s : List Nat) (q : s.length < 4294967290) => cuts_open (key := key) (pre := pre) (pre2 := pre2) (ctx := ctx) (layer := layer) (key2 := key2) (ctx2 := ctx2) (s := s) (ts := []) (n := n) h32 hp7 lp2 hne ⟨by omega, by omega⟩ (by have := cut_count60 hn layer (by omega); omega) q
    have lat : Later (.book [] (keptB key (headL pre n ++ ctx) pre (cutL n layer).length 0 (cutL n layer))) (.book [] (keptB key (headL pre n ++ ctx) pre (cutL n layer).length 0 (cutL n layer) ++ keptB key (headL pre2 n ++ ctx) pre2 (cutL n layer).length 0 (cutL n layer))) := List.prefix_append _ _
    have openX := opX _ lat
    have hcodes := fun (key2 ctx2 s : List Nat) (q : key2.length = 32) => openS_codes (ts := []) (bs := keptB key (headL pre n ++ ctx) pre (cutL n layer).length 0 (cutL n layer) ++ keptB key (headL pre2 n ++ ctx) pre2 (cutL n layer).length 0 (cutL n layer)) (key := key2) (ctx := ctx2) (s := s) q
    have cutX := outsB_cut (k := 0) hn layer
    have cutY := outsB_cut (k := (cutL n layer).length) hn layer
    have lps := cut_count60 hn layer (by omega)
    have pspos : 0 < (cutL n layer).length := by
      have := cutL_ne n layer
      cases e : cutL n layer with
      | nil => exact absurd e this
      | cons a b => simp
    have pne := cutL_ne n layer
    have pmem : ∀ q ∈ cutL n layer, q.length ≤ 1500 := fun q hq => by have := mem_len hq; rw [cutL_flat] at this; omega
    have hdne : headL pre n ≠ headL pre2 n := fun e => by
      unfold headL at e
      rw [List.append_assoc, List.append_assoc] at e
      exact hne (List.append_inj (List.append_cancel_left e) (by omega)).1
    have fne : (outsB 0 (cutL n layer)).flatten ≠ (outsB (cutL n layer).length (cutL n layer)).flatten := fun e => by
      rw [e, cutY] at cutX
      have := outsB_first (by omega) (by omega) pne cutX
      omega
    clear opX lat dX dY eX eY f7
    generalize keptB key (headL pre n ++ ctx) pre (cutL n layer).length 0 (cutL n layer) ++ keptB key (headL pre2 n ++ ctx) pre2 (cutL n layer).length 0 (cutL n layer) = KB at C9 f9 opened openX hcodes
    have hl1 := headL_len pre n hp7
    have hl2 := headL_len pre2 n lp2
    have memX : ∀ q ∈ outsB 0 (cutL n layer), q.length ≤ 1516 ∧ Bytes q := fun q hq => by
      obtain ⟨a, m, h1, rfl⟩ := outsB_mem hq
      have := pmem a h1
      exact ⟨by rw [boxB_len]; omega, boxB_bytes _ _⟩
    have memY : ∀ q ∈ outsB (cutL n layer).length (cutL n layer), q.length ≤ 1516 ∧ Bytes q := fun q hq => by
      obtain ⟨a, m, h1, rfl⟩ := outsB_mem hq
      have := pmem a h1
      exact ⟨by rw [boxB_len]; omega, boxB_bytes _ _⟩
    have lLX := outsB_len (cutL n layer) 0
    generalize outsB 0 (cutL n layer) = LX at *
    generalize outsB (cutL n layer).length (cutL n layer) = LY at *
    generalize (cutL n layer).length = kn at *
    clear pne pmem
    obtain ⟨X, hX⟩ : ∃ X, headL pre n ++ LX.flatten = X := ⟨_, rfl⟩
    obtain ⟨Y, hY⟩ : ∃ Y, headL pre2 n ++ LY.flatten = Y := ⟨_, rfl⟩
    have tX : X.take 12 = headL pre n := by rw [← hX, List.take_append_of_le_length (by omega), List.take_of_length_le (by omega)]
    have tY : Y.take 12 = headL pre2 n := by rw [← hY, List.take_append_of_le_length (by omega), List.take_of_length_le (by omega)]
    have rX : X.drop 12 = LX.flatten := by rw [← hX, List.drop_append_of_le_length (by omega), List.drop_of_length_le (by omega), List.nil_append]
    have rY : Y.drop 12 = LY.flatten := by rw [← hY, List.drop_append_of_le_length (by omega), List.drop_of_length_le (by omega), List.nil_append]
    rw [hX] at hv7 bX lX opened openX
    rw [hY] at hv9 bY lY opened
    have lgen : 28 ≤ lengthS layer.length n ∧ lengthS layer.length n ≤ 28 + 17 * layer.length := by
      refine ⟨?_, lengthS_le (layer.length : Int) n (by omega)⟩
      unfold lengthS
      rw [if_neg (by omega)]
      omega
    have lX28 : 28 ≤ X.length ∧ X.length ≤ 30000 := by omega
    have lY28 : 28 ≤ Y.length ∧ Y.length ≤ 30000 := by omega
    have s79 := s8.trans s9
    replace hv7 := hv7.mono s79.ext.cle
    have x49 := x48.trans s9.ext
    obtain ⟨ax, cx, rfl, hcx⟩ := hv7.shape
    obtain ⟨ay, cy, rfl, hcy⟩ := hv9.shape
    have eA : decide (((X.length : Nat) : Int) < 28) = false := by rw [decide_eq_false_iff_not]; omega
    have eB : decide (((Y.length : Nat) : Int) < 28) = false := by rw [decide_eq_false_iff_not]; omega
    have z0 : ((((0 : Nat) : Int)) != 0) = false := rfl
    simp -zeta (maxSteps := 3000000) (disch := omega) only [GL, RL, z0, eA, eB, if_true, Bool.false_eq_true, if_false]
    intro J18
    simp -zeta only [J18]
    clear J18
    have own9 := s9.own
    have x411 : Hp.ext h4 h11 := x49.trans own9.sub
    have sz27 : sz P t_orloplaw17_Cut = some 3 := by kernel_rfl
    have pk27 : ∀ H : Hp, Hp.ext h4 H → peek P H (Instr.loadAt t_orloplaw17_Cut (.pointer (some ⟨r3, 0, none⟩))) = some (.agg #[.int .u8 (kind : Int), .int .u16 (A : Int), .int .u8 (B : Int)]) := fun H x => pk_q fun K => q_ldRow (ys := [.int .u8 (kind : Int), .int .u16 (A : Int), .int .u8 (B : Int)]) u_orloplaw17_Cut rfl sz27 (x _ _ e4)
    have pX12 : ∀ H : Hp, peek P H (Instr.sliceAt t_Sl_uint8 (.slice ax X.length cx) (some (.int .i64 12)) none none) = some (.slice (SL.cut ax cx 12 1) (X.length - 12) (cx - 12)) := fun H => pk_q fun K => q_slLo (lo := 12) u_Sl_uint8 z_uint8 ax X.length cx .i64 (by omega) (by omega)
    have pY12 : ∀ H : Hp, peek P H (Instr.sliceAt t_Sl_uint8 (.slice ay Y.length cy) (some (.int .i64 12)) none none) = some (.slice (SL.cut ay cy 12 1) (Y.length - 12) (cy - 12)) := fun H => pk_q fun K => q_slLo (lo := 12) u_Sl_uint8 z_uint8 ay Y.length cy .i64 (by omega) (by omega)
    have pXh : ∀ H : Hp, peek P H (Instr.sliceAt t_Sl_uint8 (.slice ax X.length cx) none (some (.int .i64 12)) none) = some (.slice (SL.cut ax cx 0 1) 12 cx) := fun H => pk_q fun K => q_slHi (hi := 12) u_Sl_uint8 z_uint8 ax X.length cx .i64 (by omega)
    have rX12 : Rn R9 .u8 (.slice (SL.cut ax cx 12 1) (X.length - 12) (cx - 12)) LX.flatten := by
      have := hv7.cut 12 X.length (by omega) (Nat.le_refl _)
      rwa [List.take_of_length_le (Nat.le_refl _), rX] at this
    have rY12 : Rn R9 .u8 (.slice (SL.cut ay cy 12 1) (Y.length - 12) (cy - 12)) LY.flatten := by
      have := hv9.cut 12 Y.length (by omega) (Nat.le_refl _)
      rwa [List.take_of_length_le (Nat.le_refl _), rY] at this
    have rXh : Rn R9 .u8 (.slice (SL.cut ax cx 0 1) 12 cx) (headL pre n) := by
      have := rn_hi hv7 (hi := 12) (by omega)
      rwa [tX] at this
    have lfX : LX.flatten.length = X.length - 12 := by rw [← rX, List.length_drop]
    have lfY : LY.flatten.length = Y.length - 12 := by rw [← rY, List.length_drop]
    obtain ⟨c0, c1, c2, c3, c4⟩ := a4.cells x411
    rw [q_of (pX12 _)]
    have e16 : ((n : Nat) : Int) + 16 = ((n + 16 : Nat) : Int) := by omega
    simp -zeta (maxSteps := 3000000) (disch := omega) only [af4, GL, RL, c4, wi64, e16]
    rw [q_of (pY12 _)]
    rw [q_of (pk27 _ x411)]
    refine T_ref_Cut (n + 16) own9 (by omega) (by omega) rX12 (by omega) fun v105 R12 h12 s12 x12 P0 => ?_
    rw [cutX] at P0
    have x412 := x411.trans x12
    refine ⟨pk27 _ x412, pk_ldI (a4.cells x412).2.2.2.2, pf4 r, pY12 _, ?_⟩
    refine T_ref_Cut (n + 16) s12.own (by omega) (by omega) (rY12.mono s12.ext.cle) (by omega) fun v111 R13 h13 s13 x13 P1 => ?_
    rw [cutY] at P1
    have x413 := x412.trans x13
    refine ⟨pk27 _ x413, ?_⟩
    refine T_cutChunks kind A B hkd hA hB s13.own (P0.mono s13.ext.cle) P1 (by omega) (by omega) fun v113 R14 h14 L' s14 x14 PL lL' mL' sameL => ?_
    have s914 := (s12.trans s13).trans s14
    have own14 := s914.own
    have C14 : CrAt R14 h14 vc (.book [] KB) S9 := C9.ext own9 s914.ext ((x12.trans x13).trans x14)
    have x414 : Hp.ext h4 h14 := (x49.trans s914.ext).trans own14.sub
    have memL : ∀ q ∈ L', q.length ≤ 1516 ∧ Bytes q := fun q hq => (mL' q hq).elim (memX q) (memY q)
    refine aw_lit (ps := []) (n := 0) u_Sl_uint8 z_uint8 zr_uint8 rfl (by omega) (by intro p hp; cases hp) fun v114 h15 n15 _ => ?_
    rw [q_of (pXh _)]
    refine aw_append u_Sl_uint8 u_Sl_uint8 nfo_uint8 rfl (by omega) n15 (by have := rXh.mono ((s914.ext.trans own14.sub).cle.trans n15.cle); unfold Rn at this; rwa [hl1] at this) (nv_flat _ _) (by omega) (.refl _) fun v117 h16 n16 => ?_
    have n16' : Nn h14 t_uint8 .u8 v117 h16 (headL pre n) := by unfold Nn; rw [hl1]; simpa [fillL] using n16
    obtain ⟨ws, rws, pvs⟩ := PL
    obtain ⟨_, aL, cL, eL, hcL, qL⟩ := rws
    have lnL : ∀ {h : Hp} {K : Value → Prop}, q P h (Builtin.len_ #[t_Sl_Sl_uint8] t_int #[v113]) K = K (.int .i64 L'.length) := fun {h K} => by rw [eL]; exact q_lenS u_Sl_Sl_uint8 _ _ _
    have bnd : ∀ i, (headL pre n ++ (L'.take i).flatten).length ≤ 100000 := fun i => by
      have := flat_bound (b := 1516) (L'.take i) fun q hq => (memL q (List.mem_of_mem_take hq)).1
      have h2 : (L'.take i).length ≤ 62 := by rw [List.length_take]; omega
      have h3 := Nat.mul_le_mul_right 1516 h2
      rw [List.length_append]
      omega
    refine Lp_mk (fun m vs h' => ∃ (i : Nat) (vo : Value), i + m = L'.length ∧ Nn h14 t_uint8 .u8 vo h' (headL pre n ++ (L'.take i).flatten) ∧ vs = [vo, .int .i64 (i : Int)]) L'.length ⟨0, v117, by omega, by simpa using n16', rfl⟩ ?_
    rintro m vs hA' ⟨i, vo, him, nO, rfl⟩
    simp -zeta (maxSteps := 3000000) (disch := omega) only [GL, RL, lnL, lt_dec]
    by_cases hlt : i < L'.length
    · simp -zeta only [hlt, decide_true, if_true]
      rcases qL with q0 | ⟨bL, oL, rfl, hcell⟩
      · omega
      obtain ⟨y, ey, ry⟩ := pvs.2 i _ (List.getElem?_eq_getElem hlt)
      have cyL : hA'.cell ⟨bL, oL + i, none⟩ = some y := (own14.sub.cle.trans nO.cle) _ _ (hcell i y ey)
      have e1 : ((i : Nat) : Int) + 1 = ((i + 1 : Nat) : Int) := by omega
      have lim := memL L'[i] (List.getElem_mem hlt)
      have b1 := bnd i
      subst eL
      simp -zeta (maxSteps := 3000000) (disch := omega) only [GL, RL, cyL, wi64, e1]
      refine aw_append u_Sl_uint8 u_Sl_uint8 nfo_uint8 rfl (by omega) nO (ry.mono (own14.sub.cle.trans nO.cle)) (nv_flat _ _) (by omega) (.refl _) fun vo' hB' nO' => ?_
      rw [← nv_app] at nO'
      refine ⟨hB', .refl _, m - 1, by omega, i + 1, vo', by omega, ?_, rfl⟩
      have ef : headL pre n ++ (L'.take (i + 1)).flatten = (headL pre n ++ (L'.take i).flatten) ++ L'[i] := by
        rw [List.take_succ_eq_append_getElem hlt, List.flatten_append, List.flatten_cons, List.flatten_nil, List.append_nil, ← List.append_assoc]
      rw [ef]
      unfold Nn
      have el : ((headL pre n ++ (L'.take i).flatten) ++ L'[i]).length = (headL pre n ++ (L'.take i).flatten).length + L'[i].length := List.length_append
      rw [el]
      exact nO'
    simp -zeta only [hlt, decide_false, Bool.false_eq_true, if_false]
    have bS := bnd i
    have eTk : L'.take i = L' := List.take_of_length_le (by omega)
    rw [eTk] at nO bS
    clear bnd
    have bs0 : Bytes (headL pre n ++ L'.flatten) := (headL_bytes bp n).append fun z hz => by
      obtain ⟨q, hq, hz⟩ := List.mem_flatten.1 hz
      exact (memL q hq).2 z hz
    have t12 : (headL pre n ++ L'.flatten).take 12 = headL pre n := by rw [List.take_append_of_le_length (by omega), List.take_of_length_le (by omega)]
    have len0 : 12 ≤ (headL pre n ++ L'.flatten).length := by rw [List.length_append]; omega
    have same0 : 4 ≤ kind % 9 ∧ kind % 9 ≤ 7 → headL pre n ++ L'.flatten = X := fun q => by rw [sameL q, hX]
    generalize headL pre n ++ L'.flatten = s0 at nO bS bs0 t12 len0 same0
    have neY : ∀ m, s0.take m ≠ Y := fun m e => by
      have h1 := congrArg List.length e
      rw [List.length_take] at h1
      have h2 := congrArg (fun l => l.take 12) e
      simp only [List.take_take, tY] at h2
      rw [show min 12 m = 12 by omega, t12] at h2
      exact hdne h2
    -- key and context, of its own
    have xA : Hp.ext h14 hA' := nO.ext
    have x4A := x414.trans xA
    refine aw_lit (ps := []) (n := 0) u_Sl_uint8 z_uint8 zr_uint8 rfl (by omega) (by intro p hp; cases hp) fun v130 hk1 nk1 _ => ?_
    have g0 : hk1.cell ⟨r, 0, none⟩ = some vk := (x4A.cle.trans nk1.cle) _ _ ((a4.cells (.refl _)).1)
    simp -zeta (maxSteps := 3000000) (disch := omega) only [af0, GL, RL, g0]
    refine aw_append u_Sl_uint8 u_Sl_uint8 nfo_uint8 rfl (by omega) nk1 (hk.mono (x4A.cle.trans nk1.cle)) (nv_flat _ _) (by omega) (.refl _) fun v133 hBB nK => ?_
    have nK' : Nn hA' t_uint8 .u8 v133 hBB key := by unfold Nn; simpa [fillL] using nK
    have xB : Hp.ext hA' hBB := nK'.ext
    have x4B := x4A.trans xB
    refine aw_lit (ps := []) (n := 0) u_Sl_uint8 z_uint8 zr_uint8 rfl (by omega) (by intro p hp; cases hp) fun v134 hk2 nk2 _ => ?_
    have g2 : hk2.cell ⟨r, 2, none⟩ = some vx := (x4B.cle.trans nk2.cle) _ _ ((a4.cells (.refl _)).2.2.1)
    simp -zeta (maxSteps := 3000000) (disch := omega) only [af2, GL, RL, g2]
    refine aw_append u_Sl_uint8 u_Sl_uint8 nfo_uint8 rfl (by omega) nk2 (hx.mono (x4B.cle.trans nk2.cle)) (nv_flat _ _) (by omega) (.refl _) fun v137 hC nC => ?_
    have nC' : Nn hBB t_uint8 .u8 v137 hC ctx := by unfold Nn; simpa [fillL] using nC
    have xC : Hp.ext hBB hC := nC'.ext
    have x4C := x4B.trans xC
    have mS : Mine h14 hA' vo s0 := Mine.of (.refl _) nO
    have mK : Mine hA' hBB v133 key := Mine.of (.refl _) nK'
    have mC : Mine hBB hC v137 ctx := Mine.of (.refl _) nC'
    intro J35
    have last : ∀ (H : Hp) (v12 v15 : Value) (s2 key2 ctx2 : List Nat), Hp.ext h14 H → Rn (since R14 h14 H) .u8 v12 s2 → Rn (since R14 h14 H) .u8 v133 key2 → Rn (since R14 h14 H) .u8 v15 ctx2 → Bytes s2 → Bytes key2 → Bytes ctx2 → key2.length = 32 → s2.length ≤ 200000 → ctx2.length ≤ 400 → s2 ≠ Y → J35 v12 v15 H := by
      intro H v12 v15 s2 key2 ctx2 xH rs rk rc bs2 bk2 bc2 lk2 ls2 lc2 nY
      simp -zeta only [J35]
      clear J35
      have st := since_stp own14 xH
      have CH := C14.ext own14 st.ext xH
      refine T_seal_Open st.own CH (f9.mono (by omega)) rk rc rs bk2 bc2 bs2 (by omega) (by omega) fun v194 Rz hz Sz sz Cz hvz => ?_
      rw [ext0, ext1]
      have eRz : Hp.ext R9 Rz := (s914.ext.trans st.ext).trans sz.ext
      have x4z : Hp.ext h4 hz := (x49.trans eRz).trans sz.own.sub
      have rXz : Rn hz .u8 (.slice ax X.length cx) X := sz.own.rn (hv7.mono eRz.cle)
      have rSz : Rn hz .u8 v12 s2 := sz.own.rn (rs.mono sz.ext.cle)
      have rKz : Rn hz .u8 v133 key2 := sz.own.rn (rk.mono sz.ext.cle)
      have rCz : Rn hz .u8 v15 ctx2 := sz.own.rn (rc.mono sz.ext.cle)
      obtain ⟨z0', z1', z2', z3', z4'⟩ := a4.cells x4z
      intro J43
      have no : ¬ (s2 = X ∧ key2 = key ∧ ctx2 = ctx) → J43 (.bool false) hz := by
        intro hno
        simp -zeta only [J43]
        clear J43
        have n0 : (openS (.book [] KB) key2 ctx2 s2).1 ≠ 0 := fun e => by
          obtain ⟨q1, q2, q3⟩ := opened key2 ctx2 s2 (by omega) e
          rcases q3 with q3 | q3
          · exact hno ⟨q3, q1, q2⟩
          · exact nY q3
        rw [if_neg n0] at hvz
        subst hvz
        rcases hcodes key2 ctx2 s2 lk2 with e | e | e
        · exact absurd e n0
        · rw [e]
          simp (disch := omega) only [GL, RL, Bool.false_eq_true, if_false]
          exact k _
        · rw [e]
          simp (disch := omega) only [GL, RL, Bool.false_eq_true, if_false]
          exact k _
      have yes : s2 = X ∧ key2 = key ∧ ctx2 = ctx → J43 (.bool true) hz := by
        rintro ⟨rfl, rfl, rfl⟩
        simp -zeta only [J43]
        clear no J43
        rw [openX] at hvz ⊢
        rw [if_pos rfl] at hvz
        have hvz : Rn Rz .u8 v194 layer := hvz
        have z0 : ((((0 : Nat) : Int)) == 0) = true := rfl
        simp (disch := omega) only [GL, RL, z0, if_true, af3, z3']
        refine T_orlopref01_Equal (sz.own.rn hvz) (hl.mono x4z.cle) (by omega) ?_
        rw [decide_eq_true rfl]
        exact k _
      clear_value J43
      refine T_orlopref01_Equal rSz rXz (by omega) ?_
      by_cases q1 : s2 = X
      case neg =>
        simp -zeta only [q1, decide_false, GL, Bool.false_eq_true, if_false]
        exact no fun q => q1 q.1
      simp -zeta (disch := omega) only [q1, decide_true, GL, RL, if_true, af0, z0']
      refine T_orlopref01_Equal rKz (hk.mono x4z.cle) (by omega) ?_
      by_cases q2 : key2 = key
      case neg =>
        simp -zeta only [q2, decide_false, GL, Bool.false_eq_true, if_false]
        exact no fun q => q2 q.2.1
      simp -zeta (disch := omega) only [q2, decide_true, GL, RL, if_true, af2, z2']
      refine T_orlopref01_Equal rCz (hx.mono x4z.cle) (by omega) ?_
      by_cases q3 : ctx2 = ctx
      · rw [decide_eq_true q3]; exact yes ⟨q1, q2, q3⟩
      · rw [decide_eq_false q3]; exact no fun q => q3 q.2.2
    clear_value J35
    have x14A := xA
    have x14B := xA.trans xB
    have x14C := x14B.trans xC
    have e4C := x4C _ _ e4
    have k0 : hC.cell ⟨r3, 0, none⟩ = some (.int .u8 (kind : Int)) := by rw [cell_row e4C]; rfl
    have k1 : hC.cell ⟨r3, 1, none⟩ = some (.int .u16 (A : Int)) := by rw [cell_row e4C]; rfl
    have k2 : hC.cell ⟨r3, 2, none⟩ = some (.int .u8 (B : Int)) := by rw [cell_row e4C]; rfl
    have k9 : kind % 9 < 9 := Nat.mod_lt _ (by omega)
    have m9 : ((kind : Nat) : Int).tmod 9 = ((kind % 9 : Nat) : Int) := tmodN kind 9
    simp -zeta (maxSteps := 3000000) (disch := omega) only [GL, RL, df0, k0, m9]
    generalize kind % 9 = g at k9 same0 m9 ⊢
    clear m9
    have ez4 : (((g : Nat) : Int) == 4) = decide (g = 4) := eqN g 4
    have ez5 : (((g : Nat) : Int) == 5) = decide (g = 5) := eqN g 5
    have ez6 : (((g : Nat) : Int) == 6) = decide (g = 6) := eqN g 6
    have ez7 : (((g : Nat) : Int) == 7) = decide (g = 7) := eqN g 7
    have neY0 : s0 ≠ Y := fun e => neY s0.length (by rw [List.take_of_length_le (Nat.le_refl _)]; exact e)
    -- what is at hand when nothing of it is turned
    have mSC : Mine h14 hC vo s0 := mS.ext (xB.trans xC)
    have mKC : Mine h14 hC v133 key := (mK.ext xC).base xA
    have mCC : Mine h14 hC v137 ctx := mC.base x14B
    obtain ⟨aS, cS, eS, hcS, qS⟩ := id mS
    rcases qS with qS | ⟨bS, fS, rfl, frS, rowS, nfS⟩
    · rw [qS] at len0; simp at len0
    obtain ⟨aK, cK, eK, hcK, qK⟩ := id mK
    rcases qK with qK | ⟨bK, fK, rfl, frK, rowK, nfK⟩
    · rw [qK] at h32; simp at h32
    have lmod : A % s0.length < s0.length := Nat.mod_lt _ (by omega)
    have lmod32 : A % 32 < 32 := Nat.mod_lt _ (by omega)
    have m32 : ((A : Nat) : Int).tmod 32 = ((A % 32 : Nat) : Int) := tmodN A 32
    have flS : ∀ i, i < (nv .u8 s0).length → ¬ (fS.1 ≤ i ∧ i < fS.2) := fun i hi => nfS i (by rw [nv_len] at hi; omega)
    have flK : ∀ i, i < (nv .u8 key).length → ¬ (fK.1 ≤ i ∧ i < fK.2) := fun i hi => nfK i (by rw [nv_len] at hi; omega)
    have bset : ∀ (l : List Nat) (i x : Nat), Bytes l → x < 256 → Bytes (l.set i x) := fun l i x hl hx w hw => (List.mem_or_eq_of_mem_set hw).elim (hl w) fun e => by rw [e]; exact hx
    by_cases g4 : g = 4
    · have d4 : (((g : Nat) : Int) == 4) = true := by rw [ez4]; exact decide_eq_true g4
      have rowC := xC _ _ (xB _ _ rowS)
      have cS1 : hC.cell ⟨bS, A % s0.length, none⟩ = some (.int .u8 ((s0.getD (A % s0.length) 0 : Nat) : Int)) := by rw [cell_row rowC]; exact nv_getD _ _ _ lmod
      have b1 := bs0.getD (A % s0.length)
      subst eS
      simp -zeta (maxSteps := 3000000) (disch := omega) only [GL, RL, d4, if_true, df1, df2, k1, k2, wi64, tmodN, Nat.zero_add, cS1, ixor8_nat]
      refine aw_store z_uint8 rfl (put_row rowC (by rw [nv_len]; exact lmod) (flS _ (by rw [nv_len]; exact lmod)) _) ?_
      rw [nv_set]
      have xH := ext_over x14C frS (.row t_uint8 (nv .u8 (s0.set (A % s0.length) (s0.getD (A % s0.length) 0 ^^^ B))) (cS * 1) (some fS))
      have mS' : Mine h14 (hC.set bS (.row t_uint8 (nv .u8 (s0.set (A % s0.length) (s0.getD (A % s0.length) 0 ^^^ B))) (cS * 1) (some fS))) (.slice (some ⟨bS, 0, none⟩) s0.length cS) (s0.set (A % s0.length) (s0.getD (A % s0.length) 0 ^^^ B)) :=
        ⟨_, cS, by rw [List.length_set], by rw [List.length_set]; exact hcS, .inr ⟨bS, fS, rfl, frS, Hp.set_same .., nfS⟩⟩
      have mK' := (((mK.ext xC).set rowS (.row t_uint8 (nv .u8 (s0.set (A % s0.length) (s0.getD (A % s0.length) 0 ^^^ B))) (cS * 1) (some fS))).base xA)
      have mC' := ((mC.set (xB _ _ rowS) (.row t_uint8 (nv .u8 (s0.set (A % s0.length) (s0.getD (A % s0.length) 0 ^^^ B))) (cS * 1) (some fS))).base x14B)
      refine last _ _ _ _ _ _ xH (mS'.rn own14) (mK'.rn own14) (mC'.rn own14) (bset _ _ _ bs0 (Nat.xor_lt_two_pow (n := 8) b1 hB)) bk bx h32 (by rw [List.length_set]; omega) (by omega) fun e => ?_
      have eX := same0 (by omega)
      rw [eX] at e
      have lm : A % X.length < X.length := by rw [← eX]; exact lmod
      by_cases hi : A % X.length < 12
      · have h2 := congrArg (fun l => l.drop 12) e
        simp only [List.drop_set_of_lt hi, rX, rY] at h2
        exact fne h2
      · have h2 := congrArg (fun l => l.take 12) e
        simp only [List.take_set_of_le (show 12 ≤ A % X.length by omega), tX, tY] at h2
        exact hdne h2
    have d4 : (((g : Nat) : Int) == 4) = false := by rw [ez4]; exact decide_eq_false g4
    by_cases g5 : g = 5
    · have d5 : (((g : Nat) : Int) == 5) = true := by rw [ez5]; exact decide_eq_true g5
      have esub : ((s0.length : Nat) : Int) - ((A % s0.length : Nat) : Int) = ((s0.length - A % s0.length : Nat) : Int) := by omega
      subst eS
      simp -zeta (maxSteps := 3000000) (disch := omega) only [GL, RL, d4, d5, if_true, Bool.false_eq_true, if_false, df1, df2, k1, k2, wi64, tmodN, esub]
      rw [q_slHi (hi := s0.length - A % s0.length) u_Sl_uint8 z_uint8 (some ⟨bS, 0, none⟩) s0.length cS .i64 (by omega)]
      exact last _ _ _ _ _ _ x14C (rn_hi (mSC.rn own14) (by omega)) (mKC.rn own14) (mCC.rn own14) (bs0.take _) bk bx h32 (by rw [List.length_take]; omega) (by omega) (neY _)
    have d5 : (((g : Nat) : Int) == 5) = false := by rw [ez5]; exact decide_eq_false g5
    by_cases g6 : g = 6
    · have d6 : (((g : Nat) : Int) == 6) = true := by rw [ez6]; exact decide_eq_true g6
      simp -zeta (maxSteps := 3000000) (disch := omega) only [GL, RL, d4, d5, d6, if_true, Bool.false_eq_true, if_false, df1, df2, k1, k2]
      refine aw_lit (ps := [(0, _)]) u_Sl_uint8 z_uint8 zr_uint8 rfl (by omega) (by intro p hp; rw [List.mem_singleton.1 hp]; exact ⟨rfl, by show _ < 1; omega⟩) fun v174 hD1 nD1 _ => ?_
      have nD1' : Nn hC t_uint8 .u8 v174 hD1 [B] := nD1
      refine aw_appendN u_Sl_uint8 u_Sl_uint8 nfo_uint8 rfl (by omega) nC' nD1' (nv_flat _ _) (by simp; omega) fun v175 hD nD => ?_
      rw [← nv_app] at nD
      have nD' : Nn hBB t_uint8 .u8 v175 hD (ctx ++ [B]) := by unfold Nn; simpa using nD
      have xD := nD'.ext
      exact last _ _ _ _ _ _ (x14B.trans xD) ((mS.ext (xB.trans xD)).rn own14) (((mK.ext xD).base xA).rn own14) ((Mine.of x14B nD').rn own14) bs0 bk (bx.append (by intro w hw; simp at hw; omega)) h32 (by omega) (by rw [List.length_append, List.length_singleton]; omega) neY0
    have d6 : (((g : Nat) : Int) == 6) = false := by rw [ez6]; exact decide_eq_false g6
    by_cases g7 : g = 7
    · have d7 : (((g : Nat) : Int) == 7) = true := by rw [ez7]; exact decide_eq_true g7
      have rowC := xC _ _ rowK
      have lm : A % 32 < key.length := by omega
      have cK1 : hC.cell ⟨bK, A % 32, none⟩ = some (.int .u8 ((key.getD (A % 32) 0 : Nat) : Int)) := by rw [cell_row rowC]; exact nv_getD _ _ _ lm
      have b1 := bk.getD (A % 32)
      subst eK
      simp -zeta (maxSteps := 3000000) (disch := omega) only [GL, RL, d4, d5, d6, d7, if_true, Bool.false_eq_true, if_false, df1, df2, k1, k2, wi64, m32, Nat.zero_add, cK1, ixor8_nat]
      refine aw_store z_uint8 rfl (put_row rowC (by rw [nv_len]; exact lm) (flK _ (by rw [nv_len]; exact lm)) _) ?_
      rw [nv_set]
      have xH := ext_over x14C (xA.none frK) (.row t_uint8 (nv .u8 (key.set (A % 32) (key.getD (A % 32) 0 ^^^ B))) (cK * 1) (some fK))
      have mK' : Mine h14 (hC.set bK (.row t_uint8 (nv .u8 (key.set (A % 32) (key.getD (A % 32) 0 ^^^ B))) (cK * 1) (some fK))) (.slice (some ⟨bK, 0, none⟩) key.length cK) (key.set (A % 32) (key.getD (A % 32) 0 ^^^ B)) :=
        ⟨_, cK, by rw [List.length_set], by rw [List.length_set]; exact hcK, .inr ⟨bK, fK, rfl, xA.none frK, Hp.set_same .., nfK⟩⟩
      have mS' : Mine h14 (hC.set bK (.row t_uint8 (nv .u8 (key.set (A % 32) (key.getD (A % 32) 0 ^^^ B))) (cK * 1) (some fK))) vo s0 := mS.ext (ext_over (xB.trans xC) frK _)
      have mC' := ((mC.set rowK (.row t_uint8 (nv .u8 (key.set (A % 32) (key.getD (A % 32) 0 ^^^ B))) (cK * 1) (some fK))).base x14B)
      exact last _ _ _ _ _ _ xH (mS'.rn own14) (mK'.rn own14) (mC'.rn own14) bs0 (bset _ _ _ bk (Nat.xor_lt_two_pow (n := 8) b1 hB)) bx (by rw [List.length_set]; exact h32) (by omega) (by omega) neY0
    have d7 : (((g : Nat) : Int) == 7) = false := by rw [ez7]; exact decide_eq_false g7
    simp -zeta (maxSteps := 3000000) (disch := omega) only [GL, RL, d4, d5, d6, d7, Bool.false_eq_true, if_false]
    exact last _ _ _ _ _ _ x14C (mSC.rn own14) (mKC.rn own14) (mCC.rn own14) bs0 bk bx h32 (by omega) (by omega) neY0
  clear_value J5
  obtain ⟨ax, cx, ex, hcx⟩ := hx.shape
  obtain ⟨al, cl, el, hcl⟩ := hl.shape
  obtain ⟨akk, ckk, ek, hckk⟩ := hk.shape
  obtain ⟨app, cpp, ep, hcpp⟩ := hp.shape
  have lnk : ∀ {h : Hp} {K : Value → Prop}, q P h (Builtin.len_ #[t_Sl_uint8] t_int #[vk]) K = K (.int .i64 key.length) := fun {h K} => by rw [ek]; exact q_lenS u_Sl_uint8 _ _ _
  have lnp : ∀ {h : Hp} {K : Value → Prop}, q P h (Builtin.len_ #[t_Sl_uint8] t_int #[vp]) K = K (.int .i64 pre.length) := fun {h K} => by rw [ep]; exact q_lenS u_Sl_uint8 _ _ _
  rw [a4.load (.refl _)]
  refine T_small17 hx hl hs fun h5 x5 => ?_
  obtain ⟨c0, c1, c2, c3, c4⟩ := a4.cells x5
  have e32 : (((key.length : Nat) : Int) != 32) = decide (key.length ≠ 32) := ne_dec key.length 32
  have e7 : (((pre.length : Nat) : Int) != 7) = decide (pre.length ≠ 7) := ne_dec pre.length 7
  simp (maxSteps := 3000000) (disch := omega) only [GL, RL, af0, af1, af4, c0, c1, c4, lnk, lnp, e32, e7]
  by_cases q1 : small17 ctx layer size
  case neg =>
    simp only [q1, decide_false, Bool.not_false, Bool.true_eq_false, if_false, if_true]
    exact k _
  by_cases q2 : key.length = 32
  case neg =>
    simp only [q1, q2, ne_eq, not_false_eq_true, decide_true, Bool.not_true, Bool.true_eq_false, if_false, if_true]
    exact k _
  by_cases q3 : pre.length = 7
  case neg =>
    simp only [q1, q2, q3, ne_eq, not_true_eq_false, not_false_eq_true, decide_true, decide_false, Bool.not_true, Bool.true_eq_false, if_false, if_true]
    exact k _
  by_cases q4 : size < 1
  case pos =>
    simp only [q1, q2, q3, q4, ne_eq, not_true_eq_false, not_false_eq_true, decide_true, decide_false, Bool.not_true, Bool.true_eq_false, if_false, if_true]
    exact k _
  by_cases q5 : 65536 < size
  case pos =>
    simp only [q1, q2, q3, q4, q5, ne_eq, not_true_eq_false, not_false_eq_true, decide_true, decide_false, Bool.not_true, Bool.true_eq_false, if_false, if_true]
    exact k _
  simp only [q1, q2, q3, q4, q5, ne_eq, not_true_eq_false, not_false_eq_true, decide_true, decide_false, Bool.not_true, Bool.true_eq_false, Bool.false_eq_true, if_false, if_true]
  exact good q1 ⟨q2, q3, by omega, by omega⟩ h5 x5
end
end Go.Proofs.Ytnecdbclhdbaoaa
