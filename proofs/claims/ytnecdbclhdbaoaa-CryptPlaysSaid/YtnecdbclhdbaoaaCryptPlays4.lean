/- cryptPlays_holds cryptPlays proved lifted over: part 4 of its proof; each part's own remarks stand with its declarations. Conditions: each lemma names its own. -/
import Derived.Test.YtnecdbclhdbaoaaCryptPlays3
import Derived.Test.YtnecdbclhdbaoaaRows
import Derived.WalkKit
import Derived.ProofKit
import Derived.OpenShut
import Derived.ShutString
import Derived.ChangeOld
import Derived.Below
import Derived.Carry
import Derived.SizedLaws
import Derived.Lib.SmallJoins
set_option linter.unusedSimpArgs false
set_option linter.unusedVariables false
set_option linter.unusedSimpArgs false
set_option linter.unusedVariables false
set_option maxRecDepth 100000
set_option maxHeartbeats 4000000
namespace Go.Proofs.Ytnecdbclhdbaoaa
open Go Go.SL Go.Pure
/-- A digest, and the crypt behind it. -/
def crSum (c : Cr) (t : List Nat) : List Nat × Cr :=
  match c with
  | .real => (shaL t, .real)
  | .book ts bs => (sumB (numOf ts t), .book (textsOf ts t) bs)
/-- Not too many texts. -/
def fewT (n : Nat) (c : Cr) : Prop :=
  match c with
  | .real => True
  | .book ts _ => ts.length ≤ n
theorem fewT.mono {n m : Nat} {c : Cr} (f : fewT n c) (h : n ≤ m) : fewT m c := by cases c <;> simp_all [fewT]; omega
theorem fewT.sum {n : Nat} {c : Cr} (f : fewT n c) (t : List Nat) : fewT (n + 1) (crSum c t).2 := by
  cases c with
  | real => trivial
  | book ts bs =>
    simp only [fewT, crSum, textsOf] at f ⊢
    split
    · omega
    · rw [List.length_append, List.length_singleton]; omega
theorem fewT.seal {n : Nat} {c : Cr} (f : fewT n c) (key nonce b t : List Nat) : fewT n (crSeal c key nonce b t).2.2 := by
  cases c with
  | real => simp only [crSeal]; split <;> trivial
  | book ts bs => simp only [crSeal]; split <;> exact f
theorem few.sum {n : Nat} {c : Cr} (f : few n c) (t : List Nat) : few n (crSum c t).2 := by
  cases c with
  | real => trivial
  | book ts bs => exact f
theorem crSum_len (c : Cr) (t : List Nat) : (crSum c t).1.length = 32 := by
  cases c with
  | real => exact shaL_len t
  | book ts bs => simp [crSum, sumB, bg_len]
theorem numOf_at {ts : List (List Nat)} {t : List Nat} : ∀ {i : Nat}, i ≤ ts.length → (∀ j, j < i → ts.getD j [] ≠ t) → (i = ts.length ∨ ts.getD i [] = t) → numOf ts t = i ∧ textsOf ts t = if i = ts.length then ts ++ [t] else ts := by
  induction ts with
  | nil =>
    intro i hi _ _
    have : i = 0 := by simpa using hi
    subst this
    exact ⟨rfl, rfl⟩
  | cons x xs ih =>
    intro i hi hb he
    by_cases q : x = t
    · have i0 : i = 0 := by
        cases i with
        | zero => rfl
        | succ i => exact absurd q (hb 0 (by omega))
      subst i0
      subst q
      have e : (x :: xs).idxOf? x = some 0 := by simp [List.idxOf?_cons]
      refine ⟨by simp [numOf, e], ?_⟩
      rw [if_neg (by simp)]
      simp [textsOf, e]
    · cases i with
      | zero =>
        rcases he with h | h
        · simp at h
        · exact absurd h q
      | succ i =>
        have := ih (i := i) (by simpa using hi) (fun j hj => by simpa using hb (j + 1) (by omega)) (by simpa using he)
        have e : (x :: xs).idxOf? t = (xs.idxOf? t).map (· + 1) := by
          rw [List.idxOf?_cons]
          simp [q]
        constructor
        · have h1 := this.1
          unfold numOf at h1 ⊢
          rw [e]
          cases hx : xs.idxOf? t with
          | none => rw [hx] at h1; simp at h1 ⊢; exact h1
          | some k => rw [hx] at h1; simp at h1 ⊢; exact h1
        · have h1 := this.2
          unfold textsOf at h1 ⊢
          rw [e]
          cases hx : xs.idxOf? t with
          | none =>
            rw [hx] at h1
            simp at h1 ⊢
            exact h1
          | some k =>
            rw [hx] at h1
            simp at h1 ⊢
            exact h1
theorem rf1 {h : Hp} {K : Value → Prop} (r : Nat) : q P h (Instr.fieldAt t_orlopref12_Crypt (.pointer (some ⟨r, 0, none⟩)) 1) K = K (.pointer (some ⟨r, 1, none⟩)) := q_of (by kernel_rfl) K
theorem prf1 {h : Hp} (r : Nat) : peek P h (Instr.fieldAt t_orlopref12_Crypt (.pointer (some ⟨r, 0, none⟩)) 1) = some (.pointer (some ⟨r, 1, none⟩)) := by kernel_rfl
theorem pk_ldSl {h : Hp} {a : Addr} {v : Value} (e : h.cell a = some v) : peek P h (Instr.loadAt t_Sl_Sl_uint8 (.pointer (some a))) = some v := pk_q3 fun K => (q_ld u_Sl_Sl_uint8 rfl a).trans (by rw [e]; rfl)
/-- The reference's crypt, with its texts. -/
def RefC (R h : Hp) (p : Nat) (c : Cr) (S : List Nat) : Prop :=
  match c with
  | .real => RefAtX (.slice none 0 0) R h p .real S
  | .book ts bs => ∃ tx ws Sb St, RefAtX tx R h p (.book ts bs) Sb ∧ OutAt t_Sl_uint8 1 h tx ws ts.length St ∧ PsV R ws ts ∧ S = Sb ++ St ∧ (∀ x, x ∈ St → x ∉ Sb) ∧ ∀ t ∈ ts, t.length ≤ 1099511627776
theorem RefC.keep {R R' h h' : Hp} {p : Nat} {c : Cr} {S : List Nat} (a : RefC R h p c S) (e : Hp.ext R R') (k : ∀ b, b ∈ S → h' b = h b) : RefC R' h' p c S := by
  cases c with
  | real => exact RefAtX.keep (tx := .slice none 0 0) (c := .real) a e k
  | book ts bs =>
    obtain ⟨tx, ws, Sb, St, a1, a2, a3, rfl, a5, a6⟩ := a
    exact ⟨tx, ws, Sb, St, a1.keep e fun b hb => k b (List.mem_append_left _ hb), a2.keep fun b hb => k b (List.mem_append_right _ hb), a3.mono e.cle, rfl, a5, a6⟩
theorem ref_newC {R h : Hp} (ideal : Bool) {r : Nat} (hr : h r = none) : RefC R (h.set r (.row t_orlopref12_Crypt [.bool ideal, .slice none 0 0, .slice none 0 0] 3 (some (0, 0)))) r (cr0 ideal) [r] := by
  have := ref_new (R := R) ideal hr
  cases ideal
  · exact this
  · exact ⟨.slice none 0 0, [], [r], [], this, .inl ⟨rfl, rfl, rfl, rfl⟩, PsV.nil R, rfl, by simp, by simp⟩
section
variable {h : Hp} {K : Value → Hp → Prop}
theorem T_crSum {R : Hp} {vc : Value} {c : Cr} {S : List Nat} {vt : Value} {t : List Nat} (w : Own R h S) (hC : CrAt R h vc c S) (hf : fewT 1000000 c) (ht : Rn R .u8 vt t) (bt : Bytes t) (lt : t.length ≤ 1099511627776)
    (k : ∀ v R' h', Stp R h R' h' S S → CrAt R' h' vc (crSum c t).2 S → Rn R' .u8 v (crSum c t).1 → K v h') : aw P (callMethod vc "Sum" #[vt]) (nextP P K) h := by
  cases c with
  | real =>
    obtain ⟨rfl, rfl⟩ := hC
    refine aw_method (g := n_crypt_actual_Sum) (r := .agg #[]) (by kernel_rfl) ?_
    show Cn P n_crypt_actual_Sum #[.agg #[], vt] h K
    refine F_crypt_actual_Sum ?_
    unfold s_crypt_actual_Sum
    refine aw_box fun r hr => ?_
    have s0 := Stp.block (.row t_crypt_actual (Value.agg #[]).cells.toList (Value.agg #[]).cells.size (some (0, 0))) w hr
    generalize h.set r (.row t_crypt_actual (Value.agg #[]).cells.toList (Value.agg #[]).cells.size (some (0, 0))) = M at s0
    generalize R.set r (.row t_crypt_actual (Value.agg #[]).cells.toList (Value.agg #[]).cells.size (some (0, 0))) = R0 at s0
    refine T_shaOf (s0.own.rn (ht.mono s0.ext.cle)) bt lt fun v h1 n1 => ?_
    obtain ⟨R1, s1, r1⟩ := Stp.newN s0.own n1
    exact k v R1 h1 (s0.trans s1) ⟨rfl, rfl⟩ r1
  | book ts bs =>
    obtain ⟨p, rfl, hB⟩ := hC
    refine aw_method (g := n_crypt_book_Sum) (r := .pointer (some ⟨p, 0, none⟩)) (by kernel_rfl) ?_
    show Cn P n_crypt_book_Sum #[.pointer (some ⟨p, 0, none⟩), vt] h K
    exact T_book_Sum w hB hf ht bt fun v R' h' s' hB' r' => k v R' h' s' ⟨p, rfl, hB'⟩ r'
theorem T_ref_crSum {R : Hp} {p : Nat} {c : Cr} {S : List Nat} {vt : Value} {t : List Nat} (w : Own R h S) (hC : RefC R h p c S) (hf : fewT 1000000 c) (ht : Rn R .u8 vt t) (bt : Bytes t) (lt : t.length ≤ 1099511627776)
    (k : ∀ v R' h' S', Stp R h R' h' S S' → RefC R' h' p (crSum c t).2 S' → Rn R' .u8 v (crSum c t).1 → K v h') : Cn P n_orlopref12_Crypt_Sum #[.pointer (some ⟨p, 0, none⟩), vt] h K := by
  refine F_orlopref12_Crypt_Sum ?_
  unfold s_orlopref12_Crypt_Sum
  cases c with
  | real =>
    have c0 : h.cell ⟨p, 0, none⟩ = some (.bool false) := by rw [cell_row hC.1]; rfl
    refine (q_nil _).mpr ?_
    refine (rf0 p).mpr ?_
    refine (q_ld u_bool rfl _).mpr ?_
    refine withVal_of c0 ?_
    refine (q_not _).mpr ?_
    refine (cnd_bool _ _ _).mpr ?_
    rw [if_pos (show (!false) = true from rfl)]
    refine T_ref_shaOf (w.rn ht) bt lt fun v h1 n1 => ?_
    obtain ⟨R1, s1, r1⟩ := Stp.newN w n1
    exact k v R1 h1 S s1 (RefAtX.ext (tx := .slice none 0 0) (c := .real) hC w s1.ext n1.ext) r1
  | book ts bs =>
    obtain ⟨tx, ws, Sb, St, hX, hO, hP, rfl, hdj, hlt⟩ := hC
    have hX0 := hX
    obtain ⟨bxv, xs, Sb', hp, hB1, hB2, rfl, hpS, hby⟩ := hX
    have nt : ts.length ≤ 1000000 := hf
    have c0 : h.cell ⟨p, 0, none⟩ = some (.bool true) := by rw [cell_row hp]; rfl
    have c1 : h.cell ⟨p, 1, none⟩ = some tx := by rw [cell_row hp]; rfl
    have fin : ∀ (n : Nat) (ts' : List (List Nat)) (RA hA : Hp) (SA : List Nat), n ≤ 1000000 → numOf ts t = n → textsOf ts t = ts' → Stp R h RA hA ((p :: Sb') ++ St) SA → RefC RA hA p (.book ts' bs) SA →
        aw P (Instr.buildSlice t_Sl_uint8 4 #[(0, (Value.int .u8 83)), (1, (Value.int .u8 85)), (2, (Value.int .u8 77)), (3, (Value.int .u8 33))]) (fun t53 h => aw P (convert t_Sl_uint8 t_Sl_uint8 t53) (fun t54 h => aw P (Builtin.append_ #[t_Sl_uint8, t_int] t_Sl_uint8 #[t54, (Value.int .i64 20)]) (fun t55 h => Cn P n_orlopref12_big #[.int .i64 (n : Int)] h fun t57 h => aw P (Builtin.append_ #[t_Sl_uint8, t_Sl_uint8] t_Sl_uint8 #[t55, t57]) (fun t58 h => K t58 h) h) h) h) hA := by
      intro n ts' RA hA SA hn en et sA cA
      refine aw_lit (ps := [(0, .int .u8 83), (1, .int .u8 85), (2, .int .u8 77), (3, .int .u8 33)]) u_Sl_uint8 z_uint8 zr_uint8 rfl (by omega) (by intro p hp; simp only [List.mem_cons, List.not_mem_nil, or_false] at hp; rcases hp with rfl | rfl | rfl | rfl <;> exact ⟨rfl, by simp⟩) fun x h2 _ hx => ?_
      obtain ⟨rb, hrb, rfl, rfl⟩ := hx
      refine aw_mark hrb rfl fun h3 n3 => ?_
      have n3' : New hA t_uint8 1 (.slice (some ⟨rb, 0, none⟩) 4 4) h3 (nv .u8 [83, 85, 77, 33]) 4 := n3
      refine aw_grow (m := 20) u_Sl_uint8 u_int nfo_uint8 rfl rfl (by omega) n3' (by omega) (.refl _) fun v55 h4 n4 => ?_
      refine T_ref_big12 n (by omega) fun v57 h5 n5 => ?_
      refine aw_appendN u_Sl_uint8 u_Sl_uint8 nfo_uint8 rfl (by omega) n4 n5 (nv_flat _ _) (by rw [bg_len]; omega) fun v58 h6 n6 => ?_
      have n6' : Nn hA t_uint8 .u8 v58 h6 (sumB n) := by
        unfold Nn
        rw [bg_len] at n6
        have e : nv .u8 (sumB n) = nv .u8 [83, 85, 77, 33] ++ List.replicate 20 (Value.int .u8 0) ++ nv .u8 (bg 8 n) := by
          unfold sumB
          rw [nv_app, nv_app]
          rfl
        have el : (sumB n).length = 4 + 20 + 8 := by simp [sumB, bg_len]
        rw [e, el]
        exact n6
      obtain ⟨R6, s6, r6⟩ := Stp.newN sA.own n6'
      refine k v58 R6 h6 SA (sA.trans s6) ?_ (by simp only [crSum, en]; exact r6)
      simp only [crSum, et]
      refine cA.keep s6.ext fun b hb => ?_
      obtain ⟨o, e⟩ := sA.own.kn b hb
      rw [e, n6'.ext _ _ e]
    refine (q_nil _).mpr ?_
    refine (rf0 p).mpr ?_
    refine (q_ld u_bool rfl _).mpr ?_
    refine withVal_of c0 ?_
    refine (q_not _).mpr ?_
    refine (cnd_bool _ _ _).mpr ?_
    rw [if_neg (by decide)]
    intro J6
    obtain ⟨_, a1, n1, et1, hn1, hc1⟩ := hO.rds
    have lnx : ∀ {h : Hp} {K : Value → Prop}, q P h (Builtin.len_ #[t_Sl_Sl_uint8] t_int #[tx]) K = K (.int .i64 ts.length) := fun {h K} => by rw [et1]; exact q_lenS u_Sl_Sl_uint8 _ _ _
    have p6 : ∀ i : Nat, i ≤ ts.length → (∀ j, j < i → ts.getD j [] ≠ t) → (i = ts.length ∨ ts.getD i [] = t) → J6 (.int .i64 (i : Int)) h := by
      intro i hi hb he
      obtain ⟨en, et⟩ := numOf_at hi hb he
      unfold J6
      clear J6
      intro J10
      simp -zeta (disch := omega) only [GL, RL, rf1, c1, lnx]
      have ei : (((i : Nat) : Int) == ((ts.length : Nat) : Int)) = decide (i = ts.length) := by rw [Bool.eq_iff_iff, beq_iff_eq, decide_eq_true_eq]; omega
      rw [ei]
      by_cases hil : i = ts.length
      case neg =>
        simp -zeta only [hil, decide_false, Bool.false_eq_true, if_false]
        rw [if_neg hil] at et
        exact fin i ts R h _ (by omega) en et (.refl w) ⟨tx, ws, _, St, hX0, hO, hP, rfl, hdj, hlt⟩
      subst hil
      rw [if_pos rfl] at et
      simp -zeta only [decide_true, if_true]
      have pkT : ∀ {H : Hp}, Hp.ext h H → peek P H (Instr.loadAt t_Sl_Sl_uint8 (.pointer (some ⟨p, 1, none⟩))) = some tx := fun x => pk_ldSl (x.cle _ _ c1)
      have G0 : Got R h h [] := ⟨.refl _, fun q hq => by cases hq⟩
      refine got_nil fun r => ⟨pkT (.refl _), prf1 p, ?_⟩
      refine got_app G0 w ht lt fun v48 H1 G1 => ⟨pkT G1.1, prf1 p, ?_⟩
      have r48 := G1.2 (v48, t) (by simp)
      dsimp only at r48
      refine aw_lit (ps := [(0, v48)]) (n := 1) u_Sl_Sl_uint8 z_Sl_uint8 zr_Sl_uint8 rfl (by omega) (by intro p hp; rw [List.mem_singleton.1 hp]; exact ⟨rn_flat r48, by show _ < 1; omega⟩) fun v49 H2 n2 _ => ?_
      have n2' : New H1 t_Sl_uint8 1 v49 H2 [v48] 1 := n2
      have x2 := G1.1.trans n2'.ext
      refine ⟨pkT x2, prf1 p, ?_⟩
      have st1 := sin_stp w G1.1
      obtain ⟨R3, s3, q3⟩ := Stp.new st1.own n2'
      have ownSt : Own R3 H2 St := s3.own.sub' fun z hz => List.mem_append_right _ hz
      have hO2 : OutAt t_Sl_uint8 1 H2 tx ws ts.length St := hO.keep fun z hz => by
        obtain ⟨o, e⟩ := w.kn z (List.mem_append_right _ hz)
        rw [e, x2 _ _ e]
      refine aw_appendO u_Sl_Sl_uint8 u_Sl_Sl_uint8 nfo_Sl_uint8 rfl (by omega) hO2 n2'.rds (by intro y hy; rw [List.mem_singleton.1 hy]; exact rn_flat r48) (by omega) fun v50 h4 St' O4 kp4 fr4 => ?_
      have s4 := OutAt.step ownSt O4 kp4 fr4
      have hp3 := x2 _ _ hp
      have hpSt : p ∉ St := fun q => hdj p q (by simp)
      have hp4 := kp4 p _ hpSt hp3
      have pS' : p ∉ St' := fr4 p _ hpSt hp3
      have f50 : flat v50 = true := O4.rds.2.elim fun a q => by obtain ⟨c, e, _⟩ := q; rw [e]; rfl
      refine aw_store z_Sl_Sl_uint8 f50 (put_row hp4 (by simp) (by simp) _) ?_
      obtain ⟨h5, hh5⟩ : ∃ h5, h4.set p (.row t_orlopref12_Crypt ([Value.bool true, tx, bxv].set 1 v50) 3 (some (0, 0))) = h5 := ⟨_, rfl⟩
      rw [hh5]
      have k5 : ∀ x o, x ≠ p → x ∉ St → H2 x = some o → h5 x = some o := fun x o h1 h2 e => by
        rw [← hh5, Hp.set_ne _ _ h1]
        exact kp4 x o h2 e
      have sb5 : ∀ z, z ∈ Sb' → h5 z = h z := fun z hz => by
        obtain ⟨o, e⟩ := w.kn z (List.mem_append_left _ (List.mem_cons_of_mem _ hz))
        rw [e, k5 z o (by rintro rfl; exact hpS hz) (fun q => hdj z q (List.mem_cons_of_mem _ hz)) (x2 _ _ e)]
      have st5 : Stp R3 H2 R3 h5 ((p :: Sb') ++ St) ((p :: Sb') ++ St') := by
        refine ⟨.refl _, fun x o hx e => ?_, fun x o hx e => ?_, fun x o _ _ e => e, ⟨fun x o e => ?_, fun x hx => ?_, fun x hx => ?_⟩⟩
        · simp only [List.cons_append, List.mem_cons, List.mem_append, not_or] at hx
          exact k5 x o hx.1 hx.2.2 e
        · simp only [List.cons_append, List.mem_cons, List.mem_append, not_or] at hx ⊢
          exact ⟨hx.1, hx.2.1, fr4 x o hx.2.2 e⟩
        · refine k5 x o (fun q => ?_) (fun q => ?_) (s3.own.sub x o e)
          · rw [q, s3.own.dis p (by simp)] at e; cases e
          · rw [s3.own.dis x (List.mem_append_right _ q)] at e; cases e
        · rcases List.mem_append.1 hx with g | g
          · exact s3.own.dis x (List.mem_append_left _ g)
          · exact s4.own.dis x g
        · rcases List.mem_append.1 hx with g | g
          · rcases List.mem_cons.1 g with q | q
            · rw [q]; exact ⟨_, by rw [← hh5]; exact Hp.set_same ..⟩
            · rw [sb5 x q]; exact w.kn x (List.mem_append_left _ g)
          · obtain ⟨o, e⟩ := s4.own.kn x g
            exact ⟨o, by rw [← hh5, Hp.set_ne _ _ (show x ≠ p from fun q => by rw [q] at g; exact pS' g)]; exact e⟩
      have up : Hp.cle R R3 := (st1.trans s3).ext.cle
      refine fin ts.length (ts ++ [t]) R3 h5 _ nt en et ((st1.trans s3).trans st5) ⟨v50, ws ++ [v48], p :: Sb', St', ⟨bxv, xs, Sb', by rw [← hh5]; exact Hp.set_same .., hB1.keep sb5, hB2.mono up, rfl, hpS, hby⟩, ?_, (hP.mono up).app (PsV.one (r48.mono s3.ext.cle)), rfl, fun z hz => ?_, fun z hz => ?_⟩
      · have : OutAt t_Sl_uint8 1 h5 v50 (ws ++ [v48]) (ts.length + 1) St' := O4.keep fun z hz => by rw [← hh5, Hp.set_ne _ _ (by rintro rfl; exact pS' hz)]
        rw [List.length_append]; exact this
      · intro q
        rcases List.mem_cons.1 q with g | g
        · rw [g] at hz; exact pS' hz
        · obtain ⟨o, e⟩ := w.kn z (List.mem_append_left _ (List.mem_cons_of_mem _ g))
          exact fr4 z o (fun y => hdj z y (List.mem_cons_of_mem _ g)) (x2 _ _ e) hz
      · rcases List.mem_append.1 hz with g | g
        · exact hlt z g
        · rw [List.mem_singleton.1 g]; exact lt
    clear_value J6
    refine Lp_mk (fun m vs h' => ∃ i : Nat, i + m = ts.length ∧ h' = h ∧ (∀ j, j < i → ts.getD j [] ≠ t) ∧ vs = [.int .i64 (i : Int)]) ts.length ⟨0, by omega, rfl, fun j hj => by omega, rfl⟩ ?_
    rintro m vs h' ⟨i, hi, rfl, hb, rfl⟩
    have ell : decide (((i : Nat) : Int) < ((ts.length : Nat) : Int)) = decide (i < ts.length) := lt_dec _ _
    simp -zeta (disch := omega) only [GL, RL, rf1, c1, lnx, ell]
    by_cases hlti : i < ts.length
    case neg =>
      simp -zeta only [hlti, decide_false, Bool.false_eq_true, if_false]
      exact p6 i (by omega) hb (.inl (by omega))
    simp -zeta only [hlti, decide_true, if_true]
    obtain ⟨y, ey, ry⟩ := hP.2 i (ts.getD i []) (by simp [List.getD_eq_getElem?_getD, hlti])
    rcases hc1 with q0 | ⟨b1, o1, rfl, hc1⟩
    · omega
    subst et1
    have cy := hc1 i y ey
    simp -zeta (disch := omega) only [GL, RL, cy]
    have lgi : (ts.getD i []).length ≤ 1099511627776 := hlt _ (by rw [List.getD_eq_getElem?_getD, List.getElem?_eq_getElem hlti]; exact List.getElem_mem hlti)
    refine T_orlopref01_Equal (w.rn ry) (w.rn ht) (by omega) ?_
    by_cases he : ts.getD i [] = t
    · simp -zeta (disch := omega) only [he, decide_true, GL, RL, Bool.not_true, Bool.false_eq_true, if_false]
      exact p6 i (by omega) hb (.inr he)
    · simp -zeta (disch := omega) only [he, decide_false, GL, RL, Bool.not_false, if_true, wi64]
      refine ⟨h', .refl _, m - 1, by omega, i + 1, by omega, rfl, fun j hj => ?_, rfl⟩
      by_cases q : j = i
      · rw [q]; exact he
      · exact hb j (by omega)
end
end Go.Proofs.Ytnecdbclhdbaoaa
set_option linter.unusedSimpArgs false
set_option linter.unusedVariables false
set_option maxRecDepth 100000
set_option maxHeartbeats 4000000
namespace Go.Proofs.Ytnecdbclhdbaoaa
open Go Go.SL Go.Pure
/-- The shape of a step. -/
def DoTy : Ty := .rcd (.cons (.int .i64) (.cons .bytes (.cons .bytes (.cons .bytes (.cons .bytes (.cons (.int .u8) .nil))))))
theorem do_open {R : Hp} {x : List Value} (h : DoTy.Rd R x) : ∃ (k : Int) (vk vn vb vt : Value) (bx : Nat) (key nonce b t : List Nat), x = [.int .i64 k, vk, vn, vb, vt, .int .u8 (bx : Int)] ∧ bx < 256 ∧
    Rn R .u8 vk key ∧ Rn R .u8 vn nonce ∧ Rn R .u8 vb b ∧ Rn R .u8 vt t ∧ Bytes key ∧ Bytes nonce ∧ Bytes b ∧ Bytes t := by
  have h0 : (Ty.cons (.int .i64) (.cons .bytes (.cons .bytes (.cons .bytes (.cons .bytes (.cons (.int .u8) .nil)))))).Rd R x := h
  obtain ⟨v0, r0, rfl, ⟨k, e0, _⟩, h1⟩ := Ty.Rd.one rfl h0
  obtain ⟨v1, r1, rfl, b1, h2⟩ := Ty.Rd.one rfl h1
  obtain ⟨v2, r2, rfl, b2, h3⟩ := Ty.Rd.one rfl h2
  obtain ⟨v3, r3, rfl, b3, h4⟩ := Ty.Rd.one rfl h3
  obtain ⟨v4, r4, rfl, b4, h5⟩ := Ty.Rd.one rfl h4
  obtain ⟨v5, r5, rfl, ⟨n, e5, w5⟩, h6⟩ := Ty.Rd.one rfl h5
  obtain rfl : r5 = [] := h6
  obtain ⟨_, l1, e1, q1, y1, _⟩ := b1.asBytes
  obtain ⟨_, l2, e2, q2, y2, _⟩ := b2.asBytes
  obtain ⟨_, l3, e3, q3, y3, _⟩ := b3.asBytes
  obtain ⟨_, l4, e4, q4, y4, _⟩ := b4.asBytes
  simp only [List.cons.injEq, and_true] at e0 e1 e2 e3 e4 e5
  subst e0 e1 e2 e3 e4 e5
  have hw := wf_u8 w5
  exact ⟨k, _, _, _, _, n.toNat, l1, l2, l3, l4, by rw [Int.toNat_of_nonneg hw.1], by omega, q1, q2, q3, q4, y1, y2, y3, y4⟩
theorem df {h : Hp} {K : Value → Prop} (b o : Nat) : q P h (Instr.fieldAt t_orloplaw12_Do (.pointer (some ⟨b, o, none⟩)) 0) K = K (.pointer (some ⟨b, o + 0, none⟩)) := q_of (by kernel_rfl) K
theorem df1 {h : Hp} {K : Value → Prop} (b o : Nat) : q P h (Instr.fieldAt t_orloplaw12_Do (.pointer (some ⟨b, o, none⟩)) 1) K = K (.pointer (some ⟨b, o + 1, none⟩)) := q_of (by kernel_rfl) K
theorem df2 {h : Hp} {K : Value → Prop} (b o : Nat) : q P h (Instr.fieldAt t_orloplaw12_Do (.pointer (some ⟨b, o, none⟩)) 2) K = K (.pointer (some ⟨b, o + 2, none⟩)) := q_of (by kernel_rfl) K
theorem df3 {h : Hp} {K : Value → Prop} (b o : Nat) : q P h (Instr.fieldAt t_orloplaw12_Do (.pointer (some ⟨b, o, none⟩)) 3) K = K (.pointer (some ⟨b, o + 3, none⟩)) := q_of (by kernel_rfl) K
theorem df4 {h : Hp} {K : Value → Prop} (b o : Nat) : q P h (Instr.fieldAt t_orloplaw12_Do (.pointer (some ⟨b, o, none⟩)) 4) K = K (.pointer (some ⟨b, o + 4, none⟩)) := q_of (by kernel_rfl) K
theorem df5 {h : Hp} {K : Value → Prop} (b o : Nat) : q P h (Instr.fieldAt t_orloplaw12_Do (.pointer (some ⟨b, o, none⟩)) 5) K = K (.pointer (some ⟨b, o + 5, none⟩)) := q_of (by kernel_rfl) K
theorem pdf4 {h : Hp} (b o : Nat) : peek P h (Instr.fieldAt t_orloplaw12_Do (.pointer (some ⟨b, o, none⟩)) 4) = some (.pointer (some ⟨b, o + 4, none⟩)) := by kernel_rfl
theorem sz_do : sz P t_orloplaw12_Do = some 6 := by kernel_rfl
theorem zr_do : zr P t_orloplaw12_Do = some (.agg [.int .i64 0, .slice none 0 0, .slice none 0 0, .slice none 0 0, .slice none 0 0, .int .u8 0].toArray) := by kernel_rfl
/-- Of a step: are its parts short? -/
def vlen : Value → Nat
  | .slice _ n _ => n
  | _ => 0
def doSmall (x : List Value) : Prop := vlen (x.getD 1 undef) ≤ 100 ∧ vlen (x.getD 2 undef) ≤ 100 ∧ vlen (x.getD 3 undef) ≤ 300 ∧ vlen (x.getD 4 undef) ≤ 300
theorem rn_vlen {R : Hp} {v : Value} {l : List Nat} (r : Rn R .u8 v l) : vlen v = l.length := by obtain ⟨a, c, rfl, _⟩ := r.shape; rfl
section
variable {h : Hp} {K : Value → Hp → Prop}
theorem T_small12 {v : Value} {items : List (List Value)} (A : SlAt h 6 v items) (D : ∀ x ∈ items, DoTy.Rd h x) (ll : items.length ≤ 9223372036854775807) (k0 : K (.bool false) h) (k1 : (∀ i x, i < 30 → items[i]? = some x → doSmall x) → K (.bool true) h) :
    Cn P n_orloplaw12_small #[v] h K := by
  refine F_orloplaw12_small ?_
  unfold s_orloplaw12_small
  refine Lp_mk (fun m vs h' => ∃ (i : Nat) (r : Value), i + m = 30 ∧ i ≤ items.length ∧ h' = h ∧ (∀ j x, j < i → items[j]? = some x → doSmall x) ∧ vs = [r, .int .i64 (i : Int)]) 30 ⟨0, _, by omega, by omega, rfl, fun j x hj => by omega, rfl⟩ ?_
  rintro m vs h' ⟨i, r, hi, hil, rfl, hs, rfl⟩
  intro J5
  obtain ⟨a, c, rfl, hc, hA⟩ := A
  have lnv : ∀ {h : Hp} {K : Value → Prop}, q P h (Builtin.len_ #[t_Sl_orloplaw12_Do] t_int #[.slice a items.length c]) K = K (.int .i64 items.length) := fun {h K} => q_lenS u_Sl_orloplaw12_Do _ _ _
  have e1 : decide (((i : Nat) : Int) < ((items.length : Nat) : Int)) = decide (i < items.length) := lt_dec _ _
  have e30 : decide (((i : Nat) : Int) < 30) = decide (i < 30) := lt_dec i 30
  have p5 : i < items.length → i < 30 → J5 h' := by
    intro h1 h2
    unfold J5
    clear J5
    rcases hA with h0 | ⟨b, o, rfl, hcl⟩
    · rw [h0] at h1; cases h1
    have ex : items[i]? = some items[i] := List.getElem?_eq_getElem h1
    obtain ⟨kk, vk, vn, vb, vt, bx, key, nonce, bb, t, e, _, rk, rn, rb, rt, _⟩ := do_open (D items[i] (List.getElem_mem h1))
    have cl := hcl i _ ex
    rw [e] at cl
    have c1 := cl 1 vk rfl
    have c2 := cl 2 vn rfl
    have c3 := cl 3 vb rfl
    have c4 := cl 4 vt rfl
    have hd : doSmall items[i] ↔ key.length ≤ 100 ∧ nonce.length ≤ 100 ∧ bb.length ≤ 300 ∧ t.length ≤ 300 := by
      rw [e]
      simp only [doSmall, List.getD_cons_succ, List.getD_cons_zero, rn_vlen rk, rn_vlen rn, rn_vlen rb, rn_vlen rt]
    obtain ⟨ak, ck, rfl, _⟩ := rk.shape
    obtain ⟨an, cn, rfl, _⟩ := rn.shape
    obtain ⟨ab, cb, rfl, _⟩ := rb.shape
    obtain ⟨at', ct, rfl, _⟩ := rt.shape
    have ix : ∀ {h : Hp} {K : Value → Prop}, q P h (Instr.indexAt t_Sl_orloplaw12_Do (.slice (some ⟨b, o, none⟩) items.length c) (.int .i64 (i : Int))) K = K (.pointer (some ⟨b, o + i * 6, none⟩)) := fun {h K} => by
      rw [q_idxS u_Sl_orloplaw12_Do sz_do ⟨b, o, none⟩ items.length c .i64 i (by omega) (by omega), Int.toNat_natCast, add_off]
    have d1 : decide ((100 : Int) < ((key.length : Nat) : Int)) = decide (100 < key.length) := lt_dec 100 _
    have d2 : decide ((100 : Int) < ((nonce.length : Nat) : Int)) = decide (100 < nonce.length) := lt_dec 100 _
    have d3 : decide ((300 : Int) < ((bb.length : Nat) : Int)) = decide (300 < bb.length) := lt_dec 300 _
    have d4 : decide ((300 : Int) < ((t.length : Nat) : Int)) = decide (300 < t.length) := lt_dec 300 _
    have go : doSmall items[i] → ∃ h0, Hp.le h0 h' ∧ ∃ m_1, m_1 < m ∧ ∃ i_1 r_1, i_1 + m_1 = 30 ∧ i_1 ≤ items.length ∧ h0 = h' ∧ (∀ j x, j < i_1 → items[j]? = some x → doSmall x) ∧ [r, Value.int .i64 ((i : Int) + 1)] = [r_1, .int .i64 (i_1 : Int)] := fun hd => by
      refine ⟨h', .refl _, m - 1, by omega, i + 1, r, by omega, by omega, rfl, fun j x hj ej => ?_, by rw [inc]⟩
      by_cases q : j = i
      · subst q; rw [ex] at ej; cases ej; exact hd
      · exact hs j x (by omega) ej
    simp (disch := omega) only [ix, df1, df2, df3, df4, GL, RL, c1, c2, c3, c4, d1, d2, d3, d4, wi64]
    by_cases g1 : 100 < key.length
    · simp only [g1, decide_true, Bool.true_eq_false, if_false, if_true]
      exact k0
    simp only [g1, decide_false, if_true]
    by_cases g2 : 100 < nonce.length
    · simp only [g2, decide_true, Bool.true_eq_false, if_false, if_true]
      exact k0
    simp only [g2, decide_false, if_true]
    by_cases g3 : 300 < bb.length
    · simp only [g3, decide_true, Bool.true_eq_false, if_false, if_true]
      exact k0
    simp only [g3, decide_false, if_true]
    by_cases g4 : 300 < t.length
    · simp only [g4, decide_true, if_true]
      exact k0
    simp only [g4, decide_false, Bool.false_eq_true, if_false]
    exact go (hd.2 ⟨by omega, by omega, by omega, by omega⟩)
  clear_value J5
  simp (disch := omega) only [GL, RL, lnv, e1, e30]
  by_cases g1 : i < items.length
  · simp only [g1, decide_true, if_true]
    by_cases g2 : i < 30
    · simp only [g2, decide_true, if_true]
      exact p5 g1 g2
    · simp only [g2, decide_false, Bool.false_eq_true, if_false]
      exact k1 fun j x hj e => hs j x (by omega) e
  · simp only [g1, decide_false, Bool.false_eq_true, if_false]
    refine k1 fun j x hj e => hs j x ?_ e
    have := (List.getElem?_eq_some_iff.1 e).1
    omega
theorem T_refC_Seal {R : Hp} {p : Nat} {c : Cr} {S : List Nat} {vk vn vb vt : Value} {key nonce b t : List Nat} (w : Own R h S) (hC : RefC R h p c S) (hf : few 1000000 c)
    (hk : Rn R .u8 vk key) (hn : Rn R .u8 vn nonce) (hb : Rn R .u8 vb b) (ht : Rn R .u8 vt t) (bk : Bytes key) (bn : Bytes nonce) (bb : Bytes b) (bt : Bytes t)
    (lb : b.length ≤ 1099511627776) (lt : t.length ≤ 1099511627776)
    (k : ∀ v R' h' S', Stp R h R' h' S S' → RefC R' h' p (crSeal c key nonce b t).2.2 S' → (if (crSeal c key nonce b t).1 = 0 then Rn R' .u8 v (crSeal c key nonce b t).2.1 else v = .slice none 0 0) → K (.tuple #[v, .int .i64 (((crSeal c key nonce b t).1 : Nat) : Int)]) h') :
    Cn P n_orlopref12_Crypt_Seal #[.pointer (some ⟨p, 0, none⟩), vk, vn, vb, vt] h K := by
  cases c with
  | real =>
    refine T_ref_crSeal (tx := .slice none 0 0) (c := .real) w hC hf hk hn hb ht bk bn bb bt lb lt fun v R' h' S' s a hv => k v R' h' S' s ?_ hv
    have e : (crSeal .real key nonce b t).2.2 = .real := by simp only [crSeal]; split <;> rfl
    rw [e] at a ⊢
    exact a
  | book ts bs =>
    obtain ⟨tx, ws, Sb, St, hX, hO, hP, rfl, hdj, hlt⟩ := hC
    have oB : Own R h Sb := w.sub' fun z hz => List.mem_append_left _ hz
    have oT : Own R h St := w.sub' fun z hz => List.mem_append_right _ hz
    refine T_ref_crSeal oB hX hf hk hn hb ht bk bn bb bt lb lt fun v R' h' S' s a hv => ?_
    obtain ⟨oT', dj', same⟩ := s.frame oT hdj
    refine k v R' h' (S' ++ St) (s.wide oT hdj) ?_ hv
    have e : ∃ bs', (crSeal (.book ts bs) key nonce b t).2.2 = .book ts bs' := by simp only [crSeal]; split <;> exact ⟨_, rfl⟩
    obtain ⟨bs', e⟩ := e
    rw [e] at a ⊢
    exact ⟨tx, ws, S', St, a, hO.keep same, hP.mono s.ext.cle, rfl, dj', hlt⟩
theorem T_refC_Open {R : Hp} {p : Nat} {c : Cr} {S : List Nat} {vk vn vb vx : Value} {key nonce b x : List Nat} (w : Own R h S) (hC : RefC R h p c S) (hf : few 1000000 c)
    (hk : Rn R .u8 vk key) (hn : Rn R .u8 vn nonce) (hb : Rn R .u8 vb b) (hx : Rn R .u8 vx x) (bk : Bytes key) (bn : Bytes nonce) (bb : Bytes b) (bx : Bytes x)
    (lb : b.length ≤ 1099511627776) (lx : x.length ≤ 1099511627776)
    (k : ∀ v R' h', Stp R h R' h' S S → RefC R' h' p c S → (if (crOpen c key nonce b x).1 = 0 then Rn R' .u8 v (crOpen c key nonce b x).2 else v = .slice none 0 0) → K (.tuple #[v, .int .i64 (((crOpen c key nonce b x).1 : Nat) : Int)]) h') :
    Cn P n_orlopref12_Crypt_Open #[.pointer (some ⟨p, 0, none⟩), vk, vn, vb, vx] h K := by
  cases c with
  | real => exact T_ref_crOpen (tx := .slice none 0 0) (c := .real) w hC hf hk hn hb hx bk bn bb bx lb lx fun v R' h' s a hv => k v R' h' s a hv
  | book ts bs =>
    obtain ⟨tx, ws, Sb, St, hX, hO, hP, rfl, hdj, hlt⟩ := hC
    have oB : Own R h Sb := w.sub' fun z hz => List.mem_append_left _ hz
    have oT : Own R h St := w.sub' fun z hz => List.mem_append_right _ hz
    refine T_ref_crOpen oB hX hf hk hn hb hx bk bn bb bx lb lx fun v R' h' s a hv => ?_
    obtain ⟨oT', dj', same⟩ := s.frame oT hdj
    exact k v R' h' (s.wide oT hdj) ⟨tx, ws, Sb, St, a, hO.keep same, hP.mono s.ext.cle, rfl, dj', hlt⟩ hv
end
/-- What holds between two steps: the crypt, the reference's, and the boxes that were told. -/
structure Plays (R h : Hp) (vc : Value) (p : Nat) (c1 c2 : Cr) (S1 S2 So : List Nat) (vo : Value) (ws : List Value) (bs : List (List Nat)) : Prop where
  o1 : Own R h S1
  o2 : Own R h S2
  oo : Own R h So
  d12 : ∀ x, x ∈ S1 → x ∉ S2
  d1o : ∀ x, x ∈ S1 → x ∉ So
  d2o : ∀ x, x ∈ S2 → x ∉ So
  cr : CrAt R h vc c1 S1
  rf : RefC R h p c2 S2
  bx : OutAt t_Sl_uint8 1 h vo ws bs.length So
  ps : PsV R ws bs
theorem Plays.step1 {R h R' h' : Hp} {vc : Value} {p : Nat} {c1 c2 c1' : Cr} {S1 S2 So S1' : List Nat} {vo : Value} {ws : List Value} {bs : List (List Nat)} (a : Plays R h vc p c1 c2 S1 S2 So vo ws bs) (s : Stp R h R' h' S1 S1') (cr : CrAt R' h' vc c1' S1') : Plays R' h' vc p c1' c2 S1' S2 So vo ws bs := by
  obtain ⟨oa, da, sa⟩ := s.frame a.o2 fun x hx q => a.d12 x q hx
  obtain ⟨ob, db, sb⟩ := s.frame a.oo fun x hx q => a.d1o x q hx
  exact ⟨s.own, oa, ob, fun x hx q => da x q hx, fun x hx q => db x q hx, a.d2o, cr, a.rf.keep s.ext sa, a.bx.keep sb, a.ps.mono s.ext.cle⟩
theorem Plays.step2 {R h R' h' : Hp} {vc : Value} {p : Nat} {c1 c2 c2' : Cr} {S1 S2 So S2' : List Nat} {vo : Value} {ws : List Value} {bs : List (List Nat)} (a : Plays R h vc p c1 c2 S1 S2 So vo ws bs) (s : Stp R h R' h' S2 S2') (rf : RefC R' h' p c2' S2') : Plays R' h' vc p c1 c2' S1 S2' So vo ws bs := by
  obtain ⟨oa, da, sa⟩ := s.frame a.o1 fun x hx q => a.d12 x hx q
  obtain ⟨ob, db, sb⟩ := s.frame a.oo fun x hx q => a.d2o x q hx
  exact ⟨oa, s.own, ob, fun x hx q => da x hx q, a.d1o, fun x hx q => db x q hx, a.cr.keep s.ext sa, rf, a.bx.keep sb, a.ps.mono s.ext.cle⟩
theorem Plays.ext {R h R' h' : Hp} {vc : Value} {p : Nat} {c1 c2 : Cr} {S1 S2 So : List Nat} {vo : Value} {ws : List Value} {bs : List (List Nat)} (a : Plays R h vc p c1 c2 S1 S2 So vo ws bs) (s : Stp R h R' h' [] []) : Plays R' h' vc p c1 c2 S1 S2 So vo ws bs := by
  obtain ⟨oa, _, sa⟩ := s.frame a.o1 (by simp)
  obtain ⟨ob, _, sb⟩ := s.frame a.o2 (by simp)
  obtain ⟨oc, _, sc⟩ := s.frame a.oo (by simp)
  exact ⟨oa, ob, oc, a.d12, a.d1o, a.d2o, a.cr.keep s.ext sa, a.rf.keep s.ext sb, a.bx.keep sc, a.ps.mono s.ext.cle⟩
end Go.Proofs.Ytnecdbclhdbaoaa
set_option linter.unusedSimpArgs false
set_option linter.unusedVariables false
set_option maxRecDepth 100000
set_option maxHeartbeats 4000000
namespace Go.Proofs.Ytnecdbclhdbaoaa
open Go Go.SL Go.Pure
theorem crSeal_nil {c : Cr} {key nonce b t : List Nat} (h : (crSeal c key nonce b t).1 ≠ 0) : (crSeal c key nonce b t).2.1 = [] := by
  cases c <;> simp only [crSeal] at h ⊢ <;> split at h <;> rename_i hm <;> simp_all
theorem crSeal_le {c : Cr} {key nonce b t : List Nat} : (crSeal c key nonce b t).2.1.length ≤ t.length + 16 := by
  by_cases h : (crSeal c key nonce b t).1 = 0
  · rw [crSeal_len h]; exact Nat.le_refl _
  · rw [crSeal_nil h]; simp
section
variable {h : Hp} {K : Value → Hp → Prop}
theorem T_CryptPlays {v : Value} {items : List (List Value)} (ideal : Bool) (A : SlAt h 6 v items) (D : ∀ x ∈ items, DoTy.Rd h x) (ll : items.length ≤ 9223372036854775807) (k : ∀ h', K (.bool true) h') : Cn P n_orloplaw12_CryptPlays #[.bool ideal, v] h K := by
  refine F_orloplaw12_CryptPlays ?_
  unfold s_orloplaw12_CryptPlays
  refine T_awake12 fun h4 x4 => ?_
  replace A := A.mono x4.cle
  replace D : ∀ x ∈ items, DoTy.Rd h4 x := fun x hx => (D x hx).mono x4.cle
  clear x4
  have w0 : Own h4 h4 [] := ⟨.refl _, fun b hb => (by cases hb), fun b hb => (by cases hb)⟩
  simp -zeta only [GL, RL, Bool.not_true, Bool.false_eq_true, if_false]
  refine T_small12 A D ll ?_ fun hsm => ?_
  · simp only [GL, RL, Bool.not_false, if_true]
    exact k _
  simp -zeta only [GL, RL, Bool.not_true, Bool.false_eq_true, if_false]
  refine T_of12 ideal w0 fun vc h5 S1 C1 o1 s1 _ => ?_
  have C1' : CrAt h4 h5 vc (cr0 ideal) S1 := C1
  refine aw_refBox ideal fun p hp => ?_
  obtain ⟨o6p, o6, dj6, same6⟩ := o1.mk1 (.row t_orlopref12_Crypt [.bool ideal, .slice none 0 0, .slice none 0 0] 3 (some (0, 0))) hp
  have A6 := ref_newC (R := h4) ideal hp
  generalize h5.set p (.row t_orlopref12_Crypt [.bool ideal, .slice none 0 0, .slice none 0 0] 3 (some (0, 0))) = h6 at o6p o6 same6 A6 ⊢
  have P0 : Plays h4 h6 vc p (cr0 ideal) (cr0 ideal) S1 [p] [] (.slice none 0 0) [] [] :=
    ⟨o6, o6p, o6.nil, dj6, by simp, by simp, C1'.keep (.refl _) same6, A6, .inl ⟨rfl, rfl, rfl, rfl⟩, PsV.nil _⟩
  have hfew0 := few_cr0 ideal 0
  have hfewT0 : fewT 0 (cr0 ideal) := by cases ideal; trivial; exact Nat.le_refl _
  generalize cr0 ideal = c0 at P0 hfew0 hfewT0
  obtain ⟨av, cv, rfl, hcv⟩ := A.shape
  have lnv : ∀ {h : Hp} {K : Value → Prop}, q P h (Builtin.len_ #[t_Sl_orloplaw12_Do] t_int #[.slice av items.length cv]) K = K (.int .i64 items.length) := fun {h K} => q_lenS u_Sl_orloplaw12_Do _ _ _
  refine Lp_mk (fun m vs h' => ∃ (i : Nat) (c : Cr) (R : Hp) (S1 S2 So : List Nat) (vo : Value) (ws : List Value) (bs : List (List Nat)), i + m = 30 ∧ i ≤ items.length ∧ Hp.ext h4 R ∧ Plays R h' vc p c c S1 S2 So vo ws bs ∧ few i c ∧ fewT i c ∧ (∀ b ∈ bs, Bytes b ∧ b.length ≤ 1000) ∧ bs.length ≤ i ∧ vs = [.bool false, vo, .int .i64 (i : Int)]) 30
    ⟨0, c0, h4, S1, [p], [], _, [], [], by omega, by omega, .refl _, P0, hfew0, hfewT0, by simp, by simp, rfl⟩ ?_
  clear P0 C1' C1 A6 o1 s1 o6p o6 dj6 same6 hp hfew0 hfewT0
  rintro m vs h7 ⟨i, c, R, S1, S2, So, vo, ws, bs, hi, hil, xR, PL, fc, fT, hbs, lbs, rfl⟩
  intro J14
  have p14 : i < items.length → i < 30 → J14 h7 := by
    intro h1 h2
    simp -zeta only [J14]
    clear J14
    have ex : items[i]? = some items[i] := List.getElem?_eq_getElem h1
    have sm := hsm i _ h2 ex
    have DR := (D items[i] (List.getElem_mem h1)).mono xR.cle
    have fx := DR.flat
    obtain ⟨kk, vk, vn, vb, vt, bx, key, nonce, b, t, e, hbx, rk, rn, rb, rt, bk, bn, bb, bt⟩ := do_open DR
    have AR := A.mono (xR.trans PL.o1.sub).cle
    refine aw_itemAt (R := h7) (zs := [.int .i64 0, .slice none 0 0, .slice none 0 0, .slice none 0 0, .slice none 0 0, .int .u8 0]) u_Sl_orloplaw12_Do sz_do u_orloplaw12_Do rfl zr_do rfl AR (.refl _) ex DR.len fx fun r hr => ?_
    rw [e] at sm ⊢
    simp only [doSmall, List.getD_cons_succ, List.getD_cons_zero, rn_vlen rk, rn_vlen rn, rn_vlen rb, rn_vlen rt] at sm
    obtain ⟨l1, l2, l3, l4⟩ := sm
    have sB := Stp.block (.row t_orloplaw12_Do [.int .i64 kk, vk, vn, vb, vt, .int .u8 (bx : Int)] 6 (some (0, 0))) PL.o1.nil hr
    have PL8 := PL.ext sB
    have rw8 : (R.set r (.row t_orloplaw12_Do [.int .i64 kk, vk, vn, vb, vt, .int .u8 (bx : Int)] 6 (some (0, 0)))) r = some (.row t_orloplaw12_Do [.int .i64 kk, vk, vn, vb, vt, .int .u8 (bx : Int)] 6 (some (0, 0))) := Hp.set_same ..
    have x8 := xR.trans sB.ext
    replace rk := rk.mono sB.ext.cle
    replace rn := rn.mono sB.ext.cle
    replace rb := rb.mono sB.ext.cle
    replace rt := rt.mono sB.ext.cle
    clear sB PL AR fx DR hr e ex
    generalize h7.set r (.row t_orloplaw12_Do [.int .i64 kk, vk, vn, vb, vt, .int .u8 (bx : Int)] 6 (some (0, 0))) = h8 at PL8 ⊢
    generalize R.set r (.row t_orloplaw12_Do [.int .i64 kk, vk, vn, vb, vt, .int .u8 (bx : Int)] 6 (some (0, 0))) = R8 at PL8 rw8 x8 rk rn rb rt
    have cells : ∀ {H R' : Hp}, Hp.ext R8 R' → Hp.ext R' H → H.cell ⟨r, 0, none⟩ = some (.int .i64 kk) ∧ H.cell ⟨r, 1, none⟩ = some vk ∧ H.cell ⟨r, 2, none⟩ = some vn ∧ H.cell ⟨r, 3, none⟩ = some vb ∧ H.cell ⟨r, 4, none⟩ = some vt ∧ H.cell ⟨r, 5, none⟩ = some (.int .u8 (bx : Int)) := fun {H R'} e1 e2 => by
      have := e2 _ _ (e1 _ _ rw8)
      exact ⟨by rw [cell_row this]; rfl, by rw [cell_row this]; rfl, by rw [cell_row this]; rfl, by rw [cell_row this]; rfl, by rw [cell_row this]; rfl, by rw [cell_row this]; rfl⟩
    have next : ∀ (c' : Cr) (R' h' : Hp) (S1' S2' So' : List Nat) (vo' : Value) (ws' : List Value) (bs' : List (List Nat)), Hp.ext R8 R' → Plays R' h' vc p c' c' S1' S2' So' vo' ws' bs' → few (i + 1) c' → fewT (i + 1) c' → (∀ b ∈ bs', Bytes b ∧ b.length ≤ 1000) → bs'.length ≤ i + 1 →
        ∃ h0, Hp.le h0 h' ∧ ∃ m_1, m_1 < m ∧ ∃ (i_1 : Nat) (c : Cr) (R : Hp) (S1 S2 So : List Nat) (vo : Value) (ws : List Value) (bs : List (List Nat)), i_1 + m_1 = 30 ∧ i_1 ≤ items.length ∧ Hp.ext h4 R ∧ Plays R h0 vc p c c S1 S2 So vo ws bs ∧ few i_1 c ∧ fewT i_1 c ∧ (∀ b ∈ bs, Bytes b ∧ b.length ≤ 1000) ∧ bs.length ≤ i_1 ∧ [Value.bool false, vo', .int .i64 ((i : Int) + 1)] = [.bool false, vo, .int .i64 (i_1 : Int)] :=
      fun c' R' h' S1' S2' So' vo' ws' bs' e1 PL' f1 f2 hb' hl' => ⟨h', .refl _, m - 1, by omega, i + 1, c', R', S1', S2', So', vo', ws', bs', by omega, by omega, x8.trans e1, PL', f1, f2, hb', hl', by rw [inc]⟩
    obtain ⟨c0, c1, c2, c3, c4, c5⟩ := cells (.refl _) PL8.o1.sub
    simp -zeta (disch := omega) only [GL, RL, df, df1, df2, df3, df4, df5, c0, c1, c2, c3, c4, Nat.zero_add]
    by_cases k0 : kk = 0
    · subst k0
      have z0 : ((0 : Int) == 0) = true := rfl
      simp -zeta (disch := omega) only [z0, if_true]
      refine T_crSum PL8.o1 PL8.cr (fT.mono (by omega)) rt bt (by omega) fun v1 R1 h1' s1' C1' r1' => ?_
      have PL1 := PL8.step1 s1' C1'
      obtain ⟨d0, d1, d2, d3, d4, d5⟩ := cells s1'.ext PL1.o1.sub
      refine ⟨pk_ld8 d4, by have := pdf4 (h := h1') r 0; rwa [Nat.zero_add] at this, ?_⟩
      refine T_ref_crSum PL1.o2 PL1.rf (fT.mono (by omega)) (rt.mono s1'.ext.cle) bt (by omega) fun v2 R2 h2' S2' s2' C2' r2' => ?_
      have PL2 := PL1.step2 s2' C2'
      have hl := crSum_len c t
      refine T_orlopref01_Equal (PL2.o1.rn (r1'.mono s2'.ext.cle)) (PL2.o1.rn r2') (by omega) ?_
      simp -zeta (disch := omega) only [GL, RL, decide_true, Bool.not_true, Bool.false_eq_true, if_false, wi64]
      exact next _ R2 h2' _ _ _ _ _ _ (s1'.ext.trans s2'.ext) PL2 ((fc.mono (by omega)).sum t) (fT.sum t) hbs (by omega)
    have z0 : (kk == 0) = false := by rw [beq_eq_false_iff_ne]; exact k0
    simp -zeta (disch := omega) only [z0, Bool.false_eq_true, if_false]
    by_cases k1 : kk = 1
    · subst k1
      have z1 : ((1 : Int) == 1) = true := rfl
      simp -zeta (disch := omega) only [z1, if_true]
      refine T_crSeal PL8.o1 PL8.cr (fc.mono (by omega)) rk rn rb rt bk bn bb bt (by omega) (by omega) fun v1 R1 h1' S1' s1' C1' r1' => ?_
      have PL1 := PL8.step1 s1' C1'
      obtain ⟨d0, d1, d2, d3, d4, d5⟩ := cells s1'.ext PL1.o1.sub
      rw [ext0, ext1]
      simp -zeta (disch := omega) only [GL, RL, df, df1, df2, df3, df4, df5, d0, d1, d2, d3, d4, Nat.zero_add]
      have up1 := s1'.ext.cle
      refine T_refC_Seal PL1.o2 PL1.rf (fc.mono (by omega)) (rk.mono up1) (rn.mono up1) (rb.mono up1) (rt.mono up1) bk bn bb bt (by omega) (by omega) fun v2 R2 h2' S2' s2' C2' r2' => ?_
      have PL2 := PL1.step2 s2' C2'
      have e12 := s1'.ext.trans s2'.ext
      rw [ext0, ext1]
      have hle := crSeal_le (c := c) (key := key) (nonce := nonce) (b := b) (t := t)
      have hby : Bytes (crSeal c key nonce b t).2.1 := crSeal_bytes bt
      have f1 := fc.next key nonce b t (by omega)
      have f2 := (fT.seal key nonce b t).mono (Nat.le_succ i)
      have q1 : Rn R1 .u8 v1 (crSeal c key nonce b t).2.1 := by
        by_cases hz : (crSeal c key nonce b t).1 = 0
        · rwa [if_pos hz] at r1'
        · rw [if_neg hz] at r1'; rw [r1', crSeal_nil hz]; exact rn_nil _ _
      have q2 : Rn R2 .u8 v2 (crSeal c key nonce b t).2.1 := by
        by_cases hz : (crSeal c key nonce b t).1 = 0
        · rwa [if_pos hz] at r2'
        · rw [if_neg hz] at r2'; rw [r2', crSeal_nil hz]; exact rn_nil _ _
      clear r1' r2'
      intro J25
      simp -zeta (disch := omega) only [GL, RL, bne_self_eq_false, if_true, Bool.false_eq_true, if_false]
      refine T_orlopref01_Equal (PL2.o1.rn (q1.mono s2'.ext.cle)) (PL2.o1.rn q2) (by omega) ?_
      simp -zeta (disch := omega) only [GL, RL, decide_true, Bool.not_true, Bool.false_eq_true, if_false]
      simp only [J25]
      clear J25
      generalize (crSeal c key nonce b t).2.1 = X at q1 q2 hle hby
      refine aw_lit (ps := [(0, v2)]) (n := 1) u_Sl_Sl_uint8 z_Sl_uint8 zr_Sl_uint8 rfl (by omega) (by intro p hp; rw [List.mem_singleton.1 hp]; exact ⟨rn_flat q2, by show _ < 1; omega⟩) fun v49 H2 n2 _ => ?_
      have n2' : New h2' t_Sl_uint8 1 v49 H2 [v2] 1 := n2
      obtain ⟨R3, s3, q3⟩ := Stp.new PL2.o1.nil n2'
      have PL3 := PL2.ext s3
      refine aw_appendO u_Sl_Sl_uint8 u_Sl_Sl_uint8 nfo_Sl_uint8 rfl (by omega) PL3.bx (PL3.o1.sub.cle |> q3.mono) (by intro y hy; rw [List.mem_singleton.1 hy]; exact rn_flat q2) (by omega) fun v50 h4' So' O4 kp4 fr4 => ?_
      have s4 := OutAt.step PL3.oo O4 kp4 fr4
      obtain ⟨oa, da, sa⟩ := s4.frame PL3.o1 fun x hx q => PL3.d1o x hx q
      obtain ⟨ob, db, sb⟩ := s4.frame PL3.o2 fun x hx q => PL3.d2o x hx q
      rw [wi64 (by omega) (by omega)]
      refine next _ R3 h4' _ _ So' v50 (ws ++ [v2]) (bs ++ [X]) (e12.trans s3.ext) ⟨oa, ob, s4.own, PL3.d12, fun x hx q => da x hx q, fun x hx q => db x hx q, PL3.cr.keep (.refl _) sa, PL3.rf.keep (.refl _) sb, by rw [List.length_append]; exact O4, PL3.ps.app (PsV.one (q2.mono s3.ext.cle))⟩ f1 f2 (fun z hz => ?_) (by rw [List.length_append]; simp; omega)
      rcases List.mem_append.1 hz with g | g
      · exact hbs z g
      · rw [List.mem_singleton.1 g]; exact ⟨hby, by omega⟩
    have z1 : (kk == 1) = false := by rw [beq_eq_false_iff_ne]; exact k1
    simp -zeta (disch := omega) only [z1, Bool.false_eq_true, if_false]
    intro J31
    have p31 : ∀ (vx : Value) (x : List Nat), Rn R8 .u8 vx x → Bytes x → x.length ≤ 1000 → J31 vx h8 := by
      intro vx x rx bx' lx
      simp -zeta only [J31]
      clear J31
      simp -zeta (disch := omega) only [GL, RL, df, df1, df2, df3, df4, df5, c0, c1, c2, c3, c4, Nat.zero_add]
      refine T_crOpen PL8.o1 PL8.cr (fc.mono (by omega)) rk rn rb rx bk bn bb bx' (by omega) (by omega) fun v1 R1 h1' s1' C1' r1' => ?_
      have PL1 := PL8.step1 s1' C1'
      obtain ⟨d0, d1, d2, d3, d4, d5⟩ := cells s1'.ext PL1.o1.sub
      rw [ext0, ext1]
      simp -zeta (disch := omega) only [GL, RL, df, df1, df2, df3, df4, df5, d0, d1, d2, d3, d4, Nat.zero_add]
      have up1 := s1'.ext.cle
      refine T_refC_Open PL1.o2 PL1.rf (fc.mono (by omega)) (rk.mono up1) (rn.mono up1) (rb.mono up1) (rx.mono up1) bk bn bb bx' (by omega) (by omega) fun v2 R2 h2' s2' C2' r2' => ?_
      have PL2 := PL1.step2 s2' C2'
      have e12 := s1'.ext.trans s2'.ext
      rw [ext0, ext1]
      have hle := crOpen_len (n := i) fc key nonce b x
      simp -zeta (disch := omega) only [GL, RL, bne_self_eq_false, if_true, Bool.false_eq_true, if_false]
      by_cases hz : (crOpen c key nonce b x).1 = 0
      · rw [if_pos hz] at r1' r2'
        refine T_orlopref01_Equal (PL2.o1.rn (r1'.mono s2'.ext.cle)) (PL2.o1.rn r2') (by omega) ?_
        simp -zeta (disch := omega) only [GL, RL, decide_true, Bool.not_true, Bool.false_eq_true, if_false, wi64]
        exact next _ R2 h2' _ _ _ _ _ _ e12 PL2 (fc.mono (by omega)) (fT.mono (by omega)) hbs (by omega)
      · rw [if_neg hz] at r1' r2'
        subst r1' r2'
        refine T_orlopref01_Equal (rn_nil _ _) (rn_nil _ _) (by simp) ?_
        simp -zeta (disch := omega) only [GL, RL, decide_true, Bool.not_true, Bool.false_eq_true, if_false, wi64]
        exact next _ R2 h2' _ _ _ _ _ _ e12 PL2 (fc.mono (by omega)) (fT.mono (by omega)) hbs (by omega)
    clear_value J31
    intro J32
    have pT : J31 vt h8 := p31 vt t rt bt (by omega)
    obtain ⟨_, ao, co, eo, hco, hws⟩ := PL8.bx.rds
    have lno : ∀ {h : Hp} {K : Value → Prop}, q P h (Builtin.len_ #[t_Sl_Sl_uint8] t_int #[vo]) K = K (.int .i64 bs.length) := fun {h K} => by rw [eo]; exact q_lenS u_Sl_Sl_uint8 _ _ _
    have p32 : ∀ g : Bool, (g = true → 0 < bs.length) → J32 (.bool g) h8 := by
      intro g hg
      simp -zeta only [J32]
      clear J32
      cases g with
      | false =>
        simp only [GL, Bool.false_eq_true, if_false]
        exact pT
      | true =>
        have hpos := hg rfl
        have em : ((bx : Nat) : Int).tmod ((bs.length : Nat) : Int) = ((bx % bs.length : Nat) : Int) := by rw [Int.tmod_eq_emod_of_nonneg (by omega)]; exact (Int.natCast_emod _ _).symm
        have hlt := Nat.mod_lt bx hpos
        rcases hws with q0 | ⟨bo, oo, rfl, hws⟩
        · omega
        obtain ⟨y, ey, ry⟩ := PL8.ps.2 (bx % bs.length) (bs.getD (bx % bs.length) []) (by simp [List.getD_eq_getElem?_getD, hlt])
        have cy := hws _ _ ey
        subst eo
        simp -zeta (disch := omega) only [GL, RL, df, df1, df2, df3, df4, df5, c5, wi64, em, cy, if_true]
        have hm := hbs (bs.getD (bx % bs.length) []) (by rw [List.getD_eq_getElem?_getD, List.getElem?_eq_getElem hlt]; exact List.getElem_mem hlt)
        exact p31 y _ ry hm.1 hm.2
    clear_value J32
    by_cases k3 : kk = 3
    · subst k3
      have z3 : ((3 : Int) == 3) = true := rfl
      have e0 : decide ((0 : Int) < ((bs.length : Nat) : Int)) = decide (0 < bs.length) := lt_dec 0 _
      simp -zeta (disch := omega) only [z3, lno, GL, RL, if_true, e0]
      exact p32 _ fun q => by simpa using q
    · have z3 : (kk == 3) = false := by rw [beq_eq_false_iff_ne]; exact k3
      simp -zeta (disch := omega) only [z3, GL, RL, Bool.false_eq_true, if_false]
      exact p32 false fun q => by cases q
  clear_value J14
  have e1 : decide (((i : Nat) : Int) < ((items.length : Nat) : Int)) = decide (i < items.length) := lt_dec _ _
  have e30 : decide (((i : Nat) : Int) < 30) = decide (i < 30) := lt_dec i 30
  simp (disch := omega) only [GL, RL, lnv, e1, e30]
  by_cases g1 : i < items.length
  · simp only [g1, decide_true, if_true]
    by_cases g2 : i < 30
    · simp only [g2, decide_true, if_true]
      exact p14 g1 g2
    · simp only [g2, decide_false, Bool.false_eq_true, if_false]
      exact k _
  · simp only [g1, decide_false, Bool.false_eq_true, if_false]
    exact k _
end
end Go.Proofs.Ytnecdbclhdbaoaa
set_option linter.unusedSimpArgs false
set_option linter.unusedVariables false
set_option maxRecDepth 100000
namespace Go.Proofs.Ytnecdbclhdbaoaa
open Go Go.SL Go.Pure
open Go.ChangeShapes Go.WideShapes Go.ChangeAt Go.RowKit
/-- All cells that lie in memory, to read. -/
def readAll (w : World) : Hp := fun b => match w.heap[b]? with
  | some (.cells c e _) => some (.row e c.toList c.size none)
  | _ => none
theorem readAll_sat (w : World) : (readAll w).sat w := by
  intro b o e
  unfold readAll at e
  split at e
  · rename_i c el f hb
    cases e
    refine ⟨_, hb, rfl, rfl, by simp, fun i v hv => by simpa using hv, fun f hf => by cases hf⟩
  · cases e
theorem readAll_own (w : World) (b : Nat) : ¬ (readAll w).own b := by
  rintro ⟨o, e, hr⟩
  unfold readAll at e
  split at e
  · cases e; cases hr
  · cases e
theorem readAll_cell {w : World} {b o : Nat} {v : Value} (e : w.cell? ⟨b, o, none⟩ = some v) : (readAll w).cell ⟨b, o, none⟩ = some v := by
  unfold World.cell? at e
  unfold Hp.cell readAll
  dsimp only at e ⊢
  split at e
  · rename_i c el f hb
    rw [hb]
    simpa using e
  · cases e
theorem below_of {w w' : World} {h' : Hp} (f : Fr (readAll w) h' w w') : Below w.heap.size w w' :=
  ⟨f.os, f.tape, f.output, f.size, fun k hk => f.keep k hk (readAll_own w k)⟩
theorem ownNone : ownKnob Try.prog.godebug = none := by kernel_rfl
theorem laidOut : laidOutB Try.prog = true := by kernel_rfl
/-- The walk of a statement that tells true. -/
theorem tells_true {f : FuncId} {args : Array Value} {w : World} (c : Cn P f args (readAll w) fun v _ => v = .bool true) : Calls P f args w fun e w' => e = .returned (.bool true) ∧ Below w.heap.size w w' :=
  (c.2 w (readAll_sat w)).mono fun e w' ⟨v, h', he, _, f', hv⟩ => ⟨by rw [he, hv], below_of f'⟩
end Go.Proofs.Ytnecdbclhdbaoaa
set_option linter.unusedSimpArgs false
set_option linter.unusedVariables false
set_option maxRecDepth 100000
namespace Go.Proofs.Ytnecdbclhdbaoaa
open Go Go.SL Go.Pure
open Go.ChangeShapes Go.WideShapes Go.ChangeAt Go.RowKit
theorem ty_open {H : Type} {enc : TypeId × Value → H} {w : World} : ∀ (ty : Ty),
    (∀ (t : TypeId) (fuel : Nat) (cs : List Value) (x : DataW H × List MemPlace), tyB P ty (.inl t) = true → DataW.trod enc P w 0 (fun _ => true) true fuel t cs = some x → ty.Rd (readAll w) cs) ∧
    (∀ (o : Nat) (l : List Field) (n : Nat) (cs : List Value), tyB P ty (.inr (o, l)) = true → cs.length = o + ty.size → (∀ (j : Nat) (f : Field), l[j]? = some f → ∃ y, DataW.trod enc P w 0 (fun _ => true) true n f.type ((cs.drop f.offset).take (P.cellsOf f.type)) = some y) → ty.Rd (readAll w) (cs.drop o)) := by
  intro ty
  induction ty with
  | int k =>
    refine ⟨fun t fuel cs x hb h => ?_, fun o l n cs hb => by simp [tyB] at hb⟩
    unfold tyB at hb
    split at hb
    · rename_i k' hu
      obtain ⟨n, rfl, _, hw⟩ := DataW.trod_int hu h
      rw [beq_iff_eq] at hb
      subst hb
      exact ⟨n, rfl, hw⟩
    · cases hb
  | bool =>
    refine ⟨fun t fuel cs x hb h => ?_, fun o l n cs hb => by simp [tyB] at hb⟩
    unfold tyB at hb
    split at hb
    · rename_i hu
      obtain ⟨b, rfl, _⟩ := DataW.trod_bool hu h
      exact ⟨b, rfl⟩
    · cases hb
  | str =>
    refine ⟨fun t fuel cs x hb h => ?_, fun o l n cs hb => by simp [tyB] at hb⟩
    unfold tyB at hb
    split at hb
    · rename_i hu
      obtain ⟨s, rfl, _, hs⟩ := DataW.trod_string hu h
      exact ⟨s, rfl, Nat.le_trans hs (by decide)⟩
    · cases hb
  | sl e ih =>
    refine ⟨fun t fuel cs x hb h => ?_, fun o l n cs hb => by simp [tyB] at hb⟩
    unfold tyB at hb
    split at hb
    · rename_i te hu
      simp only [Bool.and_eq_true, beq_iff_eq, decide_eq_true_eq] at hb
      obtain ⟨⟨hc, h0⟩, hb⟩ := hb
      rcases DataW.trod_slice hu h with ⟨rfl, _⟩ | ⟨a', len, cap, elems, rest, m, _, rfl, _, _, hl, hm, hlen, hel, _, _⟩
      · exact ⟨_, [], rfl, ⟨none, 0, rfl, Nat.le_refl _, .inl rfl⟩, by simp, by simp⟩
      · have each : ∀ i, i < len → ∃ cs : List Value, cs.length = e.size ∧ e.Rd (readAll w) cs ∧ ∀ j y, cs[j]? = some y → w.cell? ((a'.add (i * e.size)).add j) = some y := by
          intro i hi
          have h1 := hel i hi
          rw [hc, List.getElem?_eq_getElem (by omega), Option.bind_eq_some_iff] at h1
          obtain ⟨cs, hcs, htr⟩ := h1
          obtain ⟨_, hlen, hcell⟩ := World.cells?_some hcs
          refine ⟨cs, hlen, ih.1 te m cs _ hb htr, fun j y ey => ?_⟩
          have hlt := (List.getElem?_eq_some_iff.1 ey).1
          rw [hcell j (by omega)]
          exact ey
        obtain ⟨f, hfn⟩ : ∃ f : Nat → List Value, ∀ i, i < len → (f i).length = e.size ∧ e.Rd (readAll w) (f i) ∧ ∀ j y, (f i)[j]? = some y → w.cell? ((a'.add (i * e.size)).add j) = some y := by
          refine ⟨fun i => if q : i < len then (each i q).choose else [], fun i hi => ?_⟩
          simp only [hi, dif_pos]
          exact (each i hi).choose_spec
        have hget : ∀ (i : Nat) (x : List Value), ((List.range len).map f)[i]? = some x → i < len ∧ x = f i := by
          intro i x e
          have hi : i < len := by simpa using (List.getElem?_eq_some_iff.1 e).1
          rw [List.getElem?_map, List.getElem?_range hi] at e
          exact ⟨hi, by simpa using e.symm⟩
        have ll : ((List.range len).map f).length = len := by simp
        have hm' : cap ≤ 9223372036854775807 := Nat.le_trans hm (by decide)
        refine ⟨_, (List.range len).map f, rfl, ⟨some a', cap, by rw [ll], by rw [ll]; exact hl, ?_⟩, by rw [ll]; omega, fun x hx => ?_⟩
        · by_cases hl0 : len = 0
          · left; subst hl0; rfl
          · right
            obtain ⟨l0, _, c0⟩ := hfn 0 (by omega)
            have hc0 := c0 0 _ (List.getElem?_eq_getElem (by omega))
            obtain ⟨b, o, sp⟩ := a'
            have hsp : sp = none := by
              cases sp with
              | none => rfl
              | some s =>
                unfold World.cell? Addr.add at hc0
                dsimp only at hc0
                split at hc0 <;> simp at hc0
            subst hsp
            refine ⟨b, o, rfl, fun i x e j y ey => ?_⟩
            obtain ⟨hi, rfl⟩ := hget i x e
            have := (hfn i hi).2.2 j y ey
            rw [add_off, add_off] at this
            exact readAll_cell this
        · obtain ⟨i, hi, rfl⟩ := List.mem_map.1 hx
          have hi : i < len := by simpa using hi
          exact ⟨(hfn i hi).1, (hfn i hi).2.1⟩
    · cases hb
  | arr n e ih =>
    refine ⟨fun t fuel cs x hb h => ?_, fun o l n cs hb => by simp [tyB] at hb⟩
    unfold tyB at hb
    split at hb
    · rename_i m te hu
      simp only [Bool.and_eq_true, beq_iff_eq] at hb
      obtain ⟨⟨⟨rfl, hc⟩, hct⟩, hb⟩ := hb
      obtain ⟨xs, k, _, _, hlen, hl, hel⟩ := DataW.trod_array hu h
      rw [hct] at hlen
      have piece : ∀ i, i < m → ((cs.drop (i * e.size)).take e.size).length = e.size ∧ e.Rd (readAll w) ((cs.drop (i * e.size)).take e.size) := fun i hi => by
        have h1 := hel i hi
        rw [hc, List.getElem?_eq_getElem (by omega)] at h1
        refine ⟨?_, ih.1 te k _ _ hb h1⟩
        rw [List.length_take, List.length_drop, hlen]
        have : (i + 1) * e.size ≤ m * e.size := Nat.mul_le_mul_right _ hi
        rw [Nat.succ_mul] at this
        omega
      have flat : ∀ (m : Nat) (cs : List Value), cs.length = m * e.size → ((List.range m).map fun i => (cs.drop (i * e.size)).take e.size).flatten = cs := by
        intro m
        induction m with
        | zero => intro cs hl; obtain rfl : cs = [] := List.eq_nil_of_length_eq_zero (by simpa using hl); rfl
        | succ m ihm =>
          intro cs hl
          rw [Nat.succ_mul] at hl
          rw [List.range_succ_eq_map, List.map_cons, List.map_map, List.flatten_cons, Nat.zero_mul, List.drop_zero]
          have e1 : ((fun i => (cs.drop (i * e.size)).take e.size) ∘ Nat.succ) = fun i => ((cs.drop e.size).drop (i * e.size)).take e.size := by
            funext i
            show (cs.drop ((i + 1) * e.size)).take e.size = _
            rw [List.drop_drop, Nat.succ_mul, Nat.add_comm]
          rw [e1, ihm (cs.drop e.size) (by rw [List.length_drop]; omega), List.take_append_drop]
      refine ⟨_, (flat m cs hlen).symm, by simp, fun x hx => ?_⟩
      obtain ⟨i, hi, rfl⟩ := List.mem_map.1 hx
      exact piece i (by simpa using hi)
    · cases hb
  | rcd fs ih =>
    refine ⟨fun t fuel cs x hb h => ?_, fun o l n cs hb => by simp [tyB] at hb⟩
    unfold tyB at hb
    split at hb
    · rename_i fa hu
      simp only [Bool.and_eq_true, beq_iff_eq] at hb
      obtain ⟨xs, n, _, _, hl, hlen, hf⟩ := DataW.trod_struct hu h
      have := ih.2 0 fa.toList n cs hb.2 (by rw [hl, hb.1, Nat.zero_add]) fun j f hj => by
        have := hf j f (by simpa using hj)
        have hlt : j < xs.length := by
          have := (List.getElem?_eq_some_iff.1 hj).1
          simp at this
          omega
        exact ⟨_, this.trans (List.getElem?_eq_getElem hlt)⟩
      exact this
    · cases hb
  | nil =>
    refine ⟨fun t fuel cs x hb h => by simp [tyB] at hb, fun o l n cs hb hl hf => ?_⟩
    exact List.drop_of_length_le (by rw [hl]; exact Nat.le_refl _)
  | cons a b iha ihb =>
    refine ⟨fun t fuel cs x hb h => by simp [tyB] at hb, fun o l n cs hb hl hf => ?_⟩
    unfold tyB at hb
    cases l with
    | nil => cases hb
    | cons f l =>
      simp only [Bool.and_eq_true, beq_iff_eq] at hb
      obtain ⟨⟨⟨ho, hc⟩, h1⟩, h2⟩ := hb
      have hsz : (Ty.cons a b).size = a.size + b.size := rfl
      obtain ⟨y, hy⟩ := hf 0 f rfl
      rw [ho, hc] at hy
      refine ⟨(cs.drop o).take a.size, cs.drop (o + a.size), by rw [← List.drop_drop, List.take_append_drop], ?_, iha.1 f.type n _ _ h1 hy, ihb.2 (o + a.size) l n cs h2 (by omega) fun j g hj => hf (j + 1) g hj⟩
      rw [List.length_take, List.length_drop]
      omega
/-- A thing that is handed in. -/
theorem rd_open {H : Type} {enc : TypeId × Value → H} {w : World} {v : Value} {d : DataW H} {p : List MemPlace} (ty : Ty) {t : TypeId} (hb : tyB P ty (.inl t) = true) (h : DataW.Trod enc P w 0 (fun _ => true) true t v d p) : ty.Rd (readAll w) v.cells.toList := by
  obtain ⟨fuel, hf⟩ := h
  exact (ty_open ty).1 t fuel _ _ hb hf
end Go.Proofs.Ytnecdbclhdbaoaa
set_option linter.unusedSimpArgs false
set_option linter.unusedVariables false
set_option maxRecDepth 100000
namespace Go.Proofs.Ytnecdbclhdbaoaa
open Go Go.SL Go.Pure
open Go.ChangeShapes Go.WideShapes Go.ChangeAt Go.RowKit
namespace cryptPlays
theorem lifted (os : Os) (started : os.Started) (H : Type) (enc : TypeId × Value → H) :
    ReturnsInHanded {} Try.checked os n_orloplaw12_CryptPlays .any (Rows.cryptPlaysSpec.pre6 enc Try.prog Try.f9 Rows.cryptPlaysRow.domain false) (Rows.cryptPlaysSpec.post enc Try.prog Try.f9 false true false false) := by
  refine returnsInHanded_of_change_sized (C := Try.checked) ownNone started (by kernel_rfl) Try.func9
    (ChangeSpec.witness6 (enc := enc) (C := Try.checked) false ⟨#[], #[.bool false, .slice none 0 0], []⟩ 8 (by kernel_rfl) (by kernel_rfl) (by kernel_rfl) (by kernel_rfl)) ?_
  intro W base args ds gs before hval0 hW hcnd hsz0 _
  have hval : ∀ (j : Nat) t v, Try.f9.params[j]? = some t → args[j]? = some v → Value.okWide Try.prog W .any base t v := hval0
  have hW' := hW
  obtain ⟨p, q, hA0, hV, rfl, hfz, hnd⟩ := hW
  have hA : DataW.TrodAll enc Try.prog W 0 (fun _ => true) true Try.f9.params.toList args.toList ds p := hA0
  rw [Try.params9] at hA hval
  obtain ⟨v0, vs0, d0, ds0, p0, q0, hargs, rfl, rfl, h0, r0⟩ := trodAll_cons hA
  obtain ⟨v1, vs1, d1, ds1, p1, q1, rfl, rfl, rfl, h1, r1⟩ := trodAll_cons r0
  obtain ⟨rfl, rfl, rfl⟩ := trodAll_nil r1
  obtain rfl : args = #[v0, v1] := by cases args; simp_all
  obtain ⟨rfl, rfl⟩ := trodVars_none hV
  have lt0 : ∀ x ∈ p0, x.block < W.heap.size := by obtain ⟨m, hm⟩ := h0; exact DataW.trod_lt m _ _ _ hm
  have lt1 : ∀ x ∈ p1, x.block < W.heap.size := by obtain ⟨m, hm⟩ := h1; exact DataW.trod_lt m _ _ _ hm
  obtain ⟨b0, rfl⟩ := okWide_bool Try.underlying4 (hval 0 4 v0 rfl rfl)
  obtain ⟨a1, n1, c1, rfl⟩ := okWide_slice Try.underlying55 (hval 1 55 v1 rfl rfl)
  obtain ⟨w1, items1, e1, A1, hl1, hD1⟩ := rd_open (.sl DoTy) (by kernel_rfl) h1
  have e1 : [Value.slice a1 n1 c1] = [w1] := e1
  simp only [List.cons.injEq, and_true] at e1
  subst e1
  clear hA0 hval0 hsz0
  refine (tells_true (T_CryptPlays b0 A1 (fun x hx => (hD1 x hx).2) hl1 (K := fun v _ => v = .bool true) fun _ => rfl)).mono fun e W' ⟨he, bel⟩ => ?_
  subst he
  exact ⟨_, rfl, _, _, _, [], _, [], hW', trodAll_mk1 (shut_bool Try.underlying4 _), (trodAll_cons_mk (Below.trod laidOut (by kernel_rfl) (of_decide_eq_true (by kernel_rfl)) h0 bel lt0) (trodAll_cons_mk (Below.trod laidOut (by kernel_rfl) (of_decide_eq_true (by kernel_rfl)) h1 bel lt1) trodAll_mk0)), rfl, bel.frame _, fun h => by cases h⟩
theorem over : Rows.cryptPlaysRow.holds Try.pinned (OpenSpec.ofChange Rows.cryptPlaysSpec) :=
  OpenClaim.holds_of_wide 9 Try.f9 rfl rfl rfl rfl rfl rfl rfl ⟨rfl, rfl, rfl, rfl, rfl⟩ rfl rfl rfl rfl rfl (by kernel_rfl) Try.func9 (by kernel_rfl)
    (of_decide_eq_true (by kernel_rfl)) (by unfold Func.isWrapper; first | (rw [if_pos (by decide +kernel)]; kernel_rfl) | (rw [if_neg (by decide +kernel)]; exact ⟨rfl, rfl⟩))
    (fun os started H enc _ => lifted os started H enc)
theorem proved : Rows.CryptPlaysSaid := over
end cryptPlays
/-- The row, under a short name. -/
theorem cryptPlays_holds : Rows.CryptPlaysSaid := cryptPlays.proved
end Go.Proofs.Ytnecdbclhdbaoaa
