/- chestReads_holds chestReads proved lifted over: part 2 of its proof; each part's own remarks stand with its declarations. Conditions: each lemma names its own. -/
import Derived.Test.YtlkhmddmdmlffaaGreatDoorChestReads1
import Derived.Test.YtlkhmddmdmlffaaGreatDoorRows
import Derived.WalkKit
import Derived.ProofKit
import Derived.OpenShut
import Derived.ShutString
import Derived.ChangeOld
import Derived.Below
import Derived.Carry
import Derived.SizedLaws
import Derived.Lib.SmallJoins
import Derived.Test.YtlkhmddmdmlffaaGreatDoorCards
import Derived.Test.YtlkhmddmdmlffaaGreatDoorTie
import Derived.LaidMore
import Derived.Lay
import Derived.MakeChecks
import Derived.Stop.Joined
import Derived.SevenTiedAt
set_option linter.unusedSimpArgs false
set_option linter.unusedVariables false
set_option linter.unusedSimpArgs false
set_option linter.unusedVariables false
set_option maxRecDepth 100000
set_option maxHeartbeats 1000000
namespace Go.Proofs.YtlkhmddmdmlffaaGreatDoor
open Go Go.SL Go.Pure
/-- A text's number in a book, and the texts behind. -/
def numOf (ts : List (List Nat)) (t : List Nat) : Nat := (ts.idxOf? t).getD ts.length
def textsOf (ts : List (List Nat)) (t : List Nat) : List (List Nat) := if (ts.idxOf? t).isSome then ts else ts ++ [t]
def sumB (n : Nat) : List Nat := [83, 85, 77, 33] ++ List.replicate 20 0 ++ bg 8 n
theorem numOf_le (ts : List (List Nat)) (t : List Nat) : numOf ts t ≤ ts.length := by
  unfold numOf
  cases e : ts.idxOf? t with
  | none => exact Nat.le_refl _
  | some i =>
    rw [List.idxOf?_eq_some_iff] at e
    obtain ⟨hi, _⟩ := e
    show i ≤ _
    omega
theorem idxOf_snoc (ts : List (List Nat)) (t x : List Nat) : (ts ++ [t]).idxOf? x = (ts.idxOf? x).or (if x = t then some ts.length else none) := by
  induction ts with
  | nil =>
    show [t].idxOf? x = _
    rw [List.idxOf?_cons]
    by_cases e : t = x
    · subst e; simp
    · rw [if_neg (by simpa using e), if_neg (fun q => e q.symm)]; simp
  | cons a ts ih =>
    rw [List.cons_append, List.idxOf?_cons, List.idxOf?_cons, ih]
    split
    · rfl
    · cases ts.idxOf? x with
      | none => simp only [Option.none_or, Option.map_none]; split <;> simp
      | some i => rfl
theorem bf0m : zr P t_int = some (.int .i64 0) := by kernel_rfl
section
variable {h : Hp} {K : Value → Hp → Prop}
end
end Go.Proofs.YtlkhmddmdmlffaaGreatDoor
set_option linter.unusedSimpArgs false
set_option linter.unusedVariables false
set_option maxRecDepth 100000
set_option maxHeartbeats 4000000
namespace Go.Proofs.YtlkhmddmdmlffaaGreatDoor
open Go Go.SL Go.Pure
/-- A digest, and the crypt behind it. -/
def crSum (c : Cr) (t : List Nat) : List Nat × Cr :=
  match c with
  | .real => (shaL t, .real)
  | .book ts bs => (sumB (numOf ts t), .book (textsOf ts t) bs)
/-- Not too many texts. -/
def fewT (n : Nat) (c : Cr) : Prop :=
  match c with
  | .real => True
  | .book ts _ => ts.length ≤ n
theorem fewT.mono {n m : Nat} {c : Cr} (f : fewT n c) (h : n ≤ m) : fewT m c := by cases c <;> simp_all [fewT]; omega
theorem fewT.sum {n : Nat} {c : Cr} (f : fewT n c) (t : List Nat) : fewT (n + 1) (crSum c t).2 := by
  cases c with
  | real => trivial
  | book ts bs =>
    simp only [fewT, crSum, textsOf] at f ⊢
    split
    · omega
    · rw [List.length_append, List.length_singleton]; omega
theorem few.sum {n : Nat} {c : Cr} (f : few n c) (t : List Nat) : few n (crSum c t).2 := by
  cases c with
  | real => trivial
  | book ts bs => exact f
theorem crSum_len (c : Cr) (t : List Nat) : (crSum c t).1.length = 32 := by
  cases c with
  | real => exact shaL_len t
  | book ts bs => simp [crSum, sumB, bg_len]
theorem numOf_at {ts : List (List Nat)} {t : List Nat} : ∀ {i : Nat}, i ≤ ts.length → (∀ j, j < i → ts.getD j [] ≠ t) → (i = ts.length ∨ ts.getD i [] = t) → numOf ts t = i ∧ textsOf ts t = if i = ts.length then ts ++ [t] else ts := by
  induction ts with
  | nil =>
    intro i hi _ _
    have : i = 0 := by simpa using hi
    subst this
    exact ⟨rfl, rfl⟩
  | cons x xs ih =>
    intro i hi hb he
    by_cases q : x = t
    · have i0 : i = 0 := by
        cases i with
        | zero => rfl
        | succ i => exact absurd q (hb 0 (by omega))
      subst i0
      subst q
      have e : (x :: xs).idxOf? x = some 0 := by simp [List.idxOf?_cons]
      refine ⟨by simp [numOf, e], ?_⟩
      rw [if_neg (by simp)]
      simp [textsOf, e]
    · cases i with
      | zero =>
        rcases he with h | h
        · simp at h
        · exact absurd h q
      | succ i =>
        have := ih (i := i) (by simpa using hi) (fun j hj => by simpa using hb (j + 1) (by omega)) (by simpa using he)
        have e : (x :: xs).idxOf? t = (xs.idxOf? t).map (· + 1) := by
          rw [List.idxOf?_cons]
          simp [q]
        constructor
        · have h1 := this.1
          unfold numOf at h1 ⊢
          rw [e]
          cases hx : xs.idxOf? t with
          | none => rw [hx] at h1; simp at h1 ⊢; exact h1
          | some k => rw [hx] at h1; simp at h1 ⊢; exact h1
        · have h1 := this.2
          unfold textsOf at h1 ⊢
          rw [e]
          cases hx : xs.idxOf? t with
          | none =>
            rw [hx] at h1
            simp at h1 ⊢
            exact h1
          | some k =>
            rw [hx] at h1
            simp at h1 ⊢
            exact h1
theorem rf1 {h : Hp} {K : Value → Prop} (r : Nat) : q P h (Instr.fieldAt t_orlopref12_Crypt (.pointer (some ⟨r, 0, none⟩)) 1) K = K (.pointer (some ⟨r, 1, none⟩)) := q_of (by kernel_rfl) K
theorem prf1 {h : Hp} (r : Nat) : peek P h (Instr.fieldAt t_orlopref12_Crypt (.pointer (some ⟨r, 0, none⟩)) 1) = some (.pointer (some ⟨r, 1, none⟩)) := by kernel_rfl
theorem pk_ldSl {h : Hp} {a : Addr} {v : Value} (e : h.cell a = some v) : peek P h (Instr.loadAt t_Sl_Sl_uint8 (.pointer (some a))) = some v := pk_q3 fun K => (q_ld u_Sl_Sl_uint8 rfl a).trans (by rw [e]; rfl)
section
variable {h : Hp} {K : Value → Hp → Prop}
end
end Go.Proofs.YtlkhmddmdmlffaaGreatDoor
set_option linter.unusedSimpArgs false
set_option linter.unusedVariables false
set_option maxRecDepth 100000
set_option maxHeartbeats 4000000
namespace Go.Proofs.YtlkhmddmdmlffaaGreatDoor
open Go Go.SL Go.Pure
/-- A book without boxes. -/
def BookN (h : Hp) (p : Nat) (ts : List (List Nat)) (S : List Nat) : Prop :=
  ∃ r es c, h p = some (.row t_crypt_book [.map (some r), .slice none 0 0] 2 (some (0, 0))) ∧ h r = some (.obj (.map es c)) ∧ TextsOf es ts ∧ S = [p, r] ∧ p ≠ r
theorem BookN.keep {h h' : Hp} {p : Nat} {ts : List (List Nat)} {S : List Nat} (a : BookN h p ts S) (k : ∀ b, b ∈ S → h' b = h b) : BookN h' p ts S := by
  obtain ⟨r, es, c, h1, h2, h3, rfl, h6⟩ := a
  exact ⟨r, es, c, by rw [k p (by simp)]; exact h1, by rw [k r (by simp)]; exact h2, h3, rfl, h6⟩
/-- The program's crypt. -/
def CrN (h : Hp) (vc : Value) (c : Cr) (S : List Nat) : Prop :=
  match c with
  | .real => vc = .iface t_crypt_actual (.agg #[]) ∧ S = []
  | .book ts bs => bs = [] ∧ ∃ p, vc = .iface t_Pt_crypt_book (.pointer (some ⟨p, 0, none⟩)) ∧ BookN h p ts S
theorem CrN.keep {h h' : Hp} {vc : Value} {c : Cr} {S : List Nat} (a : CrN h vc c S) (k : ∀ b, b ∈ S → h' b = h b) : CrN h' vc c S := by
  cases c with
  | real => exact a
  | book ts bs => exact let ⟨n, p, hp, hB⟩ := a; ⟨n, p, hp, hB.keep k⟩
theorem CrN.shape {h : Hp} {vc : Value} {c : Cr} {S : List Nat} (a : CrN h vc c S) : ∃ t v, vc = .iface t v := by
  cases c with
  | real => exact ⟨_, _, a.1⟩
  | book ts bs => exact let ⟨_, p, hp, _⟩ := a; ⟨_, _, hp⟩
theorem CrN.ext {R h h' : Hp} {vc : Value} {c : Cr} {S : List Nat} (a : CrN h vc c S) (w : Own R h S) (x : Hp.ext h h') : CrN h' vc c S := a.keep fun b hb => by
  obtain ⟨o, e⟩ := w.kn b hb
  rw [e, x b o e]
/-- The reference's crypt. -/
def RefN (R h : Hp) (p : Nat) (c : Cr) (S : List Nat) : Prop :=
  match c with
  | .real => h p = some (.row t_orlopref12_Crypt [.bool false, .slice none 0 0, .slice none 0 0] 3 (some (0, 0))) ∧ S = [p]
  | .book ts bs => bs = [] ∧ ∃ tx ws St, h p = some (.row t_orlopref12_Crypt [.bool true, tx, .slice none 0 0] 3 (some (0, 0))) ∧ OutAt t_Sl_uint8 1 h tx ws ts.length St ∧ PsV R ws ts ∧ S = p :: St ∧ p ∉ St ∧ ∀ t ∈ ts, t.length ≤ 1099511627776
theorem RefN.keep {R R' h h' : Hp} {p : Nat} {c : Cr} {S : List Nat} (a : RefN R h p c S) (e : Hp.ext R R') (k : ∀ b, b ∈ S → h' b = h b) : RefN R' h' p c S := by
  cases c with
  | real => exact ⟨by rw [k p (by rw [a.2]; simp)]; exact a.1, a.2⟩
  | book ts bs =>
    obtain ⟨n, tx, ws, St, a1, a2, a3, rfl, a5, a6⟩ := a
    exact ⟨n, tx, ws, St, by rw [k p (by simp)]; exact a1, a2.keep fun b hb => k b (by simp [hb]), a3.mono e.cle, rfl, a5, a6⟩
theorem RefN.ext {R R' h h' : Hp} {p : Nat} {c : Cr} {S : List Nat} (a : RefN R h p c S) (w : Own R h S) (e : Hp.ext R R') (x : Hp.ext h h') : RefN R' h' p c S := a.keep e fun b hb => by
  obtain ⟨o, eo⟩ := w.kn b hb
  rw [eo, x b o eo]
theorem refN_new {R h : Hp} (ideal : Bool) {r : Nat} : RefN R (h.set r (.row t_orlopref12_Crypt [.bool ideal, .slice none 0 0, .slice none 0 0] 3 (some (0, 0)))) r (cr0 ideal) [r] := by
  cases ideal
  · exact ⟨Hp.set_same .., rfl⟩
  · exact ⟨rfl, .slice none 0 0, [], [], Hp.set_same .., .inl ⟨rfl, rfl, rfl, rfl⟩, PsV.nil R, rfl, by simp, by simp⟩
section
variable {h : Hp} {K : Value → Hp → Prop}
theorem T_BookN {R : Hp} {S : List Nat} (w : Own R h S) (k : ∀ p h' S', BookN h' p [] S' → Own R h' S' → Stp R h R h' S S → (∀ b ∈ S', b ∉ S) → K (.iface t_Pt_crypt_book (.pointer (some ⟨p, 0, none⟩))) h') : Cn P n_crypt_Book #[] h K := by
  refine F_crypt_Book ?_
  unfold s_crypt_Book
  refine aw_makeMap fun r hr => ?_
  rw [bldBook]
  refine aw_box fun p hp => ?_
  rw [q_mkI u_Pt_crypt_book rfl]
  have hpr : p ≠ r := by rintro rfl; rw [Hp.set_same] at hp; cases hp
  have hp0 : h p = none := by rwa [Hp.set_ne _ _ hpr] at hp
  have hE : (Value.agg #[.map (some r), .slice none 0 0]).cells.toList = [.map (some r), .slice none 0 0] := rfl
  have hS : (Value.agg #[.map (some r), .slice none 0 0]).cells.size = 2 := rfl
  rw [hE, hS]
  have kp : ∀ x o, h x = some o → ((h.set r (.obj (.map #[] 0))).set p (.row t_crypt_book [.map (some r), .slice none 0 0] 2 (some (0, 0)))) x = some o := fun x o e => by
    rw [Hp.set_ne _ _ (by rintro rfl; rw [hp0] at e; cases e), Hp.set_ne _ _ (by rintro rfl; rw [hr] at e; cases e)]; exact e
  refine k p _ [p, r] ⟨r, #[], 0, Hp.set_same .., ?_, ⟨rfl, (by intro e he; simp at he), List.nodup_nil, (by intro t ht; cases ht), fun t _ => rfl⟩, rfl, hpr⟩ ⟨fun x o e => kp x o (w.sub x o e), fun b hb => ?_, fun b hb => ?_⟩
    ⟨.refl _, fun x o _ e => kp x o e, fun x o hn _ => hn, fun x o _ _ e => e, ⟨fun x o e => kp x o (w.sub x o e), w.dis, fun b hb => let ⟨o, e⟩ := w.kn b hb; ⟨o, kp b o e⟩⟩⟩ fun b hb hbS => ?_
  · rw [Hp.set_ne _ _ (Ne.symm hpr), Hp.set_same]
  · simp only [List.mem_cons, List.not_mem_nil, or_false] at hb
    rcases hb with rfl | rfl
    · exact w.sub.none hp0
    · exact w.sub.none hr
  · simp only [List.mem_cons, List.not_mem_nil, or_false] at hb
    rcases hb with rfl | rfl
    · exact ⟨_, Hp.set_same ..⟩
    · exact ⟨_, by rw [Hp.set_ne _ _ (Ne.symm hpr), Hp.set_same]⟩
  · simp only [List.mem_cons, List.not_mem_nil, or_false] at hb
    obtain ⟨o, e⟩ := w.kn b hbS
    rcases hb with rfl | rfl
    · rw [hp0] at e; cases e
    · rw [hr] at e; cases e
theorem T_RealN (k : K (.iface t_crypt_actual (.agg #[])) h) : Cn P n_crypt_Real #[] h K := T_Real k
theorem T_of27 {R : Hp} {S : List Nat} (ideal : Bool) (w : Own R h S) (k : ∀ v h' S', CrN h' v (cr0 ideal) S' → Own R h' S' → Stp R h R h' S S → (∀ b ∈ S', b ∉ S) → K v h') : Cn P n_orloplaw27_of #[.bool ideal] h K := by
  refine F_orloplaw27_of ?_
  unfold s_orloplaw27_of
  cases ideal with
  | true =>
    simp only [GL, if_true]
    exact T_BookN w fun p h1 S1 hB o1 s1 d => k _ h1 S1 ⟨rfl, p, rfl, hB⟩ o1 s1 d
  | false =>
    simp only [GL, Bool.false_eq_true, if_false]
    exact T_RealN (k _ h [] ⟨rfl, rfl⟩ w.nil (.refl w) fun b hb => by cases hb)
theorem T_bookN_Sum {R : Hp} {p : Nat} {ts : List (List Nat)} {S : List Nat} {vt : Value} {t : List Nat} (w : Own R h S) (hB : BookN h p ts S) (nt : ts.length ≤ 1000000)
    (ht : Rn R .u8 vt t) (bt : Bytes t)
    (k : ∀ v R' h', Stp R h R' h' S S → BookN h' p (textsOf ts t) S → Rn R' .u8 v (sumB (numOf ts t)) → K v h') :
    Cn P n_crypt_book_Sum #[.pointer (some ⟨p, 0, none⟩), vt] h K := by
  refine F_crypt_book_Sum ?_
  unfold s_crypt_book_Sum
  have hB0 := hB
  obtain ⟨r, es, c, hp, hr, hT, rfl, hpr⟩ := hB
  have c0 : h.cell ⟨p, 0, none⟩ = some (.map (some r)) := by rw [cell_row hp]; rfl
  simp (disch := omega) only [GL, RL, bf0, c0]
  rw [q_str (w.rn ht)]
  obtain ⟨hT1, hT2, hT3, hT4, hT5⟩ := hT
  rw [q_lookup u_map_string_int u_string bf0m hr hT2, hT5 t bt]
  -- the digest, of a number
  have tail : ∀ (n : Nat) (R1 h1 : Hp), n ≤ 1000000 → Stp R h R1 h1 [p, r] [p, r] → BookN h1 p (textsOf ts t) [p, r] → numOf ts t = n →
      aw P (Instr.makeSlice t_Sl_uint8 (Value.int .i64 32) (Value.int .i64 32)) (fun t32 h => aw P (Builtin.copy_ #[t_Sl_uint8, t_string] t_int #[t32, (Value.string ⟨#[83, 85, 77, 33]⟩)]) (fun t34 h => q P h (Instr.sliceAt t_Sl_uint8 t32 (some (Value.int .i64 24)) none none) fun t36 => q P h (convert t_int t_uint64 (.int .i64 (n : Int))) fun t38 => Cn P n_word_Big64 #[t38] h fun t39 h => peek P h (Instr.sliceAt t_Sl_uint8 t32 (some (Value.int .i64 24)) none none) = some t36 ∧ aw P (Builtin.copy_ #[t_Sl_uint8, t_Sl_uint8] t_int #[t36, t39]) (fun t40 h => K t32 h) h) h) h1 := by
    intro n R1 h1 hn st hB1 en
    refine aw_make (n := 32) (c := 32) u_Sl_uint8 nfo_uint8 rfl (by omega) (by omega) (by omega) fun t32 h2 n2 => ?_
    rw [replicate_nv] at n2
    obtain ⟨b, c, f, hb, hc, rfl, rfl, hf⟩ := n2.form (by omega)
    refine aw_copyS (ys := nv .u8 [83, 85, 77, 33]) (xs := nv .u8 (List.replicate 32 0)) u_Sl_uint8 z_uint8 (Hp.set_same ..) (by kernel_rfl) (nv_flat _ _) (by show (4 : Nat) ≤ 32; omega) rfl (by simp [nv_len]) (fun i hi => hf i (by simp [nv_len] at hi; omega)) ?_
    rw [Hp.set_set]
    have esl : ∀ H : Hp, peek P H (Instr.sliceAt t_Sl_uint8 (.slice (some ⟨b, 0, none⟩) 32 c) (some (.int .i64 24)) none none) = some (.slice (some ⟨b, 24, none⟩) (32 - 24) (c - 24)) := fun H => by
      have hcut : SL.cut (some ⟨b, 0, none⟩) c 24 1 = some ⟨b, 24, none⟩ := by
        unfold SL.cut
        rw [if_neg (by omega), Option.map_some, add_off]
      obtain ⟨x, hx, e⟩ := withVal_elim (K := fun x => x = .slice (some ⟨b, 24, none⟩) (32 - 24) (c - 24)) ((q_slLo (P := P) (h := H) (K := fun x => x = .slice (some ⟨b, 24, none⟩) (32 - 24) (c - 24)) u_Sl_uint8 z_uint8 (some ⟨b, 0, none⟩) 32 c .i64 24 (by omega) (by omega)).mpr (by rw [hcut]))
      rw [e] at hx
      exact hx
    rw [q_of (esl _)]
    simp (disch := omega) only [GL, RL, wu64i]
    refine T_word_Big64 n (by omega) fun t39 h3 n3 => ?_
    refine ⟨esl _, ?_⟩
    obtain ⟨ys, hys⟩ : ∃ ys, putL (nv .u8 (List.replicate 32 0)) 0 (nv .u8 [83, 85, 77, 33]) = ys := ⟨_, rfl⟩
    have eys : ys = nv .u8 ([83, 85, 77, 33] ++ List.replicate 28 0) := by rw [← hys]; rfl
    rw [hys] at n3
    have hb3 := n3.ext _ _ (Hp.set_same ..)
    have r3 : Rds h3 1 t39 (nv .u8 (bg 8 n)) 8 := by have := n3.rn; unfold Rn at this; rwa [bg_len] at this
    refine aw_copy u_Sl_uint8 z_uint8 hb3 r3 (nv_flat _ _) (by omega) (by rw [eys, nv_len]; simp) (fun i hi => hf i (by rw [eys, nv_len] at hi; simp at hi; omega)) ?_
    have e2 : putL ys 24 (nv .u8 (bg 8 n)) = nv .u8 (sumB n) := by
      rw [eys, putL_nv _ _ _ (by rw [bg_len]; simp)]
      congr 1
    rw [e2]
    -- all in one: a new row
    have hbR : R1 b = none := st.own.sub.none hb
    obtain ⟨R2, s2, r2⟩ := Stp.newN (v := .slice (some ⟨b, 0, none⟩) 32 c) (k := .u8) (l := sumB n) (h' := h1.set b (.row t_uint8 (nv .u8 (sumB n)) (c * 1) (some f))) (t := t_uint8) st.own (by
      unfold Nn
      exact ⟨by simp [nv_len, sumB, bg_len], .inr ⟨b, c, f, hb, hc, by simp [sumB, bg_len], rfl, hf⟩⟩)
    have hne : ∀ x o, h1 x = some o → x ≠ b := fun x o e => by rintro rfl; rw [hb] at e; cases e
    have xx : Hp.ext (h1.set b (.row t_uint8 (nv .u8 (sumB n)) (c * 1) (some f))) (h3.set b (.row t_uint8 (nv .u8 (sumB n)) (c * 1) (some f))) := fun x o e => by
      by_cases q : x = b
      · subst q; rw [Hp.set_same] at e ⊢; exact e
      · rw [Hp.set_ne _ _ q] at e ⊢
        exact n3.ext _ _ (by rw [Hp.set_ne _ _ q]; exact e)
    have s3 : Stp R2 (h1.set b (.row t_uint8 (nv .u8 (sumB n)) (c * 1) (some f))) R2 (h3.set b (.row t_uint8 (nv .u8 (sumB n)) (c * 1) (some f))) [p, r] [p, r] :=
      ⟨.refl _, fun x o _ e => xx x o e, fun x o n _ => n, fun x o _ _ e => e, ⟨s2.own.sub.trans xx, s2.own.dis, fun x hx => let ⟨o, e⟩ := s2.own.kn x hx; ⟨o, xx x o e⟩⟩⟩
    have sa := (st.trans s2).trans s3
    refine k _ R2 _ sa (hB1.keep fun x hx => ?_) (by rw [en]; exact r2)
    obtain ⟨o, e⟩ := st.own.kn x hx
    rw [e]
    exact xx x o (by rw [Hp.set_ne _ _ (hne x o e)]; exact e)
  cases e : ts.idxOf? t with
  | some i =>
    simp (disch := omega) only [GL, RL, Option.map_some, Option.isSome_some, Bool.not_true, Bool.false_eq_true, if_false, Option.getD_some]
    have ni : numOf ts t = i := by unfold numOf; rw [e]; rfl
    have hle := numOf_le ts t
    have et : textsOf ts t = ts := by unfold textsOf; rw [e]; rfl
    exact tail i R h (by omega) (.refl w) (by rw [et]; exact hB0) ni
  | none =>
    simp (disch := omega) only [GL, RL, Option.map_none, Option.isSome_none, Bool.not_false, if_true, bf0, c0]
    have ni : numOf ts t = ts.length := by unfold numOf; rw [e]; rfl
    have et : textsOf ts t = ts ++ [t] := by unfold textsOf; rw [e]; rfl
    rw [q_lenM u_map_string_int hr]
    rw [q_str (w.rn ht)]
    refine aw_mapNew u_map_string_int u_string hr hT2 (strL t) _ (by rw [hT5 t bt, e]; rfl) ?_
    rw [hT1]
    have kpR : ∀ x o, R x = some o → x ≠ r := fun x o ex => by rintro rfl; rw [w.dis x (by simp)] at ex; cases ex
    have st1 : Stp R h R (h.set r (.obj (.map (es.push ⟨.string (strL t), .int .i64 (ts.length : Int), c⟩) (c + 1)))) [p, r] [p, r] := by
      refine ⟨.refl _, fun x o hx ex => ?_, fun x o n _ => n, fun x o _ _ e => e, ⟨fun x o ex => ?_, w.dis, fun x hx => ?_⟩⟩
      · rw [Hp.set_ne _ _ (by rintro rfl; exact hx (by simp))]; exact ex
      · rw [Hp.set_ne _ _ (kpR x o ex)]; exact w.sub x o ex
      · by_cases q : x = r
        · subst q; exact ⟨_, Hp.set_same ..⟩
        · rw [Hp.set_ne _ _ q]; exact w.kn x hx
    refine tail ts.length R _ nt st1 ?_ ni
    rw [et]
    refine ⟨r, _, c + 1, by rw [Hp.set_ne _ _ hpr]; exact hp, Hp.set_same .., ⟨by simp [hT1], strKeys_push hT2 _ _ _, ?_, ?_, fun x bx' => ?_⟩, rfl, hpr⟩
    · rw [List.nodup_append]
      refine ⟨hT3, by simp, fun a ha b hb => ?_⟩
      rw [List.mem_singleton] at hb
      subst hb
      rintro rfl
      rw [List.idxOf?_eq_none_iff] at e
      exact e ha
    · intro x hx
      rcases List.mem_append.1 hx with q | q
      · exact hT4 x q
      · rw [List.mem_singleton.1 q]; exact bt
    · rw [mget_push hT2, hT5 x bx', idxOf_snoc, strL_beq bx' bt]
      cases ts.idxOf? x with
      | some i => rfl
      | none =>
        simp only [Option.map_none, Option.none_or, decide_eq_true_eq]
        by_cases q : x = t
        · rw [if_pos q, if_pos q, hT1]; rfl
        · rw [if_neg q, if_neg q]; rfl
theorem T_sumN {R : Hp} {vc : Value} {c : Cr} {S : List Nat} {vt : Value} {t : List Nat} (w : Own R h S) (hC : CrN h vc c S) (hf : fewT 1000000 c) (ht : Rn R .u8 vt t) (bt : Bytes t) (lt : t.length ≤ 1099511627776)
    (k : ∀ v R' h', Stp R h R' h' S S → CrN h' vc (crSum c t).2 S → Rn R' .u8 v (crSum c t).1 → K v h') : aw P (callMethod vc "Sum" #[vt]) (nextP P K) h := by
  cases c with
  | real =>
    obtain ⟨rfl, rfl⟩ := hC
    refine aw_method (g := n_crypt_actual_Sum) (r := .agg #[]) (by kernel_rfl) ?_
    show Cn P n_crypt_actual_Sum #[.agg #[], vt] h K
    refine F_crypt_actual_Sum ?_
    unfold s_crypt_actual_Sum
    refine aw_box fun r hr => ?_
    have s0 := Stp.block (.row t_crypt_actual (Value.agg #[]).cells.toList (Value.agg #[]).cells.size (some (0, 0))) w hr
    generalize h.set r (.row t_crypt_actual (Value.agg #[]).cells.toList (Value.agg #[]).cells.size (some (0, 0))) = M at s0
    generalize R.set r (.row t_crypt_actual (Value.agg #[]).cells.toList (Value.agg #[]).cells.size (some (0, 0))) = R0 at s0
    refine T_shaOf (s0.own.rn (ht.mono s0.ext.cle)) bt lt fun v h1 n1 => ?_
    obtain ⟨R1, s1, r1⟩ := Stp.newN s0.own n1
    exact k v R1 h1 (s0.trans s1) ⟨rfl, rfl⟩ r1
  | book ts bs =>
    obtain ⟨nb, p, rfl, hB⟩ := hC
    refine aw_method (g := n_crypt_book_Sum) (r := .pointer (some ⟨p, 0, none⟩)) (by kernel_rfl) ?_
    show Cn P n_crypt_book_Sum #[.pointer (some ⟨p, 0, none⟩), vt] h K
    exact T_bookN_Sum w hB hf ht bt fun v R' h' s' hB' r' => k v R' h' s' ⟨nb, p, rfl, hB'⟩ r'
theorem T_refN_Sum {R : Hp} {p : Nat} {c : Cr} {S : List Nat} {vt : Value} {t : List Nat} (w : Own R h S) (hC : RefN R h p c S) (hf : fewT 1000000 c) (ht : Rn R .u8 vt t) (bt : Bytes t) (lt : t.length ≤ 1099511627776)
    (k : ∀ v R' h' S', Stp R h R' h' S S' → RefN R' h' p (crSum c t).2 S' → Rn R' .u8 v (crSum c t).1 → K v h') : Cn P n_orlopref12_Crypt_Sum #[.pointer (some ⟨p, 0, none⟩), vt] h K := by
  refine F_orlopref12_Crypt_Sum ?_
  unfold s_orlopref12_Crypt_Sum
  cases c with
  | real =>
    have c0 : h.cell ⟨p, 0, none⟩ = some (.bool false) := by rw [cell_row hC.1]; rfl
    refine (q_nil _).mpr ?_
    refine (rf0 p).mpr ?_
    refine (q_ld u_bool rfl _).mpr ?_
    refine withVal_of c0 ?_
    refine (q_not _).mpr ?_
    refine (cnd_bool _ _ _).mpr ?_
    rw [if_pos (show (!false) = true from rfl)]
    refine T_ref_shaOf (w.rn ht) bt lt fun v h1 n1 => ?_
    obtain ⟨R1, s1, r1⟩ := Stp.newN w n1
    exact k v R1 h1 S s1 (RefN.ext (c := .real) hC w s1.ext n1.ext) r1
  | book ts bs =>
    obtain ⟨nb, tx, ws, St, hp, hO, hP, rfl, hnS, hlt⟩ := hC
    subst nb
    have hdj : ∀ x, x ∈ St → x ∉ [p] := fun x hx q => by rw [List.mem_singleton.1 q] at hx; exact hnS hx
    have nt : ts.length ≤ 1000000 := hf
    have c0 : h.cell ⟨p, 0, none⟩ = some (.bool true) := by rw [cell_row hp]; rfl
    have c1 : h.cell ⟨p, 1, none⟩ = some tx := by rw [cell_row hp]; rfl
    have fin : ∀ (n : Nat) (ts' : List (List Nat)) (RA hA : Hp) (SA : List Nat), n ≤ 1000000 → numOf ts t = n → textsOf ts t = ts' → Stp R h RA hA ([p] ++ St) SA → RefN RA hA p (.book ts' []) SA →
        aw P (Instr.buildSlice t_Sl_uint8 4 #[(0, (Value.int .u8 83)), (1, (Value.int .u8 85)), (2, (Value.int .u8 77)), (3, (Value.int .u8 33))]) (fun t53 h => aw P (convert t_Sl_uint8 t_Sl_uint8 t53) (fun t54 h => aw P (Builtin.append_ #[t_Sl_uint8, t_int] t_Sl_uint8 #[t54, (Value.int .i64 20)]) (fun t55 h => Cn P n_orlopref12_big #[.int .i64 (n : Int)] h fun t57 h => aw P (Builtin.append_ #[t_Sl_uint8, t_Sl_uint8] t_Sl_uint8 #[t55, t57]) (fun t58 h => K t58 h) h) h) h) hA := by
      intro n ts' RA hA SA hn en et sA cA
      refine aw_lit (ps := [(0, .int .u8 83), (1, .int .u8 85), (2, .int .u8 77), (3, .int .u8 33)]) u_Sl_uint8 z_uint8 zr_uint8 rfl (by omega) (by intro p hp; simp only [List.mem_cons, List.not_mem_nil, or_false] at hp; rcases hp with rfl | rfl | rfl | rfl <;> exact ⟨rfl, by simp⟩) fun x h2 _ hx => ?_
      obtain ⟨rb, hrb, rfl, rfl⟩ := hx
      refine aw_mark hrb rfl fun h3 n3 => ?_
      have n3' : New hA t_uint8 1 (.slice (some ⟨rb, 0, none⟩) 4 4) h3 (nv .u8 [83, 85, 77, 33]) 4 := n3
      refine aw_grow (m := 20) u_Sl_uint8 u_int nfo_uint8 rfl rfl (by omega) n3' (by omega) (.refl _) fun v55 h4 n4 => ?_
      refine T_ref_big12 n (by omega) fun v57 h5 n5 => ?_
      refine aw_appendN u_Sl_uint8 u_Sl_uint8 nfo_uint8 rfl (by omega) n4 n5 (nv_flat _ _) (by rw [bg_len]; omega) fun v58 h6 n6 => ?_
      have n6' : Nn hA t_uint8 .u8 v58 h6 (sumB n) := by
        unfold Nn
        rw [bg_len] at n6
        have e : nv .u8 (sumB n) = nv .u8 [83, 85, 77, 33] ++ List.replicate 20 (Value.int .u8 0) ++ nv .u8 (bg 8 n) := by
          unfold sumB
          rw [nv_app, nv_app]
          rfl
        have el : (sumB n).length = 4 + 20 + 8 := by simp [sumB, bg_len]
        rw [e, el]
        exact n6
      obtain ⟨R6, s6, r6⟩ := Stp.newN sA.own n6'
      refine k v58 R6 h6 SA (sA.trans s6) ?_ (by simp only [crSum, en]; exact r6)
      simp only [crSum, et]
      refine cA.keep s6.ext fun b hb => ?_
      obtain ⟨o, e⟩ := sA.own.kn b hb
      rw [e, n6'.ext _ _ e]
    refine (q_nil _).mpr ?_
    refine (rf0 p).mpr ?_
    refine (q_ld u_bool rfl _).mpr ?_
    refine withVal_of c0 ?_
    refine (q_not _).mpr ?_
    refine (cnd_bool _ _ _).mpr ?_
    rw [if_neg (by decide)]
    intro J6
    obtain ⟨_, a1, n1, et1, hn1, hc1⟩ := hO.rds
    have lnx : ∀ {h : Hp} {K : Value → Prop}, q P h (Builtin.len_ #[t_Sl_Sl_uint8] t_int #[tx]) K = K (.int .i64 ts.length) := fun {h K} => by rw [et1]; exact q_lenS u_Sl_Sl_uint8 _ _ _
    have p6 : ∀ i : Nat, i ≤ ts.length → (∀ j, j < i → ts.getD j [] ≠ t) → (i = ts.length ∨ ts.getD i [] = t) → J6 (.int .i64 (i : Int)) h := by
      intro i hi hb he
      obtain ⟨en, et⟩ := numOf_at hi hb he
      unfold J6
      clear J6
      intro J10
      simp -zeta (disch := omega) only [GL, RL, rf1, c1, lnx]
      have ei : (((i : Nat) : Int) == ((ts.length : Nat) : Int)) = decide (i = ts.length) := by rw [Bool.eq_iff_iff, beq_iff_eq, decide_eq_true_eq]; omega
      rw [ei]
      by_cases hil : i = ts.length
      case neg =>
        simp -zeta only [hil, decide_false, Bool.false_eq_true, if_false]
        rw [if_neg hil] at et
        exact fin i ts R h _ (by omega) en et (.refl w) ⟨rfl, tx, ws, St, hp, hO, hP, rfl, hnS, hlt⟩
      subst hil
      rw [if_pos rfl] at et
      simp -zeta only [decide_true, if_true]
      have pkT : ∀ {H : Hp}, Hp.ext h H → peek P H (Instr.loadAt t_Sl_Sl_uint8 (.pointer (some ⟨p, 1, none⟩))) = some tx := fun x => pk_ldSl (x.cle _ _ c1)
      have G0 : Got R h h [] := ⟨.refl _, fun q hq => by cases hq⟩
      refine got_nil fun r => ⟨pkT (.refl _), prf1 p, ?_⟩
      refine got_app G0 w ht lt fun v48 H1 G1 => ⟨pkT G1.1, prf1 p, ?_⟩
      have r48 := G1.2 (v48, t) (by simp)
      dsimp only at r48
      refine aw_lit (ps := [(0, v48)]) (n := 1) u_Sl_Sl_uint8 z_Sl_uint8 zr_Sl_uint8 rfl (by omega) (by intro p hp; rw [List.mem_singleton.1 hp]; exact ⟨rn_flat r48, by show _ < 1; omega⟩) fun v49 H2 n2 _ => ?_
      have n2' : New H1 t_Sl_uint8 1 v49 H2 [v48] 1 := n2
      have x2 := G1.1.trans n2'.ext
      refine ⟨pkT x2, prf1 p, ?_⟩
      have st1 := sin_stp w G1.1
      obtain ⟨R3, s3, q3⟩ := Stp.new st1.own n2'
      have ownSt : Own R3 H2 St := s3.own.sub' fun z hz => List.mem_cons_of_mem _ hz
      have hO2 : OutAt t_Sl_uint8 1 H2 tx ws ts.length St := hO.keep fun z hz => by
        obtain ⟨o, e⟩ := w.kn z (List.mem_cons_of_mem _ hz)
        rw [e, x2 _ _ e]
      refine aw_appendO u_Sl_Sl_uint8 u_Sl_Sl_uint8 nfo_Sl_uint8 rfl (by omega) hO2 n2'.rds (by intro y hy; rw [List.mem_singleton.1 hy]; exact rn_flat r48) (by omega) fun v50 h4 St' O4 kp4 fr4 => ?_
      have s4 := OutAt.step ownSt O4 kp4 fr4
      have hp3 := x2 _ _ hp
      have hpSt : p ∉ St := fun q => hdj p q (by simp)
      have hp4 := kp4 p _ hpSt hp3
      have pS' : p ∉ St' := fr4 p _ hpSt hp3
      have f50 : flat v50 = true := O4.rds.2.elim fun a q => by obtain ⟨c, e, _⟩ := q; rw [e]; rfl
      refine aw_store z_Sl_Sl_uint8 f50 (put_row hp4 (by simp) (by simp) _) ?_
      obtain ⟨h5, hh5⟩ : ∃ h5, h4.set p (.row t_orlopref12_Crypt ([Value.bool true, tx, .slice none 0 0].set 1 v50) 3 (some (0, 0))) = h5 := ⟨_, rfl⟩
      rw [hh5]
      have k5 : ∀ x o, x ≠ p → x ∉ St → H2 x = some o → h5 x = some o := fun x o h1 h2 e => by
        rw [← hh5, Hp.set_ne _ _ h1]
        exact kp4 x o h2 e
      have st5 : Stp R3 H2 R3 h5 ([p] ++ St) ([p] ++ St') := by
        refine ⟨.refl _, fun x o hx e => ?_, fun x o hx e => ?_, fun x o _ _ e => e, ⟨fun x o e => ?_, fun x hx => ?_, fun x hx => ?_⟩⟩
        · simp only [List.cons_append, List.mem_cons, List.mem_append, not_or] at hx
          exact k5 x o hx.1 hx.2.2 e
        · simp only [List.cons_append, List.mem_cons, List.mem_append, not_or] at hx ⊢
          exact ⟨hx.1, hx.2.1, fr4 x o hx.2.2 e⟩
        · refine k5 x o (fun q => ?_) (fun q => ?_) (s3.own.sub x o e)
          · rw [q, s3.own.dis p (by simp)] at e; cases e
          · rw [s3.own.dis x (List.mem_cons_of_mem _ q)] at e; cases e
        · rcases List.mem_append.1 hx with g | g
          · exact s3.own.dis x (List.mem_append_left _ g)
          · exact s4.own.dis x g
        · rcases List.mem_append.1 hx with g | g
          · rw [List.mem_singleton.1 g]; exact ⟨_, by rw [← hh5]; exact Hp.set_same ..⟩
          · obtain ⟨o, e⟩ := s4.own.kn x g
            exact ⟨o, by rw [← hh5, Hp.set_ne _ _ (show x ≠ p from fun q => by rw [q] at g; exact pS' g)]; exact e⟩
      have up : Hp.cle R R3 := (st1.trans s3).ext.cle
      refine fin ts.length (ts ++ [t]) R3 h5 _ nt en et ((st1.trans s3).trans st5) ⟨rfl, v50, ws ++ [v48], St', by rw [← hh5]; exact Hp.set_same .., ?_, (hP.mono up).app (PsV.one (r48.mono s3.ext.cle)), rfl, pS', fun z hz => ?_⟩
      · have : OutAt t_Sl_uint8 1 h5 v50 (ws ++ [v48]) (ts.length + 1) St' := O4.keep fun z hz => by rw [← hh5, Hp.set_ne _ _ (by rintro rfl; exact pS' hz)]
        rw [List.length_append]; exact this
      · rcases List.mem_append.1 hz with g | g
        · exact hlt z g
        · rw [List.mem_singleton.1 g]; exact lt
    clear_value J6
    refine Lp_mk (fun m vs h' => ∃ i : Nat, i + m = ts.length ∧ h' = h ∧ (∀ j, j < i → ts.getD j [] ≠ t) ∧ vs = [.int .i64 (i : Int)]) ts.length ⟨0, by omega, rfl, fun j hj => by omega, rfl⟩ ?_
    rintro m vs h' ⟨i, hi, rfl, hb, rfl⟩
    have ell : decide (((i : Nat) : Int) < ((ts.length : Nat) : Int)) = decide (i < ts.length) := lt_dec _ _
    simp -zeta (disch := omega) only [GL, RL, rf1, c1, lnx, ell]
    by_cases hlti : i < ts.length
    case neg =>
      simp -zeta only [hlti, decide_false, Bool.false_eq_true, if_false]
      exact p6 i (by omega) hb (.inl (by omega))
    simp -zeta only [hlti, decide_true, if_true]
    obtain ⟨y, ey, ry⟩ := hP.2 i (ts.getD i []) (by simp [List.getD_eq_getElem?_getD, hlti])
    rcases hc1 with q0 | ⟨b1, o1, rfl, hc1⟩
    · omega
    subst et1
    have cy := hc1 i y ey
    simp -zeta (disch := omega) only [GL, RL, cy]
    have lgi : (ts.getD i []).length ≤ 1099511627776 := hlt _ (by rw [List.getD_eq_getElem?_getD, List.getElem?_eq_getElem hlti]; exact List.getElem_mem hlti)
    refine T_orlopref01_Equal (w.rn ry) (w.rn ht) (by omega) ?_
    by_cases he : ts.getD i [] = t
    · simp -zeta (disch := omega) only [he, decide_true, GL, RL, Bool.not_true, Bool.false_eq_true, if_false]
      exact p6 i (by omega) hb (.inr he)
    · simp -zeta (disch := omega) only [he, decide_false, GL, RL, Bool.not_false, if_true, wi64]
      refine ⟨h', .refl _, m - 1, by omega, i + 1, by omega, rfl, fun j hj => ?_, rfl⟩
      by_cases q : j = i
      · rw [q]; exact he
      · exact hb j (by omega)
end
end Go.Proofs.YtlkhmddmdmlffaaGreatDoor
set_option linter.unusedSimpArgs false
set_option linter.unusedVariables false
set_option maxRecDepth 100000
namespace Go.Proofs.YtlkhmddmdmlffaaGreatDoor
open Go Go.SL Go.Pure
section
variable {h : Hp} {K : Value → Hp → Prop}
/-- An empty row of bytes. -/
theorem aw_nilB (k : ∀ v h', Nn h t_uint8 .u8 v h' [] → K v h') : aw P (Instr.buildSlice t_Sl_uint8 0 #[]) K h :=
  aw_lit (ps := []) (n := 0) u_Sl_uint8 z_uint8 zr_uint8 rfl (by omega) (by intro p hp; cases hp) fun v h' n _ => k v h' n
/-- Appended to. -/
theorem aw_appB {base : Hp} {v w : Value} {xs ys : List Nat} (n : Nn base t_uint8 .u8 v h xs) (r : Rn h .u8 w ys) (l : xs.length + ys.length ≤ 70368744177664) (k : ∀ v' h', Nn base t_uint8 .u8 v' h' (xs ++ ys) → K v' h') :
    aw P (Builtin.append_ #[t_Sl_uint8, t_Sl_uint8] t_Sl_uint8 #[v, w]) K h :=
  aw_append u_Sl_uint8 u_Sl_uint8 nfo_uint8 rfl (by omega) n r (nv_flat _ _) (by omega) (.refl _) fun v' h' n' => k v' h' (by
    show New base t_uint8 1 v' h' (nv .u8 (xs ++ ys)) (xs ++ ys).length
    rw [nv_app, List.length_append]
    exact n')
/-- Appended to: a row that was made just ahead, and is forgotten. -/
theorem aw_appF {base h1 : Hp} {v w : Value} {xs ys : List Nat} (n : Nn base t_uint8 .u8 v h1 xs) (r : Nn h1 t_uint8 .u8 w h ys) (l : xs.length + ys.length ≤ 70368744177664) (k : ∀ v' h', Nn base t_uint8 .u8 v' h' (xs ++ ys) → K v' h') :
    aw P (Builtin.append_ #[t_Sl_uint8, t_Sl_uint8] t_Sl_uint8 #[v, w]) K h :=
  aw_appendN u_Sl_uint8 u_Sl_uint8 nfo_uint8 rfl (by omega) n r (nv_flat _ _) (by omega) fun v' h' n' => k v' h' (by
    show New base t_uint8 1 v' h' (nv .u8 (xs ++ ys)) (xs ++ ys).length
    rw [nv_app, List.length_append]
    exact n')
theorem aw_appO {v w : Value} {xs ys : List Nat} {S : List Nat} (o : OutAt t_uint8 1 h v (nv .u8 xs) xs.length S) (r : Rn h .u8 w ys) (l : xs.length + ys.length ≤ 70368744177664)
    (k : ∀ v' h' S', OutAt t_uint8 1 h' v' (nv .u8 (xs ++ ys)) (xs ++ ys).length S' → (∀ b o, b ∉ S → h b = some o → h' b = some o) → (∀ b o, b ∉ S → h b = some o → b ∉ S') → K v' h') :
    aw P (Builtin.append_ #[t_Sl_uint8, t_Sl_uint8] t_Sl_uint8 #[v, w]) K h :=
  aw_appendO u_Sl_uint8 u_Sl_uint8 nfo_uint8 rfl (by omega) o r (nv_flat _ _) (by omega) fun v' h' S' o' kp fr => k v' h' S' (by rw [nv_app, List.length_append]; exact o') kp fr
/-- A base that stays, while a row beside it grows. -/
def Bs (base h : Hp) (S : List Nat) : Prop := Hp.ext base h ∧ ∀ b, b ∈ S → base b = none
theorem Bs.step {base h h' : Hp} {S S' : List Nat} (a : Bs base h S) (kp : ∀ b o, b ∉ S → h b = some o → h' b = some o) (fr : ∀ b o, b ∉ S → h b = some o → b ∉ S') : Bs base h' S' := by
  refine ⟨fun b o e => kp b o (fun hb => ?_) (a.1 _ _ e), fun b hb => ?_⟩
  · rw [a.2 b hb] at e; cases e
  · cases e : base b with
    | none => rfl
    | some o => exact absurd hb (fr b o (fun hs => by rw [a.2 b hs] at e; cases e) (a.1 _ _ e))
theorem Bs.ext {base h h' : Hp} {S : List Nat} (a : Bs base h S) (x : Hp.ext h h') : Bs base h' S := ⟨a.1.trans x, a.2⟩
end
end Go.Proofs.YtlkhmddmdmlffaaGreatDoor
set_option linter.unusedSimpArgs false
set_option linter.unusedVariables false
set_option maxRecDepth 100000
namespace Go.SL
open Go
theorem baToList (s : ByteArray) : s.toList = s.data.toList := by
  have key : ∀ (n i : Nat) (r : List UInt8), s.size - i = n → i ≤ s.size → ByteArray.toList.loop s i r = r.reverse ++ s.data.toList.drop i := by
    intro n
    induction n with
    | zero =>
      intro i r h h2
      rw [ByteArray.toList.loop.eq_def, if_neg (by omega), List.drop_of_length_le (by rw [Array.length_toList]; show s.size ≤ i; omega)]
      simp
    | succ n ih =>
      intro i r h h2
      have hlt : i < s.data.toList.length := by rw [Array.length_toList]; show i < s.size; omega
      rw [ByteArray.toList.loop.eq_def, if_pos (by omega), ih (i + 1) _ (by omega) (by omega), List.drop_eq_getElem_cons hlt]
      have : s.get! i = s.data.toList[i] := by
        show s.data[i]! = _
        rw [getElem!_pos s.data i (by show i < s.size; omega)]
        simp
      rw [this]
      simp
  have := key s.size 0 [] (by omega) (by omega)
  show ByteArray.toList.loop s 0 [] = _
  rw [this]
  simp
theorem strL_data (l : List Nat) : (strL l).data.toList = l.map UInt8.ofNat := by
  have key : ∀ (l : List Nat) (s : ByteArray), (l.foldl (fun s x => s.push (UInt8.ofNat x)) s).data.toList = s.data.toList ++ l.map UInt8.ofNat := by
    intro l
    induction l with
    | nil => intro s; simp
    | cons x l ih =>
      intro s
      rw [List.foldl_cons, ih]
      show (s.data.push (UInt8.ofNat x)).toList ++ _ = _
      simp
  have := key l ByteArray.empty
  simpa [strL] using this
theorem u8_inj {l m : List Nat} (hl : ∀ x ∈ l, x < 256) (hm : ∀ x ∈ m, x < 256) (e : l.map UInt8.ofNat = m.map UInt8.ofNat) : l = m := by
  induction l generalizing m with
  | nil => cases m with
    | nil => rfl
    | cons y m => cases e
  | cons x l ih => cases m with
    | nil => cases e
    | cons y m =>
      simp only [List.map_cons, List.cons.injEq] at e
      have hx := hl x (List.mem_cons_self ..)
      have hy := hm y (List.mem_cons_self ..)
      have : x = y := by
        have := congrArg UInt8.toNat e.1
        simpa [UInt8.toNat_ofNat', Nat.mod_eq_of_lt hx, Nat.mod_eq_of_lt hy] using this
      rw [this, ih (fun z hz => hl z (List.mem_cons_of_mem _ hz)) (fun z hz => hm z (List.mem_cons_of_mem _ hz)) e.2]
theorem strL_inj {l m : List Nat} (hl : ∀ x ∈ l, x < 256) (hm : ∀ x ∈ m, x < 256) (e : strL l = strL m) : l = m := by
  have := congrArg (fun s : ByteArray => s.data.toList) e
  simp only [strL_data] at this
  exact u8_inj hl hm this
theorem ba_listEq (a b : ByteArray) : (a.toList == b.toList) = decide (a = b) := by
  rw [baToList, baToList, Bool.eq_iff_iff, beq_iff_eq, decide_eq_true_eq]
  constructor
  · intro e
    cases a; cases b
    simp only [Array.toList_inj] at e
    rw [e]
  · intro e; rw [e]
section
variable {P : Program}
end
end Go.SL
set_option linter.unusedSimpArgs false
set_option linter.unusedVariables false
set_option maxRecDepth 100000
namespace Go.SL
open Go Go.Pure
/-- A text's bytes. -/
def sL (s : ByteArray) : List Nat := s.data.toList.map (·.toNat)
theorem ba_ext {a b : ByteArray} (h : a.data.toList = b.data.toList) : a = b := by
  cases a; cases b
  simp only [Array.toList_inj] at h
  rw [h]
theorem strL_size (l : List Nat) : (strL l).size = l.length := by
  show (strL l).data.size = _
  rw [← Array.length_toList, strL_data, List.length_map]
theorem strL_sL (s : ByteArray) : strL (sL s) = s := by
  refine ba_ext ?_
  rw [strL_data, sL, List.map_map]
  conv => rhs; rw [← List.map_id s.data.toList]
  refine List.map_congr_left fun x _ => ?_
  simp
theorem sL_bytes (s : ByteArray) : Bytes (sL s) := fun x hx => by
  obtain ⟨y, _, rfl⟩ := List.mem_map.1 hx
  exact y.toNat_lt
theorem sL_len (s : ByteArray) : (sL s).length = s.size := by
  rw [sL, List.length_map, Array.length_toList]; rfl
section
variable {P : Program} {h : Hp} {K : Value → Prop}
theorem eqD {a b : List Nat} (ha : Bytes a) (hb : Bytes b) : ((strL a).toList == (strL b).toList) = decide (a = b) := by
  rw [ba_listEq, decide_eq_decide]
  exact ⟨strL_inj ha hb, fun e => by rw [e]⟩
theorem q_neqSt {t : TypeId} (x y : Operand) {a b : List Nat} (ha : Bytes a) (hb : Bytes b) : q P h (eqop .neq t x y (.string (strL a)) (.string (strL b))) K = K (.bool (!decide (a = b))) := q_of (by
  unfold eqop
  rw [peek_bind]
  have : peek P h (eqGuard .neq t x y (.string (strL a)) (.string (strL b))) = some () := by
    rfl
  rw [this, Option.bind_some, ← eqD ha hb]
  rfl) K
/-- A text as a new row of bytes. -/
theorem aw_stB {src t e : TypeId} {KK : Value → Hp → Prop} (hs : P.underlying src = some .string) (ht : P.underlying t = some (.slice e)) (he : P.underlying e = some (.int .u8)) {l : List Nat} (hb : Bytes l)
    (k : ∀ v h', New h e 1 v h' (nv .u8 l) l.length → KK v h') : aw P (convert src t (.string (strL l))) KK h := by
  show awp P (Sem.bind (underlying src) _) _ h
  rw [awp_bind, peek_awp P _ _ _ (pk_und hs)]
  show awp P (Sem.bind (underlying t) _) _ h
  rw [awp_bind, peek_awp P _ _ _ (pk_und ht)]
  show awp P (Sem.bind (underlying e) _) _ h
  rw [awp_bind, peek_awp P _ _ _ (pk_und he)]
  show awp P (Conv.stringToBytes e (strL l)) _ h
  unfold Conv.stringToBytes
  show awp P (Sem.choose (.appendCap (strL l).size 0 e) _) _ h
  simp only [awp]
  rw [if_neg (by simp [Question.forced])]
  intro tt
  obtain ⟨c, hc, hcl⟩ : ∃ c, (Question.appendCap (strL l).size 0 e).cut tt = c ∧ l.length ≤ c := ⟨_, rfl, by simp only [Question.cut, strL_size]; omega⟩
  rw [hc]
  have e0 : ((strL l).data.map fun b => Value.int .u8 (b.toNat : Int)) = (nv .u8 l).toArray := by
    apply Array.ext'
    rw [Array.toList_map, strL_data, List.map_map]
    unfold nv
    refine List.map_congr_left fun x hx => ?_
    have := hb x hx
    simp [UInt8.toNat_ofNat', Nat.mod_eq_of_lt (show x < 2 ^ 8 by omega)]
  show awp P (Sem.new (.cells (((strL l).data.map fun b => Value.int .u8 (b.toNat : Int)) ++ Array.replicate (c - (strL l).size) (.int .u8 0)) e (0, 0)) _) _ h
  rw [e0, strL_size]
  simp only [awp]
  intro r hr
  have hz : ((nv .u8 l).toArray ++ Array.replicate (c - l.length) (Value.int .u8 0)).size = c := by
    rw [Array.size_append, List.size_toArray, nv_len, Array.size_replicate]; omega
  have hl : ((nv .u8 l).toArray ++ Array.replicate (c - l.length) (Value.int .u8 0)).toList = nv .u8 l ++ List.replicate (c - l.length) (.int .u8 0) := by simp
  have ha : absOf (.cells ((nv .u8 l).toArray ++ Array.replicate (c - l.length) (Value.int .u8 0)) e (0, 0)) = .row e (nv .u8 l ++ List.replicate (c - l.length) (.int .u8 0)) c (some (0, 0)) := by
    simp only [absOf, hz, hl]
  rw [ha]
  show awp P (Sem.bind (markStringish ⟨r, 0, none⟩) _) _ _
  unfold markStringish
  have hsh : peek P (h.set r (.row e (nv .u8 l ++ List.replicate (c - l.length) (.int .u8 0)) c (some (0, 0)))) (shape r) = some (some (e, c)) := by
    simp [peek, shape, Hp.shape]
  show awp P (Sem.bind (Sem.bind (shape r) _) _) _ _
  rw [awp_bind, awp_bind, peek_awp P _ _ _ hsh]
  show awp P (freeze ⟨r, c, none⟩ 1) _ _
  have hfz : (h.set r (.row e (nv .u8 l ++ List.replicate (c - l.length) (.int .u8 0)) c (some (0, 0)))).freeze ⟨r, c, none⟩ 1 = some (h.set r (.row e (nv .u8 l ++ List.replicate (c - l.length) (.int .u8 0)) c (some (c, c + 1)))) := by simp [Hp.freeze, Hp.set_set, frz]
  simp only [awp, freeze, hfz]
  refine ⟨h.set r (.row e (nv .u8 l) c (some (c, c + 1))), fun i o eo => ?_, ?_⟩
  · by_cases hi : i = r
    · subst hi
      rw [Hp.set_same] at eo
      cases eo
      exact ⟨_, Hp.set_same .., rfl, rfl, ⟨_, rfl⟩, .inl rfl⟩
    · rw [Hp.set_ne _ _ hi] at eo
      exact ⟨o, by rw [Hp.set_ne _ _ hi]; exact eo, .refl _⟩
  · exact k _ _ ⟨by rw [nv_len, Nat.mul_one], .inr ⟨r, c, (c, c + 1), hr, hcl, rfl, by rw [Nat.mul_one], fun i hi => by omega⟩⟩
end
end Go.SL
set_option linter.unusedSimpArgs false
set_option linter.unusedVariables false
namespace Go.SL
open Go
section
variable {P : Program} {h : Hp}
/-- A row made just now is owned. -/
theorem OutAt.own {R h' : Hp} {t s n : Nat} {v : Value} {xs : List Value} {S So : List Nat} (w : Own R h S) (x : Hp.ext h h') (o : OutAt t s h' v xs n So) (fr : ∀ y, y ∈ So → h y = none) : Own R h' So := by
  refine ⟨w.sub.trans x, fun b hb => w.sub.none (fr b hb), fun b hb => ?_⟩
  rcases o with ⟨_, _, _, rfl⟩ | ⟨b', c, f, e, _, _, _, rfl, _⟩
  · cases hb
  · rw [List.mem_singleton.1 hb]; exact ⟨_, e⟩
/-- A step within what is owned. -/
theorem Stp.within {R h h' : Hp} {S : List Nat} (w : Own R h S) (fr : ∀ b, b ∉ S → h' b = h b) (kn : ∀ b, b ∈ S → ∃ o, h' b = some o) : Stp R h R h' S S :=
  ⟨.refl _, fun b o hb e => by rw [fr b hb]; exact e, fun b o hb e => hb, fun b o hb e er => er, ⟨fun b o e => by
    have hb : b ∉ S := fun q => by rw [w.dis b q] at e; cases e
    rw [fr b hb]; exact w.sub b o e, w.dis, kn⟩⟩
/-- A row that grows, beside what else is owned. -/
theorem OutAt.beside {R h h' : Hp} {t s n' : Nat} {v' : Value} {xs' : List Value} {S T T' : List Nat} (oS : Own R h S) (oT : Own R h T) (dj : ∀ b, b ∈ S → b ∉ T) (o' : OutAt t s h' v' xs' n' T') (kp : ∀ x o, x ∉ T → h x = some o → h' x = some o) (fr : ∀ x o, x ∉ T → h x = some o → x ∉ T') :
    Own R h' S ∧ Own R h' T' ∧ (∀ b, b ∈ S → b ∉ T') ∧ (∀ b, b ∈ S → h' b = h b) ∧ Stp R h R h' (S ++ T) (S ++ T') := by
  have st := OutAt.step oT o' kp fr
  obtain ⟨a, b, c⟩ := st.frame oS dj
  exact ⟨a, st.own, b, c, (st.wide oS dj).perm (fun x => by simp only [List.mem_append]; exact or_comm) (fun x => by simp only [List.mem_append]; exact or_comm)⟩
theorem OutAt.flat {h : Hp} {t s n : Nat} {v : Value} {xs : List Value} {So : List Nat} (o : OutAt t s h v xs n So) : SL.flat v = true := by
  rcases o with ⟨rfl, _⟩ | ⟨b, c, f, _, rfl, _⟩ <;> rfl
end
end Go.SL
set_option linter.unusedSimpArgs false
set_option linter.unusedVariables false
namespace Go.SL
open Go
section
variable {P : Program} {h : Hp}
/-- A call of a function with a body, by its value. -/
theorem callP_cn {g : FuncId} {x y : Array Value} {args : List Value} {K : Value → Hp → Prop} (e : extB P g = false) (c : Cn P g (x.toList ++ args ++ y.toList).toArray h K) : callP P (.func (.func g) x y) args h K := by
  show (if extB P g = true then _ else _)
  rw [if_neg (by rw [e]; decide)]
  exact c
end
end Go.SL
set_option linter.unusedSimpArgs false
set_option linter.unusedVariables false
namespace Go.Chest
open Go.Pure
structure Ch where
  tag : List Nat
  text : List Nat
  layers : List (List Nat)
deriving DecidableEq
/-- A row of bytes, its length ahead. -/
def rowC (b : List Nat) : List Nat := bg 4 b.length ++ b
def rowsC (l : List (List Nat)) : List Nat := bg 4 l.length ++ (l.map rowC).flatten
def chC (x : Ch) : List Nat := rowC x.tag ++ rowC x.text ++ rowsC x.layers
def markC : List Nat := [79, 67, 72, 49]
def bodyC (l : List Ch) : List Nat := markC ++ (bg 4 l.length ++ (l.map chC).flatten)
/-- What is read: a number that may be so great, and what is behind it. -/
def numC (most : Nat) (b : List Nat) : Option (Nat × List Nat) := if b.length < 4 ∨ most < bval (b.take 4) then none else some (bval (b.take 4), b.drop 4)
def takeC (b : List Nat) : Option (List Nat × List Nat) := (numC (b.length - 4) b).map fun x => (x.2.take x.1, x.2.drop x.1)
def manyC {α : Type} (one : List Nat → Option (α × List Nat)) : Nat → List Nat → Option (List α × List Nat)
  | 0, b => some ([], b)
  | n + 1, b => match one b with
    | none => none
    | some (x, r) => match manyC one n r with
      | none => none
      | some (l, s) => some (x :: l, s)
def someC {α : Type} (one : List Nat → Option (α × List Nat)) (most : Nat) (b : List Nat) : Option (List α × List Nat) :=
  match numC most b with
  | none => none
  | some (n, r) => manyC one n r
def chestC (b : List Nat) : Option (Ch × List Nat) :=
  match takeC b with
  | none => none
  | some (tag, r) => match takeC r with
    | none => none
    | some (text, s) => match someC takeC 64 s with
      | none => none
      | some (layers, t) => some (⟨tag, text, layers⟩, t)
/-- All chests, with nothing behind them. -/
def readC (b : List Nat) : Option (List Ch) :=
  match someC chestC 1024 b with
  | some (l, []) => some l
  | _ => none
theorem num_bg (most n : Nat) (r : List Nat) (h : n ≤ most) (h2 : n < 4294967296) : numC most (bg 4 n ++ r) = some (n, r) := by
  have e1 : (bg 4 n ++ r).take 4 = bg 4 n := by rw [List.take_append_of_le_length (by rw [bg_len]; omega), List.take_of_length_le (by rw [bg_len]; omega)]
  have e2 : (bg 4 n ++ r).drop 4 = r := by rw [List.drop_append, List.drop_of_length_le (by rw [bg_len]; omega), bg_len]; simp
  have e3 : bval (bg 4 n) = n := by rw [bval_bg]; exact Nat.mod_eq_of_lt (by simpa using h2)
  unfold numC
  rw [e1, e2, e3, if_neg (by rw [List.length_append, bg_len]; omega)]
theorem take_row (b r : List Nat) (h : b.length < 4294967296) : takeC (rowC b ++ r) = some (b, r) := by
  unfold takeC rowC
  rw [List.append_assoc, num_bg _ _ _ (by simp only [List.length_append, bg_len]; omega) h]
  simp
theorem many_app {α : Type} {one : List Nat → Option (α × List Nat)} {w : α → List Nat} (r : List Nat) : ∀ l : List α, (∀ x ∈ l, ∀ r, one (w x ++ r) = some (x, r)) → manyC one l.length ((l.map w).flatten ++ r) = some (l, r)
  | [], _ => rfl
  | x :: l, h => by
    rw [List.map_cons, List.flatten_cons, List.append_assoc, List.length_cons, manyC, h x (by simp), ]
    dsimp only
    rw [many_app r l fun y hy => h y (by simp [hy])]
/-- Chests that may be written: not too much of anything. -/
structure OkC (x : Ch) : Prop where
  tag : x.tag.length < 4294967296
  text : x.text.length < 4294967296
  many : x.layers.length ≤ 64
  each : ∀ b ∈ x.layers, b.length < 4294967296
theorem chest_ch (x : Ch) (h : OkC x) (r : List Nat) : chestC (chC x ++ r) = some (x, r) := by
  unfold chestC chC rowsC
  rw [List.append_assoc, List.append_assoc, take_row _ _ h.tag]
  dsimp only
  rw [take_row _ _ h.text]
  dsimp only
  rw [someC, List.append_assoc, num_bg _ _ _ h.many (by have := h.many; omega)]
  dsimp only
  rw [many_app r x.layers fun b hb r => take_row b r (h.each b hb)]
theorem read_written (l : List Ch) (h : ∀ x ∈ l, OkC x) (hl : l.length ≤ 1024) : readC ((bodyC l).drop 4) = some l := by
  have e : (bodyC l).drop 4 = bg 4 l.length ++ (l.map chC).flatten := by
    unfold bodyC
    rw [List.drop_append, List.drop_of_length_le (by decide)]
    rfl
  rw [e, readC, someC, num_bg _ _ _ hl (by omega)]
  dsimp only
  have := many_app (one := chestC) (w := chC) [] l fun x hx r => chest_ch x (h x hx) r
  rw [List.append_nil] at this
  rw [this]
/-- A row that is taken from a place on. -/
theorem takeC_at {b : List Nat} {i : Nat} (h : i ≤ b.length) : takeC (b.drop i) = if b.length < i + 4 ∨ b.length < i + 4 + bval ((b.drop i).take 4) then none else some ((b.drop (i + 4)).take (bval ((b.drop i).take 4)), b.drop (i + 4 + bval ((b.drop i).take 4))) := by
  unfold takeC numC
  rw [List.length_drop]
  by_cases g : b.length < i + 4 ∨ b.length < i + 4 + bval ((b.drop i).take 4)
  · rw [if_pos g, if_pos (by omega)]
    rfl
  · rw [if_neg g, if_neg (by omega)]
    simp only [Option.map_some, List.drop_drop]
theorem numC_at {b : List Nat} {i : Nat} (most : Nat) (h : i ≤ b.length) : numC most (b.drop i) = if b.length < i + 4 ∨ most < bval ((b.drop i).take 4) then none else some (bval ((b.drop i).take 4), b.drop (i + 4)) := by
  unfold numC
  rw [List.length_drop]
  by_cases g : b.length < i + 4 ∨ most < bval ((b.drop i).take 4)
  · rw [if_pos g, if_pos (by omega)]
  · rw [if_neg g, if_neg (by omega), List.drop_drop]
end Go.Chest
set_option linter.unusedSimpArgs false
set_option linter.unusedVariables false
set_option maxRecDepth 100000
set_option maxHeartbeats 1000000
namespace Go.Proofs.YtlkhmddmdmlffaaGreatDoor
open Go Go.SL Go.Pure Go.Chest
/-- A row of rows of bytes, to be read. -/
def LsR (R : Hp) (v : Value) (ps : List (List Nat)) : Prop := ∃ ws, Rds R 1 v ws ps.length ∧ PsV R ws ps
theorem LsR.mono {R R' : Hp} {v : Value} {ps : List (List Nat)} (a : LsR R v ps) (x : Hp.cle R R') : LsR R' v ps := let ⟨ws, h1, h2⟩ := a; ⟨ws, h1.mono x, h2.mono x⟩
theorem LsR.shape {R : Hp} {v : Value} {ps : List (List Nat)} (a : LsR R v ps) : ∃ x c, v = .slice x ps.length c ∧ ps.length ≤ c := by
  obtain ⟨ws, ⟨_, x, c, e, hc, _⟩, _⟩ := a
  exact ⟨x, c, e, hc⟩
theorem LsR.nil (R : Hp) : LsR R (.slice none 0 0) [] := ⟨[], ⟨by simp, none, 0, rfl, Nat.le_refl _, .inl rfl⟩, PsV.nil R⟩
/-- One of them. -/
theorem LsR.at {R : Hp} {v : Value} {ps : List (List Nat)} (a : LsR R v ps) {i : Nat} {p : List Nat} (e : ps[i]? = some p) :
    ∃ b o y, Rn R .u8 y p ∧ R.cell ⟨b, o, none⟩ = some y ∧ ∀ (H : Hp) (K : Value → Prop), q P H (Instr.indexAt t_Sl_Sl_uint8 v (.int .i64 (i : Int))) K = K (.pointer (some ⟨b, o, none⟩)) := by
  obtain ⟨ws, ⟨hl, x, c, rfl, hc, hw⟩, pv⟩ := a
  have hi : i < ps.length := (List.getElem?_eq_some_iff.1 e).1
  obtain ⟨y, ey, ry⟩ := pv.2 i p e
  rcases hw with q0 | ⟨b, o, rfl, hw⟩
  · omega
  refine ⟨b, o + i, y, ry, hw i y ey, fun H K => ?_⟩
  rw [q_idxS u_Sl_Sl_uint8 z_Sl_uint8 _ _ _ _ _ (by omega) (by omega), Int.toNat_natCast, add_off, Nat.mul_one]
/-- A chest, to be read. -/
structure ChR (R : Hp) (x : Ch) (tv lv : Value) : Prop where
  bt : Bytes x.tag
  rt : Rn R .u8 tv x.text
  bx : Bytes x.text
  rl : LsR R lv x.layers
  bl : ∀ b ∈ x.layers, Bytes b
theorem ChR.mono {R R' : Hp} {x : Ch} {tv lv : Value} (a : ChR R x tv lv) (c : Hp.cle R R') : ChR R' x tv lv := ⟨a.bt, a.rt.mono c, a.bx, a.rl.mono c, a.bl⟩
def chV (x : Ch) (tv lv : Value) : List Value := [.string (strL x.tag), tv, lv]
theorem chV_len (x : Ch) (tv lv : Value) : (chV x tv lv).length = 3 := rfl
theorem LsR.flat {R : Hp} {v : Value} {ps : List (List Nat)} (a : LsR R v ps) : flat v = true := by obtain ⟨x, c, rfl, _⟩ := a.shape; rfl
theorem chV_flat {R : Hp} {x : Ch} {tv lv : Value} (a : ChR R x tv lv) : ∀ y ∈ chV x tv lv, flat y = true := by
  intro y hy
  simp only [chV, List.mem_cons, List.not_mem_nil, or_false] at hy
  rcases hy with rfl | rfl | rfl
  · rfl
  · exact rn_flat a.rt
  · exact a.rl.flat
/-- Chests in a row, to be read. -/
def CsR (R : Hp) (v : Value) (l : List Ch) : Prop := ∃ items, SlAt R 3 v items ∧ items.length = l.length ∧ ∀ (i : Nat) (x : Ch), l[i]? = some x → ∃ tv lv, items[i]? = some (chV x tv lv) ∧ ChR R x tv lv
theorem CsR.mono {R R' : Hp} {v : Value} {l : List Ch} (a : CsR R v l) (c : Hp.cle R R') : CsR R' v l := by
  obtain ⟨items, h1, h2, h3⟩ := a
  exact ⟨items, h1.mono c, h2, fun i x e => let ⟨tv, lv, q1, q2⟩ := h3 i x e; ⟨tv, lv, q1, q2.mono c⟩⟩
theorem CsR.shape {R : Hp} {v : Value} {l : List Ch} (a : CsR R v l) : ∃ x c, v = .slice x l.length c ∧ l.length ≤ c := by
  obtain ⟨items, ⟨x, c, e, hc, _⟩, h2, _⟩ := a
  exact ⟨x, c, by rw [e, h2], by omega⟩
theorem CsR.nil (R : Hp) : CsR R (.slice none 0 0) [] := ⟨[], ⟨none, 0, rfl, Nat.le_refl _, .inl rfl⟩, rfl, fun i x e => by simp at e⟩
theorem CsR.at {R : Hp} {v : Value} {l : List Ch} (a : CsR R v l) {i : Nat} {x : Ch} (e : l[i]? = some x) :
    ∃ b o tv lv, ChR R x tv lv ∧ R.cell ⟨b, o, none⟩ = some (.string (strL x.tag)) ∧ R.cell ⟨b, o + 1, none⟩ = some tv ∧ R.cell ⟨b, o + 2, none⟩ = some lv ∧
      ∀ (H : Hp) (K : Value → Prop), q P H (Instr.indexAt t_Sl_api_Chest v (.int .i64 (i : Int))) K = K (.pointer (some ⟨b, o, none⟩)) := by
  obtain ⟨items, ⟨x', c, rfl, hc, hw⟩, hl, hx⟩ := a
  obtain ⟨tv, lv, ei, en⟩ := hx i x e
  have hi : i < items.length := (List.getElem?_eq_some_iff.1 ei).1
  rcases hw with q0 | ⟨b, o, rfl, hw⟩
  · rw [q0] at hi; cases hi
  have cw := hw i _ ei
  refine ⟨b, o + i * 3, tv, lv, en, cw 0 _ rfl, cw 1 _ rfl, cw 2 _ rfl, fun H K => ?_⟩
  rw [q_idxS u_Sl_api_Chest z_api_Chest _ _ _ _ _ (by omega) (by omega), Int.toNat_natCast, add_off]
theorem chf0 {h : Hp} {K : Value → Prop} (b o : Nat) : q P h (Instr.fieldAt t_api_Chest (.pointer (some ⟨b, o, none⟩)) 0) K = K (.pointer (some ⟨b, o, none⟩)) := q_of (by kernel_rfl) K
theorem chf1 {h : Hp} {K : Value → Prop} (b o : Nat) : q P h (Instr.fieldAt t_api_Chest (.pointer (some ⟨b, o, none⟩)) 1) K = K (.pointer (some ⟨b, o + 1, none⟩)) := q_of (by kernel_rfl) K
theorem chf2 {h : Hp} {K : Value → Prop} (b o : Nat) : q P h (Instr.fieldAt t_api_Chest (.pointer (some ⟨b, o, none⟩)) 2) K = K (.pointer (some ⟨b, o + 2, none⟩)) := q_of (by kernel_rfl) K
theorem wf0 {h : Hp} {K : Value → Prop} (b : Nat) : q P h (Instr.fieldAt t_chest_writer (.pointer (some ⟨b, 0, none⟩)) 0) K = K (.pointer (some ⟨b, 0, none⟩)) := q_of (by kernel_rfl) K
theorem zr_Ch : zr P t_api_Chest = some (.agg #[.string ⟨#[]⟩, .slice none 0 0, .slice none 0 0]) := by kernel_rfl
theorem nfo_Ch : (P.info? t_api_Chest).map (fun i => (i.zero, i.size, i.bytes)) = some (some (.agg #[.string ⟨#[]⟩, .slice none 0 0, .slice none 0 0]), 3, 64) := by kernel_rfl
/-- A writer, with what it has written. -/
def WrA (R h : Hp) (p : Nat) (So : List Nat) (l : List Nat) : Prop := ∃ bv, Own R h (p :: So) ∧ p ∉ So ∧ h p = some (.row t_chest_writer [bv] 1 (some (0, 0))) ∧ OutAt t_uint8 1 h bv (nv .u8 l) l.length So
section
variable {R h : Hp} {K : Value → Hp → Prop} {p : Nat} {So : List Nat} {l : List Nat}
theorem WrA.ext {R' h' : Hp} (a : WrA R h p So l) (x : Hp.ext h h') (st : Stp R h R' h' (p :: So) (p :: So)) : WrA R' h' p So l := by
  obtain ⟨bv, w, n, row, o⟩ := a
  have eq : ∀ b, b ∈ p :: So → h' b = h b := fun b hb => by obtain ⟨ob, e⟩ := w.kn b hb; rw [e, x b ob e]
  exact ⟨bv, st.own, n, by rw [eq p (by simp)]; exact row, o.keep fun b hb => eq b (by simp [hb])⟩
theorem WrA.own (a : WrA R h p So l) : Own R h (p :: So) := let ⟨_, w, _⟩ := a; w
/-- More is written. -/
theorem WrA.app (a : WrA R h p So l) {v : Value} {m : List Nat} (r : Rn h .u8 v m) (hl : l.length + m.length ≤ 70368744177664) {bv : Value} (c0 : h.cell ⟨p, 0, none⟩ = some bv) {F : Value → Hp → Prop}
    (k : ∀ v' h' So', (∀ K : Unit → Hp → Prop, (Stp R h R (h'.set p (.row t_chest_writer [v'] 1 (some (0, 0)))) (p :: So) (p :: So') → WrA R (h'.set p (.row t_chest_writer [v'] 1 (some (0, 0)))) p So' (l ++ m) → K () (h'.set p (.row t_chest_writer [v'] 1 (some (0, 0))))) → aw P (Instr.storeAt t_Sl_uint8 (.pointer (some ⟨p, 0, none⟩)) v') K h') → F v' h') :
    aw P (Builtin.append_ #[t_Sl_uint8, t_Sl_uint8] t_Sl_uint8 #[bv, v]) F h := by
  obtain ⟨bv', w, n, row, o⟩ := a
  have : bv' = bv := by
    rw [cell_row row] at c0
    simpa using c0
  subst this
  refine aw_appO o r hl fun v' h' So' o' kp fr => k v' h' So' fun K kk => ?_
  have wS : Own R h So := w.sub' fun x hx => by simp [hx]
  have wp : Own R h [p] := w.sub' fun x hx => by rw [List.mem_singleton.1 hx]; simp
  have s1 := OutAt.step wS o' kp fr
  have dj : ∀ b, b ∈ [p] → b ∉ So := fun b hb => by rw [List.mem_singleton.1 hb]; exact n
  obtain ⟨_, dj', same⟩ := s1.frame wp dj
  have n' : p ∉ So' := dj' p (by simp)
  have s2 : Stp R h R h' (p :: So) (p :: So') := (s1.wide wp dj).perm (fun x => by simp [or_comm]) (fun x => by simp [or_comm])
  have row' : h' p = some (.row t_chest_writer [bv'] 1 (some (0, 0))) := by rw [same p (by simp)]; exact row
  obtain ⟨a5, c5, hv', _⟩ := o'.rds.2
  refine aw_store z_Sl_uint8 (by rw [hv']; rfl) (put_row row' (by simp) (by omega) _) ?_
  have st3 : Stp R h' R (h'.set p (.row t_chest_writer [v'] 1 (some (0, 0)))) (p :: So') (p :: So') := Stp.within s2.own (fun b hb => Hp.set_ne _ _ (by rintro rfl; exact hb (by simp))) (fun b hb => by
    by_cases q : b = p
    · subst q; exact ⟨_, Hp.set_same ..⟩
    · rw [Hp.set_ne _ _ q]; exact s2.own.kn b hb)
  exact kk (s2.trans st3) ⟨v', st3.own, n', Hp.set_same .., o'.keep fun b hb => Hp.set_ne _ _ (by rintro rfl; exact n' hb)⟩
theorem WrA.cell (a : WrA R h p So l) : ∃ bv, h.cell ⟨p, 0, none⟩ = some bv ∧ flat bv = true := by
  obtain ⟨bv, w, n, row, o⟩ := a
  obtain ⟨_, a5, c5, hv, _⟩ := o.rds
  exact ⟨bv, by rw [cell_row row]; rfl, by rw [hv]; rfl⟩
theorem T_wnumber (a : WrA R h p So l) {n : Nat} (hn : n < 4294967296) (hl : l.length ≤ 1099511627776) (k : ∀ h' So', Stp R h R h' (p :: So) (p :: So') → WrA R h' p So' (l ++ bg 4 n) → K (.tuple #[]) h') :
    Cn P n_chest_writer_number #[.pointer (some ⟨p, 0, none⟩), .int .i64 (n : Int)] h K := by
  refine F_chest_writer_number ?_
  unfold s_chest_writer_number
  obtain ⟨bv, c0, fb⟩ := a.cell
  have w1 : IntKind.u32.wrap (n : Int) = (n : Int) := wu32i (by omega) (by omega)
  simp -zeta only [GL, RL, wf0, c0, w1]
  refine T_word_Big32 n hn fun r h1 n1 => ?_
  have c1 : h1.cell ⟨p, 0, none⟩ = some bv := n1.cle _ _ c0
  have st1 := Stp.ext0 a.own n1.ext
  refine ⟨pk_q fun K => by simp only [RL, c1, GL], pk_q fun K => by rw [wf0], ?_⟩
  refine (a.ext n1.ext st1).app n1.rn (by rw [bg_len]; omega) c1 fun v' h' So' kk => ?_
  exact kk _ fun s3 a3 => k _ So' (st1.trans s3) a3
theorem T_wrow (a : WrA R h p So l) {v : Value} {m : List Nat} (r : Rn R .u8 v m) (hm : m.length < 4294967296) (hl : l.length ≤ 1099511627776) (k : ∀ h' So', Stp R h R h' (p :: So) (p :: So') → WrA R h' p So' (l ++ rowC m) → K (.tuple #[]) h') :
    Cn P n_chest_writer_row #[.pointer (some ⟨p, 0, none⟩), v] h K := by
  refine F_chest_writer_row ?_
  unfold s_chest_writer_row
  obtain ⟨av, cv, rfl, hcv⟩ := r.shape
  simp -zeta only [GL, RL]
  refine T_wnumber a hm hl fun h1 So1 s1 a1 => ?_
  obtain ⟨bv, c0, fb⟩ := a1.cell
  simp -zeta only [GL, RL, wf0, c0]
  refine a1.app (s1.own.rn r) (by rw [List.length_append, bg_len]; omega) c0 fun v' h' So' kk => ?_
  refine kk _ fun s3 a3 => k _ So' (s1.trans s3) ?_
  rw [List.append_assoc] at a3
  exact a3
end
end Go.Proofs.YtlkhmddmdmlffaaGreatDoor
set_option linter.unusedSimpArgs false
set_option linter.unusedVariables false
set_option maxRecDepth 100000
set_option maxHeartbeats 1000000
namespace Go.Proofs.YtlkhmddmdmlffaaGreatDoor
open Go Go.SL Go.Pure Go.Chest
theorem map_take {α : Type} (f : α → List Nat) {l : List α} {i : Nat} (h : i < l.length) : ((l.take (i + 1)).map f).flatten = ((l.take i).map f).flatten ++ f l[i] := by
  rw [List.take_succ_eq_append_getElem h]
  simp only [List.map_append, List.flatten_append, List.map_cons, List.map_nil, List.flatten_cons, List.flatten_nil, List.append_nil]
theorem map_take_le {α : Type} (f : α → List Nat) (l : List α) (i : Nat) : ((l.take i).map f).flatten.length ≤ (l.map f).flatten.length := by
  have : (l.map f).flatten = ((l.take i).map f).flatten ++ ((l.drop i).map f).flatten := by
    rw [← List.flatten_append, ← List.map_append, List.take_append_drop]
  rw [this, List.length_append]
  omega
section
variable {R h : Hp} {K : Value → Hp → Prop} {p : Nat} {So : List Nat} {l : List Nat}
theorem T_list_byte (a : WrA R h p So l) {v : Value} {ps : List (List Nat)} (r : LsR R v ps) (hp : ps.length < 4294967296) (hm : ∀ m ∈ ps, m.length < 4294967296) (hl : l.length + (rowsC ps).length ≤ 1099511627776)
    (k : ∀ h' So', Stp R h R h' (p :: So) (p :: So') → WrA R h' p So' (l ++ rowsC ps) → K (.tuple #[]) h') :
    Cn P n_chest_list_byte #[.pointer (some ⟨p, 0, none⟩), v, .func (.func n_chest_writer_row) #[.pointer (some ⟨p, 0, none⟩)] #[]] h K := by
  refine Cn_wk (F_chest_list_byte ?_)
  unfold s_chest_list_byte
  obtain ⟨av, cv, ev, hcv⟩ := r.shape
  have ln : ∀ {H : Hp} {K : Value → Prop}, q P H (Builtin.len_ #[t_Sl_Sl_uint8] t_int #[v]) K = K (.int .i64 (ps.length : Nat)) := fun {H K} => by rw [ev]; exact q_lenS u_Sl_Sl_uint8 _ _ _
  rw [ln]
  have lr : (rowsC ps).length = 4 + (ps.map rowC).flatten.length := by rw [rowsC, List.length_append, bg_len]
  refine T_wnumber a hp (by omega) fun h1 So1 s1 a1 => ?_
  rw [ln]
  refine Lp_mk (fun m vs H => ∃ (i : Nat) (So' : List Nat), i + m = ps.length ∧ Stp R h R H (p :: So) (p :: So') ∧ WrA R H p So' (l ++ bg 4 ps.length ++ ((ps.take i).map rowC).flatten) ∧ vs = [.int .i64 (i : Int)]) ps.length
    ⟨0, So1, by omega, s1, by simpa using a1, rfl⟩ ?_
  rintro m vs H ⟨i, So', hi, st, a2, rfl⟩
  simp -zeta only [GL, List.getD_cons_zero, lt_dec]
  by_cases hlt : i < ps.length
  · simp -zeta only [hlt, decide_true, if_true]
    have ex : ps[i]? = some ps[i] := List.getElem?_eq_getElem hlt
    obtain ⟨b, o, y, ry, cy, ix⟩ := r.at ex
    have cy' := st.own.sub.cle _ _ cy
    rw [ix]
    simp -zeta only [RL, GL, cy']
    refine callP_cn (by kernel_rfl) ?_
    have q1 := map_take rowC hlt
    have q2 := map_take_le rowC ps i
    refine T_wrow a2 ry (hm _ (List.getElem_mem hlt)) (by rw [List.length_append, List.length_append, bg_len]; omega) fun h3 So3 s3 a3 => ?_
    have w1 : IntKind.i64.wrap ((i : Int) + 1) = ((i + 1 : Nat) : Int) := by rw [wi64 (by omega) (by omega)]; omega
    simp -zeta only [w1, GL]
    rw [List.append_assoc, ← q1] at a3
    exact ⟨h3, .refl _, m - 1, by omega, i + 1, So3, by omega, st.trans s3, a3, rfl⟩
  · simp -zeta only [hlt, decide_false, Bool.false_eq_true, if_false]
    have : i = ps.length := by omega
    subst this
    rw [List.take_length, List.append_assoc] at a2
    exact ⟨H, .refl _, k H So' st a2⟩
theorem T_wchest (a : WrA R h p So l) {x : Ch} {tv lv : Value} (r : ChR R x tv lv) (ok : OkC x) (hl : l.length + (chC x).length ≤ 1099511627776)
    (k : ∀ R' h' So', Stp R h R' h' (p :: So) (p :: So') → WrA R' h' p So' (l ++ chC x) → K (.tuple #[]) h') :
    Cn P n_chest_writer_chest #[.pointer (some ⟨p, 0, none⟩), .agg (chV x tv lv).toArray] h K := by
  refine F_chest_writer_chest ?_
  unfold s_chest_writer_chest
  refine aw_box fun b hb => ?_
  have hC : (Value.agg (chV x tv lv).toArray).cells.toList = chV x tv lv := rfl
  have hC2 : (Value.agg (chV x tv lv).toArray).cells.size = 3 := rfl
  rw [hC, hC2]
  have s1 := Stp.block (.row t_api_Chest (chV x tv lv) 3 (some (0, 0))) a.own hb
  have a1 := a.ext (ext_set _ hb) s1
  have row : (R.set b (.row t_api_Chest (chV x tv lv) 3 (some (0, 0)))) b = some (.row t_api_Chest (chV x tv lv) 3 (some (0, 0))) := Hp.set_same ..
  replace r := r.mono s1.ext.cle
  generalize R.set b (.row t_api_Chest (chV x tv lv) 3 (some (0, 0))) = R1 at *
  generalize h.set b (.row t_api_Chest (chV x tv lv) 3 (some (0, 0))) = h1 at *
  have cl : ∀ {R' H : Hp}, Hp.ext R1 R' → Hp.ext R' H → H.cell ⟨b, 0, none⟩ = some (.string (strL x.tag)) ∧ H.cell ⟨b, 0 + 1, none⟩ = some tv ∧ H.cell ⟨b, 0 + 2, none⟩ = some lv := fun {R' H} e1 e2 => by
    have := e2 _ _ (e1 _ _ row)
    exact ⟨by rw [cell_row this]; rfl, by rw [cell_row this]; rfl, by rw [cell_row this]; rfl⟩
  obtain ⟨c0, c1, c2⟩ := cl (.refl _) a1.own.sub
  have lc : (chC x).length = 4 + x.tag.length + (4 + x.text.length) + (rowsC x.layers).length := by
    rw [chC, List.length_append, List.length_append, rowC, rowC, List.length_append, List.length_append, bg_len, bg_len]
  simp -zeta only [chf0, RL, GL, c0]
  refine aw_stB u_string u_Sl_uint8 u_uint8 r.bt fun v2 h2 n2 => ?_
  have n2' : Nn h1 t_uint8 .u8 v2 h2 x.tag := n2
  obtain ⟨R2, s2, r2⟩ := Stp.newN a1.own n2'
  have a2 := a1.ext n2'.ext s2
  refine T_wrow a2 r2 ok.tag (by omega) fun h3 So3 s3 a3 => ?_
  have l3 : (l ++ rowC x.tag).length = l.length + (4 + x.tag.length) := by rw [List.length_append, rowC, List.length_append, bg_len]
  obtain ⟨c0, c1, c2⟩ := cl s2.ext a3.own.sub
  simp -zeta only [chf1, RL, GL, c1]
  refine T_wrow a3 (r.rt.mono s2.ext.cle) ok.text (by omega) fun h4 So4 s4 a4 => ?_
  have l4 : (l ++ rowC x.tag ++ rowC x.text).length = l.length + (4 + x.tag.length) + (4 + x.text.length) := by rw [List.length_append, l3, rowC, List.length_append, bg_len]
  obtain ⟨c0, c1, c2⟩ := cl s2.ext a4.own.sub
  simp -zeta only [chf2, RL, GL, c2]
  refine T_list_byte a4 (r.rl.mono s2.ext.cle) (by have := ok.many; omega) ok.each (by omega) fun h5 So5 s5 a5 => ?_
  refine k R2 h5 So5 ((((s1.trans s2).trans s3).trans s4).trans s5) ?_
  have e : l ++ chC x = l ++ rowC x.tag ++ rowC x.text ++ rowsC x.layers := by rw [chC]; simp
  rw [e]
  exact a5
theorem T_list_Chest (a : WrA R h p So l) {v : Value} {ps : List Ch} (r : CsR R v ps) (hp : ps.length < 4294967296) (hm : ∀ x ∈ ps, OkC x) (hl : l.length + (4 + (ps.map chC).flatten.length) ≤ 1099511627776)
    (k : ∀ R' h' So', Stp R h R' h' (p :: So) (p :: So') → WrA R' h' p So' (l ++ (bg 4 ps.length ++ (ps.map chC).flatten)) → K (.tuple #[]) h') :
    Cn P n_chest_list_api_Chest #[.pointer (some ⟨p, 0, none⟩), v, .func (.func n_chest_writer_chest) #[.pointer (some ⟨p, 0, none⟩)] #[]] h K := by
  refine Cn_wk (F_chest_list_api_Chest ?_)
  unfold s_chest_list_api_Chest
  obtain ⟨av, cv, ev, hcv⟩ := r.shape
  have ln : ∀ {H : Hp} {K : Value → Prop}, q P H (Builtin.len_ #[t_Sl_api_Chest] t_int #[v]) K = K (.int .i64 (ps.length : Nat)) := fun {H K} => by rw [ev]; exact q_lenS u_Sl_api_Chest _ _ _
  rw [ln]
  refine T_wnumber a hp (by omega) fun h1 So1 s1 a1 => ?_
  rw [ln]
  refine Lp_mk (fun m vs H => ∃ (i : Nat) (R' : Hp) (So' : List Nat), i + m = ps.length ∧ Stp R h R' H (p :: So) (p :: So') ∧ WrA R' H p So' (l ++ bg 4 ps.length ++ ((ps.take i).map chC).flatten) ∧ vs = [.int .i64 (i : Int)]) ps.length
    ⟨0, R, So1, by omega, s1, by simpa using a1, rfl⟩ ?_
  rintro m vs H ⟨i, R', So', hi, st, a2, rfl⟩
  simp -zeta only [GL, List.getD_cons_zero, lt_dec]
  by_cases hlt : i < ps.length
  · simp -zeta only [hlt, decide_true, if_true]
    have ex : ps[i]? = some ps[i] := List.getElem?_eq_getElem hlt
    obtain ⟨items, A, hil, hit⟩ := r
    obtain ⟨tv, lv, ei, en⟩ := hit i _ ex
    have en2 := en.mono st.ext.cle
    refine aw_itemAt (R := R') (zs := [.string ⟨#[]⟩, .slice none 0 0, .slice none 0 0]) u_Sl_api_Chest z_api_Chest u_api_Chest rfl zr_Ch rfl (A.mono st.ext.cle) a2.own.sub.cle ei rfl (chV_flat en) fun b hb => ?_
    have s3 := Stp.block (.row t_api_Chest (chV ps[i] tv lv) 3 (some (0, 0))) a2.own hb
    have a3 := a2.ext (ext_set _ hb) s3
    rw [q_ldRow (ys := chV ps[i] tv lv) u_api_Chest rfl z_api_Chest (Hp.set_same ..)]
    generalize H.set b (.row t_api_Chest (chV ps[i] tv lv) 3 (some (0, 0))) = H3 at *
    generalize R'.set b (.row t_api_Chest (chV ps[i] tv lv) 3 (some (0, 0))) = R3 at *
    refine callP_cn (by kernel_rfl) ?_
    have q1 := map_take chC hlt
    have q2 := map_take_le chC ps (i + 1)
    rw [q1, List.length_append] at q2
    refine T_wchest a3 (en2.mono s3.ext.cle) (hm _ (List.getElem_mem hlt)) (by rw [List.length_append, List.length_append, bg_len]; omega) fun R4 h4 So4 s4 a4 => ?_
    have w1 : IntKind.i64.wrap ((i : Int) + 1) = ((i + 1 : Nat) : Int) := by rw [wi64 (by omega) (by omega)]; omega
    simp -zeta only [w1, GL]
    rw [List.append_assoc, ← q1] at a4
    exact ⟨h4, .refl _, m - 1, by omega, i + 1, R4, So4, by omega, (st.trans s3).trans s4, a4, rfl⟩
  · simp -zeta only [hlt, decide_false, Bool.false_eq_true, if_false]
    have : i = ps.length := by omega
    subst this
    rw [List.take_length, List.append_assoc] at a2
    exact ⟨H, .refl _, k R' H So' st a2⟩
/-- Has a chest too many layers? -/
theorem T_manyC {v : Value} {ps : List Ch} (r : CsR R v ps) (c : Hp.ext R h) (hp : ps.length ≤ 9223372036854775807) (hm : ∀ x ∈ ps, x.layers.length ≤ 9223372036854775807) (k : K (.bool (decide (∃ x ∈ ps, 64 < x.layers.length))) h) :
    Cn P n_slices_ContainsFunc_api_Chest_api_Chest #[v, .func (.func n_chest_Bytes_1) #[] #[]] h K := by
  refine Cn_wk (F_slices_ContainsFunc_api_Chest_api_Chest ?_)
  unfold s_slices_ContainsFunc_api_Chest_api_Chest
  refine F_slices_IndexFunc_api_Chest_api_Chest ?_
  unfold s_slices_IndexFunc_api_Chest_api_Chest
  obtain ⟨av, cv, ev, hcv⟩ := r.shape
  have ln : ∀ {H : Hp} {K : Value → Prop}, q P H (Builtin.len_ #[t_Sl_api_Chest] t_int #[v]) K = K (.int .i64 (ps.length : Nat)) := fun {H K} => by rw [ev]; exact q_lenS u_Sl_api_Chest _ _ _
  rw [ln]
  refine Lp_mk (fun m vs H => ∃ i : Nat, i + m = ps.length ∧ H = h ∧ (∀ j x, j < i → ps[j]? = some x → ¬ 64 < x.layers.length) ∧ vs = [.int .i64 0, .int .i64 (i : Int)]) ps.length ⟨0, by omega, rfl, fun j x hj => by omega, rfl⟩ ?_
  rintro m vs H ⟨i, hi, rfl, hj, rfl⟩
  simp -zeta only [GL, List.getD_cons_zero, List.getD_cons_succ, lt_dec]
  by_cases hlt : i < ps.length
  · simp -zeta only [hlt, decide_true, if_true]
    have ex : ps[i]? = some ps[i] := List.getElem?_eq_getElem hlt
    obtain ⟨items, A, hil, hit⟩ := r
    obtain ⟨tv, lv, ei, en⟩ := hit i _ ex
    obtain ⟨b, o, tv', lv', en', c0, c1, c2, ix⟩ := CsR.at ⟨items, A, hil, hit⟩ ex
    have fl := chV_flat en'
    obtain ⟨al, cl, hlv, _⟩ := en'.rl.shape
    rw [ix]
    rw [q_ldAgg (ys := chV ps[i] tv' lv') u_api_Chest rfl z_api_Chest (b := b) (o := o) (fun j y e => by
      have hj3 : j < 3 := (List.getElem?_eq_some_iff.1 e).1
      match j, hj3 with
      | 0, _ => rw [← e]; exact c.cle _ _ c0
      | 1, _ => rw [← e]; exact c.cle _ _ c1
      | 2, _ => rw [← e]; exact c.cle _ _ c2)]
    refine callP_cn (by kernel_rfl) ?_
    refine F_chest_Bytes_1 ?_
    show s_chest_Bytes_1 _ H (.agg (chV ps[i] tv' lv').toArray)
    unfold s_chest_Bytes_1
    refine aw_box fun r hr => ?_
    have hC : (Value.agg (chV ps[i] tv' lv').toArray).cells.toList = chV ps[i] tv' lv' := rfl
    have hC2 : (Value.agg (chV ps[i] tv' lv').toArray).cells.size = 3 := rfl
    rw [hC, hC2]
    have x0 := ext_set (.row t_api_Chest (chV ps[i] tv' lv') 3 (some (0, 0))) hr
    have cr : (H.set r (.row t_api_Chest (chV ps[i] tv' lv') 3 (some (0, 0)))).cell ⟨r, 0 + 2, none⟩ = some lv' := by rw [cell_row (Hp.set_same ..)]; rfl
    have le0 := x0.le
    generalize H.set r (.row t_api_Chest (chV ps[i] tv' lv') 3 (some (0, 0))) = H1 at *
    subst hlv
    have d64 : decide ((64 : Int) < ((ps[i].layers.length : Nat) : Int)) = decide (64 < ps[i].layers.length) := lt_dec 64 _
    simp -zeta only [chf2, RL, GL, cr, d64]
    by_cases g : 64 < ps[i].layers.length
    · simp -zeta only [g, decide_true, if_true]
      have : decide ((0 : Int) ≤ (i : Int)) = true := decide_eq_true (by omega)
      rw [this]
      have e1 : decide (∃ x ∈ ps, 64 < x.layers.length) = true := decide_eq_true ⟨_, List.getElem_mem hlt, g⟩
      rw [e1] at k
      exact ⟨H, le0, k⟩
    · have w1 : IntKind.i64.wrap ((i : Int) + 1) = ((i + 1 : Nat) : Int) := by rw [wi64 (by omega) (by omega)]; omega
      simp -zeta only [g, decide_false, Bool.false_eq_true, if_false, w1]
      refine ⟨H, le0, m - 1, by omega, i + 1, by omega, rfl, fun j x hj2 e => ?_, rfl⟩
      by_cases q : j = i
      · subst q
        rw [ex] at e
        cases e
        exact g
      · exact hj j x (by omega) e
  · simp -zeta only [hlt, decide_false, Bool.false_eq_true, if_false]
    have e1 : decide (∃ x ∈ ps, 64 < x.layers.length) = false := decide_eq_false fun ⟨x, hx, g⟩ => by
      obtain ⟨j, hj2, rfl⟩ := List.mem_iff_getElem.1 hx
      exact hj j _ (by omega) (List.getElem?_eq_getElem hj2) g
    rw [e1] at k
    have : decide ((0 : Int) ≤ -1) = false := by decide
    rw [this]
    exact ⟨H, .refl _, k⟩
end
end Go.Proofs.YtlkhmddmdmlffaaGreatDoor
set_option linter.unusedSimpArgs false
set_option linter.unusedVariables false
set_option maxRecDepth 100000
set_option maxHeartbeats 1000000
namespace Go.Proofs.YtlkhmddmdmlffaaGreatDoor
open Go Go.SL Go.Pure Go.Chest
theorem bodyC_len (l : List Ch) : (bodyC l).length = 4 + (4 + (l.map chC).flatten.length) := by
  rw [bodyC, List.length_append, List.length_append, bg_len]
  rfl
theorem rowC_b {b : List Nat} (h : Bytes b) : Bytes (rowC b) := (bg_bytes _ _).append h
theorem flat_b {α : Type} {f : α → List Nat} : ∀ {l : List α}, (∀ x ∈ l, Bytes (f x)) → Bytes (l.map f).flatten
  | [], _ => by intro x hx; simp at hx
  | a :: l, h => by
    rw [List.map_cons, List.flatten_cons]
    exact (h a (by simp)).append (flat_b fun x hx => h x (by simp [hx]))
theorem bodyC_b {l : List Ch} (h : ∀ x ∈ l, Bytes x.tag ∧ Bytes x.text ∧ ∀ b ∈ x.layers, Bytes b) : Bytes (bodyC l) := by
  refine Bytes.append (by unfold Bytes markC; decide) ((bg_bytes _ _).append (flat_b fun x hx => ?_))
  obtain ⟨h1, h2, h3⟩ := h x hx
  exact ((rowC_b h1).append (rowC_b h2)).append ((bg_bytes _ _).append (flat_b fun b hb => rowC_b (h3 b hb)))
theorem CsR.bytes {R : Hp} {v : Value} {l : List Ch} (a : CsR R v l) : ∀ x ∈ l, Bytes x.tag ∧ Bytes x.text ∧ ∀ b ∈ x.layers, Bytes b := by
  intro x hx
  obtain ⟨i, hi, rfl⟩ := List.mem_iff_getElem.1 hx
  obtain ⟨items, _, _, hit⟩ := a
  obtain ⟨tv, lv, _, en⟩ := hit i _ (List.getElem?_eq_getElem hi)
  exact ⟨en.bt, en.bx, en.bl⟩
/-- May chests be written? -/
def mayC (l : List Ch) : Prop := l.length ≤ 1024 ∧ ∀ x ∈ l, x.layers.length ≤ 64
theorem nilCk_sum {h H : Hp} {vc : Value} {c : Cr} {S : List Nat} {K : Value → Prop} (a : CrN h vc c S) : q P H (nilCk (.func (.method "Sum") #[vc] #[])) K = K (.func (.method "Sum") #[vc] #[]) := by
  cases c with
  | real =>
    obtain ⟨rfl, _⟩ := a
    exact q_of (by kernel_rfl) K
  | book ts bs =>
    obtain ⟨_, p, rfl, _⟩ := a
    exact q_of (by kernel_rfl) K
theorem bldW {h : Hp} {K : Value → Prop} (a : Option Addr) (i c : Nat) : q P h (Instr.build t_chest_writer #[(0, .slice a i c)]) K = K (.agg #[.slice a i c]) := q_of (by kernel_rfl) K
/-- What is owned is lent: to be read for a while. -/
def lend (R h : Hp) (T : List Nat) : Hp := fun x => if x ∈ T then h x else R x
def taken (R : Hp) (T : List Nat) : Hp := fun x => if x ∈ T then none else R x
theorem lend_in {R h : Hp} {T : List Nat} {x : Nat} (hx : x ∈ T) : lend R h T x = h x := if_pos hx
theorem lend_out {R h : Hp} {T : List Nat} {x : Nat} (hx : x ∉ T) : lend R h T x = R x := if_neg hx
theorem taken_in {R : Hp} {T : List Nat} {x : Nat} (hx : x ∈ T) : taken R T x = none := if_pos hx
theorem taken_out {R : Hp} {T : List Nat} {x : Nat} (hx : x ∉ T) : taken R T x = R x := if_neg hx
theorem own_lend {R h : Hp} {S T : List Nat} (w : Own R h S) (t : Own R h T) (d : ∀ b, b ∈ S → b ∉ T) : Own (lend R h T) h S :=
  ⟨fun x o e => by
    by_cases q : x ∈ T
    · rw [lend_in q] at e; exact e
    · rw [lend_out q] at e; exact w.sub x o e, fun x hx => by rw [lend_out (d x hx)]; exact w.dis x hx, w.kn⟩
theorem stp_taken {R h R' h' : Hp} {S S' T : List Nat} (t : Own R h T) (d : ∀ b, b ∈ S → b ∉ T) (s : Stp (lend R h T) h R' h' S S') :
    Stp R h (taken R' T) h' S S' ∧ Own (taken R' T) h' T ∧ (∀ b, b ∈ T → h' b = h b) ∧ ∀ b, b ∈ S' → b ∉ T := by
  have same : ∀ b, b ∈ T → h' b = h b := fun b hb => by
    obtain ⟨o, e⟩ := t.kn b hb
    rw [e]
    exact s.own.sub b o (s.ext b o (by rw [lend_in hb]; exact e))
  have nS : ∀ b, b ∈ S' → b ∉ T := fun b hb q => by
    obtain ⟨o, e⟩ := t.kn b q
    exact s.frS b o (fun z => d b z q) e hb
  refine ⟨⟨fun x o e => ?_, s.keep, s.frS, fun b o n e r => ?_, ⟨fun x o e => ?_, fun x hx => ?_, s.own.kn⟩⟩, ⟨fun x o e => ?_, fun x hx => taken_in hx, fun x hx => ?_⟩, same, nS⟩
  · have q : x ∉ T := fun q => by rw [t.dis x q] at e; cases e
    rw [taken_out q]
    exact s.ext x o (by rw [lend_out q]; exact e)
  · by_cases q : b ∈ T
    · exact taken_in q
    · rw [taken_out q]
      exact s.frR b o n e (by rw [lend_out q]; exact r)
  · by_cases q : x ∈ T
    · rw [taken_in q] at e; cases e
    · rw [taken_out q] at e; exact s.own.sub x o e
  · by_cases q : x ∈ T
    · exact taken_in q
    · rw [taken_out q]; exact s.own.dis x hx
  · by_cases q : x ∈ T
    · rw [taken_in q] at e; cases e
    · rw [taken_out q] at e; exact s.own.sub x o e
  · obtain ⟨o, e⟩ := t.kn x hx
    exact ⟨o, by rw [same x hx]; exact e⟩
section
variable {R h : Hp} {K : Value → Hp → Prop}
theorem T_chestBytes {vc v : Value} {c : Cr} {S : List Nat} {l : List Ch} (w : Own R h S) (hC : CrN h vc c S) (hf : fewT 1000000 c) (r : CsR R v l)
    (ll : l.length ≤ 1099511627776) (lm : ∀ x ∈ l, x.layers.length ≤ 1099511627776)
    (ls : mayC l → (∀ x ∈ l, OkC x) ∧ (bodyC l).length ≤ 1000000000)
    (k0 : ¬ mayC l → K (.tuple #[.slice none 0 0, .int .i64 3]) h)
    (k1 : mayC l → ∀ rv R' h', Stp R h R' h' S S → CrN h' vc (crSum c (bodyC l)).2 S → Rn R' .u8 rv (bodyC l ++ (crSum c (bodyC l)).1) → K (.tuple #[rv, .int .i64 0]) h') :
    Cn P n_chest_Bytes #[vc, v] h K := by
  refine Cn_wk (F_chest_Bytes ?_)
  unfold s_chest_Bytes
  obtain ⟨av, cv, ev, hcv⟩ := r.shape
  have ln : ∀ {H : Hp} {K : Value → Prop}, q P H (Builtin.len_ #[t_Sl_api_Chest] t_int #[v]) K = K (.int .i64 (l.length : Nat)) := fun {H K} => by rw [ev]; exact q_lenS u_Sl_api_Chest _ _ _
  obtain ⟨tc, vcv, evc⟩ := hC.shape
  intro J2
  have q2 : mayC l → J2 h := by
    intro mc
    obtain ⟨okc, lb⟩ := ls mc
    have k1 := k1 mc
    have bl := bodyC_len l
    simp -zeta only [J2]
    clear J2
    refine aw_lit (ps := [(0, .int .u8 79), (1, .int .u8 67), (2, .int .u8 72), (3, .int .u8 49)]) u_Sl_uint8 z_uint8 zr_uint8 rfl (by omega) (by intro p hp; simp only [List.mem_cons, List.not_mem_nil, or_false] at hp; rcases hp with rfl | rfl | rfl | rfl <;> exact ⟨rfl, by simp⟩) fun x h2 _ hx => ?_
    obtain ⟨rb, hrb, rfl, rfl⟩ := hx
    refine aw_mark hrb rfl fun h3 n3 => ?_
    have n3' : New h t_uint8 1 (.slice (some ⟨rb, 0, none⟩) 4 4) h3 (nv .u8 markC) markC.length := n3
    rw [bldW]
    obtain ⟨So, o3, f3⟩ := OutAt.of n3'
    have oS3 : Own R h3 So := (OutAt.step w.nil o3 (fun x o _ e => n3.ext x o e) (fun x o _ e q => by rw [f3 x q] at e; cases e)).own
    refine aw_box fun p hp => ?_
    have hC1 : (Value.agg #[Value.slice (some ⟨rb, 0, none⟩) 4 4]).cells.toList = [Value.slice (some ⟨rb, 0, none⟩) 4 4] := rfl
    have hC2 : (Value.agg #[Value.slice (some ⟨rb, 0, none⟩) 4 4]).cells.size = 1 := rfl
    rw [hC1, hC2]
    obtain ⟨op, oSo4, djp, sameSo⟩ := oS3.mk1 (.row t_chest_writer [Value.slice (some ⟨rb, 0, none⟩) 4 4] 1 (some (0, 0))) hp
    have x34 : Hp.ext h3 (h3.set p (.row t_chest_writer [Value.slice (some ⟨rb, 0, none⟩) 4 4] 1 (some (0, 0)))) := ext_set _ hp
    have row4 : (h3.set p (.row t_chest_writer [Value.slice (some ⟨rb, 0, none⟩) 4 4] 1 (some (0, 0)))) p = some (.row t_chest_writer [Value.slice (some ⟨rb, 0, none⟩) 4 4] 1 (some (0, 0))) := Hp.set_same ..
    generalize h3.set p (.row t_chest_writer [Value.slice (some ⟨rb, 0, none⟩) 4 4] 1 (some (0, 0))) = h4 at *
    have aW : WrA R h4 p So markC := ⟨_, op.app oSo4, fun q => djp p q (by simp), row4, o3.keep fun b hb => sameSo b hb⟩
    have xh4 : Hp.ext h h4 := n3.ext.trans x34
    have freT : ∀ x, x ∈ p :: So → h x = none := fun x hx => by
      rcases List.mem_cons.1 hx with rfl | q
      · exact n3.ext.none hp
      · exact f3 x q
    have g4 : Stp R h R h4 S (S ++ (p :: So)) := (Stp.ext0 w xh4).gain aW.own freT
    have oS4 : Own R h4 S := (Stp.ext0 w xh4).own
    have djPS : ∀ b, b ∈ S → b ∉ p :: So := fun b hb q => by
      obtain ⟨o, e⟩ := w.kn b hb
      rw [freT b q] at e; cases e
    have hC4 : CrN h4 vc c S := hC.ext w xh4
    refine T_list_Chest aW r (by have := mc.1; omega) okc (by rw [show markC.length = 4 from rfl]; omega) fun R5 h5 So5 s5 a5 => ?_
    have a5' : WrA R5 h5 p So5 (bodyC l) := a5
    obtain ⟨oS5, dj5, same5⟩ := s5.frame oS4 djPS
    have g5 : Stp R h R5 h5 S (S ++ (p :: So5)) := g4.trans ((s5.wide oS4 djPS).perm (fun x => by simp only [List.mem_append]; exact or_comm) (fun x => by simp only [List.mem_append]; exact or_comm))
    have hC5 := hC4.keep same5
    clear a5 aW o3 g4 s5
    have ow5 := a5'.own
    obtain ⟨bv, c5, _⟩ := a5'.cell
    have bb : Bytes (bodyC l) := bodyC_b r.bytes
    -- lent for a while
    have oL := own_lend oS5 ow5 dj5
    have r6 : Rn (lend R5 h5 (p :: So5)) .u8 bv (bodyC l) := by
      obtain ⟨bv', _, _, row, o⟩ := a5'
      have : bv' = bv := by rw [cell_row row] at c5; simpa using c5
      subst this
      have : OutAt t_uint8 1 (lend R5 h5 (p :: So5)) bv' (nv .u8 (bodyC l)) (bodyC l).length So5 := o.keep fun b hb => lend_in (by simp [hb])
      exact this.rds
    subst evc
    simp -zeta only [GL, RL, wf0, c5]
    rw [nilCk_sum hC]
    refine T_sumN oL hC5 hf r6 bb (by omega) fun sv R7 h7 s7 C7 r7 => ?_
    obtain ⟨s7', ow7, same7, _⟩ := stp_taken ow5 dj5 s7
    have a7 : WrA (taken R7 (p :: So5)) h7 p So5 (bodyC l) := by
      obtain ⟨bv', _, nn, row, o⟩ := a5'
      exact ⟨bv', ow7, nn, by rw [same7 p (by simp)]; exact row, o.keep fun b hb => same7 b (by simp [hb])⟩
    have g7 := g5.trans (s7'.wide ow5 fun b hb q => dj5 b q hb)
    have c7 : h7.cell ⟨p, 0, none⟩ = some bv := by
      obtain ⟨o, e⟩ := ow5.kn p (by simp)
      unfold Hp.cell at c5 ⊢
      rw [same7 p (by simp)]
      exact c5
    refine ⟨pk_q fun K => by simp only [RL, c7, GL], pk_q fun K => by rw [wf0], ?_⟩
    obtain ⟨bv', _, nn, row, o7⟩ := a7
    have : bv' = bv := by rw [cell_row row] at c7; simpa using c7
    subst this
    have lsum := crSum_len c (bodyC l)
    refine aw_appO o7 (s7.own.rn r7) (by omega) fun v8 h8 So8 o8 kp8 fr8 => ?_
    have s8 := OutAt.step (ow7.sub' fun x hx => List.mem_cons_of_mem _ hx) o8 kp8 fr8
    have oSP : Own (taken R7 (p :: So5)) h7 (S ++ [p]) := s7'.own.app (ow7.sub' fun x hx => by rw [List.mem_singleton.1 hx]; simp)
    have djSP : ∀ b, b ∈ S ++ [p] → b ∉ So5 := fun b hb q => by
      rcases List.mem_append.1 hb with z | z
      · exact dj5 b z (List.mem_cons_of_mem _ q)
      · rw [List.mem_singleton.1 z] at q; exact nn q
    obtain ⟨_, djS8, same8⟩ := s8.frame oSP djSP
    have g8 := g7.trans ((s8.wide oSP djSP).perm (T := S ++ (p :: So5)) (T' := So8 ++ (S ++ [p])) (fun x => by simp only [List.mem_append, List.mem_cons, List.not_mem_nil, or_false]; constructor <;> (intro z; rcases z with z | z | z <;> simp [z])) (fun x => Iff.rfl))
    rcases o8 with ⟨_, e0, _, _⟩ | ⟨b, cc, f, hb8, rfl, hcc, hff, rfl, hll⟩
    · rw [List.length_append] at e0; omega
    · have gF := g8.fix (b := b) (T' := S) (List.mem_append_left _ (by simp)) hb8 fun x hx => ⟨List.mem_append_right _ (List.mem_append_left _ hx), fun q => djS8 x (List.mem_append_left _ hx) (by rw [q]; simp)⟩
      refine ⟨h8, .refl _, k1 _ _ h8 gF ?_ ?_⟩
      · exact C7.keep fun z hz => same8 z (List.mem_append_left _ hz)
      · exact ⟨by rw [nv_len, Nat.mul_one], _, cc, rfl, hcc, .inr ⟨b, 0, rfl, fun i y e => by rw [cell_row (Hp.set_same ..), Nat.zero_add]; exact e⟩⟩
  clear_value J2
  rw [ln]
  have d1 : decide ((1024 : Int) < ((l.length : Nat) : Int)) = decide (1024 < l.length) := lt_dec 1024 _
  simp -zeta only [GL, d1]
  by_cases g : 1024 < l.length
  · simp -zeta only [g, decide_true, Bool.true_eq_false, if_false, if_true]
    exact ⟨h, .refl _, k0 fun q => by have := q.1; omega⟩
  · simp -zeta only [g, decide_false, if_true]
    refine T_manyC r w.sub (by omega) (fun x hx => by have := lm x hx; omega) ?_
    by_cases g2 : ∃ x ∈ l, 64 < x.layers.length
    · rw [decide_eq_true g2]
      simp -zeta only [GL, if_true]
      obtain ⟨x, hx, hx2⟩ := g2
      exact ⟨h, .refl _, k0 fun q => by have := q.2 x hx; omega⟩
    · rw [decide_eq_false g2]
      simp -zeta only [GL, Bool.false_eq_true, if_false]
      exact q2 ⟨by omega, fun x hx => by
        rcases Nat.lt_or_ge 64 x.layers.length with z | z
        · exact absurd ⟨x, hx, z⟩ g2
        · exact z⟩
end
end Go.Proofs.YtlkhmddmdmlffaaGreatDoor
set_option linter.unusedSimpArgs false
set_option linter.unusedVariables false
set_option maxRecDepth 100000
set_option maxHeartbeats 1000000
namespace Go.Proofs.YtlkhmddmdmlffaaGreatDoor
open Go Go.SL Go.Pure Go.Chest
theorem getD_pad (l : List Nat) (i k : Nat) : (l ++ List.replicate k 0).getD i 0 = l.getD i 0 := by
  rw [List.getD_eq_getElem?_getD, List.getD_eq_getElem?_getD]
  by_cases h : i < l.length
  · rw [List.getElem?_append_left h]
  · rw [List.getElem?_append_right (by omega), List.getElem?_eq_none (l := l) (by omega)]
    cases e : (List.replicate k 0)[i - l.length]? with
    | none => rfl
    | some x =>
      have := List.eq_of_mem_replicate (List.mem_of_getElem? e)
      simp [this]
section
variable {R h : Hp} {K : Value → Hp → Prop}
/-- A number out of few bytes: what isn't there counts as 0. -/
theorem T_getBig32 {v : Value} {l : List Nat} (hr : Rn h .u8 v l) (hb : Bytes l) (k : ∀ n, n < 4294967296 → (4 ≤ l.length → n = bval (l.take 4)) → K (.int .u32 (n : Int)) h) : Cn P n_word_GetBig32 #[v] h K := by
  have hbP : Bytes (l ++ List.replicate 4 0) := hb.append fun x hx => by rw [List.eq_of_mem_replicate hx]; decide
  refine F_word_GetBig32 ?_
  unfold s_word_GetBig32
  refine F_word_getBig ?_
  unfold s_word_getBig
  refine Lp_mk (fun m vs h' => ∃ i, i + m = 4 ∧ h' = h ∧ vs = [.int .u64 ((bval ((l ++ List.replicate 4 0).take i) : Nat) : Int), .int .i64 (i : Int)]) 4 ⟨0, by omega, rfl, rfl⟩ ?_
  rintro m vs h1 ⟨i, hi, rfl, rfl⟩
  have e4 : decide ((i : Int) < 4) = decide (i < 4) := lt_dec i 4
  simp (disch := omega) only [GL, RL, e4]
  by_cases hlt : i < 4
  · simp only [hlt, decide_true, if_true]
    refine T_word_at i hr hb ?_
    have b1 := bval_take_lt hbP i
    have b2 := hb.getD i
    have bi : 256 ^ i ≤ 256 ^ 7 := Nat.pow_le_pow_right (by decide) (by omega)
    have p7 : (256 : Nat) ^ 7 = 72057594037927936 := rfl
    have e1 : IntKind.u64.wrap (((bval ((l ++ List.replicate 4 0).take i) : Nat) : Int) * 2 ^ min (Int.toNat 8) IntKind.u64.bits) = ((bval ((l ++ List.replicate 4 0).take i) * 2 ^ 8 : Nat) : Int) := by
      rw [show min (Int.toNat 8) IntKind.u64.bits = 8 from rfl, mulp, wu64, Nat.mod_eq_of_lt (by omega)]
    have e2 : ior .u64 ((bval ((l ++ List.replicate 4 0).take i) * 2 ^ 8 : Nat) : Int) ((l.getD i 0 : Nat) : Int) = ((bval ((l ++ List.replicate 4 0).take (i + 1)) : Nat) : Int) := by
      rw [orN (by omega) (by omega), Nat.or_comm, or_add _ _ 8 b2, bval_take_succ _ i (by rw [List.length_append, List.length_replicate]; omega), getD_pad]
      congr 1
      omega
    simp (disch := omega) only [GL, RL, wi64, e1, e2]
    exact ⟨_, .refl _, m - 1, by omega, i + 1, by omega, rfl, rfl⟩
  · obtain rfl : i = 4 := by omega
    simp only [hlt, decide_false, Bool.false_eq_true, if_false]
    have b1 := bval_take_lt hbP 4
    have e : IntKind.u32.wrap ((bval ((l ++ List.replicate 4 0).take 4) : Nat) : Int) = ((bval ((l ++ List.replicate 4 0).take 4) : Nat) : Int) := by rw [wu32, Nat.mod_eq_of_lt (by omega)]
    simp (disch := omega) only [GL, RL, e]
    exact k _ (by omega) fun h4 => by rw [List.take_append_of_le_length h4]
end
theorem cdf0 {h : Hp} {K : Value → Prop} (b : Nat) : q P h (Instr.fieldAt t_chest_reader (.pointer (some ⟨b, 0, none⟩)) 0) K = K (.pointer (some ⟨b, 0, none⟩)) := q_of (by kernel_rfl) K
theorem cdf1 {h : Hp} {K : Value → Prop} (b : Nat) : q P h (Instr.fieldAt t_chest_reader (.pointer (some ⟨b, 0, none⟩)) 1) K = K (.pointer (some ⟨b, 1, none⟩)) := q_of (by kernel_rfl) K
/-- A reader, with what it still has to read. -/
def RcA (R h : Hp) (rr : Nat) (bad : Bool) (cur : List Nat) : Prop := ∃ bv, Own R h [rr] ∧ h rr = some (.row t_chest_reader [bv, .bool bad] 2 (some (0, 0))) ∧ Rn R .u8 bv cur ∧ Bytes cur ∧ cur.length ≤ 1000000000
section
variable {R h : Hp} {K : Value → Hp → Prop} {rr : Nat} {bad : Bool} {cur : List Nat}
theorem RcA.own (a : RcA R h rr bad cur) : Own R h [rr] := let ⟨_, w, _⟩ := a; w
theorem RcA.ext {R' h' : Hp} (a : RcA R h rr bad cur) (x : Hp.ext h h') (st : Stp R h R' h' [rr] [rr]) : RcA R' h' rr bad cur := by
  obtain ⟨bv, w, row, r, b, l⟩ := a
  exact ⟨bv, st.own, x _ _ row, r.mono st.ext.cle, b, l⟩
theorem RcA.cells (a : RcA R h rr bad cur) : ∃ bv, h.cell ⟨rr, 0, none⟩ = some bv ∧ h.cell ⟨rr, 1, none⟩ = some (.bool bad) ∧ Rn R .u8 bv cur ∧ Bytes cur ∧ cur.length ≤ 1000000000 := by
  obtain ⟨bv, w, row, r, b, l⟩ := a
  exact ⟨bv, by rw [cell_row row]; rfl, by rw [cell_row row]; rfl, r, b, l⟩
theorem rc_put (a : RcA R h rr bad cur) {bv' : Value} {bad' : Bool} {cur' : List Nat} (r : Rn R .u8 bv' cur') (b : Bytes cur') (l : cur'.length ≤ 1000000000) :
    RcA R (h.set rr (.row t_chest_reader [bv', .bool bad'] 2 (some (0, 0)))) rr bad' cur' ∧ Stp R h R (h.set rr (.row t_chest_reader [bv', .bool bad'] 2 (some (0, 0)))) [rr] [rr] := by
  have st : Stp R h R (h.set rr (.row t_chest_reader [bv', .bool bad'] 2 (some (0, 0)))) [rr] [rr] := Stp.within a.own (fun b hb => Hp.set_ne _ _ (by rintro rfl; exact hb (by simp))) (fun b hb => by
    by_cases q : b = rr
    · subst q; exact ⟨_, Hp.set_same ..⟩
    · rw [Hp.set_ne _ _ q]; exact a.own.kn b hb)
  exact ⟨⟨bv', st.own, Hp.set_same .., r, b, l⟩, st⟩
/-- A number is read, or nothing is right from now on. -/
theorem T_rnumber (a : RcA R h rr bad cur) {most : Nat} (hm : most ≤ 4611686018427387904)
    (kN : (bad = true ∨ numC most cur = none) → ∀ h', Stp R h R h' [rr] [rr] → RcA R h' rr true cur → K (.int .i64 0) h')
    (kS : ∀ n r, bad = false → numC most cur = some (n, r) → ∀ h', Stp R h R h' [rr] [rr] → RcA R h' rr false r → K (.int .i64 (n : Int)) h') :
    Cn P n_chest_reader_number #[.pointer (some ⟨rr, 0, none⟩), .int .i64 (most : Int)] h K := by
  refine F_chest_reader_number ?_
  unfold s_chest_reader_number
  obtain ⟨bv, c0, c1, r, b, l⟩ := a.cells
  simp -zeta only [GL, RL, cdf0, c0]
  refine T_getBig32 (a.own.rn r) b fun n hn he => ?_
  have w1 : IntKind.i64.wrap (n : Int) = (n : Int) := wi64 (by omega) (by omega)
  have en : numC most cur = if cur.length < 4 ∨ most < bval (cur.take 4) then none else some (bval (cur.take 4), cur.drop 4) := rfl
  simp -zeta only [GL, RL, w1]
  intro J4
  have qT : (bad = true ∨ numC most cur = none) → J4 (.bool true) h := by
    intro hbad
    simp -zeta only [J4]
    clear J4
    simp -zeta only [GL, if_true, RL, cdf1]
    obtain ⟨bv', w, row, r', b', l'⟩ := id a
    refine aw_store z_bool rfl (put_row row (by simp) (by omega) _) ?_
    have : bv' = bv := by rw [cell_row row] at c0; simpa using c0
    subst this
    obtain ⟨a1, s1⟩ := rc_put a (bad' := true) r b l
    exact kN hbad _ s1 a1
  have qF : bad = false → ¬ (cur.length < 4 ∨ most < bval (cur.take 4)) → J4 (.bool false) h := by
    intro hbad g
    rw [if_neg g] at en
    simp -zeta only [J4]
    simp -zeta only [GL, Bool.false_eq_true, if_false, RL, cdf0, c0]
    obtain ⟨bv', w, row, r', b', l'⟩ := id a
    have : bv' = bv := by rw [cell_row row] at c0; simpa using c0
    subst this
    obtain ⟨ab, cb, rfl, hcb⟩ := r.shape
    have i4 : (4 : Int) = ((4 : Nat) : Int) := rfl
    rw [i4, q_slLo u_Sl_uint8 z_uint8 ab _ cb _ 4 (by omega) hcb]
    have r4 : Rn R .u8 (.slice (SL.cut ab cb 4 1) (cur.length - 4) (cb - 4)) (cur.drop 4) := by
      have := r.cut 4 cur.length (by omega) (Nat.le_refl _)
      rwa [List.take_length] at this
    refine aw_store z_Sl_uint8 rfl (put_row row (by simp) (by omega) _) ?_
    subst hbad
    obtain ⟨a1, s1⟩ := rc_put a (bad' := false) r4 (b.drop 4) (by rw [List.length_drop]; omega)
    have hn4 := he (by omega)
    exact kS n _ rfl (by rw [en, hn4]) _ s1 a1
  clear_value J4
  obtain ⟨ab, cb, rfl, hcb⟩ := r.shape
  have d1 : decide (((cur.length : Nat) : Int) < 4) = decide (cur.length < 4) := lt_dec _ 4
  have d2 : decide ((most : Int) < (n : Int)) = decide (most < n) := lt_dec _ _
  simp -zeta only [GL, RL, cdf0, c0, d1]
  by_cases g1 : cur.length < 4
  · rw [if_pos (.inl g1)] at en
    simp -zeta only [g1, decide_true, Bool.true_eq_false, if_false, if_true]
    exact qT (.inr en)
  · have hn4 := he (by omega)
    simp -zeta only [g1, decide_false, if_true, GL, d2]
    by_cases g2 : most < n
    · rw [if_pos (.inr (by omega))] at en
      simp -zeta only [g2, decide_true, Bool.true_eq_false, if_false, if_true]
      exact qT (.inr en)
    · simp -zeta only [g2, decide_false, if_true, GL, RL, cdf1, c1]
      cases bad with
      | true => exact qT (.inl rfl)
      | false => exact qF rfl (by omega)
/-- A row is read, or nothing is right from now on. -/
theorem T_rrow (a : RcA R h rr bad cur) 
    (kN : (bad = true ∨ takeC cur = none) → ∀ v R' h', Stp R h R' h' [rr] [rr] → RcA R' h' rr true cur → Rn R' .u8 v [] → K v h')
    (kS : ∀ x r, bad = false → takeC cur = some (x, r) → ∀ v R' h', Stp R h R' h' [rr] [rr] → RcA R' h' rr false r → Rn R' .u8 v x → K v h') :
    Cn P n_chest_reader_row #[.pointer (some ⟨rr, 0, none⟩)] h K := by
  refine Cn_wk (F_chest_reader_row ?_)
  unfold s_chest_reader_row
  obtain ⟨bv, c0, c1, r, b, l⟩ := a.cells
  have r0 := r
  obtain ⟨ab, cb, rfl, hcb⟩ := r.shape
  have w1 : IntKind.i64.wrap (((cur.length : Nat) : Int) - 4) = ((cur.length : Nat) : Int) - 4 := wi64 (by omega) (by omega)
  have em : ∀ {K : Value → Prop}, q P h (Builtin.max_ #[t_int, t_int] t_int #[.int .i64 (((cur.length : Nat) : Int) - 4), .int .i64 0]) K = K (.int .i64 ((cur.length - 4 : Nat) : Int)) := fun {K} => by
    have mx : ((cur.length - 4 : Nat) : Int) = max (((cur.length : Nat) : Int) - 4) 0 := by omega
    rw [mx]
    exact q_of (by
      simp [Builtin.max_, Builtin.max2, pk_pure]
      omega) K
  simp -zeta only [GL, RL, cdf0, c0, w1, em]
  have et : takeC cur = (numC (cur.length - 4) cur).map fun x => (x.2.take x.1, x.2.drop x.1) := rfl
  -- the rest, of a state
  have rest : ∀ (n : Nat) (c2 : List Nat) (bd : Bool) (h1 : Hp), Stp R h R h1 [rr] [rr] → RcA R h1 rr bd c2 → n ≤ c2.length →
      (∀ v R' h', Stp R h R' h' [rr] [rr] → RcA R' h' rr bd (c2.drop n) → Rn R' .u8 v (c2.take n) → K v h') →
      q P h1 (nilCk (.pointer (some ⟨rr, 0, none⟩))) fun t15 => q P h1 (Instr.fieldAt t_chest_reader t15 0) fun t16 => q P h1 (Instr.loadAt t_Sl_uint8 t16) fun t17 => q P h1 (Instr.sliceAt t_Sl_uint8 t17 none (some (.int .i64 (n : Int))) none) fun t19 => Cn P n_bytes_Clone #[t19] h1 fun t20 h => q P h (nilCk (.pointer (some ⟨rr, 0, none⟩))) fun t23 => q P h (Instr.fieldAt t_chest_reader t23 0) fun t24 => q P h (Instr.loadAt t_Sl_uint8 t24) fun t25 => q P h (Instr.sliceAt t_Sl_uint8 t25 (some (.int .i64 (n : Int))) none none) fun t27 => q P h (nilCk (.pointer (some ⟨rr, 0, none⟩))) fun t28 => q P h (Instr.fieldAt t_chest_reader t28 0) fun t29 => aw P (Instr.storeAt t_Sl_uint8 t29 t27) (fun _ h => ∃ h0, Hp.le h0 h ∧ K t20 h0) h := by
    intro n c2 bd h1 s1 a1 hn kk
    obtain ⟨bv1, d0, d1, r1, b1, l1⟩ := a1.cells
    simp -zeta only [GL, RL, cdf0, d0]
    refine q_slRnHi u_Sl_uint8 z_uint8 (a1.own.rn r1) .i64 n hn fun w' rw' => ?_
    refine T_bytes_Clone rw' (by rw [List.length_take]; omega) fun v2 h2 n2 => ?_
    obtain ⟨R2, s2, r2⟩ := Stp.newN a1.own n2
    have a2 := a1.ext n2.ext s2
    obtain ⟨bv2, e0, e1, q2, b2, l2⟩ := a2.cells
    obtain ⟨bv3, w3, row3, q3, b3, l3⟩ := id a2
    have : bv3 = bv2 := by rw [cell_row row3] at e0; simpa using e0
    subst this
    simp -zeta only [GL, RL, cdf0, e0]
    obtain ⟨a5, c5, rfl, hc5⟩ := q2.shape
    rw [q_slLo u_Sl_uint8 z_uint8 a5 _ c5 _ n hn hc5]
    have r4 : Rn R2 .u8 (.slice (SL.cut a5 c5 n 1) (c2.length - n) (c5 - n)) (c2.drop n) := by
      have := q2.cut n c2.length hn (Nat.le_refl _)
      rwa [List.take_length] at this
    refine aw_store z_Sl_uint8 rfl (put_row row3 (by simp) (by omega) _) ?_
    obtain ⟨a6, s6⟩ := rc_put a2 (bad' := bd) r4 (b2.drop n) (by rw [List.length_drop]; omega)
    exact ⟨_, .refl _, kk v2 R2 _ ((s1.trans s2).trans s6) a6 r2⟩
  refine T_rnumber a (by omega) (fun hb h1 s1 a1 => ?_) fun n r1 hb en h1 s1 a1 => ?_
  · have := rest 0 cur true h1 s1 a1 (by omega) fun v R' h' s' a' r' => kN (by
      rcases hb with q | q
      · exact .inl q
      · exact .inr (by rw [et, q]; rfl)) v R' h' s' (by simpa using a') (by simpa using r')
    simp -zeta only [GL, RL, cdf0] at this
    exact this
  · have hn : n ≤ r1.length := by
      unfold numC at en
      split at en
      · cases en
      · simp only [Option.some.injEq, Prod.mk.injEq] at en
        obtain ⟨e1, e2⟩ := en
        rw [← e1, ← e2, List.length_drop]
        omega
    have := rest n r1 false h1 s1 a1 hn fun v R' h' s' a' r' => kS _ _ hb (by rw [et, en]; rfl) v R' h' s' a' r'
    simp -zeta only [GL, RL, cdf0] at this
    exact this
end
end Go.Proofs.YtlkhmddmdmlffaaGreatDoor
set_option linter.unusedSimpArgs false
set_option linter.unusedVariables false
set_option maxRecDepth 100000
set_option maxHeartbeats 1000000
namespace Go.Proofs.YtlkhmddmdmlffaaGreatDoor
open Go Go.SL Go.Pure Go.Chest
theorem takeC_b {b x r : List Nat} (h : Bytes b) (e : takeC b = some (x, r)) : Bytes x ∧ Bytes r ∧ x.length ≤ b.length := by
  unfold takeC numC at e
  split at e
  · cases e
  · simp only [Option.map_some, Option.some.injEq, Prod.mk.injEq] at e
    obtain ⟨e1, e2⟩ := e
    refine ⟨by rw [← e1]; exact (h.drop 4).take _, by rw [← e2]; exact (h.drop 4).drop _, ?_⟩
    rw [← e1, List.length_take, List.length_drop]
    omega
/-- What becomes of a state when something is read. -/
def ReadR {α : Type} (one : List Nat → Option (α × List Nat)) (bad : Bool) (cur : List Nat) (bd : Bool) (x : α) (c' : List Nat) : Prop :=
  (bd = false ∧ bad = false ∧ one cur = some (x, c')) ∨ (bd = true ∧ (bad = true ∨ one cur = none))
theorem stp_set1 {R h : Hp} {S : List Nat} {b : Nat} (w : Own R h S) (hb : b ∈ S) (o : AObj) : Stp R h R (h.set b o) S S :=
  Stp.within w (fun x hx => Hp.set_ne _ _ (by rintro rfl; exact hx hb)) (fun x hx => by
    by_cases q : x = b
    · subst q; exact ⟨_, Hp.set_same ..⟩
    · rw [Hp.set_ne _ _ q]; exact w.kn x hx)
theorem fixOut {R h R' H : Hp} {rr : Nat} {So : List Nat} {t s n : Nat} {v : Value} {xs : List Value} (g : Stp R h R' H [rr] (rr :: So)) (nin : rr ∉ So) (o : OutAt t s H v xs n So) :
    ∃ R'', Stp R h R'' H [rr] [rr] ∧ Hp.ext R' R'' ∧ Rds R'' s v xs n := by
  rcases o with ⟨rfl, rfl, rfl, rfl⟩ | ⟨b, c, f, hb, rfl, hc, hf, rfl, hl⟩
  · exact ⟨R', g, .refl _, by simp, none, 0, rfl, Nat.le_refl _, .inl rfl⟩
  · refine ⟨_, g.fix (b := b) (T' := [rr]) (by simp) hb fun x hx => ?_, ext_set _ (g.own.dis b (by simp)), hl, _, c, rfl, hc, .inr ⟨b, 0, rfl, fun i x e => by rw [cell_row (Hp.set_same ..), Nat.zero_add]; exact e⟩⟩
    rw [List.mem_singleton.1 hx]
    exact ⟨by simp, fun q => nin (by rw [q]; simp)⟩
section
variable {R h : Hp} {K : Value → Hp → Prop} {rr : Nat} {bad : Bool} {cur : List Nat}
theorem RcA.up {R' : Hp} (a : RcA R h rr bad cur) (x : Hp.ext R R') (w : Own R' h [rr]) : RcA R' h rr bad cur := by
  obtain ⟨bv, _, row, r, b, l⟩ := a
  exact ⟨bv, w, row, r.mono x.cle, b, l⟩
theorem RcA.same {h' : Hp} (a : RcA R h rr bad cur) (w : Own R h' [rr]) (e : h' rr = h rr) : RcA R h' rr bad cur := by
  obtain ⟨bv, _, row, r, b, l⟩ := a
  exact ⟨bv, w, by rw [e]; exact row, r, b, l⟩
theorem T_row (a : RcA R h rr bad cur)
    (k : ∀ bd x c', ReadR takeC bad cur bd x c' → ∀ v R' h', Stp R h R' h' [rr] [rr] → RcA R' h' rr bd c' → Rn R' .u8 v x → Bytes x → K v h') : Cn P n_chest_reader_row #[.pointer (some ⟨rr, 0, none⟩)] h K := by
  obtain ⟨_, _, _, _, bc, lc⟩ := a.cells
  exact T_rrow a (fun hb v R' h' s a' r' => k true [] cur (.inr ⟨rfl, hb⟩) v R' h' s a' r' (by intro z hz; cases hz))
    (fun x r hb e v R' h' s a' r' => k false x r (.inl ⟨rfl, hb, e⟩) v R' h' s a' r' (takeC_b bc e).1)
theorem T_some_byte (a : RcA R h rr bad cur) {most : Nat} (hm : most ≤ 100000)
    (k : ∀ bd ps c', ReadR (someC takeC most) bad cur bd ps c' → ∀ v R' h', Stp R h R' h' [rr] [rr] → RcA R' h' rr bd c' → LsR R' v ps → (∀ b ∈ ps, Bytes b) → K v h') :
    Cn P n_chest_some_byte #[.pointer (some ⟨rr, 0, none⟩), .int .i64 (most : Int), .func (.func n_chest_reader_row) #[.pointer (some ⟨rr, 0, none⟩)] #[]] h K := by
  refine Cn_wk (F_chest_some_byte ?_)
  unfold s_chest_some_byte
  refine T_rnumber a (by omega) (fun hb h1 s1 a1 => ?_) fun n r0 hb en h1 s1 a1 => ?_
  · refine Lp_mk (fun m vs H => vs = [.slice none 0 0, .slice none 0 0, .int .i64 0] ∧ H = h1) 0 ⟨rfl, rfl⟩ ?_
    rintro m vs H ⟨rfl, rfl⟩
    simp -zeta only [GL, List.getD_cons_zero, List.getD_cons_succ, show decide ((0 : Int) < 0) = false from rfl, Bool.false_eq_true, if_false]
    refine ⟨H, .refl _, k true [] cur (.inr ⟨rfl, ?_⟩) _ R H s1 a1 (LsR.nil R) (by intro b hb; cases hb)⟩
    rcases hb with q | q
    · exact .inl q
    · exact .inr (by rw [someC, q])
  · have hn : n ≤ most := by
      unfold numC at en
      split at en
      · cases en
      · simp only [Option.some.injEq, Prod.mk.injEq] at en
        omega
    have e0 : someC takeC most cur = manyC takeC n r0 := by rw [someC, en]
    refine Lp_mk (fun m vs H => ∃ (i : Nat) (R' : Hp) (So : List Nat) (out : Value) (ws : List Value) (ps : List (List Nat)) (r : List Nat), i + m = n ∧ ps.length = i ∧ Stp R h R' H [rr] (rr :: So) ∧ rr ∉ So ∧ OutAt t_Sl_uint8 1 H out ws ps.length So ∧ PsV R' ws ps ∧ RcA R' H rr false r ∧ (∀ b ∈ ps, Bytes b) ∧
        manyC takeC n r0 = (manyC takeC m r).map (fun x => (ps ++ x.1, x.2)) ∧ vs = [out, .slice none 0 0, .int .i64 (i : Int)]) n
      ⟨0, R, [], .slice none 0 0, [], [], r0, by omega, rfl, s1, by simp, .inl ⟨rfl, rfl, rfl, rfl⟩, PsV.nil R, a1, by simp, by simp, rfl⟩ ?_
    rintro m vs H ⟨i, R', So, out, ws, ps, r, hi, hl, g, nin, o, pv, a2, pb, em, rfl⟩
    simp -zeta only [GL, List.getD_cons_zero, List.getD_cons_succ, lt_dec]
    have oS : Own R' H So := g.own.sub' fun x hx => List.mem_cons_of_mem _ hx
    by_cases hlt : i < n
    · simp -zeta only [hlt, decide_true, if_true]
      obtain ⟨m, rfl⟩ : ∃ k, m = k + 1 := ⟨m - 1, by omega⟩
      refine callP_cn (by kernel_rfl) ?_
      refine T_row a2 fun bd x c' rel v R3 h3 s3 a3 r3 bx => ?_
      have dj : ∀ b, b ∈ So → b ∉ [rr] := fun b hb q => nin (by rw [← List.mem_singleton.1 q]; exact hb)
      obtain ⟨oS3, _, same3⟩ := s3.frame oS dj
      have g3 : Stp R h R3 h3 [rr] (rr :: So) := g.trans (s3.wide oS dj)
      have o3 := o.keep same3
      refine aw_lit (ps := [(0, v)]) (n := 1) u_Sl_Sl_uint8 z_Sl_uint8 zr_Sl_uint8 rfl (by omega) (by intro p hp; rw [List.mem_singleton.1 hp]; exact ⟨rn_flat r3, by show _ < 1; omega⟩) fun v4 h4 n4 _ => ?_
      have n4' : New h3 t_Sl_uint8 1 v4 h4 [v] 1 := n4
      obtain ⟨R4, s4, q4⟩ := Stp.new g3.own n4'
      have g4 := g3.trans s4
      have o4 : OutAt t_Sl_uint8 1 h4 out ws ps.length So := o3.keep fun b hb => by
        obtain ⟨ob, e⟩ := oS3.kn b hb
        rw [e, n4'.ext b ob e]
      have a4 : RcA R4 h4 rr bd c' := a3.ext n4'.ext ⟨s4.ext, fun b ob hn e => n4'.ext b ob e, fun b ob hn e => hn, fun b ob hn e r => by
        by_cases q : b ∈ So
        · exact g4.own.dis b (List.mem_cons_of_mem _ q)
        · exact s4.frR b ob (fun z => by rcases List.mem_cons.1 z with z | z; exact hn (by simp [z]); exact q z) e r, g4.own.sub' fun x hx => by rw [List.mem_singleton.1 hx]; simp⟩
      have oS4 : Own R4 h4 So := g4.own.sub' fun x hx => List.mem_cons_of_mem _ hx
      have orr4 : Own R4 h4 [rr] := g4.own.sub' fun x hx => by rw [List.mem_singleton.1 hx]; simp
      refine aw_appendO u_Sl_Sl_uint8 u_Sl_Sl_uint8 nfo_Sl_uint8 rfl (by omega) o4 n4'.rds (by intro y hy; rw [List.mem_singleton.1 hy]; exact rn_flat r3) (by omega) fun v5 h5 So5 o5 kp5 fr5 => ?_
      have s5 := OutAt.step oS4 o5 kp5 fr5
      have dj2 : ∀ b, b ∈ [rr] → b ∉ So := fun b hb => by rw [List.mem_singleton.1 hb]; exact nin
      obtain ⟨orr5, dj5, same5⟩ := s5.frame orr4 dj2
      have g5 : Stp R h R4 h5 [rr] (rr :: So5) := g4.trans ((s5.wide orr4 dj2).perm (fun x => by simp [or_comm]) (fun x => by simp [or_comm]))
      have a5 : RcA R4 h5 rr bd c' := a4.same orr5 (same5 rr (by simp))
      have nin5 : rr ∉ So5 := dj5 rr (by simp)
      obtain ⟨bv5, c50, c51, _⟩ := a5.cells
      simp -zeta only [GL, RL, cdf1, c51]
      rcases rel with ⟨rfl, _, et⟩ | ⟨rfl, et⟩
      · have w1 : IntKind.i64.wrap ((i : Int) + 1) = ((i + 1 : Nat) : Int) := by rw [wi64 (by omega) (by omega)]; omega
        simp -zeta only [Bool.false_eq_true, if_false, GL, w1]
        refine ⟨h5, .refl _, m, by omega, i + 1, R4, So5, v5, ws ++ [v], ps ++ [x], c', by omega, by simp [hl], g5, nin5, by rw [List.length_append]; exact o5, (pv.mono (s3.ext.trans s4.ext).cle).app (PsV.one (r3.mono s4.ext.cle)), a5, fun b hb => ?_, ?_, rfl⟩
        · rcases List.mem_append.1 hb with q | q
          · exact pb b q
          · rw [List.mem_singleton.1 q]; exact bx
        · rw [em, manyC, et]
          dsimp only
          cases manyC takeC m c' with
          | none => rfl
          | some y => simp
      · simp -zeta only [if_true]
        obtain ⟨R6, s6, x6, _⟩ := fixOut g5 nin5 o5
        refine ⟨h5, .refl _, k true [] c' (.inr ⟨rfl, .inr ?_⟩) _ R6 h5 s6 (a5.up x6 s6.own) (LsR.nil _) (by intro b hb; cases hb)⟩
        have et : takeC r = none := by
          rcases et with q | q
          · cases q
          · exact q
        rw [e0, em, manyC, et]
        rfl
    · obtain rfl : m = 0 := by omega
      simp -zeta only [hlt, decide_false, Bool.false_eq_true, if_false]
      obtain ⟨R6, s6, x6, rd⟩ := fixOut g nin o
      refine ⟨H, .refl _, k false ps r (.inl ⟨rfl, hb, ?_⟩) _ R6 H s6 (a2.up x6 s6.own) ⟨ws, rd, pv.mono x6.cle⟩ pb⟩
      rw [e0, em, manyC]
      simp
end
end Go.Proofs.YtlkhmddmdmlffaaGreatDoor
set_option linter.unusedSimpArgs false
set_option linter.unusedVariables false
set_option maxRecDepth 100000
set_option maxHeartbeats 1000000
namespace Go.Proofs.YtlkhmddmdmlffaaGreatDoor
open Go Go.SL Go.Pure Go.Chest
theorem bldC1 {h : Hp} {K : Value → Prop} (s : ByteArray) : q P h (Instr.build t_api_Chest #[(0, .string s)]) K = K (.agg #[.string s, .slice none 0 0, .slice none 0 0]) := q_of (by kernel_rfl) K
section
variable {R h : Hp} {K : Value → Hp → Prop} {rr : Nat} {bad : Bool} {cur : List Nat}
theorem T_rchest (a : RcA R h rr bad cur)
    (k : ∀ bd x c', ReadR chestC bad cur bd x c' → ∀ tv lv R' h', Stp R h R' h' [rr] [rr] → RcA R' h' rr bd c' → ChR R' x tv lv → K (.agg (chV x tv lv).toArray) h') :
    Cn P n_chest_reader_chest #[.pointer (some ⟨rr, 0, none⟩)] h K := by
  refine F_chest_reader_chest ?_
  unfold s_chest_reader_chest
  refine aw_allocL [.string ⟨#[]⟩, .slice none 0 0, .slice none 0 0] zr_Ch rfl fun b2 hb2 => ?_
  have x1 := ext_set (.row t_api_Chest [.string ⟨#[]⟩, .slice none 0 0, .slice none 0 0] ([.string ⟨#[]⟩, .slice none 0 0, .slice none 0 0] : List Value).length (some (0, 0))) hb2
  obtain ⟨ob2, oa2, dja2, same2⟩ := a.own.mk1 (.row t_api_Chest [.string ⟨#[]⟩, .slice none 0 0, .slice none 0 0] ([.string ⟨#[]⟩, .slice none 0 0, .slice none 0 0] : List Value).length (some (0, 0))) hb2
  have g1 := (Stp.ext0 a.own x1).gain ob2 (fun x hx => by rw [List.mem_singleton.1 hx]; exact hb2)
  have a1 := a.same oa2 (same2 rr (by simp))
  have row2 : (h.set b2 (.row t_api_Chest [.string ⟨#[]⟩, .slice none 0 0, .slice none 0 0] ([.string ⟨#[]⟩, .slice none 0 0, .slice none 0 0] : List Value).length (some (0, 0)))) b2 = some (.row t_api_Chest [.string ⟨#[]⟩, .slice none 0 0, .slice none 0 0] 3 (some (0, 0))) := Hp.set_same ..
  have n2 : rr ≠ b2 := fun q => dja2 rr (by simp) (by simp [q])
  generalize h.set b2 (.row t_api_Chest [.string ⟨#[]⟩, .slice none 0 0, .slice none 0 0] ([.string ⟨#[]⟩, .slice none 0 0, .slice none 0 0] : List Value).length (some (0, 0))) = h1 at *
  have djb : ∀ b, b ∈ [b2] → b ∉ [rr] := fun b hb q => by rw [List.mem_singleton.1 hb] at q; exact n2 (List.mem_singleton.1 q).symm
  refine T_row a1 fun bd1 x1' c1 rel1 v3 R3 h3 s3 a3 r3 bx3 => ?_
  obtain ⟨ob3, _, same3⟩ := s3.frame ob2 djb
  have g3 := g1.trans (s3.wide ob2 djb)
  have row3 := (same3 b2 (by simp)).trans row2
  rw [q_str (a3.own.rn r3), bldC1]
  refine aw_allocL [.string ⟨#[]⟩, .slice none 0 0, .slice none 0 0] zr_Ch rfl fun b4 hb4 => ?_
  have hz3 : sz P t_api_Chest = some ([Value.string (strL x1'), .slice none 0 0, .slice none 0 0] : List Value).length := z_api_Chest
  refine aw_storeRow (ys := [.string (strL x1'), .slice none 0 0, .slice none 0 0]) hz3 (Hp.set_same ..) rfl (by intro y hy; simp only [List.mem_cons, List.not_mem_nil, or_false] at hy; rcases hy with rfl | rfl | rfl <;> rfl) (fun i _ => by simp) ?_
  rw [Hp.set_set, show ([.string ⟨#[]⟩, .slice none 0 0, .slice none 0 0] : List Value).length = 3 from rfl]
  have x4 := ext_set (.row t_api_Chest [.string (strL x1'), .slice none 0 0, .slice none 0 0] 3 (some (0, 0))) hb4
  obtain ⟨ob4, oa4, dja4, same4⟩ := g3.own.mk1 (.row t_api_Chest [.string (strL x1'), .slice none 0 0, .slice none 0 0] 3 (some (0, 0))) hb4
  have g4 := g3.trans ((Stp.ext0 g3.own x4).gain ob4 (fun x hx => by rw [List.mem_singleton.1 hx]; exact hb4))
  have row4 : (h3.set b4 (.row t_api_Chest [.string (strL x1'), .slice none 0 0, .slice none 0 0] 3 (some (0, 0)))) b4 = some (.row t_api_Chest [.string (strL x1'), .slice none 0 0, .slice none 0 0] 3 (some (0, 0))) := Hp.set_same ..
  have row42 := (same4 b2 (by simp)).trans row3
  have a4 := a3.same (oa4.sub' fun x hx => by rw [List.mem_singleton.1 hx]; simp) (same4 rr (by simp))
  have n4 : rr ≠ b4 := fun q => dja4 rr (by simp) (by simp [q])
  have n24 : b2 ≠ b4 := fun q => dja4 b2 (by simp) (by simp [q])
  generalize h3.set b4 (.row t_api_Chest [.string (strL x1'), .slice none 0 0, .slice none 0 0] 3 (some (0, 0))) = h4 at *
  -- both blocks beside
  have oT4 : Own R3 h4 [b2, b4] := (oa4.sub' (T := [b2]) fun x hx => by rw [List.mem_singleton.1 hx]; simp).app ob4
  have djT : ∀ b, b ∈ [b2, b4] → b ∉ [rr] := fun b hb q => by
    have := List.mem_singleton.1 q
    simp only [List.mem_cons, List.not_mem_nil, or_false] at hb
    rcases hb with z | z
    · exact n2 (by rw [← this, z])
    · exact n4 (by rw [← this, z])
  have g4' : Stp R h R3 h4 [rr] ([rr] ++ [b2, b4]) := g4.perm (fun x => Iff.rfl) (fun x => by simp)
  clear g4 g3 g1 ob3 ob4 oa4 oa2 ob2 same2 same3 same4
  refine T_row a4 fun bd5 x5 c5 rel5 v5 R5 h5 s5 a5 r5 bx5 => ?_
  obtain ⟨oT5, _, same5⟩ := s5.frame oT4 djT
  have g5 := g4'.trans (s5.wide oT4 djT)
  have row5 := (same5 b4 (by simp)).trans row4
  have row52 := (same5 b2 (by simp)).trans row42
  simp -zeta only [chf1, GL]
  refine aw_store z_Sl_uint8 (rn_flat r5) (put_row row5 (by simp) (by omega) _) ?_
  have s6 := stp_set1 g5.own (b := b4) (by simp) (.row t_api_Chest [.string (strL x1'), v5, .slice none 0 0] 3 (some (0, 0)))
  have e6 : ([Value.string (strL x1'), .slice none 0 0, .slice none 0 0] : List Value).set (0 + 1) v5 = [.string (strL x1'), v5, .slice none 0 0] := rfl
  rw [e6]
  have g6 := g5.trans s6
  have row6 : (h5.set b4 (.row t_api_Chest [.string (strL x1'), v5, .slice none 0 0] 3 (some (0, 0)))) b4 = some (.row t_api_Chest [.string (strL x1'), v5, .slice none 0 0] 3 (some (0, 0))) := Hp.set_same ..
  have row62 : (h5.set b4 (.row t_api_Chest [.string (strL x1'), v5, .slice none 0 0] 3 (some (0, 0)))) b2 = some (.row t_api_Chest [.string ⟨#[]⟩, .slice none 0 0, .slice none 0 0] 3 (some (0, 0))) := by rw [Hp.set_ne _ _ n24]; exact row52
  have a6 := a5.same (h' := h5.set b4 (.row t_api_Chest [.string (strL x1'), v5, .slice none 0 0] 3 (some (0, 0)))) (g6.own.sub' fun x hx => by rw [List.mem_singleton.1 hx]; simp) (Hp.set_ne _ _ n4)
  generalize h5.set b4 (.row t_api_Chest [.string (strL x1'), v5, .slice none 0 0] 3 (some (0, 0))) = h6 at *
  have oT6 : Own R5 h6 [b2, b4] := g6.own.sub' fun x hx => by simp only [List.mem_cons, List.not_mem_nil, or_false] at hx; rcases hx with rfl | rfl <;> simp
  refine T_some_byte a6 (most := 64) (by decide) fun bd7 ps c7 rel7 v7 R7 h7 s7 a7 r7 bx7 => ?_
  obtain ⟨oT7, _, same7⟩ := s7.frame oT6 djT
  have g7 := g6.trans (s7.wide oT6 djT)
  have row7 := (same7 b4 (by simp)).trans row6
  have row72 := (same7 b2 (by simp)).trans row62
  simp -zeta only [chf2, GL]
  refine aw_store z_Sl_Sl_uint8 r7.flat (put_row row7 (by simp) (by omega) _) ?_
  have e8 : ([Value.string (strL x1'), v5, .slice none 0 0] : List Value).set (0 + 2) v7 = chV ⟨x1', x5, ps⟩ v5 v7 := rfl
  rw [e8]
  have s8 := stp_set1 g7.own (b := b4) (by simp) (.row t_api_Chest (chV ⟨x1', x5, ps⟩ v5 v7) 3 (some (0, 0)))
  have g8 := g7.trans s8
  have row8 : (h7.set b4 (.row t_api_Chest (chV ⟨x1', x5, ps⟩ v5 v7) 3 (some (0, 0)))) b4 = some (.row t_api_Chest (chV ⟨x1', x5, ps⟩ v5 v7) 3 (some (0, 0))) := Hp.set_same ..
  have row82 : (h7.set b4 (.row t_api_Chest (chV ⟨x1', x5, ps⟩ v5 v7) 3 (some (0, 0)))) b2 = some (.row t_api_Chest [.string ⟨#[]⟩, .slice none 0 0, .slice none 0 0] 3 (some (0, 0))) := by rw [Hp.set_ne _ _ n24]; exact row72
  have a8 := a7.same (h' := h7.set b4 (.row t_api_Chest (chV ⟨x1', x5, ps⟩ v5 v7) 3 (some (0, 0)))) (g8.own.sub' fun x hx => by rw [List.mem_singleton.1 hx]; simp) (Hp.set_ne _ _ n4)
  generalize h7.set b4 (.row t_api_Chest (chV ⟨x1', x5, ps⟩ v5 v7) 3 (some (0, 0))) = h8 at *
  have ch : ChR R7 ⟨x1', x5, ps⟩ v5 v7 := ⟨bx3, r5.mono (s7.ext).cle, bx5, r7, bx7⟩
  rw [q_ldRow (ys := chV ⟨x1', x5, ps⟩ v5 v7) u_api_Chest rfl z_api_Chest row8]
  refine aw_storeRow (ys := chV ⟨x1', x5, ps⟩ v5 v7) z_api_Chest row82 rfl (chV_flat ch) (fun i _ => by simp) ?_
  have s9 := stp_set1 g8.own (b := b2) (by simp) (.row t_api_Chest (chV ⟨x1', x5, ps⟩ v5 v7) 3 (some (0, 0)))
  have g9 := g8.trans s9
  have a9 := a8.same (h' := h8.set b2 (.row t_api_Chest (chV ⟨x1', x5, ps⟩ v5 v7) 3 (some (0, 0)))) (g9.own.sub' fun x hx => by rw [List.mem_singleton.1 hx]; simp) (Hp.set_ne _ _ n2)
  rw [q_resRow (ys := chV ⟨x1', x5, ps⟩ v5 v7) u_api_Chest rfl z_api_Chest (Hp.set_same ..)]
  refine k bd7 ⟨x1', x5, ps⟩ c7 ?_ v5 v7 R7 _ (g9.drop (T' := [rr]) fun x hx => by rw [List.mem_singleton.1 hx]; simp) a9 ch
  -- what was read
  rcases rel1 with ⟨rfl, rfl, e1⟩ | ⟨rfl, e1⟩
  · rcases rel5 with ⟨rfl, _, e5⟩ | ⟨rfl, e5⟩
    · rcases rel7 with ⟨rfl, _, e7⟩ | ⟨rfl, e7⟩
      · refine .inl ⟨rfl, rfl, ?_⟩
        unfold chestC
        rw [e1]; dsimp only; rw [e5]; dsimp only; rw [e7]
      · refine .inr ⟨rfl, .inr ?_⟩
        unfold chestC
        rw [e1]; dsimp only; rw [e5]; dsimp only
        rcases e7 with q | q
        · cases q
        · rw [q]
    · rcases rel7 with ⟨_, q, _⟩ | ⟨rfl, _⟩
      · cases q
      · refine .inr ⟨rfl, .inr ?_⟩
        unfold chestC
        rw [e1]; dsimp only
        rcases e5 with q | q
        · cases q
        · rw [q]
  · rcases rel5 with ⟨_, q, _⟩ | ⟨rfl, _⟩
    · cases q
    · rcases rel7 with ⟨_, q, _⟩ | ⟨rfl, _⟩
      · cases q
      · refine .inr ⟨rfl, ?_⟩
        rcases e1 with q | q
        · exact .inl q
        · refine .inr ?_
          unfold chestC
          rw [q]
end
end Go.Proofs.YtlkhmddmdmlffaaGreatDoor
set_option linter.unusedSimpArgs false
set_option linter.unusedVariables false
set_option maxRecDepth 100000
set_option maxHeartbeats 1000000
namespace Go.Proofs.YtlkhmddmdmlffaaGreatDoor
open Go Go.SL Go.Pure Go.Chest
abbrev ChT := Ch × Value × Value
def chCells (ps : List ChT) : List Value := ps.flatMap fun p => chV p.1 p.2.1 p.2.2
theorem chCells_get : ∀ {ps : List ChT} {i : Nat} {p : ChT}, ps[i]? = some p → ∀ j, j < 3 → (chCells ps)[i * 3 + j]? = (chV p.1 p.2.1 p.2.2)[j]?
  | [], i, p, h, _, _ => by simp at h
  | q :: ps, i, p, h, j, hj => by
    have e : chCells (q :: ps) = chV q.1 q.2.1 q.2.2 ++ chCells ps := by simp [chCells]
    rw [e]
    cases i with
    | zero =>
      simp only [List.getElem?_cons_zero, Option.some.injEq] at h
      subst h
      rw [Nat.zero_mul, Nat.zero_add, List.getElem?_append_left (by rw [chV_len]; exact hj)]
    | succ i =>
      simp only [List.getElem?_cons_succ] at h
      rw [List.getElem?_append_right (by rw [chV_len]; omega), chV_len, ← chCells_get h j hj]
      congr 1
      omega
theorem csR_of {R : Hp} {v : Value} {ps : List ChT} (r : Rds R 3 v (chCells ps) ps.length) (en : ∀ p ∈ ps, ChR R p.1 p.2.1 p.2.2) : CsR R v (ps.map Prod.fst) := by
  obtain ⟨hl, a, c, rfl, hc, hw⟩ := r
  refine ⟨ps.map fun p => chV p.1 p.2.1 p.2.2, ⟨a, c, by simp, by simpa using hc, ?_⟩, by simp, fun i x e => ?_⟩
  · rcases hw with q | ⟨b, o, rfl, hw⟩
    · left
      rw [List.eq_nil_of_length_eq_zero q]
      rfl
    · refine .inr ⟨b, o, rfl, fun i x e j y ey => ?_⟩
      rw [List.getElem?_map, Option.map_eq_some_iff] at e
      obtain ⟨p, hp, rfl⟩ := e
      have hj : j < 3 := (List.getElem?_eq_some_iff.1 ey).1
      have g := chCells_get hp j hj
      rw [← hw (i * 3 + j) y (by rw [g]; exact ey), Nat.add_assoc]
  · rw [List.getElem?_map, Option.map_eq_some_iff] at e
    obtain ⟨p, hp, rfl⟩ := e
    exact ⟨p.2.1, p.2.2, by rw [List.getElem?_map, hp]; rfl, en p (List.mem_of_getElem? hp)⟩
section
variable {R h : Hp} {K : Value → Hp → Prop} {rr : Nat} {bad : Bool} {cur : List Nat}
/-- A row of one chest. -/
theorem aw_litC (n : ByteArray) (a b : Option Addr) (i c j d : Nat) (k : ∀ v h', New h t_api_Chest 3 v h' [.string n, .slice a i c, .slice b j d] 1 → K v h') :
    aw P (Instr.buildSlice t_Sl_api_Chest 1 #[(0, .agg #[.string n, .slice a i c, .slice b j d])]) K h := by
  refine aw_of ?_
  show awp P (Sem.bind (underlying t_Sl_api_Chest) _) _ h
  rw [awp_bind, peek_awp P _ _ _ (pk_und u_Sl_api_Chest)]
  show awp P (Sem.bind (sizeOf t_api_Chest) _) _ h
  rw [awp_bind, peek_awp P _ _ _ (pk_size z_api_Chest)]
  show awp P (if 1 * 3 > 2 ^ 24 then _ else _) _ h
  rw [if_neg (by omega)]
  show awp P (if 1 * 3 = 0 then _ else _) _ h
  rw [if_neg (by omega)]
  show awp P (Sem.bind (zeroValue t_api_Chest) _) _ h
  rw [awp_bind, peek_awp P _ _ _ (pk_zero zr_Ch)]
  have hf : Instr.fill (fun i => some (i * 3, 3)) ((Array.range (1 * 3)).map (fun x => (#[.string ⟨#[]⟩, .slice none 0 0, .slice none 0 0] : Array Value)[x % 3]!)) [(0, .agg #[.string n, .slice a i c, .slice b j d])] = some #[.string n, .slice a i c, .slice b j d] := by kernel_rfl
  show awp P (match Instr.fill (fun i => some (i * 3, 3)) ((Array.range (1 * 3)).map (fun x => (#[.string ⟨#[]⟩, .slice none 0 0, .slice none 0 0] : Array Value)[x % 3]!)) [(0, .agg #[.string n, .slice a i c, .slice b j d])] with
      | some cells => Sem.bind (newRow t_api_Chest cells) fun a => Sem.pure (.slice (some a) 1 1)
      | _ => stuck "buildSlice: a part of the wrong size") K h
  rw [hf]
  show awp P (Sem.bind (newRow t_api_Chest #[.string n, .slice a i c, .slice b j d]) _) K h
  rw [awp_bind]
  intro r hr
  refine k _ _ ⟨rfl, .inr ⟨r, 1, (0, 0), hr, Nat.le_refl _, rfl, rfl, fun i _ => by simp⟩⟩
theorem aw_litCh {x : Ch} {tv lv : Value} {Q : Hp} (r : ChR Q x tv lv) (k : ∀ v h', New h t_api_Chest 3 v h' (chV x tv lv) 1 → K v h') : aw P (Instr.buildSlice t_Sl_api_Chest 1 #[(0, .agg (chV x tv lv).toArray)]) K h := by
  obtain ⟨a, c, rfl, _⟩ := r.rt.shape
  obtain ⟨b, d, rfl, _⟩ := r.rl.shape
  exact aw_litC _ _ _ _ _ _ _ k
theorem T_some_Chest (a : RcA R h rr bad cur) {most : Nat} (hm : most ≤ 100000)
    (k : ∀ bd ps c', ReadR (someC chestC most) bad cur bd ps c' → ∀ v R' h', Stp R h R' h' [rr] [rr] → RcA R' h' rr bd c' → CsR R' v ps → (bd = true → v = .slice none 0 0) → K v h') :
    Cn P n_chest_some_api_Chest #[.pointer (some ⟨rr, 0, none⟩), .int .i64 (most : Int), .func (.func n_chest_reader_chest) #[.pointer (some ⟨rr, 0, none⟩)] #[]] h K := by
  refine Cn_wk (F_chest_some_api_Chest ?_)
  unfold s_chest_some_api_Chest
  refine T_rnumber a (by omega) (fun hb h1 s1 a1 => ?_) fun n r0 hb en h1 s1 a1 => ?_
  · refine Lp_mk (fun m vs H => vs = [.slice none 0 0, .slice none 0 0, .int .i64 0] ∧ H = h1) 0 ⟨rfl, rfl⟩ ?_
    rintro m vs H ⟨rfl, rfl⟩
    simp -zeta only [GL, List.getD_cons_zero, List.getD_cons_succ, show decide ((0 : Int) < 0) = false from rfl, Bool.false_eq_true, if_false]
    refine ⟨H, .refl _, k true [] cur (.inr ⟨rfl, ?_⟩) _ R H s1 a1 (CsR.nil R) fun _ => rfl⟩
    rcases hb with q | q
    · exact .inl q
    · exact .inr (by rw [someC, q])
  · have hn : n ≤ most := by
      unfold numC at en
      split at en
      · cases en
      · simp only [Option.some.injEq, Prod.mk.injEq] at en
        omega
    have e0 : someC chestC most cur = manyC chestC n r0 := by rw [someC, en]
    refine Lp_mk (fun m vs H => ∃ (i : Nat) (R' : Hp) (So : List Nat) (out : Value) (ps : List ChT) (r : List Nat), i + m = n ∧ ps.length = i ∧ Stp R h R' H [rr] (rr :: So) ∧ rr ∉ So ∧ OutAt t_api_Chest 3 H out (chCells ps) ps.length So ∧ RcA R' H rr false r ∧ (∀ p ∈ ps, ChR R' p.1 p.2.1 p.2.2) ∧
        manyC chestC n r0 = (manyC chestC m r).map (fun x => (ps.map Prod.fst ++ x.1, x.2)) ∧ vs = [out, .slice none 0 0, .int .i64 (i : Int)]) n
      ⟨0, R, [], .slice none 0 0, [], r0, by omega, rfl, s1, by simp, .inl ⟨rfl, rfl, rfl, rfl⟩, a1, by simp, by simp, rfl⟩ ?_
    rintro m vs H ⟨i, R', So, out, ps, r, hi, hl, g, nin, o, a2, pb, em, rfl⟩
    simp -zeta only [GL, List.getD_cons_zero, List.getD_cons_succ, lt_dec]
    have oS : Own R' H So := g.own.sub' fun x hx => List.mem_cons_of_mem _ hx
    by_cases hlt : i < n
    · simp -zeta only [hlt, decide_true, if_true]
      obtain ⟨m, rfl⟩ : ∃ k, m = k + 1 := ⟨m - 1, by omega⟩
      refine callP_cn (by kernel_rfl) ?_
      refine T_rchest a2 fun bd x c' rel tv lv R3 h3 s3 a3 r3 => ?_
      have dj : ∀ b, b ∈ So → b ∉ [rr] := fun b hb q => nin (by rw [← List.mem_singleton.1 q]; exact hb)
      obtain ⟨oS3, _, same3⟩ := s3.frame oS dj
      have g3 : Stp R h R3 h3 [rr] (rr :: So) := g.trans (s3.wide oS dj)
      have o3 := o.keep same3
      refine aw_litCh r3 fun v4 h4 n4 => ?_
      have s4 := Stp.ext0 g3.own n4.ext
      have g4 := g3.trans s4
      have o4 : OutAt t_api_Chest 3 h4 out (chCells ps) ps.length So := o3.keep fun b hb => by
        obtain ⟨ob, e⟩ := oS3.kn b hb
        rw [e, n4.ext b ob e]
      have a4 : RcA R3 h4 rr bd c' := a3.ext n4.ext (Stp.ext0 a3.own n4.ext)
      have oS4 : Own R3 h4 So := g4.own.sub' fun x hx => List.mem_cons_of_mem _ hx
      have orr4 : Own R3 h4 [rr] := g4.own.sub' fun x hx => by rw [List.mem_singleton.1 hx]; simp
      refine aw_appendO u_Sl_api_Chest u_Sl_api_Chest nfo_Ch rfl (by decide) o4 n4.rds (chV_flat r3) (by omega) fun v5 h5 So5 o5 kp5 fr5 => ?_
      have s5 := OutAt.step oS4 o5 kp5 fr5
      have dj2 : ∀ b, b ∈ [rr] → b ∉ So := fun b hb => by rw [List.mem_singleton.1 hb]; exact nin
      obtain ⟨orr5, dj5, same5⟩ := s5.frame orr4 dj2
      have g5 : Stp R h R3 h5 [rr] (rr :: So5) := g4.trans ((s5.wide orr4 dj2).perm (fun x => by simp [or_comm]) (fun x => by simp [or_comm]))
      have a5 : RcA R3 h5 rr bd c' := a4.same orr5 (same5 rr (by simp))
      have nin5 : rr ∉ So5 := dj5 rr (by simp)
      obtain ⟨bv5, c50, c51, _⟩ := a5.cells
      simp -zeta only [GL, RL, cdf1, c51]
      rcases rel with ⟨rfl, _, et⟩ | ⟨rfl, et⟩
      · have w1 : IntKind.i64.wrap ((i : Int) + 1) = ((i + 1 : Nat) : Int) := by rw [wi64 (by omega) (by omega)]; omega
        simp -zeta only [Bool.false_eq_true, if_false, GL, w1]
        refine ⟨h5, .refl _, m, by omega, i + 1, R3, So5, v5, ps ++ [(x, tv, lv)], c', by omega, by simp [hl], g5, nin5, ?_, a5, fun p hp => ?_, ?_, rfl⟩
        · have e1 : chCells (ps ++ [(x, tv, lv)]) = chCells ps ++ chV x tv lv := by simp [chCells]
          rw [e1, List.length_append]
          exact o5
        · rcases List.mem_append.1 hp with q | q
          · exact (pb p q).mono s3.ext.cle
          · rw [List.mem_singleton.1 q]; exact r3
        · rw [em, manyC, et]
          dsimp only
          cases manyC chestC m c' with
          | none => rfl
          | some y => simp
      · simp -zeta only [if_true]
        obtain ⟨R6, s6, x6, _⟩ := fixOut g5 nin5 o5
        refine ⟨h5, .refl _, k true [] c' (.inr ⟨rfl, .inr ?_⟩) _ R6 h5 s6 (a5.up x6 s6.own) (CsR.nil _) fun _ => rfl⟩
        have et : chestC r = none := by
          rcases et with q | q
          · cases q
          · exact q
        rw [e0, em, manyC, et]
        rfl
    · obtain rfl : m = 0 := by omega
      simp -zeta only [hlt, decide_false, Bool.false_eq_true, if_false]
      obtain ⟨R6, s6, x6, rd⟩ := fixOut g nin o
      refine ⟨H, .refl _, k false (ps.map Prod.fst) r (.inl ⟨rfl, hb, ?_⟩) _ R6 H s6 (a2.up x6 s6.own) (csR_of rd fun p hp => (pb p hp).mono x6.cle) fun q => by cases q⟩
      rw [e0, em, manyC]
      simp
end
end Go.Proofs.YtlkhmddmdmlffaaGreatDoor
set_option linter.unusedSimpArgs false
set_option linter.unusedVariables false
set_option maxRecDepth 100000
set_option maxHeartbeats 1000000
namespace Go.Proofs.YtlkhmddmdmlffaaGreatDoor
open Go Go.SL Go.Pure Go.Chest
/-- What bytes tell: a code, chests, and the crypt behind it. -/
def fromC (c : Cr) (b : List Nat) : Nat × List Ch × Cr :=
  if b.length < 40 ∨ b.take 4 ≠ markC then (8, [], c)
  else if (crSum c (b.take (b.length - 32))).1 ≠ b.drop (b.length - 32) then (6, [], (crSum c (b.take (b.length - 32))).2)
  else match readC ((b.take (b.length - 32)).drop 4) with
    | some l => (0, l, (crSum c (b.take (b.length - 32))).2)
    | none => (8, [], (crSum c (b.take (b.length - 32))).2)
theorem crSum_b (c : Cr) {t : List Nat} (bt : Bytes t) : Bytes (crSum c t).1 := by
  cases c with
  | real => exact shaL_bytes t
  | book ts bs => exact (Bytes.append (by unfold Bytes; decide) (fun x hx => by rw [List.eq_of_mem_replicate hx]; decide)).append (bg_bytes _ _)
theorem bldR2 {h : Hp} {K : Value → Prop} (a : Option Addr) (i c : Nat) : q P h (Instr.build t_chest_reader #[(0, .slice a i c)]) K = K (.agg #[.slice a i c, .bool false]) := q_of (by kernel_rfl) K
section
variable {R h : Hp} {K : Value → Hp → Prop}
theorem T_prefix {v w : Value} {l m : List Nat} (rv : Rn h .u8 v l) (rw' : Rn h .u8 w m) (bl : Bytes l) (bm : Bytes m) (ll : l.length ≤ 9223372036854775807) (lm : m.length ≤ 9223372036854775807) (k : K (.bool (decide (m.length ≤ l.length ∧ l.take m.length = m))) h) : Cn P n_bytes_HasPrefix #[v, w] h K := by
  refine F_bytes_HasPrefix ?_
  unfold s_bytes_HasPrefix
  obtain ⟨aw', cw, rfl, hcw⟩ := rw'.shape
  have rv0 := rv
  obtain ⟨av, cv, rfl, hcv⟩ := rv.shape
  have d1 : decide (((m.length : Nat) : Int) ≤ ((l.length : Nat) : Int)) = decide (m.length ≤ l.length) := by rw [decide_eq_decide]; omega
  simp -zeta only [GL, RL, d1]
  by_cases g : m.length ≤ l.length
  · simp -zeta only [g, decide_true, if_true]
    refine q_slRnHi u_Sl_uint8 z_uint8 rv0 .i64 m.length g fun w2 r2 => ?_
    refine T_bytes_Equal r2 rw' (bl.take _) bm ?_
    simpa [g] using k
  · simp -zeta only [g, decide_false, Bool.false_eq_true, if_false]
    simpa [g] using k
theorem T_FromBytes {vc v : Value} {c : Cr} {S : List Nat} {b : List Nat} (w : Own R h S) (hC : CrN h vc c S) (hf : fewT 1000000 c) (r : Rn R .u8 v b) (bb : Bytes b) (lb : b.length ≤ 1000000000)
    (k : ∀ rv R' h', Stp R h R' h' S S → CrN h' vc (fromC c b).2.2 S → CsR R' rv (fromC c b).2.1 → K (.tuple #[rv, .int .i64 (((fromC c b).1 : Nat) : Int)]) h') :
    Cn P n_chest_FromBytes #[vc, v] h K := by
  refine F_chest_FromBytes ?_
  unfold s_chest_FromBytes
  have r0 := r
  obtain ⟨av, cv, rfl, hcv⟩ := r.shape
  have ef : fromC c b = if b.length < 40 ∨ b.take 4 ≠ markC then (8, [], c) else if (crSum c (b.take (b.length - 32))).1 ≠ b.drop (b.length - 32) then (6, [], (crSum c (b.take (b.length - 32))).2) else match readC ((b.take (b.length - 32)).drop 4) with
    | some l => (0, l, (crSum c (b.take (b.length - 32))).2)
    | none => (8, [], (crSum c (b.take (b.length - 32))).2) := rfl
  obtain ⟨tc, vcv, evc⟩ := hC.shape
  intro J2
  have q2 : ∀ h1, Hp.ext h h1 → ¬ (b.length < 40 ∨ b.take 4 ≠ markC) → J2 h1 := by
    intro h1 x1 g
    rw [if_neg g] at ef
    simp -zeta only [J2]
    clear J2
    have s0 := Stp.ext0 w x1
    have C0 := hC.ext w x1
    have g40 : 40 ≤ b.length := by omega
    have w1 : IntKind.i64.wrap (((b.length : Nat) : Int) - 32) = ((b.length - 32 : Nat) : Int) := by rw [wi64 (by omega) (by omega)]; omega
    simp -zeta only [GL, RL, w1]
    rw [q_slHi u_Sl_uint8 z_uint8 av _ cv _ (b.length - 32) (by omega), q_slLo u_Sl_uint8 z_uint8 av _ cv _ (b.length - 32) (by omega) hcv]
    have rB : Rn R .u8 (.slice (SL.cut av cv 0 1) (b.length - 32) cv) (b.take (b.length - 32)) := by
      have := r0.cut 0 (b.length - 32) (by omega) (by omega)
      simpa using this
    have rL : Rn R .u8 (.slice (SL.cut av cv (b.length - 32) 1) (b.length - (b.length - 32)) (cv - (b.length - 32))) (b.drop (b.length - 32)) := by
      have := r0.cut (b.length - 32) b.length (by omega) (Nat.le_refl _)
      rwa [List.take_length] at this
    have bB : Bytes (b.take (b.length - 32)) := bb.take _
    have lB : (b.take (b.length - 32)).length = b.length - 32 := by rw [List.length_take]; omega
    have rB0 := rB
    generalize hbody : b.take (b.length - 32) = body at *
    refine T_sumN s0.own C0 hf rB bB (by omega) fun sv R1 h2 s1 C1 r1 => ?_
    have g1 := s0.trans s1
    have lS := crSum_len c body
    have bS := crSum_b c bB
    refine T_word_Equal (s1.own.rn r1) (s1.own.rn (rL.mono s1.ext.cle)) bS (bb.drop _) (by omega) ?_
    by_cases ge : (crSum c body).1 = b.drop (b.length - 32)
    · rw [if_neg (by simpa using ge)] at ef
      rw [decide_eq_true ge]
      simp -zeta only [GL, Bool.not_true, Bool.false_eq_true, if_false]
      have i4 : (4 : Int) = ((4 : Nat) : Int) := rfl
      rw [i4, q_slLo u_Sl_uint8 z_uint8 _ _ cv _ 4 (by omega) (by omega), bldR2]
      have r4 : Rn R1 .u8 (.slice (SL.cut (SL.cut av cv 0 1) cv 4 1) (b.length - 32 - 4) (cv - 4)) (body.drop 4) := by
        have := (rB0.mono g1.ext.cle)
        have q : Rn R1 .u8 (.slice (SL.cut av cv 0 1) body.length cv) body := by rw [lB]; exact this
        have := q.cut 4 body.length (by omega) (Nat.le_refl _)
        rw [List.take_length, lB] at this
        exact this
      refine aw_box fun rr hr => ?_
      have hC1 : (Value.agg #[Value.slice (SL.cut (SL.cut av cv 0 1) cv 4 1) (b.length - 32 - 4) (cv - 4), .bool false]).cells.toList = [Value.slice (SL.cut (SL.cut av cv 0 1) cv 4 1) (b.length - 32 - 4) (cv - 4), .bool false] := rfl
      have hC2 : (Value.agg #[Value.slice (SL.cut (SL.cut av cv 0 1) cv 4 1) (b.length - 32 - 4) (cv - 4), .bool false]).cells.size = 2 := rfl
      rw [hC1, hC2]
      have x3 := ext_set (.row t_chest_reader [Value.slice (SL.cut (SL.cut av cv 0 1) cv 4 1) (b.length - 32 - 4) (cv - 4), .bool false] 2 (some (0, 0))) hr
      obtain ⟨orr, oS3, djS, sameS⟩ := g1.own.mk1 (.row t_chest_reader [Value.slice (SL.cut (SL.cut av cv 0 1) cv 4 1) (b.length - 32 - 4) (cv - 4), .bool false] 2 (some (0, 0))) hr
      have g3 := g1.trans ((Stp.ext0 g1.own x3).gain orr (fun x hx => by rw [List.mem_singleton.1 hx]; exact hr))
      have C3 := C1.keep sameS
      have a3 : RcA R1 (h2.set rr (.row t_chest_reader [Value.slice (SL.cut (SL.cut av cv 0 1) cv 4 1) (b.length - 32 - 4) (cv - 4), .bool false] 2 (some (0, 0)))) rr false (body.drop 4) := ⟨_, orr, Hp.set_same .., r4, bB.drop 4, by rw [List.length_drop]; omega⟩
      generalize h2.set rr (.row t_chest_reader [Value.slice (SL.cut (SL.cut av cv 0 1) cv 4 1) (b.length - 32 - 4) (cv - 4), .bool false] 2 (some (0, 0))) = h3 at *
      refine T_some_Chest a3 (most := 1024) (by decide) fun bd ps c' rel rv R4 h4 s4 a4 cs hn => ?_
      obtain ⟨oS4, _, same4⟩ := s4.frame oS3 djS
      have C4 := C3.keep same4
      have g4 := (g3.trans ((s4.wide oS3 djS).perm (T := S ++ [rr]) (T' := S ++ [rr]) (fun x => by simp only [List.mem_append]; exact or_comm) (fun x => by simp only [List.mem_append]; exact or_comm))).drop (T' := S) fun x hx => by simp [hx]
      obtain ⟨bv, c0, c1, rb, _, _⟩ := a4.cells
      simp -zeta only [GL, RL, cdf1, c1]
      have bad : readC (body.drop 4) = none → K (.tuple #[.slice none 0 0, .int .i64 8]) h4 := fun e => by
        rw [e] at ef
        have := k (.slice none 0 0) R4 h4 g4
        rw [ef] at this
        exact this C4 (CsR.nil _)
      rcases rel with ⟨rfl, _, es⟩ | ⟨rfl, es⟩
      · obtain ⟨ab, cb, rfl, _⟩ := rb.shape
        have dg : decide ((0 : Int) < ((c'.length : Nat) : Int)) = decide (0 < c'.length) := lt_dec 0 _
        simp -zeta only [Bool.false_eq_true, if_false, if_true, GL, RL, cdf0, c0, dg]
        cases c' with
        | nil =>
          have er : readC (body.drop 4) = some ps := by rw [readC, es]
          simp -zeta only [List.length_nil, Nat.lt_irrefl, decide_false, Bool.false_eq_true, if_false]
          rw [er] at ef
          have := k rv R4 h4 g4
          rw [ef] at this
          exact this C4 cs
        | cons y ys =>
          have er : readC (body.drop 4) = none := by rw [readC, es]
          have : decide (0 < (y :: ys).length) = true := decide_eq_true (by simp)
          rw [this]
          simp -zeta only [if_true]
          exact bad er
      · have er : readC (body.drop 4) = none := by
          rcases es with q | q
          · cases q
          · rw [readC, q]
        simp -zeta only [if_true, Bool.true_eq_false, if_false]
        exact bad er
    · rw [if_pos ge] at ef
      rw [decide_eq_false ge]
      simp -zeta only [GL, Bool.not_false, if_true]
      have := k (.slice none 0 0) R1 h2 g1
      rw [ef] at this
      exact this C1 (CsR.nil _)
  clear_value J2
  have no : ∀ h1, Hp.ext h h1 → (b.length < 40 ∨ b.take 4 ≠ markC) → K (.tuple #[.slice none 0 0, .int .i64 8]) h1 := fun h1 x1 g => by
    rw [if_pos g] at ef
    have := k (.slice none 0 0) R h1 (Stp.ext0 w x1)
    rw [ef] at this
    exact this (hC.ext w x1) (CsR.nil _)
  have d40 : decide (((b.length : Nat) : Int) < 40) = decide (b.length < 40) := lt_dec _ 40
  simp -zeta only [GL, RL, d40]
  by_cases g1 : b.length < 40
  · simp -zeta only [g1, decide_true, Bool.true_eq_false, if_false, if_true]
    exact no h (.refl _) (.inl g1)
  · simp -zeta only [g1, decide_false, if_true]
    refine aw_lit (ps := [(0, .int .u8 79), (1, .int .u8 67), (2, .int .u8 72), (3, .int .u8 49)]) u_Sl_uint8 z_uint8 zr_uint8 rfl (by omega) (by intro p hp; simp only [List.mem_cons, List.not_mem_nil, or_false] at hp; rcases hp with rfl | rfl | rfl | rfl <;> exact ⟨rfl, by simp⟩) fun x h2 _ hx => ?_
    obtain ⟨rb, hrb, rfl, rfl⟩ := hx
    refine aw_mark hrb rfl fun h3 n3 => ?_
    have n3' : Nn h t_uint8 .u8 (.slice (some ⟨rb, 0, none⟩) 4 4) h3 markC := n3
    refine T_prefix ((w.rn r0).mono n3'.cle) n3'.rn bb (by unfold Bytes markC; decide) (by omega) (by decide) ?_
    by_cases g2 : b.take 4 = markC
    · rw [decide_eq_true (show markC.length ≤ b.length ∧ b.take markC.length = markC from ⟨by show 4 ≤ b.length; omega, g2⟩)]
      simp -zeta only [GL, Bool.not_true, Bool.false_eq_true, if_false]
      exact q2 h3 n3.ext (by simp [g2]; omega)
    · rw [decide_eq_false (show ¬ (markC.length ≤ b.length ∧ b.take markC.length = markC) from fun q => g2 q.2)]
      simp -zeta only [GL, Bool.not_false, if_true]
      exact no h3 n3.ext (.inr g2)
end
end Go.Proofs.YtlkhmddmdmlffaaGreatDoor
set_option linter.unusedSimpArgs false
set_option linter.unusedVariables false
set_option maxRecDepth 100000
set_option maxHeartbeats 1000000
namespace Go.Proofs.YtlkhmddmdmlffaaGreatDoor
open Go Go.SL Go.Pure Go.Chest
section
variable {R h : Hp} {K : Value → Hp → Prop}
/-- A length, the greatest byte first, behind a row. -/
theorem aw_be4 {base : Hp} {v : Value} {xs : List Nat} {n : Nat} (nx : Nn base t_uint8 .u8 v h xs) (hn : n < 4294967296) (hl : xs.length ≤ 1099511627776) {F : Value → Hp → Prop} (k : ∀ v' h', Nn base t_uint8 .u8 v' h' (xs ++ bg 4 n) → F v' h') :
    q P h (convert t_int t_uint64 (.int .i64 (n : Int))) fun t10 => Cn P n_orlopref01_Little #[t10, .int .i64 4] h fun t11 h => Cn P n_orlopref01_Back #[t11] h fun t12 h => aw P (Builtin.append_ #[t_Sl_uint8, t_Sl_uint8] t_Sl_uint8 #[v, t12]) F h := by
  have w1 : IntKind.u64.wrap (n : Int) = (n : Int) := wu64i (by omega) (by omega)
  simp -zeta only [GL, RL, w1]
  refine T_orlopref01_Little n 4 (by omega) (by omega) fun r1 h1 n1 => ?_
  refine Cn_wk (T_ref_Back n1.rn (le_bytes _ _) (by rw [le_len]; omega) fun r2 h2 n2 => ?_)
  obtain ⟨h0, le0, nn⟩ := Nn.down n1.ext.le n2
  exact ⟨h0, le0, aw_appF nx nn (by rw [List.length_reverse, le_len]; omega) k⟩
theorem T_ref27row {v : Value} {m : List Nat} (r : Rn h .u8 v m) (hm : m.length < 4294967296) (k : ∀ r h', Nn h t_uint8 .u8 r h' (rowC m) → K r h') : Cn P n_orlopref27_row #[v] h K := by
  refine Cn_wk (F_orlopref27_row ?_)
  unfold s_orlopref27_row
  have r0 := r
  obtain ⟨av, cv, rfl, hcv⟩ := r.shape
  have w1 : IntKind.u64.wrap ((m.length : Nat) : Int) = ((m.length : Nat) : Int) := wu64i (by omega) (by omega)
  simp -zeta only [GL, RL, w1]
  refine T_orlopref01_Little m.length 4 (by omega) (by omega) fun r1 h1 n1 => ?_
  refine T_ref_Back n1.rn (le_bytes _ _) (by rw [le_len]; omega) fun r2 h2 n2 => ?_
  refine aw_appB n2 ((r0.mono n1.cle).mono n2.cle) (by rw [List.length_reverse, le_len]; omega) fun v3 h3 n3 => ?_
  obtain ⟨h0, le0, nn⟩ := Nn.down n1.ext.le n3
  exact ⟨h0, le0, k _ _ nn⟩
theorem T_refBody {v : Value} {l : List Ch} (r : CsR h v l) (hl : l.length < 4294967296) (ok : ∀ x ∈ l, OkC x) (lb : (bodyC l).length ≤ 1000000000) (k : ∀ r h', Nn h t_uint8 .u8 r h' (bodyC l) → K r h') : Cn P n_orlopref27_Body #[v] h K := by
  refine Cn_wk (F_orlopref27_Body ?_)
  unfold s_orlopref27_Body
  obtain ⟨av, cv, ev, hcv⟩ := r.shape
  have ln : ∀ {H : Hp} {K : Value → Prop}, q P H (Builtin.len_ #[t_Sl_api_Chest] t_int #[v]) K = K (.int .i64 (l.length : Nat)) := fun {H K} => by rw [ev]; exact q_lenS u_Sl_api_Chest _ _ _
  have bl := bodyC_len l
  refine aw_lit (ps := [(0, .int .u8 79), (1, .int .u8 67), (2, .int .u8 72), (3, .int .u8 49)]) u_Sl_uint8 z_uint8 zr_uint8 rfl (by omega) (by intro p hp; simp only [List.mem_cons, List.not_mem_nil, or_false] at hp; rcases hp with rfl | rfl | rfl | rfl <;> exact ⟨rfl, by simp⟩) fun x h2 _ hx => ?_
  obtain ⟨rb, hrb, rfl, rfl⟩ := hx
  refine aw_mark hrb rfl fun h3 n3 => ?_
  have n3' : Nn h t_uint8 .u8 (.slice (some ⟨rb, 0, none⟩) 4 4) h3 markC := n3
  rw [ln]
  have lm : markC.length = 4 := rfl
  refine aw_be4 n3' hl (by omega) fun v4 h4 n4 => ?_
  refine Lp_mk (fun m vs H => ∃ (i : Nat) (out : Value), i + m = l.length ∧ Nn h t_uint8 .u8 out H (markC ++ bg 4 l.length ++ ((l.take i).map chC).flatten) ∧ vs = [out, .int .i64 (i : Int)]) l.length
    ⟨0, v4, by omega, by simpa using n4, rfl⟩ ?_
  rintro m vs H ⟨i, out, hi, n, rfl⟩
  simp -zeta only [GL, List.getD_cons_zero, List.getD_cons_succ, ln, lt_dec]
  by_cases hlt : i < l.length
  · simp -zeta only [hlt, decide_true, if_true]
    have ex : l[i]? = some l[i] := List.getElem?_eq_getElem hlt
    obtain ⟨b, o, tv, lv, en, c0, c1, c2, ix⟩ := r.at ex
    have okx := ok _ (List.getElem_mem hlt)
    have q1 := map_take chC hlt
    have q2 := map_take_le chC l (i + 1)
    rw [q1, List.length_append] at q2
    generalize l[i] = x at *
    have lc : (chC x).length = (rowC x.tag).length + (rowC x.text).length + (rowsC x.layers).length := by rw [chC, List.length_append, List.length_append]
    have lr : (rowsC x.layers).length = 4 + (x.layers.map rowC).flatten.length := by rw [rowsC, List.length_append, bg_len]
    have lpre : (markC ++ bg 4 l.length ++ ((l.take i).map chC).flatten).length = 8 + ((l.take i).map chC).flatten.length := by rw [List.length_append, List.length_append, lm, bg_len]
    generalize hX : markC ++ bg 4 l.length ++ ((l.take i).map chC).flatten = X at *
    have xn : Hp.cle h H := n.cle
    obtain ⟨at', ct, etv, hct⟩ := en.rt.shape
    have d0 := xn _ _ c0
    have d1 := xn _ _ c1
    simp -zeta only [ix, chf0, chf1, RL, GL, d0, d1]
    refine aw_stB u_string u_Sl_uint8 u_uint8 en.bt fun v5 h5 n5 => ?_
    have n5' : Nn H t_uint8 .u8 v5 h5 x.tag := n5
    have pk1 : ∀ G, Hp.ext H G → peek P G (Instr.loadAt t_Sl_uint8 (.pointer (some ⟨b, o + 1, none⟩))) = some tv := fun G xg => pk_q fun K => by simp only [RL, xg.cle _ _ d1, GL]
    have pk2 : ∀ G, peek P G (Instr.fieldAt t_api_Chest (.pointer (some ⟨b, o, none⟩)) 1) = some (.pointer (some ⟨b, o + 1, none⟩)) := fun G => pk_q fun K => by rw [chf1]
    refine ⟨pk1 _ n5'.ext, pk2 _, ?_⟩
    refine Cn_wk (T_ref27row n5'.rn okx.tag fun v6 h6 n6 => ?_)
    obtain ⟨h7, le7, n7⟩ := Nn.down n5'.ext.le n6
    refine ⟨h7, le7, pk1 _ n7.ext, pk2 _, ?_⟩
    refine aw_appF n n7 (by omega) fun v8 h8 n8 => ?_
    have x8 : Hp.ext h h8 := n8.ext
    have pk3 : ∀ G, Hp.ext h G → peek P G (Instr.loadAt t_Sl_uint8 (.pointer (some ⟨b, o + 1, none⟩))) = some tv := fun G xg => pk_q fun K => by simp only [RL, xg.cle _ _ c1, GL]
    refine ⟨pk3 _ x8, pk2 _, ?_⟩
    refine T_ref27row (en.rt.mono x8.cle) okx.text fun v9 h9 n9 => ?_
    refine aw_appF n8 n9 (by rw [List.length_append]; omega) fun v10 h10 n10 => ?_
    have d2 := n10.cle _ _ c2
    obtain ⟨al, cl, elv, hcl⟩ := en.rl.shape
    have lnl : ∀ {H : Hp} {K : Value → Prop}, q P H (Builtin.len_ #[t_Sl_Sl_uint8] t_int #[lv]) K = K (.int .i64 (x.layers.length : Nat)) := fun {H K} => by rw [elv]; exact q_lenS u_Sl_Sl_uint8 _ _ _
    simp -zeta only [ix, chf2, RL, GL, d2, lnl]
    refine aw_be4 n10 (by have := okx.many; omega) (by simp only [List.length_append]; omega) fun v11 h11 n11 => ?_
    refine Lp_mk (fun m vs G => ∃ (j : Nat) (o2 : Value), j + m = x.layers.length ∧ Nn h t_uint8 .u8 o2 G (X ++ rowC x.tag ++ rowC x.text ++ bg 4 x.layers.length ++ ((x.layers.take j).map rowC).flatten) ∧ vs = [o2, .int .i64 (j : Int)]) x.layers.length
      ⟨0, v11, by omega, by simpa using n11, rfl⟩ ?_
    rintro m2 vs G ⟨j, o2, hj, nG, rfl⟩
    simp -zeta only [GL, List.getD_cons_zero, List.getD_cons_succ]
    have e2 := nG.cle _ _ c2
    simp -zeta only [ix, chf2, RL, GL, e2, lnl, lt_dec]
    by_cases hlj : j < x.layers.length
    · simp -zeta only [hlj, decide_true, if_true]
      have ej : x.layers[j]? = some x.layers[j] := List.getElem?_eq_getElem hlj
      obtain ⟨bb, oo, y, ry, cy, ixj⟩ := en.rl.at ej
      have cy' := nG.cle _ _ cy
      simp -zeta only [ix, chf2, RL, GL, e2, ixj, cy']
      have p1 := map_take rowC hlj
      have p2 := map_take_le rowC x.layers (j + 1)
      rw [p1, List.length_append] at p2
      refine T_ref27row (ry.mono nG.cle) (okx.each _ (List.getElem_mem hlj)) fun v12 h12 n12 => ?_
      refine aw_appF nG n12 (by simp only [List.length_append, bg_len]; omega) fun v13 h13 n13 => ?_
      have w1 : IntKind.i64.wrap ((j : Int) + 1) = ((j + 1 : Nat) : Int) := by have := okx.many; rw [wi64 (by omega) (by omega)]; omega
      simp -zeta only [w1, GL]
      rw [List.append_assoc, ← p1] at n13
      exact ⟨h13, .refl _, m2 - 1, by omega, j + 1, v13, by omega, n13, rfl⟩
    · simp -zeta only [hlj, decide_false, Bool.false_eq_true, if_false]
      have : j = x.layers.length := by omega
      subst this
      rw [List.take_length] at nG
      have w1 : IntKind.i64.wrap ((i : Int) + 1) = ((i + 1 : Nat) : Int) := by rw [wi64 (by omega) (by omega)]; omega
      simp -zeta only [w1, GL]
      refine ⟨G, .refl _, m - 1, by omega, i + 1, o2, by omega, ?_, rfl⟩
      rw [q1, ← List.append_assoc, hX]
      have e : X ++ chC x = X ++ rowC x.tag ++ rowC x.text ++ bg 4 x.layers.length ++ (x.layers.map rowC).flatten := by rw [chC, rowsC]; simp
      rw [e]
      exact nG
  · simp -zeta only [hlt, decide_false, Bool.false_eq_true, if_false]
    have : i = l.length := by omega
    subst this
    rw [List.take_length, List.append_assoc] at n
    exact ⟨H, .refl _, k _ _ n⟩
end
end Go.Proofs.YtlkhmddmdmlffaaGreatDoor
set_option linter.unusedSimpArgs false
set_option linter.unusedVariables false
set_option maxRecDepth 100000
set_option maxHeartbeats 1000000
namespace Go.Proofs.YtlkhmddmdmlffaaGreatDoor
open Go Go.SL Go.Pure Go.Chest
section
variable {R h : Hp} {K : Value → Hp → Prop}
theorem T_ref27Bytes {p : Nat} {v : Value} {c : Cr} {S : List Nat} {l : List Ch} (w : Own R h S) (hC : RefN R h p c S) (hf : fewT 1000000 c) (r : CsR R v l)
    (ll : l.length ≤ 1099511627776) (lm : ∀ x ∈ l, x.layers.length ≤ 1099511627776)
    (ls : mayC l → (∀ x ∈ l, OkC x) ∧ (bodyC l).length ≤ 1000000000)
    (k0 : ¬ mayC l → K (.tuple #[.slice none 0 0, .int .i64 3]) h)
    (k1 : mayC l → ∀ rv R' h' S', Stp R h R' h' S S' → RefN R' h' p (crSum c (bodyC l)).2 S' → Rn R' .u8 rv (bodyC l ++ (crSum c (bodyC l)).1) → K (.tuple #[rv, .int .i64 0]) h') :
    Cn P n_orlopref27_Bytes #[.pointer (some ⟨p, 0, none⟩), v] h K := by
  refine Cn_wk (F_orlopref27_Bytes ?_)
  unfold s_orlopref27_Bytes
  obtain ⟨av, cv, ev, hcv⟩ := r.shape
  have ln : ∀ {H : Hp} {K : Value → Prop}, q P H (Builtin.len_ #[t_Sl_api_Chest] t_int #[v]) K = K (.int .i64 (l.length : Nat)) := fun {H K} => by rw [ev]; exact q_lenS u_Sl_api_Chest _ _ _
  have d1 : decide ((1024 : Int) < ((l.length : Nat) : Int)) = decide (1024 < l.length) := lt_dec 1024 _
  simp -zeta only [ln, GL, d1]
  by_cases g : 1024 < l.length
  · simp -zeta only [g, decide_true, if_true]
    exact ⟨h, .refl _, k0 fun q => by have := q.1; omega⟩
  simp -zeta only [g, decide_false, Bool.false_eq_true, if_false]
  refine Lp_mk (fun m vs H => ∃ i : Nat, i + m = l.length ∧ H = h ∧ (∀ j x, j < i → l[j]? = some x → x.layers.length ≤ 64) ∧ vs = [.slice none 0 0, .int .i64 0, .int .i64 (i : Int)]) l.length ⟨0, by omega, rfl, fun j x hj => by omega, rfl⟩ ?_
  rintro m vs H ⟨i, hi, rfl, hj, rfl⟩
  simp -zeta only [GL, List.getD_cons_zero, List.getD_cons_succ, lt_dec]
  by_cases hlt : i < l.length
  · simp -zeta only [hlt, decide_true, if_true]
    have ex : l[i]? = some l[i] := List.getElem?_eq_getElem hlt
    obtain ⟨b, o, tv, lv, en, c0, c1, c2, ix⟩ := r.at ex
    obtain ⟨al, cl, elv, hcl⟩ := en.rl.shape
    have lnl : ∀ {H : Hp} {K : Value → Prop}, q P H (Builtin.len_ #[t_Sl_Sl_uint8] t_int #[lv]) K = K (.int .i64 (l[i].layers.length : Nat)) := fun {H K} => by rw [elv]; exact q_lenS u_Sl_Sl_uint8 _ _ _
    have d2 := w.sub.cle _ _ c2
    have d64 : decide ((64 : Int) < ((l[i].layers.length : Nat) : Int)) = decide (64 < l[i].layers.length) := lt_dec 64 _
    simp -zeta only [ix, chf2, RL, GL, d2, lnl, d64]
    by_cases g2 : 64 < l[i].layers.length
    · simp -zeta only [g2, decide_true, if_true]
      exact ⟨H, .refl _, k0 fun q => by have := q.2 _ (List.getElem_mem hlt); omega⟩
    · have w1 : IntKind.i64.wrap ((i : Int) + 1) = ((i + 1 : Nat) : Int) := by rw [wi64 (by omega) (by omega)]; omega
      simp -zeta only [g2, decide_false, Bool.false_eq_true, if_false, w1]
      refine ⟨H, .refl _, m - 1, by omega, i + 1, by omega, rfl, fun j x hj2 e => ?_, rfl⟩
      by_cases q : j = i
      · subst q
        rw [ex] at e
        cases e
        omega
      · exact hj j x (by omega) e
  · simp -zeta only [hlt, decide_false, Bool.false_eq_true, if_false]
    have mc : mayC l := ⟨by omega, fun x hx => by
      obtain ⟨j, hj2, rfl⟩ := List.mem_iff_getElem.1 hx
      exact hj j _ (by omega) (List.getElem?_eq_getElem hj2)⟩
    obtain ⟨okc, lb⟩ := ls mc
    have k1 := k1 mc
    have bl := bodyC_len l
    have bb : Bytes (bodyC l) := bodyC_b r.bytes
    have lsum := crSum_len c (bodyC l)
    refine T_refBody (r.mono w.sub.cle) (by omega) okc lb fun bv h1 nb => ?_
    obtain ⟨R1, s1, rb⟩ := Stp.newN w nb
    have C1 := hC.ext w s1.ext nb.ext
    refine aw_nilB fun v2 h2 n2 => ?_
    refine aw_appB n2 ((s1.own.rn rb).mono n2.cle) (by simp; omega) fun v3 h3 n3 => ?_
    rw [List.nil_append] at n3
    obtain ⟨So3, o3, f3⟩ := OutAt.of n3
    have oS3 : Own R1 h3 So3 := (OutAt.step s1.own.nil o3 (fun x o _ e => n3.ext x o e) (fun x o _ e q => by rw [f3 x q] at e; cases e)).own
    have g3 : Stp R H R1 h3 S (S ++ So3) := s1.trans ((Stp.ext0 s1.own n3.ext).gain oS3 f3)
    have own3 : Own R1 h3 S := (Stp.ext0 s1.own n3.ext).own
    have C3 := C1.ext s1.own (.refl _) n3.ext
    have dj3 : ∀ b, b ∈ So3 → b ∉ S := fun b hb q => by
      obtain ⟨o, e⟩ := s1.own.kn b q
      rw [f3 b hb] at e; cases e
    refine T_refN_Sum own3 C3 hf rb bb (by omega) fun sv R4 h4 S4 s4 C4 r4 => ?_
    obtain ⟨oS4, dj4, same4⟩ := s4.frame oS3 dj3
    have g4 := g3.trans (s4.wide oS3 dj3)
    have o4 : OutAt t_uint8 1 h4 v3 (nv .u8 (bodyC l)) (bodyC l).length So3 := o3.keep same4
    refine aw_appO o4 (s4.own.rn r4) (by omega) fun v5 h5 So5 o5 kp5 fr5 => ?_
    have s5 := OutAt.step oS4 o5 kp5 fr5
    have dj45 : ∀ b, b ∈ S4 → b ∉ So3 := fun b hb q => dj4 b q hb
    obtain ⟨own5, djS5, same5⟩ := s5.frame s4.own dj45
    have g5 := g4.trans ((s5.wide s4.own dj45).perm (T := S4 ++ So3) (T' := So5 ++ S4) (fun x => by simp only [List.mem_append]; exact or_comm) (fun x => Iff.rfl))
    rcases o5 with ⟨_, e0, _, _⟩ | ⟨b, cc, f, hb5, rfl, hcc, hff, rfl, hll⟩
    · rw [List.length_append] at e0; omega
    · have gF := g5.fix (b := b) (T' := S4) (List.mem_append_left _ (by simp)) hb5 fun x hx => ⟨List.mem_append_right _ hx, fun q => djS5 x hx (by rw [q]; simp)⟩
      refine ⟨h5, .refl _, k1 _ _ h5 S4 gF (C4.keep (ext_set _ (g5.own.dis b (List.mem_append_left _ (by simp)))) same5) ?_⟩
      exact ⟨by rw [nv_len, Nat.mul_one], _, cc, rfl, hcc, .inr ⟨b, 0, rfl, fun i y e => by rw [cell_row (Hp.set_same ..), Nat.zero_add]; exact e⟩⟩
/-- A row that is taken from a place on, in the document's way. -/
theorem T_ref27take {v : Value} {b : List Nat} {at' : Int} (r : Rn h .u8 v b) (bb : Bytes b) (lb : b.length ≤ 1000000000) (ha : at' = -1 ∨ ∃ i : Nat, at' = (i : Int) ∧ i ≤ b.length)
    (kN : (∀ i : Nat, at' = (i : Int) → takeC (b.drop i) = none) → K (.tuple #[.slice none 0 0, .int .i64 (-1)]) h)
    (kS : ∀ (i n : Nat) x, at' = (i : Int) → takeC (b.drop i) = some (x, b.drop n) → n ≤ b.length → ∀ rv h', Nn h t_uint8 .u8 rv h' x → K (.tuple #[rv, .int .i64 (n : Int)]) h') :
    Cn P n_orlopref27_take #[v, .int .i64 at'] h K := by
  refine F_orlopref27_take ?_
  unfold s_orlopref27_take
  have r0 := r
  obtain ⟨av, cv, rfl, hcv⟩ := r.shape
  intro J2
  have q2 : ∀ i : Nat, at' = (i : Int) → i + 4 ≤ b.length → J2 h := by
    intro i ei h4
    subst ei
    simp -zeta only [J2]
    clear J2
    refine q_slRn u_Sl_uint8 z_uint8 r0 .i64 i (by omega) fun w' rw' => ?_
    have i4 : (4 : Int) = ((4 : Nat) : Int) := rfl
    rw [i4]
    refine T_ref_GetBig 4 (by omega) rw' (bb.drop _) (by rw [List.length_drop]; omega) ?_
    have hn := bval4_lt bb i
    have et := takeC_at (b := b) (i := i) (by omega)
    generalize bval ((b.drop i).take 4) = n at *
    have w1 : IntKind.i64.wrap (n : Int) = (n : Int) := wi64 (by omega) (by omega)
    have w2 : IntKind.i64.wrap ((i : Int) + ((4 : Nat) : Int)) = ((i + 4 : Nat) : Int) := by rw [wi64 (by omega) (by omega)]; omega
    have w3 : IntKind.i64.wrap (((i + 4 : Nat) : Int) + (n : Int)) = ((i + 4 + n : Nat) : Int) := by rw [wi64 (by omega) (by omega)]; omega
    have d1 : decide (((b.length : Nat) : Int) < ((i + 4 + n : Nat) : Int)) = decide (b.length < i + 4 + n) := lt_dec _ _
    simp -zeta only [GL, RL, w1, w2, w3, d1]
    by_cases g : b.length < i + 4 + n
    · simp -zeta only [g, decide_true, if_true]
      rw [if_pos (.inr g)] at et
      exact kN fun j ej => by
        have : j = i := by omega
        rw [this]; exact et
    · simp -zeta only [g, decide_false, Bool.false_eq_true, if_false]
      rw [if_neg (by omega)] at et
      refine aw_nilB fun v2 h2 n2 => ?_
      refine q_slRnLH u_Sl_uint8 z_uint8 (r0.mono n2.cle) .i64 .i64 (i + 4) (i + 4 + n) (by omega) (by omega) fun w3 r3 => ?_
      have e3 : (b.take (i + 4 + n)).drop (i + 4) = (b.drop (i + 4)).take n := by
        rw [List.drop_take]
        congr 1
        omega
      rw [e3] at r3
      refine aw_appB n2 r3 (by rw [List.length_take, List.length_drop]; simp; omega) fun v4 h4 n4 => ?_
      rw [List.nil_append] at n4
      exact kS i (i + 4 + n) _ rfl et (by omega) v4 h4 n4
  clear_value J2
  rcases ha with rfl | ⟨i, rfl, hi⟩
  · have d0 : decide ((-1 : Int) < 0) = true := by decide
    simp -zeta only [GL, d0, Bool.true_eq_false, if_false, if_true]
    exact kN fun i e => by omega
  · have d0 : decide ((i : Int) < 0) = false := decide_eq_false (by omega)
    have w2 : IntKind.i64.wrap ((i : Int) + 4) = ((i + 4 : Nat) : Int) := by rw [wi64 (by omega) (by omega)]; omega
    have d1 : decide (((b.length : Nat) : Int) < ((i + 4 : Nat) : Int)) = decide (b.length < i + 4) := lt_dec _ _
    simp -zeta only [GL, RL, d0, if_true, w2, d1]
    by_cases g : b.length < i + 4
    · simp -zeta only [g, decide_true, if_true]
      have et := takeC_at (b := b) (i := i) hi
      rw [if_pos (.inl g)] at et
      exact kN fun j ej => by
        have : j = i := by omega
        rw [this]; exact et
    · simp -zeta only [g, decide_false, Bool.false_eq_true, if_false]
      exact q2 i rfl (by omega)
end
end Go.Proofs.YtlkhmddmdmlffaaGreatDoor
set_option linter.unusedSimpArgs false
set_option linter.unusedVariables false
set_option maxRecDepth 100000
set_option maxHeartbeats 2000000
namespace Go.Proofs.YtlkhmddmdmlffaaGreatDoor
open Go Go.SL Go.Pure Go.Chest
theorem bldC2 {h : Hp} {K : Value → Prop} (s : ByteArray) (a : Option Addr) (i c : Nat) : q P h (Instr.build t_api_Chest #[(0, .string s), (1, .slice a i c)]) K = K (.agg #[.string s, .slice a i c, .slice none 0 0]) := q_of (by kernel_rfl) K
theorem chestC_at {b : List Nat} {i j : Nat} {tag text : List Nat} {r : List Nat} (h1 : takeC (b.drop i) = some (tag, r)) (h2 : takeC r = some (text, b.drop j)) (hj : j ≤ b.length) :
    chestC (b.drop i) = if b.length < j + 4 ∨ 64 < bval ((b.drop j).take 4) then none else (manyC takeC (bval ((b.drop j).take 4)) (b.drop (j + 4))).map fun x => (⟨tag, text, x.1⟩, x.2) := by
  unfold chestC
  rw [h1]
  dsimp only
  rw [h2]
  dsimp only
  rw [someC, numC_at 64 hj]
  by_cases g : b.length < j + 4 ∨ 64 < bval ((b.drop j).take 4)
  · rw [if_pos g, if_pos g]
  · rw [if_neg g, if_neg g]
    dsimp only
    cases manyC takeC (bval ((b.drop j).take 4)) (b.drop (j + 4)) with
    | none => rfl
    | some y => rfl
theorem fixOutS {R h R' H : Hp} {S S1 So : List Nat} {t s n : Nat} {v : Value} {xs : List Value} (g : Stp R h R' H S (S1 ++ So)) (dj : ∀ x, x ∈ S1 → x ∉ So) (o : OutAt t s H v xs n So) :
    ∃ R'', Stp R h R'' H S S1 ∧ Hp.ext R' R'' ∧ Rds R'' s v xs n := by
  rcases o with ⟨rfl, rfl, rfl, rfl⟩ | ⟨b, c, f, hb, rfl, hc, hf, rfl, hl⟩
  · exact ⟨R', g.drop fun x hx => List.mem_append_left _ hx, .refl _, by simp, none, 0, rfl, Nat.le_refl _, .inl rfl⟩
  · exact ⟨_, g.fix (b := b) (T' := S1) (by simp) hb fun x hx => ⟨List.mem_append_left _ hx, fun q => dj x hx (by rw [q]; simp)⟩, ext_set _ (g.own.dis b (by simp)), hl, _, c, rfl, hc, .inr ⟨b, 0, rfl, fun i x e => by rw [cell_row (Hp.set_same ..), Nat.zero_add]; exact e⟩⟩
section
variable {R h : Hp} {K : Value → Hp → Prop}
/-- A chest's layers, in the document's way. -/
theorem T_ref27layers {body : List Nat} {bv : Value} {b n at0 : Nat} {tag : List Nat} {tv : Value} (w : Own R h [b]) (row : h b = some (.row t_api_Chest [.string (strL tag), tv, .slice none 0 0] 3 (some (0, 0)))) (rb : Rn R .u8 bv body) (bb : Bytes body) (lb : body.length ≤ 1000000000)
    (hn : n ≤ 64) (ha : at0 ≤ body.length) (z0 z1 : Value) {F : List Value → Hp → Prop} (kE : (manyC takeC n (body.drop at0) = none) → ∀ R' h' T, Stp R h R' h' [b] T → ∃ h0, Hp.le h0 h' ∧ K (.tuple #[.slice none 0 0, .int .i64 8]) h0)
    (kS : ∀ (ls : List (List Nat)) (at1 : Nat), manyC takeC n (body.drop at0) = some (ls, body.drop at1) → at1 ≤ body.length → ∀ R' h' lv, Stp R h R' h' [b] [b] → h' b = some (.row t_api_Chest [.string (strL tag), tv, lv] 3 (some (0, 0))) → LsR R' lv ls → (∀ x ∈ ls, Bytes x) → F [z0, z1, .int .i64 (at1 : Int), .int .i64 (n : Int)] h') :
    Lp [z0, z1, .int .i64 (at0 : Int), .int .i64 0] h fun nx38 vs38 h => q P h (binOp .lss t_int (vs38.getD 3 undef) (.int .i64 (n : Int))) fun t91 => cnd t91 (Cn P n_orlopref27_take #[bv, (vs38.getD 2 undef)] h fun t97 h => q P h (Instr.extract t97 0) fun t98 => q P h (Instr.extract t97 1) fun t99 => q P h (binOp .lss t_int t99 (Value.int .i64 0)) fun t101 => cnd t101 (∃ h0, Hp.le h0 h ∧ K (Value.tuple #[(Value.slice none 0 0), (Value.int .i64 8)]) h0) (q P h (Instr.fieldAt t_api_Chest (.pointer (some ⟨b, 0, none⟩)) 2) fun t102 => q P h (Instr.loadAt t_Sl_Sl_uint8 t102) fun t103 => aw P (Instr.buildSlice t_Sl_Sl_uint8 1 #[(0, t98)]) (fun t105 h => aw P (Builtin.append_ #[t_Sl_Sl_uint8, t_Sl_Sl_uint8] t_Sl_Sl_uint8 #[t103, t105]) (fun t106 h => q P h (Instr.fieldAt t_api_Chest (.pointer (some ⟨b, 0, none⟩)) 2) fun t107 => aw P (Instr.storeAt t_Sl_Sl_uint8 t107 t106) (fun _ h => q P h (binOp .add t_int (vs38.getD 3 undef) (Value.int .i64 1)) fun t93 => nx38 [(vs38.getD 0 undef), (vs38.getD 1 undef), t99, t93] h) h) h) h)) (F vs38 h) := by
  refine Lp_mk (fun m vs G => ∃ (i : Nat) (R' : Hp) (Sl : List Nat) (lv : Value) (ws : List Value) (ls : List (List Nat)) (at1 : Nat), i + m = n ∧ ls.length = i ∧ Stp R h R' G [b] (b :: Sl) ∧ b ∉ Sl ∧ G b = some (.row t_api_Chest [.string (strL tag), tv, lv] 3 (some (0, 0))) ∧ OutAt t_Sl_uint8 1 G lv ws ls.length Sl ∧ PsV R' ws ls ∧ (∀ x ∈ ls, Bytes x) ∧ at1 ≤ body.length ∧
      manyC takeC n (body.drop at0) = (manyC takeC m (body.drop at1)).map (fun x => (ls ++ x.1, x.2)) ∧ vs = [z0, z1, .int .i64 (at1 : Int), .int .i64 (i : Int)]) n
    ⟨0, R, [], .slice none 0 0, [], [], at0, by omega, rfl, .refl w, by simp, row, .inl ⟨rfl, rfl, rfl, rfl⟩, PsV.nil R, by simp, ha, by simp, rfl⟩ ?_
  rintro m vs G ⟨i, R', Sl, lv, ws, ls, at1, hi, hl, g, nin, rowG, o, pv, lbs, ha1, em, rfl⟩
  simp -zeta only [GL, List.getD_cons_zero, List.getD_cons_succ, lt_dec]
  by_cases hlt : i < n
  · simp -zeta only [hlt, decide_true, if_true]
    obtain ⟨m, rfl⟩ : ∃ k, m = k + 1 := ⟨m - 1, by omega⟩
    refine T_ref27take (g.own.rn (rb.mono g.ext.cle)) bb lb (.inr ⟨at1, rfl, ha1⟩) (fun hN => ?_) fun i' n' x ei et hn' rv h1 n1 => ?_
    · rw [ext0, ext1]
      simp -zeta only [GL, show decide ((-1 : Int) < 0) = true from rfl, if_true]
      refine kE ?_ R' G _ g
      rw [em, manyC, hN at1 rfl]
      rfl
    · have : i' = at1 := by omega
      subst this
      rw [ext0, ext1]
      obtain ⟨R2, s2, r2⟩ := Stp.newN g.own n1
      have bx := (takeC_b (bb.drop _) et).1
      have g2 := g.trans s2
      have eqS : ∀ z, z ∈ b :: Sl → h1 z = G z := fun z hz => by
        obtain ⟨oz, e⟩ := g.own.kn z hz
        rw [e, n1.ext z oz e]
      have row2 := (eqS b (by simp)).trans rowG
      have o2 := o.keep fun z hz => eqS z (List.mem_cons_of_mem _ hz)
      have c2 : h1.cell ⟨b, 0 + 2, none⟩ = some lv := by rw [cell_row row2]; rfl
      have dn : decide (((n' : Nat) : Int) < 0) = false := decide_eq_false (by omega)
      simp -zeta only [GL, dn, Bool.false_eq_true, if_false, chf2, RL, c2]
      refine aw_lit (ps := [(0, rv)]) (n := 1) u_Sl_Sl_uint8 z_Sl_uint8 zr_Sl_uint8 rfl (by omega) (by intro p hp; rw [List.mem_singleton.1 hp]; exact ⟨rn_flat r2, by show _ < 1; omega⟩) fun v4 h4 n4 _ => ?_
      have n4' : New h1 t_Sl_uint8 1 v4 h4 [rv] 1 := n4
      have g4 := g2.trans (Stp.ext0 g2.own n4'.ext)
      have eq4 : ∀ z, z ∈ b :: Sl → h4 z = h1 z := fun z hz => by
        obtain ⟨oz, e⟩ := g2.own.kn z hz
        rw [e, n4'.ext z oz e]
      have row4 := (eq4 b (by simp)).trans row2
      have o4 := o2.keep fun z hz => eq4 z (List.mem_cons_of_mem _ hz)
      have oS4 : Own R2 h4 Sl := g4.own.sub' fun x hx => List.mem_cons_of_mem _ hx
      have ob4 : Own R2 h4 [b] := g4.own.sub' fun x hx => by rw [List.mem_singleton.1 hx]; simp
      refine aw_appendO u_Sl_Sl_uint8 u_Sl_Sl_uint8 nfo_Sl_uint8 rfl (by omega) o4 n4'.rds (by intro y hy; rw [List.mem_singleton.1 hy]; exact rn_flat r2) (by omega) fun v5 h5 So5 o5 kp5 fr5 => ?_
      have s5 := OutAt.step oS4 o5 kp5 fr5
      have dj2 : ∀ z, z ∈ [b] → z ∉ Sl := fun z hz => by rw [List.mem_singleton.1 hz]; exact nin
      obtain ⟨ob5, dj5, same5⟩ := s5.frame ob4 dj2
      have g5 : Stp R h R2 h5 [b] (b :: So5) := g4.trans ((s5.wide ob4 dj2).perm (fun x => by simp [or_comm]) (fun x => by simp [or_comm]))
      have nin5 : b ∉ So5 := dj5 b (by simp)
      have row5 := (same5 b (by simp)).trans row4
      have f5 : flat v5 = true := o5.rds.2.elim fun a q => by obtain ⟨c, e, _⟩ := q; rw [e]; rfl
      refine aw_store z_Sl_Sl_uint8 f5 (put_row row5 (by simp) (by omega) _) ?_
      have e6 : ([Value.string (strL tag), tv, lv] : List Value).set (0 + 2) v5 = [.string (strL tag), tv, v5] := rfl
      rw [e6]
      have g6 := g5.trans (stp_set1 g5.own (b := b) (by simp) (.row t_api_Chest [.string (strL tag), tv, v5] 3 (some (0, 0))))
      have w1 : IntKind.i64.wrap ((i : Int) + 1) = ((i + 1 : Nat) : Int) := by rw [wi64 (by omega) (by omega)]; omega
      simp -zeta only [w1, GL]
      refine ⟨_, .refl _, m, by omega, i + 1, R2, So5, v5, ws ++ [rv], ls ++ [x], n', by omega, by simp [hl], g6, nin5, Hp.set_same .., ?_, (pv.mono s2.ext.cle).app (PsV.one r2), fun z hz => ?_, hn', ?_, rfl⟩
      · rw [List.length_append]
        exact o5.keep fun z hz => Hp.set_ne _ _ (by rintro rfl; exact nin5 hz)
      · rcases List.mem_append.1 hz with q | q
        · exact lbs z q
        · rw [List.mem_singleton.1 q]; exact bx
      · rw [em, manyC, et]
        dsimp only
        cases manyC takeC m (body.drop n') with
        | none => rfl
        | some y => simp
  · obtain rfl : m = 0 := by omega
    simp -zeta only [hlt, decide_false, Bool.false_eq_true, if_false]
    have : i = n := by omega
    subst this
    obtain ⟨R6, s6, x6, rd⟩ := fixOut g nin o
    refine kS ls at1 (by rw [em, manyC]; simp) ha1 R6 G lv s6 rowG ⟨ws, rd, pv.mono x6.cle⟩ lbs
theorem T_ref27From {p : Nat} {v : Value} {c : Cr} {S : List Nat} {b : List Nat} (w : Own R h S) (hC : RefN R h p c S) (hf : fewT 1000000 c) (r : Rn R .u8 v b) (bb : Bytes b) (lb : b.length ≤ 1000000000)
    (k : ∀ rv R' h' S', Stp R h R' h' S S' → RefN R' h' p (fromC c b).2.2 S' → CsR R' rv (fromC c b).2.1 → K (.tuple #[rv, .int .i64 (((fromC c b).1 : Nat) : Int)]) h') :
    Cn P n_orlopref27_FromBytes #[.pointer (some ⟨p, 0, none⟩), v] h K := by
  refine Cn_wk (F_orlopref27_FromBytes ?_)
  unfold s_orlopref27_FromBytes
  have r0 := r
  obtain ⟨av, cv, rfl, hcv⟩ := r.shape
  have ef : fromC c b = if b.length < 40 ∨ b.take 4 ≠ markC then (8, [], c) else if (crSum c (b.take (b.length - 32))).1 ≠ b.drop (b.length - 32) then (6, [], (crSum c (b.take (b.length - 32))).2) else match readC ((b.take (b.length - 32)).drop 4) with
    | some l => (0, l, (crSum c (b.take (b.length - 32))).2)
    | none => (8, [], (crSum c (b.take (b.length - 32))).2) := rfl
  intro J2
  have q2 : ¬ (b.length < 40 ∨ b.take 4 ≠ markC) → J2 h := by
    intro g
    rw [if_neg g] at ef
    simp -zeta only [J2]
    clear J2
    have g40 : 40 ≤ b.length := by omega
    have w1 : IntKind.i64.wrap (((b.length : Nat) : Int) - 32) = ((b.length - 32 : Nat) : Int) := by rw [wi64 (by omega) (by omega)]; omega
    have pkL : ∀ H, peek P H (Instr.sliceAt t_Sl_uint8 (.slice av b.length cv) (some (.int .i64 ((b.length - 32 : Nat) : Int))) none none) = some (.slice (SL.cut av cv (b.length - 32) 1) (b.length - (b.length - 32)) (cv - (b.length - 32))) := fun H => pk_q fun K => q_slLo u_Sl_uint8 z_uint8 av _ cv _ (b.length - 32) (by omega) hcv
    have pkN : ∀ H, peek P H (Builtin.len_ #[t_Sl_uint8] t_int #[.slice av b.length cv]) = some (.int .i64 ((b.length : Nat) : Int)) := fun H => pk_q fun K => q_lenS u_Sl_uint8 _ _ _
    simp -zeta only [GL, RL, w1]
    rw [q_slHi u_Sl_uint8 z_uint8 av _ cv _ (b.length - 32) (by omega), q_slLo u_Sl_uint8 z_uint8 av _ cv _ (b.length - 32) (by omega) hcv]
    have rB : Rn R .u8 (.slice (SL.cut av cv 0 1) (b.length - 32) cv) (b.take (b.length - 32)) := by
      have := r0.cut 0 (b.length - 32) (by omega) (by omega)
      simpa using this
    have rL : Rn R .u8 (.slice (SL.cut av cv (b.length - 32) 1) (b.length - (b.length - 32)) (cv - (b.length - 32))) (b.drop (b.length - 32)) := by
      have := r0.cut (b.length - 32) b.length (by omega) (Nat.le_refl _)
      rwa [List.take_length] at this
    have bB : Bytes (b.take (b.length - 32)) := bb.take _
    have lB : (b.take (b.length - 32)).length = b.length - 32 := by rw [List.length_take]; omega
    generalize hbody : b.take (b.length - 32) = body at *
    refine T_refN_Sum w hC hf rB bB (by omega) fun sv R1 h2 S1 s1 C1 r1 => ?_
    refine ⟨pkL _, pkN _, ?_⟩
    have lS := crSum_len c body
    refine T_orlopref01_Equal (s1.own.rn r1) (s1.own.rn (rL.mono s1.ext.cle)) (by omega) ?_
    by_cases ge : (crSum c body).1 = b.drop (b.length - 32)
    · rw [if_neg (by simpa using ge)] at ef
      rw [decide_eq_true ge]
      simp -zeta only [GL, Bool.not_true, Bool.false_eq_true, if_false]
      have rB1 : Rn R1 .u8 (.slice (SL.cut av cv 0 1) (b.length - 32) cv) body := rB.mono s1.ext.cle
      have bad : readC (body.drop 4) = none → ∀ R' h' T, Stp R h R' h' S T → RefN R' h' p (crSum c body).2 T → ∃ h0, Hp.le h0 h' ∧ K (.tuple #[.slice none 0 0, .int .i64 8]) h0 := fun e R' h' T st C => by
        rw [e] at ef
        have := k (.slice none 0 0) R' h' T st
        rw [ef] at this
        exact ⟨h', .refl _, this C (CsR.nil _)⟩
      refine q_slRn u_Sl_uint8 z_uint8 (s1.own.rn rB1) .i64 4 (by omega) fun w4 rw4 => ?_
      refine T_ref_GetBig 4 (by omega) rw4 (bB.drop 4) (by rw [List.length_drop]; omega) ?_
      have hn := bval4_lt bB 4
      have en := numC_at (b := body) (i := 4) 1024 (by omega)
      generalize bval ((body.drop 4).take 4) = n at *
      have w2 : IntKind.i64.wrap (n : Int) = (n : Int) := wi64 (by omega) (by omega)
      have d1 : decide ((1024 : Int) < (n : Int)) = decide (1024 < n) := lt_dec 1024 _
      simp -zeta only [GL, RL, w2, d1]
      by_cases gn : 1024 < n
      · rw [if_pos (.inr gn)] at en
        simp -zeta only [gn, decide_true, if_true]
        exact bad (by rw [readC, someC, en]) R1 h2 S1 s1 C1
      simp -zeta only [gn, decide_false, Bool.false_eq_true, if_false]
      rw [if_neg (by omega)] at en
      have er : readC (body.drop 4) = match manyC chestC n (body.drop 8) with
        | some (l, []) => some l
        | _ => none := by rw [readC, someC, en] <;> rfl
      refine Lp_mk (fun m vs H => ∃ (i : Nat) (R' : Hp) (So : List Nat) (out : Value) (ps : List ChT) (at1 : Nat), i + m = n ∧ ps.length = i ∧ Stp R h R' H S (S1 ++ So) ∧ Hp.ext R1 R' ∧ (∀ x, x ∈ S1 → x ∉ So) ∧ RefN R' H p (crSum c body).2 S1 ∧ OutAt t_api_Chest 3 H out (chCells ps) ps.length So ∧ (∀ p ∈ ps, ChR R' p.1 p.2.1 p.2.2) ∧ at1 ≤ body.length ∧
          manyC chestC n (body.drop 8) = (manyC chestC m (body.drop at1)).map (fun x => (ps.map Prod.fst ++ x.1, x.2)) ∧ vs = [.slice none 0 0, .int .i64 0, .int .i64 (at1 : Int), out, .int .i64 (i : Int)]) n
        ⟨0, R1, [], .slice none 0 0, [], 8, by omega, rfl, by simpa using s1, .refl _, by simp, C1, .inl ⟨rfl, rfl, rfl, rfl⟩, by simp, by omega, by simp, rfl⟩ ?_
      rintro m vs H ⟨i, R', So, out, ps, at1, hi, hl, g1, xR, dj, C2, o, pb, ha1, em, rfl⟩
      simp -zeta only [GL, List.getD_cons_zero, List.getD_cons_succ, lt_dec]
      by_cases hlt : i < n
      · simp -zeta only [hlt, decide_true, if_true]
        obtain ⟨m, rfl⟩ : ∃ k, m = k + 1 := ⟨m - 1, by omega⟩
        -- what fails
        have fail : ∀ R' h' T, chestC (body.drop at1) = none → Stp R h R' h' S T → (∀ z, z ∈ S1 → z ∈ T) → RefN R' h' p (crSum c body).2 S1 → ∃ h0, Hp.le h0 h' ∧ K (.tuple #[.slice none 0 0, .int .i64 8]) h0 := fun R' h' T e st mT C =>
          bad (by rw [er, em, manyC, e]; rfl) R' h' S1 (st.drop mT) C
        have rBH : Rn H .u8 (.slice (SL.cut av cv 0 1) (b.length - 32) cv) body := g1.own.rn (rB1.mono xR.cle)
        refine T_ref27take rBH bB (by omega) (.inr ⟨at1, rfl, ha1⟩) (fun hN => ?_) fun i' n' tag ei et hn' rv h3 n3 => ?_
        · rw [ext0, ext1]
          refine T_ref27take rBH bB (by omega) (.inl rfl) (fun _ => ?_) fun i' _ _ ei => by omega
          rw [ext0, ext1]
          intro J25
          have d0 : decide ((-1 : Int) < 0) = true := by decide
          simp -zeta only [GL, d0, Bool.true_eq_false, if_false, if_true]
          exact fail R' H _ (by unfold chestC; rw [hN at1 rfl]) g1 (fun z hz => List.mem_append_left _ hz) C2
        have : i' = at1 := by omega
        subst this
        obtain ⟨R3, s3, r3⟩ := Stp.newN g1.own n3
        have g3 := g1.trans s3
        have C3 := C2.ext (g1.own.sub' fun z hz => List.mem_append_left _ hz) s3.ext n3.ext
        rw [ext0, ext1]
        refine T_ref27take (rBH.mono n3.cle) bB (by omega) (.inr ⟨n', rfl, hn'⟩) (fun hN => ?_) fun i2 n2 text ei2 et2 hn2 rv2 h4 n4 => ?_
        · rw [ext0, ext1]
          intro J25
          have d0 : decide ((-1 : Int) < 0) = true := by decide
          simp -zeta only [GL, d0, Bool.true_eq_false, if_false, if_true]
          exact fail R3 h3 _ (by unfold chestC; rw [et]; dsimp only; rw [hN n' rfl]) g3 (fun z hz => List.mem_append_left _ hz) C3
        have : i2 = n' := by omega
        subst this
        obtain ⟨R4, s4, r4⟩ := Stp.newN g3.own n4
        have g4 := g3.trans s4
        have C4 := C3.ext (g3.own.sub' fun z hz => List.mem_append_left _ hz) s4.ext n4.ext
        have r3' := r3.mono s4.ext.cle
        have bt := (takeC_b (bB.drop _) et).1
        have bx := (takeC_b (bB.drop _) et2).1
        have ec := chestC_at et et2 hn2
        have eqS : ∀ z, z ∈ S1 ++ So → h4 z = H z := fun z hz => by
          obtain ⟨oz, e⟩ := g1.own.kn z hz
          rw [e, n4.ext z oz (n3.ext z oz e)]
        have o4 := o.keep fun z hz => eqS z (List.mem_append_right _ hz)
        have rB4 : Rn h4 .u8 (.slice (SL.cut av cv 0 1) (b.length - 32) cv) body := (rBH.mono n3.cle).mono n4.cle
        rw [ext0, ext1]
        intro J25
        have p25 : ¬ body.length < n2 + 4 → J25 (.slice none 0 0) (.int .i64 0) h4 := by
          intro gl
          simp -zeta only [J25]
          clear J25
          obtain ⟨a4, c4, rfl, hc4⟩ := r4.shape
          rw [q_str (g4.own.rn r3'), bldC2]
          refine aw_allocL [.string ⟨#[]⟩, .slice none 0 0, .slice none 0 0] zr_Ch rfl fun b5 hb5 => ?_
          have hz3 : sz P t_api_Chest = some ([Value.string (strL tag), .slice a4 text.length c4, .slice none 0 0] : List Value).length := z_api_Chest
          refine aw_storeRow (ys := [.string (strL tag), .slice a4 text.length c4, .slice none 0 0]) hz3 (Hp.set_same ..) rfl (by intro y hy; simp only [List.mem_cons, List.not_mem_nil, or_false] at hy; rcases hy with rfl | rfl | rfl <;> rfl) (fun i _ => by simp) ?_
          rw [Hp.set_set, show ([.string ⟨#[]⟩, .slice none 0 0, .slice none 0 0] : List Value).length = 3 from rfl]
          have x5 := ext_set (.row t_api_Chest [.string (strL tag), .slice a4 text.length c4, .slice none 0 0] 3 (some (0, 0))) hb5
          obtain ⟨ob5, oa5, dja5, same5⟩ := g4.own.mk1 (.row t_api_Chest [.string (strL tag), .slice a4 text.length c4, .slice none 0 0] 3 (some (0, 0))) hb5
          have g5 := g4.trans ((Stp.ext0 g4.own x5).gain ob5 (fun x hx => by rw [List.mem_singleton.1 hx]; exact hb5))
          have row5 : (h4.set b5 (.row t_api_Chest [.string (strL tag), .slice a4 text.length c4, .slice none 0 0] 3 (some (0, 0)))) b5 = some (.row t_api_Chest [.string (strL tag), .slice a4 text.length c4, .slice none 0 0] 3 (some (0, 0))) := Hp.set_same ..
          have C5 := C4.keep (.refl _) fun z hz => same5 z (List.mem_append_left _ hz)
          have o5 := o4.keep fun z hz => same5 z (List.mem_append_right _ hz)
          have rB5 := rB4.mono x5.cle
          generalize h4.set b5 (.row t_api_Chest [.string (strL tag), .slice a4 text.length c4, .slice none 0 0] 3 (some (0, 0))) = h5 at *
          refine q_slRn u_Sl_uint8 z_uint8 rB5 .i64 n2 (by omega) fun w6 rw6 => ?_
          refine T_ref_GetBig 4 (by omega) rw6 (bB.drop _) (by rw [List.length_drop]; omega) ?_
          have hm := bval4_lt bB n2
          generalize bval ((body.drop n2).take 4) = many at *
          have w5 : IntKind.i64.wrap (many : Int) = (many : Int) := wi64 (by omega) (by omega)
          have w6' : IntKind.i64.wrap ((n2 : Int) + 4) = ((n2 + 4 : Nat) : Int) := by rw [wi64 (by omega) (by omega)]; omega
          have d64 : decide ((64 : Int) < (many : Int)) = decide (64 < many) := lt_dec 64 _
          simp -zeta only [GL, RL, w5, w6', d64]
          by_cases gm : 64 < many
          · simp -zeta only [gm, decide_true, if_true]
            rw [if_pos (.inr gm)] at ec
            exact fail R4 h5 _ ec g5 (fun z hz => List.mem_append_left _ (List.mem_append_left _ hz)) C5
          simp -zeta only [gm, decide_false, Bool.false_eq_true, if_false]
          rw [if_neg (by omega)] at ec
          refine T_ref27layers (n := many) (at0 := n2 + 4) (tag := tag) (tv := .slice a4 text.length c4) ob5 row5 (rB1.mono ((xR.trans s3.ext).trans s4.ext).cle) bB (by omega) (by omega) (by omega) _ _ (fun hN R6 h6 T6 s6 => ?_) fun ls at6 hls hat6 R6 h6 lv s6 row6 rl6 bl6 => ?_
          · obtain ⟨_, _, same6⟩ := s6.frame oa5 dja5
            have g6 := g5.trans ((s6.wide oa5 dja5).perm (T := (S1 ++ So) ++ [b5]) (T' := T6 ++ (S1 ++ So)) (fun x => by simp only [List.mem_append]; exact or_comm) (fun x => Iff.rfl))
            refine fail R6 h6 _ ?_ g6 (fun z hz => List.mem_append_right _ (List.mem_append_left _ hz)) (C5.keep s6.ext fun z hz => same6 z (List.mem_append_left _ hz))
            rw [ec, hN]
            rfl
          · obtain ⟨oa6, _, same6⟩ := s6.frame oa5 dja5
            have g6 := (g5.trans ((s6.wide oa5 dja5).perm (T := (S1 ++ So) ++ [b5]) (T' := [b5] ++ (S1 ++ So)) (fun x => by simp only [List.mem_append]; exact or_comm) (fun x => Iff.rfl))).drop (T' := S1 ++ So) fun x hx => List.mem_append_right _ hx
            have C6 := C5.keep s6.ext fun z hz => same6 z (List.mem_append_left _ hz)
            have o6 := o5.keep fun z hz => same6 z (List.mem_append_right _ hz)
            have ch : ChR R6 ⟨tag, text, ls⟩ (.slice a4 text.length c4) lv := ⟨bt, r4.mono s6.ext.cle, bx, rl6, bl6⟩
            rw [q_ldRow (ys := chV ⟨tag, text, ls⟩ (.slice a4 text.length c4) lv) u_api_Chest rfl z_api_Chest row6]
            simp -zeta only [List.getD_cons_zero, List.getD_cons_succ]
            refine aw_litCh ch fun v7 h7 n7 => ?_
            have g7 := g6.trans (Stp.ext0 g6.own n7.ext)
            have C7 := C6.ext (g6.own.sub' fun z hz => List.mem_append_left _ hz) (.refl _) n7.ext
            have o7 : OutAt t_api_Chest 3 h7 out (chCells ps) ps.length So := o6.keep fun z hz => by
              obtain ⟨oz, e⟩ := g6.own.kn z (List.mem_append_right _ hz)
              rw [e, n7.ext z oz e]
            have oSo7 : Own R6 h7 So := g7.own.sub' fun x hx => List.mem_append_right _ hx
            have oS17 : Own R6 h7 S1 := g7.own.sub' fun x hx => List.mem_append_left _ hx
            refine aw_appendO u_Sl_api_Chest u_Sl_api_Chest nfo_Ch rfl (by decide) o7 n7.rds (chV_flat ch) (by omega) fun v8 h8 So8 o8 kp8 fr8 => ?_
            have s8 := OutAt.step oSo7 o8 kp8 fr8
            obtain ⟨_, dj8, same8⟩ := s8.frame oS17 dj
            have g8 := g7.trans ((s8.wide oS17 dj).perm (T := S1 ++ So) (T' := S1 ++ So8) (fun x => by simp only [List.mem_append]; exact or_comm) (fun x => by simp only [List.mem_append]; exact or_comm))
            have w7 : IntKind.i64.wrap ((i : Int) + 1) = ((i + 1 : Nat) : Int) := by rw [wi64 (by omega) (by omega)]; omega
            simp -zeta only [w7, GL]
            refine ⟨h8, .refl _, m, by omega, i + 1, R6, So8, v8, ps ++ [(⟨tag, text, ls⟩, .slice a4 text.length c4, lv)], at6, by omega, by simp [hl], g8, ((xR.trans s3.ext).trans s4.ext).trans s6.ext, dj8, C7.keep (.refl _) same8, ?_, fun q hq => ?_, hat6, ?_, rfl⟩
            · have e1 : chCells (ps ++ [(⟨tag, text, ls⟩, .slice a4 text.length c4, lv)]) = chCells ps ++ chV ⟨tag, text, ls⟩ (.slice a4 text.length c4) lv := by simp [chCells]
              rw [e1, List.length_append]
              exact o8
            · rcases List.mem_append.1 hq with z | z
              · exact (pb q z).mono ((s3.ext.trans s4.ext).trans s6.ext).cle
              · rw [List.mem_singleton.1 z]; exact ch
            · rw [em, manyC, ec, hls]
              dsimp only [Option.map_some]
              cases manyC chestC m (body.drop at6) with
              | none => rfl
              | some y => simp
        clear_value J25
        have d0 : decide (((n2 : Nat) : Int) < 0) = false := decide_eq_false (by omega)
        have w6' : IntKind.i64.wrap ((n2 : Int) + 4) = ((n2 + 4 : Nat) : Int) := by rw [wi64 (by omega) (by omega)]; omega
        have dl : decide (((b.length - 32 : Nat) : Int) < ((n2 + 4 : Nat) : Int)) = decide (body.length < n2 + 4) := by rw [lB]; exact lt_dec _ _
        simp -zeta only [GL, RL, d0, if_true, w6', dl]
        by_cases gl : body.length < n2 + 4
        · simp -zeta only [gl, decide_true, if_true]
          rw [if_pos (.inl gl)] at ec
          exact fail R4 h4 _ ec g4 (fun z hz => List.mem_append_left _ hz) C4
        · simp -zeta only [gl, decide_false, Bool.false_eq_true, if_false]
          exact p25 gl
      · obtain rfl : m = 0 := by omega
        simp -zeta only [hlt, decide_false, Bool.false_eq_true, if_false]
        have dl : (((at1 : Nat) : Int) != ((b.length - 32 : Nat) : Int)) = decide (at1 ≠ b.length - 32) := ne_dec _ _
        simp -zeta only [GL, RL, dl]
        have e1 : manyC chestC n (body.drop 8) = some (ps.map Prod.fst, body.drop at1) := by rw [em, manyC]; simp
        by_cases ga : at1 = b.length - 32
        · simp -zeta only [ga, ne_eq, not_true_eq_false, decide_false, Bool.false_eq_true, if_false]
          have e2 : body.drop at1 = [] := List.drop_of_length_le (by omega)
          have er2 : readC (body.drop 4) = some (ps.map Prod.fst) := by rw [er, e1, e2]
          rw [er2] at ef
          obtain ⟨R6, s6, x6, rd⟩ := fixOutS g1 dj o
          have := k out R6 H S1 s6
          rw [ef] at this
          exact ⟨H, .refl _, this (C2.keep x6 fun _ _ => rfl) (csR_of rd fun q hq => (pb q hq).mono x6.cle)⟩
        · simp -zeta only [ga, ne_eq, not_false_eq_true, decide_true, if_true]
          refine bad ?_ R' H S1 (g1.drop fun x hx => List.mem_append_left _ hx) C2
          rw [er, e1]
          cases e2 : body.drop at1 with
          | nil =>
            have := congrArg List.length e2
            rw [List.length_drop, List.length_nil] at this
            omega
          | cons y ys => rfl
    · rw [if_pos ge] at ef
      rw [decide_eq_false ge]
      simp -zeta only [GL, Bool.not_false, if_true]
      have := k (.slice none 0 0) R1 h2 S1 s1
      rw [ef] at this
      exact ⟨h2, .refl _, this C1 (CsR.nil _)⟩
  clear_value J2
  have no : (b.length < 40 ∨ b.take 4 ≠ markC) → ∃ h0, Hp.le h0 h ∧ K (.tuple #[.slice none 0 0, .int .i64 8]) h0 := fun g => by
    rw [if_pos g] at ef
    have := k (.slice none 0 0) R h S (.refl w)
    rw [ef] at this
    exact ⟨h, .refl _, this hC (CsR.nil _)⟩
  have d40 : decide (((b.length : Nat) : Int) < 40) = decide (b.length < 40) := lt_dec _ 40
  simp -zeta only [GL, RL, d40]
  by_cases g1 : b.length < 40
  · simp -zeta only [g1, decide_true, Bool.true_eq_false, if_false, if_true]
    exact no (.inl g1)
  · simp -zeta only [g1, decide_false, if_true]
    have i4 : (4 : Int) = ((4 : Nat) : Int) := rfl
    rw [i4]
    refine q_slRnHi u_Sl_uint8 z_uint8 (w.rn r0) .i64 4 (by omega) fun w4 rw4 => ?_
    have sm : (⟨#[79, 67, 72, 49]⟩ : ByteArray) = strL markC := rfl
    rw [q_str rw4, sm, q_neqSt _ _ (bb.take 4) (by unfold Bytes markC; decide)]
    by_cases g2 : b.take 4 = markC
    · simp -zeta only [g2, ne_eq, not_true_eq_false, decide_false, GL, Bool.false_eq_true, if_false]
      exact q2 (by simp [g2]; omega)
    · simp -zeta only [g2, ne_eq, not_false_eq_true, decide_true, GL, if_true]
      exact no (.inr g2)
end
end Go.Proofs.YtlkhmddmdmlffaaGreatDoor
set_option linter.unusedSimpArgs false
set_option linter.unusedVariables false
set_option maxRecDepth 100000
set_option maxHeartbeats 1000000
namespace Go.Proofs.YtlkhmddmdmlffaaGreatDoor
open Go Go.SL Go.Pure Go.Chest
def szR (l : List (List Nat)) : Nat := (l.map fun b => 1 + b.length).sum
def szC1 (x : Ch) : Nat := 1 + x.tag.length + x.text.length + szR x.layers
def szC (l : List Ch) : Nat := (l.map szC1).sum
theorem sum_take {α : Type} (f : α → Nat) {l : List α} {i : Nat} (h : i < l.length) : ((l.take (i + 1)).map f).sum = ((l.take i).map f).sum + f l[i] := by
  rw [List.take_succ_eq_append_getElem h]
  simp only [List.map_append, List.map_cons, List.map_nil, List.sum_append, List.sum_cons, List.sum_nil, Nat.add_zero]
/-- Chests of which nothing is longer than B. -/
def LenC (B : Nat) (l : List Ch) : Prop := l.length ≤ B ∧ ∀ x ∈ l, x.tag.length ≤ B ∧ x.text.length ≤ B ∧ x.layers.length ≤ B ∧ ∀ b ∈ x.layers, b.length ≤ B
section
variable {R h : Hp} {K : Value → Hp → Prop}
theorem T_ref24Rows {v w : Value} {l m : List (List Nat)} (a : LsR h v l) (b : LsR h w m) (hl : l.length ≤ 9223372036854775807) (hm : ∀ x ∈ l, x.length ≤ 9223372036854775807) (k : K (.bool (decide (l = m))) h) : Cn P n_orlopref24_Rows #[v, w] h K := by
  refine Cn_wk (F_orlopref24_Rows ?_)
  unfold s_orlopref24_Rows
  obtain ⟨av, cv, ev, _⟩ := a.shape
  obtain ⟨aw', cw, ew, _⟩ := b.shape
  have lv : ∀ {H : Hp} {K : Value → Prop}, q P H (Builtin.len_ #[t_Sl_Sl_uint8] t_int #[v]) K = K (.int .i64 (l.length : Nat)) := fun {H K} => by rw [ev]; exact q_lenS u_Sl_Sl_uint8 _ _ _
  have lw : ∀ {H : Hp} {K : Value → Prop}, q P H (Builtin.len_ #[t_Sl_Sl_uint8] t_int #[w]) K = K (.int .i64 (m.length : Nat)) := fun {H K} => by rw [ew]; exact q_lenS u_Sl_Sl_uint8 _ _ _
  have dn : (((l.length : Nat) : Int) != ((m.length : Nat) : Int)) = decide (l.length ≠ m.length) := ne_dec _ _
  simp -zeta only [lv, lw, GL, dn]
  have no : l ≠ m → ∃ h0, Hp.le h0 h ∧ K (.bool false) h0 := fun q => ⟨h, .refl _, by rw [decide_eq_false q] at k; exact k⟩
  by_cases g : l.length = m.length
  · simp -zeta only [g, ne_eq, not_true_eq_false, decide_false, Bool.false_eq_true, if_false]
    refine Lp_mk (fun n vs H => ∃ i : Nat, i + n = l.length ∧ H = h ∧ l.take i = m.take i ∧ vs = [.bool false, .int .i64 (i : Int)]) l.length ⟨0, by omega, rfl, rfl, rfl⟩ ?_
    rintro n vs H ⟨i, hi, rfl, ht, rfl⟩
    rw [← g]
    simp -zeta only [GL, List.getD_cons_zero, List.getD_cons_succ, lt_dec]
    by_cases hlt : i < l.length
    · simp -zeta only [hlt, decide_true, if_true]
      have e1 : l[i]? = some l[i] := List.getElem?_eq_getElem hlt
      have e2 : m[i]? = some (m[i]'(by omega)) := List.getElem?_eq_getElem (by omega)
      obtain ⟨b1, o1, y1, r1, c1, ix1⟩ := a.at e1
      obtain ⟨b2, o2, y2, r2, c2, ix2⟩ := b.at e2
      simp -zeta only [ix1, ix2, RL, GL, c1, c2]
      refine T_orlopref01_Equal r1 r2 (hm _ (List.getElem_mem hlt)) ?_
      by_cases q : l[i] = m[i]'(by omega)
      · have w1 : IntKind.i64.wrap ((i : Int) + 1) = ((i + 1 : Nat) : Int) := by rw [wi64 (by omega) (by omega)]; omega
        simp -zeta only [q, decide_true, GL, Bool.not_true, Bool.false_eq_true, if_false, w1]
        refine ⟨H, .refl _, n - 1, by omega, i + 1, by omega, rfl, ?_, rfl⟩
        rw [List.take_succ_eq_append_getElem hlt, List.take_succ_eq_append_getElem (by omega : i < m.length), ht, q]
      · simp -zeta only [q, decide_false, GL, Bool.not_false, if_true]
        exact no fun e => q (by subst e; rfl)
    · simp -zeta only [hlt, decide_false, Bool.false_eq_true, if_false]
      have : i = l.length := by omega
      subst this
      rw [List.take_length, List.take_of_length_le (by omega)] at ht
      rw [decide_eq_true ht] at k
      exact ⟨H, .refl _, k⟩
  · simp -zeta only [g, ne_eq, not_false_eq_true, decide_true, if_true]
    exact no fun e => g (by rw [e])
theorem T_ref27Same {v w : Value} {l m : List Ch} (a : CsR h v l) (b : CsR h w m) (hl : LenC 1125899906842624 l) (k : K (.bool (decide (l = m))) h) : Cn P n_orlopref27_Same #[v, w] h K := by
  refine Cn_wk (F_orlopref27_Same ?_)
  unfold s_orlopref27_Same
  obtain ⟨av, cv, ev, _⟩ := a.shape
  obtain ⟨aw', cw, ew, _⟩ := b.shape
  have lv : ∀ {H : Hp} {K : Value → Prop}, q P H (Builtin.len_ #[t_Sl_api_Chest] t_int #[v]) K = K (.int .i64 (l.length : Nat)) := fun {H K} => by rw [ev]; exact q_lenS u_Sl_api_Chest _ _ _
  have lw : ∀ {H : Hp} {K : Value → Prop}, q P H (Builtin.len_ #[t_Sl_api_Chest] t_int #[w]) K = K (.int .i64 (m.length : Nat)) := fun {H K} => by rw [ew]; exact q_lenS u_Sl_api_Chest _ _ _
  have dn : (((l.length : Nat) : Int) != ((m.length : Nat) : Int)) = decide (l.length ≠ m.length) := ne_dec _ _
  simp -zeta only [lv, lw, GL, dn]
  have no : l ≠ m → ∃ h0, Hp.le h0 h ∧ K (.bool false) h0 := fun q => ⟨h, .refl _, by rw [decide_eq_false q] at k; exact k⟩
  by_cases g : l.length = m.length
  · simp -zeta only [g, ne_eq, not_true_eq_false, decide_false, Bool.false_eq_true, if_false]
    refine Lp_mk (fun n vs H => ∃ i : Nat, i + n = l.length ∧ H = h ∧ l.take i = m.take i ∧ vs = [.bool false, .int .i64 (i : Int)]) l.length ⟨0, by omega, rfl, rfl, rfl⟩ ?_
    rintro n vs H ⟨i, hi, rfl, ht, rfl⟩
    have hl1 := hl.1
    rw [← g]
    simp -zeta only [GL, List.getD_cons_zero, List.getD_cons_succ, lt_dec]
    by_cases hlt : i < l.length
    · simp -zeta only [hlt, decide_true, if_true]
      have e1 : l[i]? = some l[i] := List.getElem?_eq_getElem hlt
      have e2 : m[i]? = some (m[i]'(by omega)) := List.getElem?_eq_getElem (by omega)
      obtain ⟨b1, o1, tv1, lv1, en1, c10, c11, c12, ix1⟩ := a.at e1
      obtain ⟨b2, o2, tv2, lv2, en2, c20, c21, c22, ix2⟩ := b.at e2
      obtain ⟨m1, m2, m3, m4⟩ := hl.2 _ (List.getElem_mem hlt)
      have hnx : l[i] = m[i]'(by omega) → l.take (i + 1) = m.take (i + 1) := fun q => by
        rw [List.take_succ_eq_append_getElem hlt, List.take_succ_eq_append_getElem (by omega : i < m.length), ht, q]
      have hno : l[i] ≠ m[i]'(by omega) → l ≠ m := fun q e => q (by subst e; rfl)
      generalize l[i] = x at *
      generalize m[i]'(by omega) = y at *
      have w1 : IntKind.i64.wrap ((i : Int) + 1) = ((i + 1 : Nat) : Int) := by rw [wi64 (by omega) (by omega)]; omega
      simp -zeta only [ix1, ix2, chf0, chf1, chf2, RL, GL, c10, c11, c12, c20, c21, c22, w1]
      rw [q_neqSt _ _ en1.bt en2.bt]
      by_cases q0 : x.tag = y.tag
      · simp -zeta only [q0, ne_eq, not_true_eq_false, decide_false, GL, if_true]
        refine T_orlopref01_Equal en1.rt en2.rt (by omega) ?_
        by_cases q1 : x.text = y.text
        · simp -zeta only [q1, decide_true, GL, Bool.not_true, if_true, RL, c12, c22]
          refine T_ref24Rows en1.rl en2.rl (by omega) (fun z hz => by have := m4 z hz; omega) ?_
          by_cases q2 : x.layers = y.layers
          · simp -zeta only [q2, decide_true, GL, Bool.not_true, Bool.false_eq_true, if_false]
            refine ⟨H, .refl _, n - 1, by omega, i + 1, by omega, rfl, hnx ?_, rfl⟩
            cases x; cases y
            simp only at q0 q1 q2
            subst q0 q1 q2
            rfl
          · simp -zeta only [q2, decide_false, GL, Bool.not_false, if_true]
            exact no (hno fun e => q2 (by rw [e]))
        · simp -zeta only [q1, decide_false, GL, Bool.not_false, Bool.true_eq_false, if_false, if_true]
          exact no (hno fun e => q1 (by rw [e]))
      · simp -zeta only [q0, ne_eq, not_false_eq_true, decide_true, GL, Bool.true_eq_false, if_false, if_true]
        exact no (hno fun e => q0 (by rw [e]))
    · simp -zeta only [hlt, decide_false, Bool.false_eq_true, if_false]
      have : i = l.length := by omega
      subst this
      rw [List.take_length, List.take_of_length_le (by omega)] at ht
      rw [decide_eq_true ht] at k
      exact ⟨H, .refl _, k⟩
  · simp -zeta only [g, ne_eq, not_false_eq_true, decide_true, if_true]
    exact no fun e => g (by rw [e])
/-- Whether chests are small: true only where they are. -/
theorem T_ref27Small {v : Value} {l : List Ch} {lim : Nat} (a : CsR h v l) (hlim : lim ≤ 1000000) (hl : LenC 1125899906842624 l) (k0 : K (.bool false) h) (k1 : szC l ≤ lim → K (.bool true) h) : Cn P n_orlopref27_Small #[v, .int .i64 (lim : Int)] h K := by
  refine Cn_wk (F_orlopref27_Small ?_)
  unfold s_orlopref27_Small
  obtain ⟨av, cv, ev, _⟩ := a.shape
  have lv : ∀ {H : Hp} {K : Value → Prop}, q P H (Builtin.len_ #[t_Sl_api_Chest] t_int #[v]) K = K (.int .i64 (l.length : Nat)) := fun {H K} => by rw [ev]; exact q_lenS u_Sl_api_Chest _ _ _
  have hl1 := hl.1
  refine Lp_mk (fun n vs H => ∃ i s : Nat, i + n = l.length ∧ H = h ∧ s ≤ 4503599627370496 ∧ (lim < s ∨ s = szC (l.take i)) ∧ vs = [.int .i64 (s : Int), .int .i64 (i : Int)]) l.length ⟨0, 0, by omega, rfl, by omega, .inr (by simp [szC]), rfl⟩ ?_
  rintro n vs H ⟨i, s, hi, rfl, hs, he, rfl⟩
  have ds : decide ((s : Int) ≤ (lim : Int)) = decide (s ≤ lim) := by rw [decide_eq_decide]; omega
  simp -zeta only [GL, List.getD_cons_zero, List.getD_cons_succ, lv, lt_dec, ds]
  intro J6
  have q6 : i < l.length → s ≤ lim → J6 H := by
    intro hlt hsm
    have hs1 : s = szC (l.take i) := by omega
    simp -zeta only [J6]
    clear J6
    have e1 : l[i]? = some l[i] := List.getElem?_eq_getElem hlt
    obtain ⟨b, o, tv, lv', en, c0, c1, c2, ix⟩ := a.at e1
    obtain ⟨m1, m2, m3, m4⟩ := hl.2 _ (List.getElem_mem hlt)
    have hn := sum_take szC1 hlt
    have hn' : szC (l.take (i + 1)) = szC (l.take i) + szC1 l[i] := hn
    generalize l[i] = x at *
    have ex : szC1 x = 1 + x.tag.length + x.text.length + szR x.layers := rfl
    obtain ⟨at', ct, etv, _⟩ := en.rt.shape
    obtain ⟨al, cl, elv, _⟩ := en.rl.shape
    have lt' : ∀ {H : Hp} {K : Value → Prop}, q P H (Builtin.len_ #[t_Sl_uint8] t_int #[tv]) K = K (.int .i64 (x.text.length : Nat)) := fun {H K} => by rw [etv]; exact q_lenS u_Sl_uint8 _ _ _
    have ll' : ∀ {H : Hp} {K : Value → Prop}, q P H (Builtin.len_ #[t_Sl_Sl_uint8] t_int #[lv']) K = K (.int .i64 (x.layers.length : Nat)) := fun {H K} => by rw [elv]; exact q_lenS u_Sl_Sl_uint8 _ _ _
    have w1 : IntKind.i64.wrap ((s : Int) + 1) = ((s + 1 : Nat) : Int) := by rw [wi64 (by omega) (by omega)]; omega
    have w2 : IntKind.i64.wrap (((s + 1 : Nat) : Int) + ((x.tag.length : Nat) : Int)) = ((s + 1 + x.tag.length : Nat) : Int) := by rw [wi64 (by omega) (by omega)]; omega
    have w3 : IntKind.i64.wrap (((s + 1 + x.tag.length : Nat) : Int) + ((x.text.length : Nat) : Int)) = ((s + 1 + x.tag.length + x.text.length : Nat) : Int) := by rw [wi64 (by omega) (by omega)]; omega
    have w4 : IntKind.i64.wrap ((i : Int) + 1) = ((i + 1 : Nat) : Int) := by rw [wi64 (by omega) (by omega)]; omega
    simp -zeta only [ix, chf0, chf1, RL, GL, c0, c1, lt', strL_size, w1, w2, w3]
    refine Lp_mk (fun n2 vs G => ∃ j t : Nat, j + n2 = x.layers.length ∧ G = H ∧ t ≤ 4503599627370496 ∧ (lim < t ∨ t = s + 1 + x.tag.length + x.text.length + szR (x.layers.take j)) ∧ vs = [.int .i64 (t : Int), .int .i64 (j : Int)]) x.layers.length ⟨0, s + 1 + x.tag.length + x.text.length, by omega, rfl, by omega, .inr (by simp [szR]), rfl⟩ ?_
    rintro n2 vs G ⟨j, t, hj, rfl, ht, hte, rfl⟩
    have dt : decide ((t : Int) ≤ (lim : Int)) = decide (t ≤ lim) := by rw [decide_eq_decide]; omega
    simp -zeta only [GL, List.getD_cons_zero, List.getD_cons_succ]
    intro J12
    have q12 : j < x.layers.length → t ≤ lim → J12 G := by
      intro hlj htm
      have ht1 : t = s + 1 + x.tag.length + x.text.length + szR (x.layers.take j) := by omega
      simp -zeta only [J12]
      clear J12
      have ej : x.layers[j]? = some x.layers[j] := List.getElem?_eq_getElem hlj
      obtain ⟨bb, oo, y, ry, cy, ixj⟩ := en.rl.at ej
      have hm := m4 _ (List.getElem_mem hlj)
      have hq : szR (x.layers.take (j + 1)) = szR (x.layers.take j) + (1 + x.layers[j].length) := sum_take (fun b : List Nat => 1 + b.length) hlj
      generalize x.layers[j] = z at *
      obtain ⟨ay, cy', eyv, _⟩ := ry.shape
      have ly : ∀ {H : Hp} {K : Value → Prop}, q P H (Builtin.len_ #[t_Sl_uint8] t_int #[y]) K = K (.int .i64 (z.length : Nat)) := fun {H K} => by rw [eyv]; exact q_lenS u_Sl_uint8 _ _ _
      have u1 : IntKind.i64.wrap ((t : Int) + 1) = ((t + 1 : Nat) : Int) := by rw [wi64 (by omega) (by omega)]; omega
      have u2 : IntKind.i64.wrap (((t + 1 : Nat) : Int) + ((z.length : Nat) : Int)) = ((t + 1 + z.length : Nat) : Int) := by rw [wi64 (by omega) (by omega)]; omega
      have u3 : IntKind.i64.wrap ((j : Int) + 1) = ((j + 1 : Nat) : Int) := by rw [wi64 (by omega) (by omega)]; omega
      simp -zeta only [ix, chf2, RL, GL, c2, ixj, cy, ly, u1, u2, u3]
      exact ⟨G, .refl _, n2 - 1, by omega, j + 1, t + 1 + z.length, by omega, rfl, by omega, .inr (by omega), rfl⟩
    clear_value J12
    have stop : (t ≤ lim → j = x.layers.length) → ∃ h0, Hp.le h0 G ∧ ∃ mx1, mx1 < n ∧ ∃ ix1 sx : Nat, ix1 + mx1 = l.length ∧ h0 = G ∧ sx ≤ 4503599627370496 ∧ (lim < sx ∨ sx = szC (l.take ix1)) ∧ [Value.int .i64 (t : Int), .int .i64 ((i + 1 : Nat) : Int)] = [.int .i64 (sx : Int), .int .i64 (ix1 : Int)] := fun hx =>
      ⟨G, .refl _, n - 1, by omega, i + 1, t, by omega, rfl, ht, (by
        rcases hte with q | q
        · exact .inl q
        · by_cases z : t ≤ lim
          · have := hx z
            subst this
            rw [List.take_length] at q
            exact .inr (by omega)
          · exact .inl (by omega)), rfl⟩
    simp -zeta only [ix, chf2, RL, GL, c2, ll', lt_dec, dt, w4]
    by_cases hlj : j < x.layers.length
    · simp -zeta only [hlj, decide_true, if_true]
      by_cases gt : t ≤ lim
      · simp -zeta only [gt, decide_true, if_true]
        exact q12 hlj gt
      · simp -zeta only [gt, decide_false, Bool.false_eq_true, if_false]
        exact stop fun q => absurd q gt
    · simp -zeta only [hlj, decide_false, Bool.false_eq_true, if_false]
      exact stop fun _ => by omega
  clear_value J6
  have fin : (s ≤ lim → i = l.length) → ∃ h0, Hp.le h0 H ∧ K (.bool (decide (s ≤ lim))) h0 := fun hx => by
    by_cases g : s ≤ lim
    · have := hx g
      subst this
      rw [List.take_length] at he
      rw [decide_eq_true g]
      exact ⟨H, .refl _, k1 (by omega)⟩
    · rw [decide_eq_false g]
      exact ⟨H, .refl _, k0⟩
  by_cases hlt : i < l.length
  · simp -zeta only [hlt, decide_true, if_true]
    by_cases g : s ≤ lim
    · simp -zeta only [g, decide_true, if_true]
      exact q6 hlt g
    · have := fin fun q => absurd q g
      simp -zeta only [g, decide_false, Bool.false_eq_true, if_false] at this ⊢
      exact this
  · simp -zeta only [hlt, decide_false, Bool.false_eq_true, if_false]
    exact fin fun _ => by omega
end
end Go.Proofs.YtlkhmddmdmlffaaGreatDoor
set_option linter.unusedSimpArgs false
set_option linter.unusedVariables false
set_option maxRecDepth 100000
set_option maxHeartbeats 1000000
namespace Go.Proofs.YtlkhmddmdmlffaaGreatDoor
open Go Go.SL Go.Pure Go.Chest
theorem sum_again (c : Cr) (t : List Nat) : (crSum (crSum c t).2 t).1 = (crSum c t).1 := by
  cases c with
  | real => rfl
  | book ts bs =>
    show sumB (numOf (textsOf ts t) t) = sumB (numOf ts t)
    have : numOf (textsOf ts t) t = numOf ts t := by
      unfold textsOf
      split
      · rfl
      · rename_i h
        unfold numOf
        rw [idxOf_snoc, if_pos rfl]
        cases e : ts.idxOf? t with
        | none => rfl
        | some i => rw [e] at h; exact absurd rfl h
    rw [this]
theorem from_written {c : Cr} {l : List Ch} (ok : ∀ x ∈ l, OkC x) (hl : l.length ≤ 1024) : (fromC (crSum c (bodyC l)).2 (bodyC l ++ (crSum c (bodyC l)).1)).1 = 0 ∧ (fromC (crSum c (bodyC l)).2 (bodyC l ++ (crSum c (bodyC l)).1)).2.1 = l := by
  have ls := crSum_len c (bodyC l)
  have lb := bodyC_len l
  have len : (bodyC l ++ (crSum c (bodyC l)).1).length - 32 = (bodyC l).length := by rw [List.length_append, ls]; omega
  have e4 : (bodyC l ++ (crSum c (bodyC l)).1).take 4 = markC := by
    rw [List.take_append_of_le_length (by omega)]
    unfold bodyC
    rw [List.take_append_of_le_length (by decide)]
    rfl
  have et : (bodyC l ++ (crSum c (bodyC l)).1).take ((bodyC l ++ (crSum c (bodyC l)).1).length - 32) = bodyC l := by rw [len, List.take_left]
  have ed : (bodyC l ++ (crSum c (bodyC l)).1).drop ((bodyC l ++ (crSum c (bodyC l)).1).length - 32) = (crSum c (bodyC l)).1 := by rw [len, List.drop_left]
  unfold fromC
  rw [if_neg (by rw [List.length_append, ls]; simp [e4]; omega), et, ed, sum_again, if_neg (by simp), read_written l ok hl]
  exact ⟨rfl, rfl⟩
theorem flat_len {α : Type} (f : α → List Nat) (g : α → Nat) : ∀ l : List α, (∀ x ∈ l, (f x).length ≤ 12 * g x) → (l.map f).flatten.length ≤ 12 * (l.map g).sum
  | [], _ => by simp
  | x :: l, h => by
    have h1 := h x (by simp)
    have h2 := flat_len f g l fun y hy => h y (by simp [hy])
    rw [List.map_cons, List.flatten_cons, List.length_append, List.map_cons, List.sum_cons]
    omega
theorem szR_le {l : List (List Nat)} {b : List Nat} (h : b ∈ l) : b.length ≤ szR l := by
  unfold szR
  induction l with
  | nil => cases h
  | cons x l ih =>
    rw [List.map_cons, List.sum_cons]
    rcases List.mem_cons.1 h with rfl | q
    · omega
    · have := ih q; omega
theorem szC_le {l : List Ch} {x : Ch} (h : x ∈ l) : szC1 x ≤ szC l := by
  unfold szC
  induction l with
  | nil => cases h
  | cons y l ih =>
    rw [List.map_cons, List.sum_cons]
    rcases List.mem_cons.1 h with rfl | q
    · omega
    · have := ih q; omega
theorem small_len {l : List Ch} (h : szC l ≤ 4000) : (bodyC l).length ≤ 100000 := by
  have es : ∀ x : Ch, szC1 x = 1 + x.tag.length + x.text.length + szR x.layers := fun _ => rfl
  have := flat_len chC szC1 l fun x hx => by
    have e := es x
    have q := flat_len rowC (fun b => 1 + b.length) x.layers fun b hb => by rw [rowC, List.length_append, bg_len]; omega
    have q2 : (x.layers.map rowC).flatten.length ≤ 12 * szR x.layers := q
    rw [chC, List.length_append, List.length_append, rowC, rowC, rowsC, List.length_append, List.length_append, List.length_append, bg_len, bg_len, bg_len]
    omega
  have q : (l.map chC).flatten.length ≤ 12 * szC l := this
  rw [bodyC_len]
  omega
theorem small_ok {l : List Ch} (h : szC l ≤ 4000) (m : mayC l) : (∀ x ∈ l, OkC x) ∧ (bodyC l).length ≤ 1000000000 := by
  have es : ∀ x : Ch, szC1 x = 1 + x.tag.length + x.text.length + szR x.layers := fun _ => rfl
  refine ⟨fun x hx => ?_, Nat.le_trans (small_len h) (by decide)⟩
  have := szC_le hx
  have e := es x
  exact ⟨by omega, by omega, m.2 x hx, fun b hb => by have := szR_le hb; omega⟩
theorem from_few {n : Nat} {c : Cr} (f : fewT n c) (b : List Nat) : fewT (n + 1) (fromC c b).2.2 := by
  have f0 := f.mono (Nat.le_succ n)
  have f1 := f.sum (b.take (b.length - 32))
  unfold fromC
  split
  · exact f0
  · split
    · exact f1
    · split <;> exact f1
theorem bldC0 {h : Hp} {K : Value → Prop} : q P h (Instr.build t_api_Chest #[]) K = K (.agg #[.string ⟨#[]⟩, .slice none 0 0, .slice none 0 0]) := q_of (by kernel_rfl) K
theorem fewT0 (ideal : Bool) : fewT 0 (cr0 ideal) := by cases ideal; trivial; exact Nat.le_refl _
section
variable {R h : Hp} {K : Value → Hp → Prop}
theorem T_MayTag0 (k : K (.bool false) h) : Cn P n_store_MayTag #[.string ⟨#[]⟩] h K := by
  refine F_store_MayTag ?_
  unfold s_store_MayTag
  have s0 : (⟨#[]⟩ : ByteArray) = strL [] := rfl
  rw [s0, q_neqSt _ _ (by intro x hx; cases hx) (by intro x hx; cases hx)]
  simp -zeta only [decide_true, Bool.not_true, GL, Bool.false_eq_true, if_false]
  exact k
theorem T_Check0 {vc : Value} (k : ∀ h', Hp.ext h h' → K (.int .i64 1) h') : Cn P n_chest_Check #[vc, .agg #[.string ⟨#[]⟩, .slice none 0 0, .slice none 0 0]] h K := by
  refine F_chest_Check ?_
  unfold s_chest_Check
  refine aw_box fun r hr => ?_
  have x := ext_set (.row t_api_Chest (Value.agg #[.string ⟨#[]⟩, .slice none 0 0, .slice none 0 0]).cells.toList (Value.agg #[.string ⟨#[]⟩, .slice none 0 0, .slice none 0 0]).cells.size (some (0, 0))) hr
  have c0 : (h.set r (.row t_api_Chest (Value.agg #[.string ⟨#[]⟩, .slice none 0 0, .slice none 0 0]).cells.toList (Value.agg #[.string ⟨#[]⟩, .slice none 0 0, .slice none 0 0]).cells.size (some (0, 0)))).cell ⟨r, 0, none⟩ = some (.string ⟨#[]⟩) := by rw [cell_row (Hp.set_same ..)]; rfl
  generalize h.set r (.row t_api_Chest (Value.agg #[.string ⟨#[]⟩, .slice none 0 0, .slice none 0 0]).cells.toList (Value.agg #[.string ⟨#[]⟩, .slice none 0 0, .slice none 0 0]).cells.size (some (0, 0))) = h1 at *
  rw [chf0, q_ld u_string rfl, c0]
  refine T_MayTag0 ?_
  simp -zeta only [GL, Bool.not_false, if_true]
  exact k h1 x
theorem T_awake27 (k : ∀ h', Hp.ext h h' → K (.bool true) h') : Cn P n_orloplaw27_awake #[] h K := by
  refine F_orloplaw27_awake ?_
  unfold s_orloplaw27_awake
  have w0 : Own h h [] := ⟨.refl _, fun b hb => (by cases hb), fun b hb => (by cases hb)⟩
  refine T_BookN w0 fun p h1 S1 hB o1 s1 _ => ?_
  have x1 : Hp.ext h h1 := s1.own.sub
  have C1 : CrN h1 (.iface t_Pt_crypt_book (.pointer (some ⟨p, 0, none⟩))) (.book [] []) S1 := ⟨rfl, p, rfl, hB⟩
  have q9 : ∀ {H : Hp} {K : Value → Prop}, q P H (eqop .eql t_crypt_Crypt (.tmp 9) (.const Value.nilIface) (.iface t_Pt_crypt_book (.pointer (some ⟨p, 0, none⟩))) Value.nilIface) K = K (.bool false) := fun {H K} => q_eqlNilI ..
  have ok0 : ∀ x ∈ ([] : List Ch), OkC x := fun x hx => by cases hx
  have m0 : mayC [] := ⟨by simp, fun x hx => by cases hx⟩
  rw [q9]
  simp -zeta only [GL, Bool.false_eq_true, if_false]
  refine T_chestBytes o1 C1 (by show ([] : List (List Nat)).length ≤ _; simp) (CsR.nil h) (by simp) (fun x hx => by cases hx) (fun _ => ⟨ok0, by decide⟩) (fun n => absurd m0 n) fun _ rv R2 h2 s2 C2 r2 => ?_
  rw [ext0, ext1]
  have ls := crSum_len (.book [] []) (bodyC [])
  have l0 : (bodyC []).length = 8 := rfl
  have bb : Bytes (bodyC [] ++ (crSum (.book [] []) (bodyC [])).1) := (by unfold Bytes; decide : Bytes (bodyC [])).append (crSum_b _ (by unfold Bytes; decide))
  have lx : (bodyC [] ++ (crSum (.book [] []) (bodyC [])).1).length = 40 := by rw [List.length_append, ls, l0]
  have f2 : fewT 1 (crSum (.book [] []) (bodyC [])).2 := fewT.sum (n := 0) (c := .book [] []) (by show ([] : List (List Nat)).length ≤ 0; simp) _
  obtain ⟨fw1, fw2⟩ := from_written (c := .book [] []) ok0 (by simp)
  have g3 : (bodyC [] ++ (crSum (.book [] []) (bodyC [])).1).getD 3 0 = 49 := by
    rw [List.getD_eq_getElem?_getD, List.getElem?_append_left (by decide)]
    rfl
  generalize bodyC [] ++ (crSum (.book [] []) (bodyC [])).1 = b at *
  generalize (crSum (.book [] []) (bodyC [])).2 = c2 at *
  refine T_FromBytes s2.own C2 (f2.mono (by decide)) r2 bb (by omega) fun rv3 R3 h3 s3 C3 cs3 => ?_
  rw [ext0, ext1]
  rw [fw1, fw2] at *
  have en : ∀ c, fromC c [] = (8, [], c) := fun c => by unfold fromC; rw [if_pos (.inl (by simp))]
  have ff : fewT 1000000 (fromC c2 b).2.2 := (from_few f2 b).mono (by decide)
  refine T_FromBytes s3.own C3 ff (rn_nil _ _) (by intro x hx; cases hx) (by simp) fun rv4 R4 h4 s4 C4 cs4 => ?_
  rw [ext0, ext1, en]
  obtain ⟨ab, cb, rfl, hcb⟩ := r2.shape
  obtain ⟨a3, c3, rfl, _⟩ := cs3.shape
  rw [lx]
  have d0 : ((0 : Int) == 0) = true := rfl
  have rr := (s4.own.rn ((r2.mono s3.ext.cle).mono s4.ext.cle))
  obtain ⟨bb1, o, rfl, hy⟩ := rr.pos (by omega)
  have hx := hy 3 (by omega)
  rw [g3] at hx
  have i3 : (3 : Int) = ((3 : Nat) : Int) := rfl
  have ix : ∀ {K : Value → Prop}, q P h4 (Instr.indexAt t_Sl_uint8 (.slice (some ⟨bb1, o, none⟩) 40 cb) (.int .i64 3)) K = K (.pointer (some ⟨bb1, o + 3, none⟩)) := fun {K} => by
    rw [i3, q_idxS u_Sl_uint8 z_uint8 _ _ _ _ _ (by omega) (by omega), Int.toNat_natCast, add_off, Nat.mul_one]
  have e40 : (((40 : Nat) : Int) == 40) = true := rfl
  have e49 : (((49 : Nat) : Int) == 49) = true := rfl
  have e00 : (((0 : Nat) : Int) == 0) = true := rfl
  have e88 : (((8 : Nat) : Int) == 8) = true := rfl
  have e11 : ((1 : Int) == 1) = true := rfl
  simp -zeta only [GL, RL, d0, if_true, e40, ix, hx, e49, e00, List.length_nil, e88, bldC0]
  refine T_Check0 fun h5 x5 => ?_
  simp -zeta only [GL, e11]
  refine k h5 (Hp.ext.trans (fun b o e => ?_) x5)
  have nS : b ∉ S1 := fun q => by rw [o1.dis b q] at e; cases e
  exact s4.keep b o nS (s3.keep b o nS (s2.keep b o nS (x1 b o e)))
end
end Go.Proofs.YtlkhmddmdmlffaaGreatDoor
set_option linter.unusedSimpArgs false
set_option linter.unusedVariables false
set_option maxRecDepth 100000
set_option maxHeartbeats 1000000
namespace Go.Proofs.YtlkhmddmdmlffaaGreatDoor
open Go Go.SL Go.Pure Go.Chest
/-- Both crypts, side by side, in the same state. -/
structure Both (R h : Hp) (vc : Value) (p : Nat) (c : Cr) (S1 S2 : List Nat) : Prop where
  o1 : Own R h S1
  o2 : Own R h S2
  dj : ∀ b, b ∈ S1 → b ∉ S2
  cr : CrN h vc c S1
  rf : RefN R h p c S2
theorem Both.ext {R R' h h' : Hp} {vc : Value} {p : Nat} {c : Cr} {S1 S2 : List Nat} (a : Both R h vc p c S1 S2) (s : Stp R h R' h' [] []) : Both R' h' vc p c S1 S2 := by
  have x : Hp.ext h h' := fun b o e => s.keep b o (by simp) e
  obtain ⟨w1, _, _⟩ := s.frame a.o1 (fun b hb q => by cases q)
  obtain ⟨w2, _, _⟩ := s.frame a.o2 (fun b hb q => by cases q)
  exact ⟨w1, w2, a.dj, a.cr.ext a.o1 x, a.rf.ext a.o2 s.ext x⟩
section
variable {R h : Hp} {K : Value → Hp → Prop} {vc : Value} {p : Nat} {c : Cr} {S1 S2 : List Nat}
theorem Both.step1 (a : Both R h vc p c S1 S2) {R' h' : Hp} {c' : Cr} (s : Stp R h R' h' S1 S1) (C : CrN h' vc c' S1) : Own R' h' S2 ∧ RefN R' h' p c S2 := by
  obtain ⟨w2, _, same⟩ := s.frame a.o2 fun b hb q => a.dj b q hb
  exact ⟨w2, a.rf.keep s.ext same⟩
end
end Go.Proofs.YtlkhmddmdmlffaaGreatDoor
set_option linter.unusedSimpArgs false
set_option linter.unusedVariables false
set_option maxRecDepth 100000
namespace Go.Proofs.YtlkhmddmdmlffaaGreatDoor
open Go Go.SL Go.Pure
open Go.ChangeShapes Go.WideShapes Go.ChangeAt Go.RowKit
/-- All cells that lie in memory, to read. -/
def readAll (w : World) : Hp := fun b => match w.heap[b]? with
  | some (.cells c e _) => some (.row e c.toList c.size none)
  | _ => none
theorem readAll_sat (w : World) : (readAll w).sat w := by
  intro b o e
  unfold readAll at e
  split at e
  · rename_i c el f hb
    cases e
    refine ⟨_, hb, rfl, rfl, by simp, fun i v hv => by simpa using hv, fun f hf => by cases hf⟩
  · cases e
theorem readAll_own (w : World) (b : Nat) : ¬ (readAll w).own b := by
  rintro ⟨o, e, hr⟩
  unfold readAll at e
  split at e
  · cases e; cases hr
  · cases e
theorem readAll_cell {w : World} {b o : Nat} {v : Value} (e : w.cell? ⟨b, o, none⟩ = some v) : (readAll w).cell ⟨b, o, none⟩ = some v := by
  unfold World.cell? at e
  unfold Hp.cell readAll
  dsimp only at e ⊢
  split at e
  · rename_i c el f hb
    rw [hb]
    simpa using e
  · cases e
theorem below_of {w w' : World} {h' : Hp} (f : Fr (readAll w) h' w w') : Below w.heap.size w w' :=
  ⟨f.os, f.tape, f.output, f.size, fun k hk => f.keep k hk (readAll_own w k)⟩
theorem ownNone : ownKnob Tryz.prog.godebug = none := by kernel_rfl
theorem laidOut : laidOutB Tryz.prog = true := by kernel_rfl
/-- The walk of a statement that tells true. -/
theorem tells_true {f : FuncId} {args : Array Value} {w : World} (c : Cn P f args (readAll w) fun v _ => v = .bool true) : Calls P f args w fun e w' => e = .returned (.bool true) ∧ Below w.heap.size w w' :=
  (c.2 w (readAll_sat w)).mono fun e w' ⟨v, h', he, _, f', hv⟩ => ⟨by rw [he, hv], below_of f'⟩
end Go.Proofs.YtlkhmddmdmlffaaGreatDoor
set_option linter.unusedSimpArgs false
set_option linter.unusedVariables false
set_option maxRecDepth 100000
namespace Go.Proofs.YtlkhmddmdmlffaaGreatDoor
open Go Go.SL Go.Pure
open Go.ChangeShapes Go.WideShapes Go.ChangeAt Go.RowKit
theorem ty_open {H : Type} {enc : TypeId × Value → H} {w : World} : ∀ (ty : Ty),
    (∀ (t : TypeId) (fuel : Nat) (cs : List Value) (x : DataW H × List MemPlace), tyB P ty (.inl t) = true → DataW.trod enc P w 0 (fun _ => true) true fuel t cs = some x → ty.Rd (readAll w) cs) ∧
    (∀ (o : Nat) (l : List Field) (n : Nat) (cs : List Value), tyB P ty (.inr (o, l)) = true → cs.length = o + ty.size → (∀ (j : Nat) (f : Field), l[j]? = some f → ∃ y, DataW.trod enc P w 0 (fun _ => true) true n f.type ((cs.drop f.offset).take (P.cellsOf f.type)) = some y) → ty.Rd (readAll w) (cs.drop o)) := by
  intro ty
  induction ty with
  | int k =>
    refine ⟨fun t fuel cs x hb h => ?_, fun o l n cs hb => by simp [tyB] at hb⟩
    unfold tyB at hb
    split at hb
    · rename_i k' hu
      obtain ⟨n, rfl, _, hw⟩ := DataW.trod_int hu h
      rw [beq_iff_eq] at hb
      subst hb
      exact ⟨n, rfl, hw⟩
    · cases hb
  | bool =>
    refine ⟨fun t fuel cs x hb h => ?_, fun o l n cs hb => by simp [tyB] at hb⟩
    unfold tyB at hb
    split at hb
    · rename_i hu
      obtain ⟨b, rfl, _⟩ := DataW.trod_bool hu h
      exact ⟨b, rfl⟩
    · cases hb
  | str =>
    refine ⟨fun t fuel cs x hb h => ?_, fun o l n cs hb => by simp [tyB] at hb⟩
    unfold tyB at hb
    split at hb
    · rename_i hu
      obtain ⟨s, rfl, _, hs⟩ := DataW.trod_string hu h
      exact ⟨s, rfl, Nat.le_trans hs (by decide)⟩
    · cases hb
  | sl e ih =>
    refine ⟨fun t fuel cs x hb h => ?_, fun o l n cs hb => by simp [tyB] at hb⟩
    unfold tyB at hb
    split at hb
    · rename_i te hu
      simp only [Bool.and_eq_true, beq_iff_eq, decide_eq_true_eq] at hb
      obtain ⟨⟨hc, h0⟩, hb⟩ := hb
      rcases DataW.trod_slice hu h with ⟨rfl, _⟩ | ⟨a', len, cap, elems, rest, m, _, rfl, _, _, hl, hm, hlen, hel, _, _⟩
      · exact ⟨_, [], rfl, ⟨none, 0, rfl, Nat.le_refl _, .inl rfl⟩, by simp, by simp⟩
      · have each : ∀ i, i < len → ∃ cs : List Value, cs.length = e.size ∧ e.Rd (readAll w) cs ∧ ∀ j y, cs[j]? = some y → w.cell? ((a'.add (i * e.size)).add j) = some y := by
          intro i hi
          have h1 := hel i hi
          rw [hc, List.getElem?_eq_getElem (by omega), Option.bind_eq_some_iff] at h1
          obtain ⟨cs, hcs, htr⟩ := h1
          obtain ⟨_, hlen, hcell⟩ := World.cells?_some hcs
          refine ⟨cs, hlen, ih.1 te m cs _ hb htr, fun j y ey => ?_⟩
          have hlt := (List.getElem?_eq_some_iff.1 ey).1
          rw [hcell j (by omega)]
          exact ey
        obtain ⟨f, hfn⟩ : ∃ f : Nat → List Value, ∀ i, i < len → (f i).length = e.size ∧ e.Rd (readAll w) (f i) ∧ ∀ j y, (f i)[j]? = some y → w.cell? ((a'.add (i * e.size)).add j) = some y := by
          refine ⟨fun i => if q : i < len then (each i q).choose else [], fun i hi => ?_⟩
          simp only [hi, dif_pos]
          exact (each i hi).choose_spec
        have hget : ∀ (i : Nat) (x : List Value), ((List.range len).map f)[i]? = some x → i < len ∧ x = f i := by
          intro i x e
          have hi : i < len := by simpa using (List.getElem?_eq_some_iff.1 e).1
          rw [List.getElem?_map, List.getElem?_range hi] at e
          exact ⟨hi, by simpa using e.symm⟩
        have ll : ((List.range len).map f).length = len := by simp
        have hm' : cap ≤ 9223372036854775807 := Nat.le_trans hm (by decide)
        refine ⟨_, (List.range len).map f, rfl, ⟨some a', cap, by rw [ll], by rw [ll]; exact hl, ?_⟩, by rw [ll]; omega, fun x hx => ?_⟩
        · by_cases hl0 : len = 0
          · left; subst hl0; rfl
          · right
            obtain ⟨l0, _, c0⟩ := hfn 0 (by omega)
            have hc0 := c0 0 _ (List.getElem?_eq_getElem (by omega))
            obtain ⟨b, o, sp⟩ := a'
            have hsp : sp = none := by
              cases sp with
              | none => rfl
              | some s =>
                unfold World.cell? Addr.add at hc0
                dsimp only at hc0
                split at hc0 <;> simp at hc0
            subst hsp
            refine ⟨b, o, rfl, fun i x e j y ey => ?_⟩
            obtain ⟨hi, rfl⟩ := hget i x e
            have := (hfn i hi).2.2 j y ey
            rw [add_off, add_off] at this
            exact readAll_cell this
        · obtain ⟨i, hi, rfl⟩ := List.mem_map.1 hx
          have hi : i < len := by simpa using hi
          exact ⟨(hfn i hi).1, (hfn i hi).2.1⟩
    · cases hb
  | arr n e ih =>
    refine ⟨fun t fuel cs x hb h => ?_, fun o l n cs hb => by simp [tyB] at hb⟩
    unfold tyB at hb
    split at hb
    · rename_i m te hu
      simp only [Bool.and_eq_true, beq_iff_eq] at hb
      obtain ⟨⟨⟨rfl, hc⟩, hct⟩, hb⟩ := hb
      obtain ⟨xs, k, _, _, hlen, hl, hel⟩ := DataW.trod_array hu h
      rw [hct] at hlen
      have piece : ∀ i, i < m → ((cs.drop (i * e.size)).take e.size).length = e.size ∧ e.Rd (readAll w) ((cs.drop (i * e.size)).take e.size) := fun i hi => by
        have h1 := hel i hi
        rw [hc, List.getElem?_eq_getElem (by omega)] at h1
        refine ⟨?_, ih.1 te k _ _ hb h1⟩
        rw [List.length_take, List.length_drop, hlen]
        have : (i + 1) * e.size ≤ m * e.size := Nat.mul_le_mul_right _ hi
        rw [Nat.succ_mul] at this
        omega
      have flat : ∀ (m : Nat) (cs : List Value), cs.length = m * e.size → ((List.range m).map fun i => (cs.drop (i * e.size)).take e.size).flatten = cs := by
        intro m
        induction m with
        | zero => intro cs hl; obtain rfl : cs = [] := List.eq_nil_of_length_eq_zero (by simpa using hl); rfl
        | succ m ihm =>
          intro cs hl
          rw [Nat.succ_mul] at hl
          rw [List.range_succ_eq_map, List.map_cons, List.map_map, List.flatten_cons, Nat.zero_mul, List.drop_zero]
          have e1 : ((fun i => (cs.drop (i * e.size)).take e.size) ∘ Nat.succ) = fun i => ((cs.drop e.size).drop (i * e.size)).take e.size := by
            funext i
            show (cs.drop ((i + 1) * e.size)).take e.size = _
            rw [List.drop_drop, Nat.succ_mul, Nat.add_comm]
          rw [e1, ihm (cs.drop e.size) (by rw [List.length_drop]; omega), List.take_append_drop]
      refine ⟨_, (flat m cs hlen).symm, by simp, fun x hx => ?_⟩
      obtain ⟨i, hi, rfl⟩ := List.mem_map.1 hx
      exact piece i (by simpa using hi)
    · cases hb
  | rcd fs ih =>
    refine ⟨fun t fuel cs x hb h => ?_, fun o l n cs hb => by simp [tyB] at hb⟩
    unfold tyB at hb
    split at hb
    · rename_i fa hu
      simp only [Bool.and_eq_true, beq_iff_eq] at hb
      obtain ⟨xs, n, _, _, hl, hlen, hf⟩ := DataW.trod_struct hu h
      have := ih.2 0 fa.toList n cs hb.2 (by rw [hl, hb.1, Nat.zero_add]) fun j f hj => by
        have := hf j f (by simpa using hj)
        have hlt : j < xs.length := by
          have := (List.getElem?_eq_some_iff.1 hj).1
          simp at this
          omega
        exact ⟨_, this.trans (List.getElem?_eq_getElem hlt)⟩
      exact this
    · cases hb
  | nil =>
    refine ⟨fun t fuel cs x hb h => by simp [tyB] at hb, fun o l n cs hb hl hf => ?_⟩
    exact List.drop_of_length_le (by rw [hl]; exact Nat.le_refl _)
  | cons a b iha ihb =>
    refine ⟨fun t fuel cs x hb h => by simp [tyB] at hb, fun o l n cs hb hl hf => ?_⟩
    unfold tyB at hb
    cases l with
    | nil => cases hb
    | cons f l =>
      simp only [Bool.and_eq_true, beq_iff_eq] at hb
      obtain ⟨⟨⟨ho, hc⟩, h1⟩, h2⟩ := hb
      have hsz : (Ty.cons a b).size = a.size + b.size := rfl
      obtain ⟨y, hy⟩ := hf 0 f rfl
      rw [ho, hc] at hy
      refine ⟨(cs.drop o).take a.size, cs.drop (o + a.size), by rw [← List.drop_drop, List.take_append_drop], ?_, iha.1 f.type n _ _ h1 hy, ihb.2 (o + a.size) l n cs h2 (by omega) fun j g hj => hf (j + 1) g hj⟩
      rw [List.length_take, List.length_drop]
      omega
/-- A thing that is handed in. -/
theorem rd_open {H : Type} {enc : TypeId × Value → H} {w : World} {v : Value} {d : DataW H} {p : List MemPlace} (ty : Ty) {t : TypeId} (hb : tyB P ty (.inl t) = true) (h : DataW.Trod enc P w 0 (fun _ => true) true t v d p) : ty.Rd (readAll w) v.cells.toList := by
  obtain ⟨fuel, hf⟩ := h
  exact (ty_open ty).1 t fuel _ _ hb hf
end Go.Proofs.YtlkhmddmdmlffaaGreatDoor
set_option linter.unusedSimpArgs false
set_option linter.unusedVariables false
set_option maxRecDepth 100000
namespace Go.Proofs.YtlkhmddmdmlffaaGreatDoor
open Go Go.SL Go.Pure
open Go.ChangeShapes Go.WideShapes Go.ChangeAt Go.RowKit
/-- Cells that are a thing of that shape, in which no text and no slice is longer than B. -/
def RdB (R : Hp) (B : Nat) : Ty → List Value → Prop
  | .int k, vs => ∃ n, vs = [.int k n] ∧ (Lit.int k n).wf = true
  | .bool, vs => ∃ b, vs = [.bool b]
  | .str, vs => ∃ s : ByteArray, vs = [.string s] ∧ s.size ≤ B
  | .sl e, vs => ∃ (v : Value) (items : List (List Value)), vs = [v] ∧ SlAt R e.size v items ∧ items.length ≤ B ∧ ∀ x ∈ items, x.length = e.size ∧ RdB R B e x
  | .arr n e, vs => ∃ items : List (List Value), vs = items.flatten ∧ items.length = n ∧ ∀ x ∈ items, x.length = e.size ∧ RdB R B e x
  | .rcd fs, vs => RdB R B fs vs
  | .nil, vs => vs = []
  | .cons a b, vs => ∃ x y, vs = x ++ y ∧ x.length = a.size ∧ RdB R B a x ∧ RdB R B b y
theorem RdB.rd {R : Hp} {B : Nat} (hB : B ≤ 9223372036854775807) : ∀ {ty : Ty} {vs : List Value}, RdB R B ty vs → ty.Rd R vs
  | .int _, _, h => h
  | .bool, _, h => h
  | .str, _, ⟨s, e, l⟩ => ⟨s, e, Nat.le_trans l hB⟩
  | .sl _, _, ⟨v, items, e, a, hl, h⟩ => ⟨v, items, e, a, Nat.le_trans hl hB, fun x hx => ⟨(h x hx).1, RdB.rd hB (h x hx).2⟩⟩
  | .arr _ _, _, ⟨items, e, l, h⟩ => ⟨items, e, l, fun x hx => ⟨(h x hx).1, RdB.rd hB (h x hx).2⟩⟩
  | .rcd fs, _, h => RdB.rd (ty := fs) hB h
  | .nil, _, h => h
  | .cons _ _, _, ⟨x, y, e, l, h1, h2⟩ => ⟨x, y, e, l, RdB.rd hB h1, RdB.rd hB h2⟩
/-- Does every slice's element weigh something? -/
def szB (P : Program) : Ty → TypeId ⊕ (Nat × List Field) → Bool
  | .sl e, .inl t => match P.underlying t with
    | some (.slice te) => decide (1 ≤ P.bytesOf te) && szB P e (.inl te)
    | _ => false
  | .arr _ e, .inl t => match P.underlying t with
    | some (.array _ te) => szB P e (.inl te)
    | _ => false
  | .rcd fs, .inl t => match P.underlying t with
    | some (.struct fa) => szB P fs (.inr (0, fa.toList))
    | _ => false
  | .cons a b, .inr (o, l) => match l with
    | f :: l => szB P a (.inl f.type) && szB P b (.inr (o + a.size, l))
    | [] => false
  | _, _ => true
theorem weights_all {H : Type} {P : Program} {e : TypeId} {n : Nat} : ∀ {l : List (DataW H)} {d : DataW H}, d ∈ l → n ∈ d.weights P e → n ∈ DataW.weightsAll P e l
  | x :: l, d, hd, hn => by
    simp only [DataW.weightsAll, List.mem_append]
    rcases List.mem_cons.1 hd with rfl | q
    · exact .inl hn
    · exact .inr (weights_all q hn)
theorem weights_each {H : Type} {P : Program} {n : Nat} : ∀ {ts : List TypeId} {ds : List (DataW H)} {j : Nat} {t : TypeId} {d : DataW H}, ts[j]? = some t → ds[j]? = some d → n ∈ d.weights P t → n ∈ DataW.weightsEach P ts ds
  | t0 :: ts, d0 :: ds, 0, t, d, ht, hd, hn => by
    simp only [List.getElem?_cons_zero, Option.some.injEq] at ht hd
    subst ht; subst hd
    simp only [DataW.weightsEach, List.mem_append]
    exact .inl hn
  | t0 :: ts, d0 :: ds, j + 1, t, d, ht, hd, hn => by
    simp only [List.getElem?_cons_succ] at ht hd
    simp only [DataW.weightsEach, List.mem_append]
    exact .inr (weights_each ht hd hn)
  | [], _, _, _, _, ht, _, _ => by simp at ht
  | _ :: _, [], _, _, _, _, hd, _ => by simp at hd
theorem ty_openB {B : Nat} {H : Type} {enc : TypeId × Value → H} {w : World} : ∀ (ty : Ty),
    (∀ (t : TypeId) (fuel : Nat) (cs : List Value) (x : DataW H × List MemPlace), tyB P ty (.inl t) = true → szB P ty (.inl t) = true → DataW.trod enc P w 0 (fun _ => true) true fuel t cs = some x → (∀ n ∈ x.1.weights P t, n ≤ B) → RdB (readAll w) B ty cs) ∧
    (∀ (o : Nat) (l : List Field) (n : Nat) (cs : List Value), tyB P ty (.inr (o, l)) = true → szB P ty (.inr (o, l)) = true → cs.length = o + ty.size → (∀ (j : Nat) (f : Field), l[j]? = some f → ∃ y, DataW.trod enc P w 0 (fun _ => true) true n f.type ((cs.drop f.offset).take (P.cellsOf f.type)) = some y ∧ ∀ n ∈ y.1.weights P f.type, n ≤ B) → RdB (readAll w) B ty (cs.drop o)) := by
  intro ty
  induction ty with
  | int k =>
    refine ⟨fun t fuel cs x hb hz h hw => ?_, fun o l n cs hb hz => by simp [tyB] at hb⟩
    unfold tyB at hb
    split at hb
    · rename_i k' hu
      obtain ⟨n, rfl, _, hwf⟩ := DataW.trod_int hu h
      rw [beq_iff_eq] at hb
      subst hb
      exact ⟨n, rfl, hwf⟩
    · cases hb
  | bool =>
    refine ⟨fun t fuel cs x hb hz h hw => ?_, fun o l n cs hb hz => by simp [tyB] at hb⟩
    unfold tyB at hb
    split at hb
    · rename_i hu
      obtain ⟨b, rfl, _⟩ := DataW.trod_bool hu h
      exact ⟨b, rfl⟩
    · cases hb
  | str =>
    refine ⟨fun t fuel cs x hb hz h hw => ?_, fun o l n cs hb hz => by simp [tyB] at hb⟩
    unfold tyB at hb
    split at hb
    · rename_i hu
      obtain ⟨s, rfl, rfl, hs⟩ := DataW.trod_string hu h
      refine ⟨s, rfl, ?_⟩
      have := hw s.data.toList.length (by simp [DataW.weights])
      simpa using this
    · cases hb
  | sl e ih =>
    refine ⟨fun t fuel cs x hb hz h hw => ?_, fun o l n cs hb hz => by simp [tyB] at hb⟩
    unfold tyB at hb
    split at hb
    · rename_i te hu
      simp only [Bool.and_eq_true, beq_iff_eq, decide_eq_true_eq] at hb
      obtain ⟨⟨hc, h0⟩, hb⟩ := hb
      unfold szB at hz
      rw [hu] at hz
      simp only [Bool.and_eq_true, decide_eq_true_eq] at hz
      obtain ⟨h1b, hz⟩ := hz
      rcases DataW.trod_slice hu h with ⟨rfl, _⟩ | ⟨a', len, cap, elems, rest, m, _, rfl, rfl, _, hl, hm, hlen, hel, _, _⟩
      · exact ⟨_, [], rfl, ⟨none, 0, rfl, Nat.le_refl _, .inl rfl⟩, by simp, by simp⟩
      · have each : ∀ i, i < len → ∃ cs : List Value, cs.length = e.size ∧ RdB (readAll w) B e cs ∧ ∀ j y, cs[j]? = some y → w.cell? ((a'.add (i * e.size)).add j) = some y := by
          intro i hi
          have h1 := hel i hi
          rw [hc, List.getElem?_eq_getElem (by omega), Option.bind_eq_some_iff] at h1
          obtain ⟨cs, hcs, htr⟩ := h1
          have hwe : ∀ n ∈ elems[i].1.weights P te, n ≤ B := fun n hn => hw n (by
            simp only [DataW.weights, hu, List.mem_cons, List.mem_append]
            exact .inr (.inl (weights_all (List.mem_map.2 ⟨_, List.getElem_mem _, rfl⟩) hn)))
          obtain ⟨_, hlen, hcell⟩ := World.cells?_some hcs
          refine ⟨cs, hlen, ih.1 te m cs _ hb hz htr hwe, fun j y ey => ?_⟩
          have hlt := (List.getElem?_eq_some_iff.1 ey).1
          rw [hcell j (by omega)]
          exact ey
        obtain ⟨f, hfn⟩ : ∃ f : Nat → List Value, ∀ i, i < len → (f i).length = e.size ∧ RdB (readAll w) B e (f i) ∧ ∀ j y, (f i)[j]? = some y → w.cell? ((a'.add (i * e.size)).add j) = some y := by
          refine ⟨fun i => if q : i < len then (each i q).choose else [], fun i hi => ?_⟩
          simp only [hi, dif_pos]
          exact (each i hi).choose_spec
        have hget : ∀ (i : Nat) (x : List Value), ((List.range len).map f)[i]? = some x → i < len ∧ x = f i := by
          intro i x e
          have hi : i < len := by simpa using (List.getElem?_eq_some_iff.1 e).1
          rw [List.getElem?_map, List.getElem?_range hi] at e
          exact ⟨hi, by simpa using e.symm⟩
        have ll : ((List.range len).map f).length = len := by simp
        have hm' : len ≤ B := by
          have h2 := hw ((elems.length + rest.length) * P.bytesOf te) (by
            simp [DataW.weights, hu])
          have h3 : (elems.length + rest.length) * 1 ≤ (elems.length + rest.length) * P.bytesOf te := Nat.mul_le_mul_left _ h1b
          omega
        refine ⟨_, (List.range len).map f, rfl, ⟨some a', cap, by rw [ll], by rw [ll]; exact hl, ?_⟩, by rw [ll]; omega, fun x hx => ?_⟩
        · by_cases hl0 : len = 0
          · left; subst hl0; rfl
          · right
            obtain ⟨l0, _, c0⟩ := hfn 0 (by omega)
            have hc0 := c0 0 _ (List.getElem?_eq_getElem (by omega))
            obtain ⟨b, o, sp⟩ := a'
            have hsp : sp = none := by
              cases sp with
              | none => rfl
              | some s =>
                unfold World.cell? Addr.add at hc0
                dsimp only at hc0
                split at hc0 <;> simp at hc0
            subst hsp
            refine ⟨b, o, rfl, fun i x e j y ey => ?_⟩
            obtain ⟨hi, rfl⟩ := hget i x e
            have := (hfn i hi).2.2 j y ey
            rw [add_off, add_off] at this
            exact readAll_cell this
        · obtain ⟨i, hi, rfl⟩ := List.mem_map.1 hx
          have hi : i < len := by simpa using hi
          exact ⟨(hfn i hi).1, (hfn i hi).2.1⟩
    · cases hb
  | arr n e ih =>
    refine ⟨fun t fuel cs x hb hz h hw => ?_, fun o l n cs hb hz => by simp [tyB] at hb⟩
    unfold tyB at hb
    split at hb
    · rename_i m te hu
      simp only [Bool.and_eq_true, beq_iff_eq] at hb
      obtain ⟨⟨⟨rfl, hc⟩, hct⟩, hb⟩ := hb
      unfold szB at hz
      rw [hu] at hz
      obtain ⟨xs, k, _, rfl, hlen, hl, hel⟩ := DataW.trod_array hu h
      rw [hct] at hlen
      have piece : ∀ i, i < m → ((cs.drop (i * e.size)).take e.size).length = e.size ∧ RdB (readAll w) B e ((cs.drop (i * e.size)).take e.size) := fun i hi => by
        have h1 := hel i hi
        rw [hc, List.getElem?_eq_getElem (by omega)] at h1
        have hwe : ∀ n ∈ xs[i].1.weights P te, n ≤ B := fun n hn => hw n (by
          simp only [DataW.weights, hu]
          exact weights_all (List.mem_map.2 ⟨_, List.getElem_mem _, rfl⟩) hn)
        refine ⟨?_, ih.1 te k _ _ hb hz h1 hwe⟩
        rw [List.length_take, List.length_drop, hlen]
        have : (i + 1) * e.size ≤ m * e.size := Nat.mul_le_mul_right _ hi
        rw [Nat.succ_mul] at this
        omega
      have flat : ∀ (m : Nat) (cs : List Value), cs.length = m * e.size → ((List.range m).map fun i => (cs.drop (i * e.size)).take e.size).flatten = cs := by
        intro m
        induction m with
        | zero => intro cs hl; obtain rfl : cs = [] := List.eq_nil_of_length_eq_zero (by simpa using hl); rfl
        | succ m ihm =>
          intro cs hl
          rw [Nat.succ_mul] at hl
          rw [List.range_succ_eq_map, List.map_cons, List.map_map, List.flatten_cons, Nat.zero_mul, List.drop_zero]
          have e1 : ((fun i => (cs.drop (i * e.size)).take e.size) ∘ Nat.succ) = fun i => ((cs.drop e.size).drop (i * e.size)).take e.size := by
            funext i
            show (cs.drop ((i + 1) * e.size)).take e.size = _
            rw [List.drop_drop, Nat.succ_mul, Nat.add_comm]
          rw [e1, ihm (cs.drop e.size) (by rw [List.length_drop]; omega), List.take_append_drop]
      refine ⟨_, (flat m cs hlen).symm, by simp, fun x hx => ?_⟩
      obtain ⟨i, hi, rfl⟩ := List.mem_map.1 hx
      exact piece i (by simpa using hi)
    · cases hb
  | rcd fs ih =>
    refine ⟨fun t fuel cs x hb hz h hw => ?_, fun o l n cs hb hz => by simp [tyB] at hb⟩
    unfold tyB at hb
    split at hb
    · rename_i fa hu
      simp only [Bool.and_eq_true, beq_iff_eq] at hb
      unfold szB at hz
      rw [hu] at hz
      obtain ⟨xs, n, _, rfl, hl, hlen, hf⟩ := DataW.trod_struct hu h
      have := ih.2 0 fa.toList n cs hb.2 hz (by rw [hl, hb.1, Nat.zero_add]) fun j f hj => by
        have := hf j f (by simpa using hj)
        have hlt : j < xs.length := by
          have := (List.getElem?_eq_some_iff.1 hj).1
          simp at this
          omega
        refine ⟨_, this.trans (List.getElem?_eq_getElem hlt), fun n hn => hw n ?_⟩
        simp only [DataW.weights, hu]
        exact weights_each (j := j) (by rw [List.getElem?_map, hj]; rfl) (by rw [List.getElem?_map, List.getElem?_eq_getElem hlt]; rfl) hn
      exact this
    · cases hb
  | nil =>
    refine ⟨fun t fuel cs x hb hz h hw => by simp [tyB] at hb, fun o l n cs hb hz hl hf => ?_⟩
    exact List.drop_of_length_le (by rw [hl]; exact Nat.le_refl _)
  | cons a b iha ihb =>
    refine ⟨fun t fuel cs x hb hz h hw => by simp [tyB] at hb, fun o l n cs hb hz hl hf => ?_⟩
    unfold tyB at hb
    cases l with
    | nil => cases hb
    | cons f l =>
      simp only [Bool.and_eq_true, beq_iff_eq] at hb
      obtain ⟨⟨⟨ho, hc⟩, h1⟩, h2⟩ := hb
      unfold szB at hz
      simp only [Bool.and_eq_true] at hz
      have hsz : (Ty.cons a b).size = a.size + b.size := rfl
      obtain ⟨y, hy, hwy⟩ := hf 0 f rfl
      rw [ho, hc] at hy
      refine ⟨(cs.drop o).take a.size, cs.drop (o + a.size), by rw [← List.drop_drop, List.take_append_drop], ?_, iha.1 f.type n _ _ h1 hz.1 hy hwy, ihb.2 (o + a.size) l n cs h2 hz.2 (by omega) fun j g hj => hf (j + 1) g hj⟩
      rw [List.length_take, List.length_drop]
      omega
/-- A thing that is handed in. -/
theorem rd_openB {B : Nat} {H : Type} {enc : TypeId × Value → H} {w : World} {v : Value} {d : DataW H} {p : List MemPlace} (ty : Ty) {t : TypeId} (hb : tyB P ty (.inl t) = true) (hz : szB P ty (.inl t) = true) (h : DataW.Trod enc P w 0 (fun _ => true) true t v d p) (hw : ∀ n ∈ d.weights P t, n ≤ B) : RdB (readAll w) B ty v.cells.toList := by
  obtain ⟨fuel, hf⟩ := h
  exact (ty_openB ty).1 t fuel _ _ hb hz hf hw
/-- Each thing's weights are among all weights. -/
theorem weigh {B : Nat} {H : Type} {ts : List TypeId} {ds : List (DataW H)} (h : (DataW.weightsEach P ts ds).all (· ≤ B) = true) (j : Nat) {t : TypeId} {d : DataW H} (ht : ts[j]? = some t) (hd : ds[j]? = some d) : ∀ n ∈ d.weights P t, n ≤ B := fun n hn => by
  simpa using List.all_eq_true.1 h n (weights_each ht hd hn)
end Go.Proofs.YtlkhmddmdmlffaaGreatDoor
set_option linter.unusedSimpArgs false
set_option linter.unusedVariables false
set_option maxRecDepth 100000
set_option maxHeartbeats 1000000
namespace Go.Proofs.YtlkhmddmdmlffaaGreatDoor
open Go Go.SL Go.Pure Go.Chest
abbrev tyChest : Ty := .rcd (.cons .str (.cons .bytes (.cons (.sl .bytes) .nil)))
theorem bytes_rdB27 {R : Hp} {B : Nat} {vs : List Value} (hB : B ≤ 9223372036854775807) (h : RdB R B Ty.bytes vs) : ∃ (v : Value) (l : List Nat), vs = [v] ∧ Rn R .u8 v l ∧ (∀ x ∈ l, x < 256) ∧ l.length ≤ B := by
  obtain ⟨v, l, rfl, rd, bd, ld⟩ := Ty.Rd.asBytes (h.rd hB)
  obtain ⟨v', items, e, ⟨a, c, hv, _⟩, hl, _⟩ := h
  obtain ⟨a2, c2, hv2, _⟩ := rd.shape
  simp only [List.cons.injEq, and_true] at e
  subst e
  rw [hv] at hv2
  simp only [Value.slice.injEq] at hv2
  exact ⟨v, l, rfl, rd, bd, by omega⟩
theorem pick {α β : Type} {Q : α → β → Prop} : ∀ {l : List α}, (∀ x ∈ l, ∃ y, Q x y) → ∃ m : List β, m.length = l.length ∧ ∀ (i : Nat) (x : α) (y : β), l[i]? = some x → m[i]? = some y → Q x y
  | [], _ => ⟨[], rfl, fun i x y e => by simp at e⟩
  | a :: l, h => by
    obtain ⟨b, hb⟩ := h a (by simp)
    obtain ⟨m, hm, hq⟩ := pick (l := l) fun x hx => h x (by simp [hx])
    refine ⟨b :: m, by simp [hm], fun i x y e1 e2 => ?_⟩
    cases i with
    | zero =>
      simp only [List.getElem?_cons_zero, Option.some.injEq] at e1 e2
      subst e1 e2
      exact hb
    | succ i =>
      simp only [List.getElem?_cons_succ] at e1 e2
      exact hq i x y e1 e2
theorem ls_rdB {R : Hp} {B : Nat} (hB : B ≤ 9223372036854775807) {vs : List Value} (h : RdB R B (.sl .bytes) vs) : ∃ v ps, vs = [v] ∧ LsR R v ps ∧ ps.length ≤ B ∧ ∀ b ∈ ps, Bytes b ∧ b.length ≤ B := by
  obtain ⟨v, items, rfl, ⟨a, c, rfl, hc, hr⟩, hl, hi⟩ := h
  obtain ⟨m, hm, hq⟩ := pick (Q := fun (x : List Value) (y : Value × List Nat) => x = [y.1] ∧ Rn R .u8 y.1 y.2 ∧ Bytes y.2 ∧ y.2.length ≤ B) (l := items) fun x hx => by
    obtain ⟨v, l, e, rd, bd, ld⟩ := bytes_rdB27 hB (hi x hx).2
    exact ⟨(v, l), e, rd, bd, ld⟩
  have at' : ∀ i, (hi' : i < m.length) → items[i]? = some [(m[i]).1] ∧ Rn R .u8 (m[i]).1 (m[i]).2 ∧ Bytes (m[i]).2 ∧ (m[i]).2.length ≤ B := fun i hi' => by
    obtain ⟨e, q⟩ := hq i _ _ (List.getElem?_eq_getElem (by omega : i < items.length)) (List.getElem?_eq_getElem hi')
    exact ⟨by rw [List.getElem?_eq_getElem (by omega : i < items.length), e], q⟩
  refine ⟨_, m.map Prod.snd, rfl, ⟨m.map Prod.fst, ⟨by simp, a, c, by rw [List.length_map, hm], by rw [List.length_map, hm]; exact hc, ?_⟩, by simp, fun j p e => ?_⟩, by rw [List.length_map, hm]; exact hl, fun b hb => ?_⟩
  · rcases hr with q | ⟨b, o, rfl, hy⟩
    · left
      rw [List.length_map, hm, q]; rfl
    · refine .inr ⟨b, o, rfl, fun i x e => ?_⟩
      rw [List.getElem?_map, Option.map_eq_some_iff] at e
      obtain ⟨p, hp, rfl⟩ := e
      have hi' : i < m.length := (List.getElem?_eq_some_iff.1 hp).1
      rw [List.getElem?_eq_getElem hi', Option.some.injEq] at hp
      subst hp
      have := hy i _ (at' i hi').1 0 _ rfl
      have e1 : o + i * (Ty.bytes).size + 0 = o + i := by
        have : (Ty.bytes).size = 1 := rfl
        rw [this]; omega
      rw [e1] at this
      exact this
  · rw [List.getElem?_map, Option.map_eq_some_iff] at e
    obtain ⟨q, hp, rfl⟩ := e
    have hi' : j < m.length := (List.getElem?_eq_some_iff.1 hp).1
    rw [List.getElem?_eq_getElem hi', Option.some.injEq] at hp
    subst hp
    exact ⟨_, by rw [List.getElem?_map, List.getElem?_eq_getElem hi']; rfl, (at' j hi').2.1⟩
  · obtain ⟨q, hp, rfl⟩ := List.mem_map.1 hb
    obtain ⟨i, hi', rfl⟩ := List.mem_iff_getElem.1 hp
    exact (at' i hi').2.2
theorem ch_rdB {R : Hp} {B : Nat} (hB : B ≤ 9223372036854775807) {x : List Value} (h : RdB R B tyChest x) : ∃ (y : ChT), x = chV y.1 y.2.1 y.2.2 ∧ ChR R y.1 y.2.1 y.2.2 ∧ y.1.tag.length ≤ B ∧ y.1.text.length ≤ B ∧ y.1.layers.length ≤ B ∧ ∀ b ∈ y.1.layers, b.length ≤ B := by
  obtain ⟨y0, x0, rfl, _, ⟨s0, rfl, l0⟩, y1, x1, rfl, _, hb, y2, x2, rfl, _, hl, he⟩ := h
  obtain ⟨tv, l, rfl, rd, bd, ld⟩ := bytes_rdB27 hB hb
  obtain ⟨lv, ps, rfl, rl, lp, bp⟩ := ls_rdB hB hl
  have he : x2 = [] := he
  subst he
  refine ⟨(⟨sL s0, l, ps⟩, tv, lv), ?_, ⟨sL_bytes _, rd, bd, rl, fun b hb => (bp b hb).1⟩, by show (sL s0).length ≤ _; rw [sL_len]; exact l0, ld, lp, fun b hb => (bp b hb).2⟩
  simp only [chV, strL_sL]
  rfl
/-- Chests handed in. -/
theorem cs_rdB {R : Hp} {B : Nat} (hB : B ≤ 9223372036854775807) {vs : List Value} (h : RdB R B (.sl tyChest) vs) : ∃ v l, vs = [v] ∧ CsR R v l ∧ LenC B l := by
  obtain ⟨v, items, rfl, A, hl, hi⟩ := h
  obtain ⟨m, hm, hq⟩ := pick (l := items) fun x hx => ch_rdB hB (hi x hx).2
  refine ⟨v, m.map Prod.fst, rfl, ⟨items, A, by rw [List.length_map, hm], fun i x e => ?_⟩, by rw [List.length_map, hm]; exact hl, fun x hx => ?_⟩
  · rw [List.getElem?_map, Option.map_eq_some_iff] at e
    obtain ⟨q, hp, rfl⟩ := e
    have hi' : i < m.length := (List.getElem?_eq_some_iff.1 hp).1
    obtain ⟨e1, e2, _⟩ := hq i _ _ (List.getElem?_eq_getElem (by omega : i < items.length)) hp
    exact ⟨q.2.1, q.2.2, by rw [List.getElem?_eq_getElem (by omega : i < items.length), e1], e2⟩
  · obtain ⟨q, hp, rfl⟩ := List.mem_map.1 hx
    obtain ⟨i, hi', rfl⟩ := List.mem_iff_getElem.1 hp
    obtain ⟨_, _, e3⟩ := hq i _ _ (List.getElem?_eq_getElem (by omega : i < items.length)) (List.getElem?_eq_getElem hi')
    exact e3
end Go.Proofs.YtlkhmddmdmlffaaGreatDoor
set_option linter.unusedSimpArgs false
set_option linter.unusedVariables false
set_option maxRecDepth 100000
set_option maxHeartbeats 1000000
namespace Go.Proofs.YtlkhmddmdmlffaaGreatDoor
open Go Go.SL Go.Pure Go.Chest
theorem take_len27 {b x r : List Nat} (e : takeC b = some (x, r)) : x.length ≤ b.length ∧ r.length ≤ b.length := by
  unfold takeC numC at e
  split at e
  · cases e
  · simp only [Option.map_some, Option.some.injEq, Prod.mk.injEq] at e
    obtain ⟨e1, e2⟩ := e
    rw [← e1, ← e2, List.length_take, List.length_drop, List.length_drop, List.length_drop]
    omega
theorem num_len27 {most n : Nat} {b r : List Nat} (e : numC most b = some (n, r)) : n ≤ most ∧ r.length ≤ b.length := by
  unfold numC at e
  split at e
  · cases e
  · simp only [Option.some.injEq, Prod.mk.injEq] at e
    obtain ⟨e1, e2⟩ := e
    rw [← e1, ← e2, List.length_drop]
    omega
theorem many_len27 {α : Type} {one : List Nat → Option (α × List Nat)} (h1 : ∀ b x r, one b = some (x, r) → r.length ≤ b.length) : ∀ (n : Nat) (b : List Nat) (l : List α) (r : List Nat), manyC one n b = some (l, r) →
    l.length = n ∧ r.length ≤ b.length ∧ ∀ x ∈ l, ∃ b' r', b'.length ≤ b.length ∧ one b' = some (x, r')
  | 0, b, l, r, e => by
    simp only [manyC, Option.some.injEq, Prod.mk.injEq] at e
    obtain ⟨rfl, rfl⟩ := e
    exact ⟨rfl, Nat.le_refl _, fun x hx => by cases hx⟩
  | n + 1, b, l, r, e => by
    rw [manyC] at e
    cases e1 : one b with
    | none => rw [e1] at e; cases e
    | some y =>
      obtain ⟨x, s⟩ := y
      rw [e1] at e
      dsimp only at e
      cases e2 : manyC one n s with
      | none => rw [e2] at e; cases e
      | some z =>
        obtain ⟨m, t⟩ := z
        rw [e2] at e
        simp only [Option.some.injEq, Prod.mk.injEq] at e
        obtain ⟨rfl, rfl⟩ := e
        obtain ⟨q1, q2, q3⟩ := many_len27 h1 n s m t e2
        have q4 := h1 b x s e1
        refine ⟨by simp [q1], by omega, fun y hy => ?_⟩
        rcases List.mem_cons.1 hy with rfl | hy
        · exact ⟨b, s, Nat.le_refl _, e1⟩
        · obtain ⟨b', r', g1, g2⟩ := q3 y hy
          exact ⟨b', r', by omega, g2⟩
theorem some_len27 {α : Type} {one : List Nat → Option (α × List Nat)} (h1 : ∀ b x r, one b = some (x, r) → r.length ≤ b.length) {most : Nat} {b : List Nat} {l : List α} {r : List Nat} (e : someC one most b = some (l, r)) :
    l.length ≤ most ∧ r.length ≤ b.length ∧ ∀ x ∈ l, ∃ b' r', b'.length ≤ b.length ∧ one b' = some (x, r') := by
  unfold someC at e
  cases e1 : numC most b with
  | none => rw [e1] at e; cases e
  | some y =>
    obtain ⟨n, s⟩ := y
    rw [e1] at e
    obtain ⟨n1, n2⟩ := num_len27 e1
    obtain ⟨q1, q2, q3⟩ := many_len27 h1 n s l r e
    exact ⟨by omega, by omega, fun x hx => by
      obtain ⟨b', r', g1, g2⟩ := q3 x hx
      exact ⟨b', r', by omega, g2⟩⟩
theorem chest_len27 {b : List Nat} {x : Ch} {r : List Nat} (e : chestC b = some (x, r)) : r.length ≤ b.length ∧ x.tag.length ≤ b.length ∧ x.text.length ≤ b.length ∧ x.layers.length ≤ 64 ∧ ∀ y ∈ x.layers, y.length ≤ b.length := by
  unfold chestC at e
  cases e1 : takeC b with
  | none => rw [e1] at e; cases e
  | some y =>
    obtain ⟨tag, s⟩ := y
    rw [e1] at e
    dsimp only at e
    cases e2 : takeC s with
    | none => rw [e2] at e; cases e
    | some z =>
      obtain ⟨text, t⟩ := z
      rw [e2] at e
      dsimp only at e
      cases e3 : someC takeC 64 t with
      | none => rw [e3] at e; cases e
      | some u =>
        obtain ⟨ls, v⟩ := u
        rw [e3] at e
        simp only [Option.some.injEq, Prod.mk.injEq] at e
        obtain ⟨rfl, rfl⟩ := e
        obtain ⟨a1, a2⟩ := take_len27 e1
        obtain ⟨a3, a4⟩ := take_len27 e2
        obtain ⟨a5, a6, a7⟩ := some_len27 (fun b x r e => (take_len27 e).2) e3
        refine ⟨by omega, a1, by show text.length ≤ _; omega, a5, fun y hy => ?_⟩
        obtain ⟨b', r', g1, g2⟩ := a7 y hy
        have := (take_len27 g2).1
        omega
theorem read_len27 {b : List Nat} {l : List Ch} (e : readC b = some l) (hb : b.length ≤ 1000000000) : LenC 1125899906842624 l := by
  unfold readC at e
  cases e1 : someC chestC 1024 b with
  | none => rw [e1] at e; cases e
  | some y =>
    obtain ⟨m, r⟩ := y
    rw [e1] at e
    cases r with
    | cons z zs => cases e
    | nil =>
      simp only [Option.some.injEq] at e
      subst e
      obtain ⟨a1, _, a3⟩ := some_len27 (fun b x r e => (chest_len27 e).1) e1
      refine ⟨by omega, fun x hx => ?_⟩
      obtain ⟨b', r', g1, g2⟩ := a3 x hx
      obtain ⟨_, c1, c2, c3, c4⟩ := chest_len27 g2
      exact ⟨by omega, by omega, by omega, fun y hy => by have := c4 y hy; omega⟩
theorem from_len27 (c : Cr) {b : List Nat} (hb : b.length ≤ 1000000000) : LenC 1125899906842624 (fromC c b).2.1 := by
  have nl : LenC 1125899906842624 [] := ⟨by simp, fun x hx => by cases hx⟩
  unfold fromC
  split
  · exact nl
  · split
    · exact nl
    · split
      · rename_i l e
        exact read_len27 e (by rw [List.length_drop, List.length_take]; omega)
      · exact nl
/-- Both crypts, side by side, each in its state. -/
structure Two27 (R h : Hp) (vc : Value) (p : Nat) (c c' : Cr) (S1 S2 : List Nat) : Prop where
  o1 : Own R h S1
  o2 : Own R h S2
  dj : ∀ b, b ∈ S1 → b ∉ S2
  cr : CrN h vc c S1
  rf : RefN R h p c' S2
section
variable {R h : Hp} {K : Value → Hp → Prop} {vc : Value} {p : Nat} {c c' : Cr} {S1 S2 : List Nat}
theorem Two27.ext (a : Two27 R h vc p c c' S1 S2) {R' h' : Hp} (s : Stp R h R' h' [] []) : Two27 R' h' vc p c c' S1 S2 := by
  have x : Hp.ext h h' := fun b o e => s.keep b o (by simp) e
  obtain ⟨w1, _, _⟩ := s.frame a.o1 (fun b hb q => by cases q)
  obtain ⟨w2, _, _⟩ := s.frame a.o2 (fun b hb q => by cases q)
  exact ⟨w1, w2, a.dj, a.cr.ext a.o1 x, a.rf.ext a.o2 s.ext x⟩
theorem Two27.step1 (a : Two27 R h vc p c c' S1 S2) {R' h' : Hp} {d : Cr} (s : Stp R h R' h' S1 S1) (C : CrN h' vc d S1) : Two27 R' h' vc p d c' S1 S2 := by
  obtain ⟨w2, _, same⟩ := s.frame a.o2 fun b hb q => a.dj b q hb
  exact ⟨s.own, w2, a.dj, C, a.rf.keep s.ext same⟩
theorem Two27.step2 (a : Two27 R h vc p c c' S1 S2) {R' h' : Hp} {d : Cr} {S2' : List Nat} (s : Stp R h R' h' S2 S2') (D : RefN R' h' p d S2') : Two27 R' h' vc p c d S1 S2' := by
  obtain ⟨w1, dj, same⟩ := s.frame a.o1 a.dj
  exact ⟨w1, s.own, dj, a.cr.keep same, D⟩
theorem T_ChestReads {v bv : Value} {l : List Ch} {b : List Nat} (ideal : Bool) (a : CsR h v l) (hl : LenC 1125899906842624 l) (rb : Rn h .u8 bv b) (bb : Bytes b) (lb : b.length ≤ 9223372036854775807) (k : ∀ h', K (.bool true) h') :
    Cn P n_orloplaw27_ChestReads #[.bool ideal, v, bv] h K := by
  refine F_orloplaw27_ChestReads ?_
  unfold s_orloplaw27_ChestReads
  refine T_awake27 fun h1 x1 => ?_
  replace a := a.mono x1.cle
  replace rb := rb.mono x1.cle
  simp -zeta only [GL, Bool.not_true, Bool.false_eq_true, if_false]
  intro J5
  have q5 : szC l ≤ 4000 → b.length ≤ 4000 → J5 h1 := by
    intro hsz lb
    simp -zeta only [J5]
    clear J5
    have w0 : Own h1 h1 [] := ⟨.refl _, fun b hb => (by cases hb), fun b hb => (by cases hb)⟩
    refine T_of27 ideal w0 fun vc h2 S1 C1 o1 s1 _ => ?_
    refine aw_refBox ideal fun p hp => ?_
    obtain ⟨o3p, o3, dj3, same3⟩ := o1.mk1 (.row t_orlopref12_Crypt [.bool ideal, .slice none 0 0, .slice none 0 0] 3 (some (0, 0))) hp
    have A3 : RefN h1 (h2.set p (.row t_orlopref12_Crypt [.bool ideal, .slice none 0 0, .slice none 0 0] 3 (some (0, 0)))) p (cr0 ideal) [p] := refN_new ideal
    generalize h2.set p (.row t_orlopref12_Crypt [.bool ideal, .slice none 0 0, .slice none 0 0] 3 (some (0, 0))) = h3 at *
    have B3 : Two27 h1 h3 vc p (cr0 ideal) (cr0 ideal) S1 [p] := ⟨o3, o3p, dj3, C1.keep same3, A3⟩
    have f0 := fewT0 ideal
    generalize cr0 ideal = c at *
    have es : ∀ x : Ch, szC1 x = 1 + x.tag.length + x.text.length + szR x.layers := fun _ => rfl
    have lmx : ∀ x ∈ l, x.layers.length ≤ 1099511627776 := fun x hx => by
      have q1 := szC_le hx
      have q2 := es x
      have q3 : x.layers.length ≤ szR x.layers := by
        unfold szR
        generalize x.layers = y
        induction y with
        | nil => simp
        | cons z y ih => rw [List.map_cons, List.sum_cons, List.length_cons]; omega
      omega
    have ll : l.length ≤ 1099511627776 := by
      have : l.length ≤ szC l := by
        unfold szC
        clear a hl hsz lmx
        induction l with
        | nil => simp
        | cons z y ih => rw [List.map_cons, List.sum_cons, List.length_cons]; have := es z; omega
      omega
    -- behind what was written first
    have rest : ∀ (c1 : Cr) (R4 h4 : Hp) (S2 : List Nat), Two27 R4 h4 vc p c1 c1 S1 S2 → fewT 1 c1 → Hp.ext h1 R4 →
        aw P (Instr.buildSlice t_Sl_uint8 0 #[]) (fun t39 h => aw P (Builtin.append_ #[t_Sl_uint8, t_Sl_uint8] t_Sl_uint8 #[t39, bv]) (fun t41 h => Cn P n_orlopref12_Crypt_Sum #[.pointer (some ⟨p, 0, none⟩), bv] h fun t44 h => aw P (Builtin.append_ #[t_Sl_uint8, t_Sl_uint8] t_Sl_uint8 #[t41, t44]) (fun t45 h => aw P (callMethod vc "Sum" #[bv]) (nextP P fun t48 h => Cn P n_chest_FromBytes #[vc, bv] h fun t52 h => q P h (Instr.extract t52 0) fun t53 => q P h (Instr.extract t52 1) fun t54 => Cn P n_orlopref27_FromBytes #[.pointer (some ⟨p, 0, none⟩), bv] h fun t58 h => q P h (Instr.extract t58 0) fun t59 => q P h (Instr.extract t58 1) fun t60 => Cn P n_chest_FromBytes #[vc, t45] h fun t64 h => q P h (Instr.extract t64 0) fun t65 => q P h (Instr.extract t64 1) fun t66 => Cn P n_orlopref27_FromBytes #[.pointer (some ⟨p, 0, none⟩), t45] h fun t70 h => q P h (Instr.extract t70 0) fun t71 => q P h (Instr.extract t70 1) fun t72 => q P h (eqop .eql t_api_Code (.tmp 73) (.tmp 74) t54 t60) fun t75 => gd t75 true (Cn P n_orlopref27_Same #[t53, t59] h fun t79 h => gd t79 true (q P h (eqop .eql t_api_Code (.tmp 82) (.tmp 83) t66 t72) fun t84 => gd t84 true (Cn P n_orlopref27_Same #[t65, t71] h fun t89 h => K t89 h) (K (Value.bool false) h)) (K (Value.bool false) h)) (K (Value.bool false) h)) h) h) h) h4 := by
      intro c1 R4 h4 S2 B4 f1 x4
      have rb4 := rb.mono x4.cle
      refine aw_nilB fun v5 h5 n5 => ?_
      refine aw_appB n5 ((B4.o1.rn rb4).mono n5.cle) (by simp; omega) fun v6 h6 n6 => ?_
      rw [List.nil_append] at n6
      obtain ⟨So, o6, f6⟩ := OutAt.of n6
      have oSo : Own R4 h6 So := (OutAt.step B4.o1.nil o6 (fun x o _ e => n6.ext x o e) (fun x o _ e q => by rw [f6 x q] at e; cases e)).own
      have B6 : Two27 R4 h6 vc p c1 c1 S1 S2 := B4.ext (Stp.ext0 B4.o1.nil n6.ext)
      have d1 : ∀ z, z ∈ So → z ∉ S1 := fun z hz q => by
        obtain ⟨o, e⟩ := B4.o1.kn z q
        rw [f6 z hz] at e; cases e
      have d2 : ∀ z, z ∈ So → z ∉ S2 := fun z hz q => by
        obtain ⟨o, e⟩ := B4.o2.kn z q
        rw [f6 z hz] at e; cases e
      refine T_refN_Sum B6.o2 B6.rf (f1.mono (by decide)) rb4 bb (by omega) fun sv R7 h7 S2' s7 D7 r7 => ?_
      have B7 := B6.step2 s7 D7
      obtain ⟨oSo7, dj7, same7⟩ := s7.frame oSo d2
      have o7 := o6.keep same7
      have ls := crSum_len c1 b
      refine aw_appO o7 (s7.own.rn r7) (by omega) fun v8 h8 So8 o8 kp8 fr8 => ?_
      have s8 := OutAt.step oSo7 o8 kp8 fr8
      have oX : Own R7 h7 (S1 ++ S2') := B7.o1.app B7.o2
      have djX : ∀ z, z ∈ S1 ++ S2' → z ∉ So := fun z hz q => by
        rcases List.mem_append.1 hz with g | g
        · exact d1 z q g
        · exact dj7 z q g
      obtain ⟨_, djX8, sameX⟩ := s8.frame oX djX
      obtain ⟨R8, s8', x8, rd8⟩ := fixOutS ((s8.wide oX djX).perm (T := (S1 ++ S2') ++ So) (T' := (S1 ++ S2') ++ So8) (fun x => by simp only [List.mem_append]; exact or_comm) (fun x => by simp only [List.mem_append]; exact or_comm)) djX8 o8
      have B8 : Two27 R8 h8 vc p c1 (crSum c1 b).2 S1 S2' := ⟨s8'.own.sub' fun z hz => List.mem_append_left _ hz, s8'.own.sub' fun z hz => List.mem_append_right _ hz, B7.dj, B7.cr.keep fun z hz => sameX z (List.mem_append_left _ hz), B7.rf.keep x8 fun z hz => sameX z (List.mem_append_right _ hz)⟩
      have r8 : Rn R8 .u8 v8 (b ++ (crSum c1 b).1) := rd8
      have rb8 := rb4.mono (s7.ext.trans x8).cle
      have bO : Bytes (b ++ (crSum c1 b).1) := bb.append (crSum_b c1 bb)
      have lO : (b ++ (crSum c1 b).1).length ≤ 5000 := by rw [List.length_append, ls]; omega
      have f2 := f1.sum b
      refine T_sumN B8.o1 B8.cr (f1.mono (by decide)) rb8 bb (by omega) fun sv9 R9 h9 s9 C9 r9 => ?_
      have B9 := B8.step1 s9 C9
      have r89 := r8.mono s9.ext.cle
      have rb9 := rb8.mono s9.ext.cle
      generalize b ++ (crSum c1 b).1 = own at *
      generalize (crSum c1 b).2 = c2 at *
      refine T_FromBytes B9.o1 B9.cr (f2.mono (by decide)) rb9 bb (by omega) fun x10 R10 h10 s10 C10 cx => ?_
      have B10 := B9.step1 s10 C10
      rw [ext0, ext1]
      refine T_ref27From B10.o2 B10.rf (f2.mono (by decide)) (rb9.mono s10.ext.cle) bb (by omega) fun y11 R11 h11 S3 s11 D11 cy => ?_
      have B11 := B10.step2 s11 D11
      have f3 := from_few f2 b
      have lenX := from_len27 c2 (b := b) (by omega)
      rw [ext0, ext1]
      have x911 := s10.ext.trans s11.ext
      generalize (fromC c2 b).2.2 = c3 at *
      generalize (fromC c2 b).2.1 = lx at *
      generalize (fromC c2 b).1 = ex at *
      refine T_FromBytes B11.o1 B11.cr (f3.mono (by decide)) (r89.mono x911.cle) bO (by omega) fun z12 R12 h12 s12 C12 cz => ?_
      have B12 := B11.step1 s12 C12
      rw [ext0, ext1]
      refine T_ref27From B12.o2 B12.rf (f3.mono (by decide)) ((r89.mono x911.cle).mono s12.ext.cle) bO (by omega) fun w13 R13 h13 S4 s13 D13 cw => ?_
      have B13 := B12.step2 s13 D13
      have lenZ := from_len27 c3 (b := own) (by omega)
      rw [ext0, ext1]
      generalize (fromC c3 own).2.2 = c4 at *
      generalize (fromC c3 own).2.1 = lz at *
      generalize (fromC c3 own).1 = ez at *
      have e1 : (((ex : Nat) : Int) == ((ex : Nat) : Int)) = true := beq_self_eq_true _
      have e2 : (((ez : Nat) : Int) == ((ez : Nat) : Int)) = true := beq_self_eq_true _
      simp -zeta only [GL, e1, if_true]
      have up := s13.own.sub.cle
      refine T_ref27Same (((cx.mono ((s11.ext.trans s12.ext).trans s13.ext).cle)).mono up) ((cy.mono (s12.ext.trans s13.ext).cle).mono up) lenX ?_
      simp -zeta only [decide_true, GL, if_true, e2]
      refine T_ref27Same ((cz.mono s13.ext.cle).mono up) (cw.mono up) lenZ ?_
      rw [decide_eq_true rfl]
      exact k _
    refine T_chestBytes B3.o1 B3.cr (f0.mono (by decide)) a ll lmx (small_ok hsz) (fun nm => ?_) fun mc rv R4 h4 s4 C4 r4 => ?_
    · refine T_ref27Bytes B3.o2 B3.rf (f0.mono (by decide)) a ll lmx (small_ok hsz) (fun _ => ?_) fun mc => absurd mc nm
      exact rest c h1 h3 [p] B3 (f0.mono (by decide)) (.refl _)
    · have B4 := B3.step1 s4 C4
      refine T_ref27Bytes B4.o2 B4.rf (f0.mono (by decide)) (a.mono s4.ext.cle) ll lmx (small_ok hsz) (fun nm => absurd mc nm) fun _ rv5 R5 h5 S5 s5 A5 r5 => ?_
      exact rest _ R5 h5 S5 (B4.step2 s5 A5) (f0.sum _) (s4.ext.trans s5.ext)
  clear_value J5
  refine T_ref27Small (lim := 4000) a (by decide) hl ?_ fun hsz => ?_
  · simp -zeta only [GL, Bool.not_false, Bool.true_eq_false, if_false, if_true]
    exact k _
  · obtain ⟨ab, cb, rfl, hcb⟩ := rb.shape
    have d1 : decide ((4000 : Int) < ((b.length : Nat) : Int)) = decide (4000 < b.length) := lt_dec 4000 _
    simp -zeta only [GL, RL, Bool.not_true, if_true, d1]
    by_cases g : 4000 < b.length
    · simp -zeta only [g, decide_true, if_true]
      exact k _
    · simp -zeta only [g, decide_false, Bool.false_eq_true, if_false]
      exact q5 hsz (by omega)
end
end Go.Proofs.YtlkhmddmdmlffaaGreatDoor
set_option linter.unusedSimpArgs false
set_option linter.unusedVariables false
set_option maxRecDepth 100000
namespace Go.Proofs.YtlkhmddmdmlffaaGreatDoor
open Go Go.SL Go.Pure
open Go.ChangeShapes Go.WideShapes Go.ChangeAt Go.RowKit
namespace chestReads
theorem laid_met (os : Os) (args : Array Value) : laidMetH Tryz.prog Rows.chestReadsRow.laid ((World.laidAll Tryz.prog os Rows.chestReadsRow.laid).forCall (fun _ _ => 0) ⟨#[], args, []⟩).memory := by
  rw [MakeChecks.laidMetH_plain _ _ _ (by kernel_rfl)]
  exact laidMet_laidAll _ (by kernel_rfl) (by kernel_rfl)
theorem lifted (os : Os) (started : os.Started) (H : Type) (enc : TypeId × Value → H) :
    ReturnsInHanded {} Tryz.checked os n_orloplaw27_ChestReads .any (fun w args => (Rows.chestReadsSpec.pre enc Tryz.prog Tryz.f4 [] false w args ∧ laidMetH Tryz.prog Rows.chestReadsRow.laid w) ∧ sizedMet enc Tryz.prog Tryz.f4 (OpenSpec.ofChange Rows.chestReadsSpec) false w args)
      (Rows.chestReadsSpec.post enc Tryz.prog Tryz.f4 false true false false) := by
  refine returnsInHanded_of_change_and (C := Tryz.checked) (X := fun w _ => laidMetH Tryz.prog Rows.chestReadsRow.laid w) (fun _ _ _ hh h => h.of_heap hh) ownNone started (by kernel_rfl) Tryz.func4
    (ChangeSpec.witness_shaped (enc := enc) (C := Tryz.checked) (os := os) (X := fun w _ => laidMetH Tryz.prog Rows.chestReadsRow.laid w) false (World.laidAll Tryz.prog os Rows.chestReadsRow.laid) #[.bool false, .slice none 0 0, .slice none 0 0] 8 (World.laidAll_os ..) (World.shaped_of_ZipB (by kernel_rfl) (by kernel_rfl)) (by kernel_rfl) (by kernel_rfl) (by kernel_rfl) (laid_met os _)) ?_
  intro W base args ds gs before hval0 hW _ hsz0 hL _
  have hval : ∀ (j : Nat) t v, Tryz.f4.params[j]? = some t → args[j]? = some v → Value.okWide Tryz.prog W .any base t v := hval0
  have hW' := hW
  obtain ⟨p, q, hA0, hV, rfl, hfz, hnd⟩ := hW
  have hA : DataW.TrodAll enc Tryz.prog W 0 (fun _ => true) true Tryz.f4.params.toList args.toList ds p := hA0
  rw [Tryz.params4] at hA hval
  obtain ⟨v0, vs0, d0, ds0, p0, q0, hargs, rfl, rfl, h0, r0⟩ := trodAll_cons hA
  obtain ⟨v1, vs1, d1, ds1, p1, q1, rfl, rfl, rfl, h1, r1⟩ := trodAll_cons r0
  obtain ⟨v2, vs2, d2, ds2, p2, q2, rfl, rfl, rfl, h2, r2⟩ := trodAll_cons r1
  obtain ⟨rfl, rfl, rfl⟩ := trodAll_nil r2
  obtain rfl : args = #[v0, v1, v2] := by cases args; simp_all
  obtain ⟨rfl, rfl⟩ := trodVars_none hV
  have lt0 : ∀ x ∈ p0, x.block < W.heap.size := by obtain ⟨m, hm⟩ := h0; exact DataW.trod_lt m _ _ _ hm
  have lt1 : ∀ x ∈ p1, x.block < W.heap.size := by obtain ⟨m, hm⟩ := h1; exact DataW.trod_lt m _ _ _ hm
  have lt2 : ∀ x ∈ p2, x.block < W.heap.size := by obtain ⟨m, hm⟩ := h2; exact DataW.trod_lt m _ _ _ hm
  obtain ⟨b0, rfl⟩ := okWide_bool Tryz.underlying4 (hval 0 4 v0 rfl rfl)
  obtain ⟨a1, n1, c1, rfl⟩ := okWide_slice Tryz.underlying22 (hval 1 22 v1 rfl rfl)
  have Z1 : RdB (readAll W) reachBytes (.sl tyChest) [Value.slice a1 n1 c1] := rd_openB (.sl tyChest) (by kernel_rfl) (by kernel_rfl) h1 (weigh hsz0 1 (by rw [Tryz.params4]; rfl) rfl)
  obtain ⟨w1, l1, e1, A1, hl1⟩ := cs_rdB (by decide) Z1
  simp only [List.cons.injEq, and_true] at e1
  subst e1
  have hz : reachBytes ≤ 1125899906842624 := by decide
  have hl1' : LenC 1125899906842624 l1 := ⟨Nat.le_trans hl1.1 hz, fun x hx => ⟨Nat.le_trans (hl1.2 x hx).1 hz, Nat.le_trans (hl1.2 x hx).2.1 hz, Nat.le_trans (hl1.2 x hx).2.2.1 hz, fun b hb => Nat.le_trans ((hl1.2 x hx).2.2.2 b hb) hz⟩⟩
  obtain ⟨a2, n2, c2, rfl⟩ := okWide_slice Tryz.underlying33 (hval 2 33 v2 rfl rfl)
  obtain ⟨w2, l2, e2, r2', hb2, hl2⟩ := Ty.Rd.asBytes (rd_open Ty.bytes (by kernel_rfl) h2)
  have e2 : [Value.slice a2 n2 c2] = [w2] := e2
  simp only [List.cons.injEq, and_true] at e2
  subst e2
  clear hA0 hval0 hsz0
  refine (tells_true (T_ChestReads b0 A1 hl1' r2' hb2 hl2 (K := fun v _ => v = .bool true) fun _ => rfl)).mono fun e W' ⟨he, bel⟩ => ?_
  subst he
  exact ⟨_, rfl, _, _, _, [], _, [], hW', trodAll_mk1 (shut_bool Tryz.underlying4 _), (trodAll_cons_mk (Below.trod laidOut (by kernel_rfl) (of_decide_eq_true (by kernel_rfl)) h0 bel lt0) (trodAll_cons_mk (Below.trod laidOut (by kernel_rfl) (of_decide_eq_true (by kernel_rfl)) h1 bel lt1) (trodAll_cons_mk (Below.trod laidOut (by kernel_rfl) (of_decide_eq_true (by kernel_rfl)) h2 bel lt2) trodAll_mk0))), rfl, bel.frame _, fun h => by cases h⟩
theorem over : Rows.chestReadsRow.holds Tryz.pinned (OpenSpec.ofChange Rows.chestReadsSpec) :=
  OpenClaim.holds_of_wide 4 Tryz.f4 rfl rfl rfl rfl rfl rfl rfl ⟨rfl, rfl, rfl, rfl, rfl⟩ rfl rfl rfl rfl rfl (by kernel_rfl) Tryz.func4 (by kernel_rfl)
    (of_decide_eq_true (by kernel_rfl)) (by unfold Func.isWrapper; first | (rw [if_pos (by decide +kernel)]; kernel_rfl) | (rw [if_neg (by decide +kernel)]; exact ⟨rfl, rfl⟩))
    (fun os started H enc _ => lifted os started H enc)
theorem proved : Rows.ChestReadsCardSaid :=
  Claim7.holds_tied_plain_at .later [] [.data, .data, .data, .data, .sentinel, .sentinel, .pinned, .pinned] true (true, "8fee5a845f19b165fc585e2e1c4e1b1810666bb3073dfaf234e416f42abd1fdf") true
    over (fun _ h => by cases h) (by kernel_rfl) (fun _ h => by cases h) chestReads_row_tie rfl ⟨rfl, rfl⟩ (by kernel_rfl) rfl
    (fun f fn hf hfn => by
      obtain rfl : f = 4 := Option.some.inj ((show Tryz.prog.funcNamed "orlop/orloplaw27.ChestReads" = some 4 by kernel_rfl).symm.trans hf) |>.symm
      obtain rfl : fn = Tryz.f4 := (Option.some.inj (Tryz.func4.symm.trans hfn)).symm
      exact ⟨by kernel_rfl, fun j t ht => by
        rw [Tryz.params4] at ht
        have hm : t ∈ [4, 22, 33] := by simpa using Array.mem_of_getElem? ht
        have hall : ([4, 22, 33].all fun u => !Tryz.prog.wantsStandIn u) = true := by kernel_rfl
        exact (show Tryz.prog.wantsStandIn t = false by simpa using List.all_eq_true.1 hall t hm)⟩)
    (by kernel_rfl)
end chestReads
/-- The card, under a short name. -/
theorem chestReads_holds : Rows.ChestReadsCardSaid := chestReads.proved
end Go.Proofs.YtlkhmddmdmlffaaGreatDoor
