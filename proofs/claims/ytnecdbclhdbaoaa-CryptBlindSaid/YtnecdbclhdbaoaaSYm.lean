/- What a book's digests come to. Conditions: each names its own. -/
import Derived.Test.YtnecdbclhdbaoaaSYk
set_option linter.unusedSimpArgs false
set_option linter.unusedVariables false
set_option maxRecDepth 100000
set_option maxHeartbeats 1000000
namespace Go.Proofs.Ytnecdbclhdbaoaa
open Go Go.SL Go.Pure

/-- A text's number in a book, and the texts behind. -/
def numOf (ts : List (List Nat)) (t : List Nat) : Nat := (ts.idxOf? t).getD ts.length
def textsOf (ts : List (List Nat)) (t : List Nat) : List (List Nat) := if (ts.idxOf? t).isSome then ts else ts ++ [t]
def sumB (n : Nat) : List Nat := [83, 85, 77, 33] ++ List.replicate 20 0 ++ bg 8 n
theorem numOf_le (ts : List (List Nat)) (t : List Nat) : numOf ts t ≤ ts.length := by
  unfold numOf
  cases e : ts.idxOf? t with
  | none => exact Nat.le_refl _
  | some i =>
    rw [List.idxOf?_eq_some_iff] at e
    obtain ⟨hi, _⟩ := e
    show i ≤ _
    omega
theorem idxOf_snoc (ts : List (List Nat)) (t x : List Nat) : (ts ++ [t]).idxOf? x = (ts.idxOf? x).or (if x = t then some ts.length else none) := by
  induction ts with
  | nil =>
    show [t].idxOf? x = _
    rw [List.idxOf?_cons]
    by_cases e : t = x
    · subst e; simp
    · rw [if_neg (by simpa using e), if_neg (fun q => e q.symm)]; simp
  | cons a ts ih =>
    rw [List.cons_append, List.idxOf?_cons, List.idxOf?_cons, ih]
    split
    · rfl
    · cases ts.idxOf? x with
      | none => simp only [Option.none_or, Option.map_none]; split <;> simp
      | some i => rfl
theorem bf0m : zr P t_int = some (.int .i64 0) := by kernel_rfl

section
variable {h : Hp} {K : Value → Hp → Prop}
theorem T_book_Sum {R : Hp} {p : Nat} {ts : List (List Nat)} {bs : List Box} {S : List Nat} {vt : Value} {t : List Nat} (w : Own R h S) (hB : BookAt R h p ts bs S) (nt : ts.length ≤ 1000000)
    (ht : Rn R .u8 vt t) (bt : Bytes t)
    (k : ∀ v R' h', Stp R h R' h' S S → BookAt R' h' p (textsOf ts t) bs S → Rn R' .u8 v (sumB (numOf ts t)) → K v h') :
    Cn P n_crypt_book_Sum #[.pointer (some ⟨p, 0, none⟩), vt] h K := by
  refine F_crypt_book_Sum ?_
  unfold s_crypt_book_Sum
  have hB0 := hB
  obtain ⟨r, bx, es, c, Sb, hp, hr, hT, hX, rfl, hpr, hpS, hrS, hby⟩ := hB
  have c0 : h.cell ⟨p, 0, none⟩ = some (.map (some r)) := by rw [cell_row hp]; rfl
  simp (disch := omega) only [GL, RL, bf0, c0]
  rw [q_str (w.rn ht)]
  obtain ⟨hT1, hT2, hT3, hT4, hT5⟩ := hT
  rw [q_lookup u_map_string_int u_string bf0m hr hT2, hT5 t bt]
  -- the digest, of a number
  have tail : ∀ (n : Nat) (R1 h1 : Hp), n ≤ 1000000 → Stp R h R1 h1 (p :: r :: Sb) (p :: r :: Sb) → BookAt R1 h1 p (textsOf ts t) bs (p :: r :: Sb) → numOf ts t = n →
      aw P (Instr.makeSlice t_Sl_uint8 (Value.int .i64 32) (Value.int .i64 32)) (fun t32 h => aw P (Builtin.copy_ #[t_Sl_uint8, t_string] t_int #[t32, (Value.string ⟨#[83, 85, 77, 33]⟩)]) (fun t34 h => q P h (Instr.sliceAt t_Sl_uint8 t32 (some (Value.int .i64 24)) none none) fun t36 => q P h (convert t_int t_uint64 (.int .i64 (n : Int))) fun t38 => Cn P n_word_Big64 #[t38] h fun t39 h => peek P h (Instr.sliceAt t_Sl_uint8 t32 (some (Value.int .i64 24)) none none) = some t36 ∧ aw P (Builtin.copy_ #[t_Sl_uint8, t_Sl_uint8] t_int #[t36, t39]) (fun t40 h => K t32 h) h) h) h1 := by
    intro n R1 h1 hn st hB1 en
    refine aw_make (n := 32) (c := 32) u_Sl_uint8 nfo_uint8 rfl (by omega) (by omega) (by omega) fun t32 h2 n2 => ?_
    rw [replicate_nv] at n2
    obtain ⟨b, c, f, hb, hc, rfl, rfl, hf⟩ := n2.form (by omega)
    refine aw_copyS (ys := nv .u8 [83, 85, 77, 33]) (xs := nv .u8 (List.replicate 32 0)) u_Sl_uint8 z_uint8 (Hp.set_same ..) (by kernel_rfl) (nv_flat _ _) (by show (4 : Nat) ≤ 32; omega) rfl (by simp [nv_len]) (fun i hi => hf i (by simp [nv_len] at hi; omega)) ?_
    rw [Hp.set_set]
    have esl : ∀ H : Hp, peek P H (Instr.sliceAt t_Sl_uint8 (.slice (some ⟨b, 0, none⟩) 32 c) (some (.int .i64 24)) none none) = some (.slice (some ⟨b, 24, none⟩) (32 - 24) (c - 24)) := fun H => by
      have hcut : SL.cut (some ⟨b, 0, none⟩) c 24 1 = some ⟨b, 24, none⟩ := by
        unfold SL.cut
        rw [if_neg (by omega), Option.map_some, add_off]
      obtain ⟨x, hx, e⟩ := withVal_elim (K := fun x => x = .slice (some ⟨b, 24, none⟩) (32 - 24) (c - 24)) ((q_slLo (P := P) (h := H) (K := fun x => x = .slice (some ⟨b, 24, none⟩) (32 - 24) (c - 24)) u_Sl_uint8 z_uint8 (some ⟨b, 0, none⟩) 32 c .i64 24 (by omega) (by omega)).mpr (by rw [hcut]))
      rw [e] at hx
      exact hx
    rw [q_of (esl _)]
    simp (disch := omega) only [GL, RL, wu64i]
    refine T_word_Big64 n (by omega) fun t39 h3 n3 => ?_
    refine ⟨esl _, ?_⟩
    obtain ⟨ys, hys⟩ : ∃ ys, putL (nv .u8 (List.replicate 32 0)) 0 (nv .u8 [83, 85, 77, 33]) = ys := ⟨_, rfl⟩
    have eys : ys = nv .u8 ([83, 85, 77, 33] ++ List.replicate 28 0) := by rw [← hys]; rfl
    rw [hys] at n3
    have hb3 := n3.ext _ _ (Hp.set_same ..)
    have r3 : Rds h3 1 t39 (nv .u8 (bg 8 n)) 8 := by have := n3.rn; unfold Rn at this; rwa [bg_len] at this
    refine aw_copy u_Sl_uint8 z_uint8 hb3 r3 (nv_flat _ _) (by omega) (by rw [eys, nv_len]; simp) (fun i hi => hf i (by rw [eys, nv_len] at hi; simp at hi; omega)) ?_
    have e2 : putL ys 24 (nv .u8 (bg 8 n)) = nv .u8 (sumB n) := by
      rw [eys, putL_nv _ _ _ (by rw [bg_len]; simp)]
      congr 1
    rw [e2]
    -- all in one: a new row
    have hbR : R1 b = none := st.own.sub.none hb
    obtain ⟨R2, s2, r2⟩ := Stp.newN (v := .slice (some ⟨b, 0, none⟩) 32 c) (k := .u8) (l := sumB n) (h' := h1.set b (.row t_uint8 (nv .u8 (sumB n)) (c * 1) (some f))) (t := t_uint8) st.own (by
      unfold Nn
      exact ⟨by simp [nv_len, sumB, bg_len], .inr ⟨b, c, f, hb, hc, by simp [sumB, bg_len], rfl, hf⟩⟩)
    have hne : ∀ x o, h1 x = some o → x ≠ b := fun x o e => by rintro rfl; rw [hb] at e; cases e
    have xx : Hp.ext (h1.set b (.row t_uint8 (nv .u8 (sumB n)) (c * 1) (some f))) (h3.set b (.row t_uint8 (nv .u8 (sumB n)) (c * 1) (some f))) := fun x o e => by
      by_cases q : x = b
      · subst q; rw [Hp.set_same] at e ⊢; exact e
      · rw [Hp.set_ne _ _ q] at e ⊢
        exact n3.ext _ _ (by rw [Hp.set_ne _ _ q]; exact e)
    have s3 : Stp R2 (h1.set b (.row t_uint8 (nv .u8 (sumB n)) (c * 1) (some f))) R2 (h3.set b (.row t_uint8 (nv .u8 (sumB n)) (c * 1) (some f))) (p :: r :: Sb) (p :: r :: Sb) :=
      ⟨.refl _, fun x o _ e => xx x o e, fun x o n _ => n, fun x o _ _ e => e, ⟨s2.own.sub.trans xx, s2.own.dis, fun x hx => let ⟨o, e⟩ := s2.own.kn x hx; ⟨o, xx x o e⟩⟩⟩
    have sa := (st.trans s2).trans s3
    refine k _ R2 _ sa (hB1.keep (s2.trans s3).ext fun x hx => ?_) (by rw [en]; exact r2)
    obtain ⟨o, e⟩ := st.own.kn x hx
    rw [e]
    exact xx x o (by rw [Hp.set_ne _ _ (hne x o e)]; exact e)
  cases e : ts.idxOf? t with
  | some i =>
    simp (disch := omega) only [GL, RL, Option.map_some, Option.isSome_some, Bool.not_true, Bool.false_eq_true, if_false, Option.getD_some]
    have ni : numOf ts t = i := by unfold numOf; rw [e]; rfl
    have hle := numOf_le ts t
    have et : textsOf ts t = ts := by unfold textsOf; rw [e]; rfl
    exact tail i R h (by omega) (.refl w) (by rw [et]; exact hB0) ni
  | none =>
    simp (disch := omega) only [GL, RL, Option.map_none, Option.isSome_none, Bool.not_false, if_true, bf0, c0]
    have ni : numOf ts t = ts.length := by unfold numOf; rw [e]; rfl
    have et : textsOf ts t = ts ++ [t] := by unfold textsOf; rw [e]; rfl
    rw [q_lenM u_map_string_int hr]
    rw [q_str (w.rn ht)]
    refine aw_mapNew u_map_string_int u_string hr hT2 (strL t) _ (by rw [hT5 t bt, e]; rfl) ?_
    rw [hT1]
    have kpR : ∀ x o, R x = some o → x ≠ r := fun x o ex => by rintro rfl; rw [w.dis x (by simp)] at ex; cases ex
    have st1 : Stp R h R (h.set r (.obj (.map (es.push ⟨.string (strL t), .int .i64 (ts.length : Int), c⟩) (c + 1)))) (p :: r :: Sb) (p :: r :: Sb) := by
      refine ⟨.refl _, fun x o hx ex => ?_, fun x o n _ => n, fun x o _ _ e => e, ⟨fun x o ex => ?_, w.dis, fun x hx => ?_⟩⟩
      · rw [Hp.set_ne _ _ (by rintro rfl; exact hx (by simp))]; exact ex
      · rw [Hp.set_ne _ _ (kpR x o ex)]; exact w.sub x o ex
      · by_cases q : x = r
        · subst q; exact ⟨_, Hp.set_same ..⟩
        · rw [Hp.set_ne _ _ q]; exact w.kn x hx
    refine tail ts.length R _ nt st1 ?_ ni
    rw [et]
    refine ⟨r, bx, _, c + 1, Sb, by rw [Hp.set_ne _ _ hpr]; exact hp, Hp.set_same .., ⟨by simp [hT1], strKeys_push hT2 _ _ _, ?_, ?_, fun x bx' => ?_⟩, hX.keep (.refl _) fun x hx => Hp.set_ne _ _ (by rintro rfl; exact hrS hx), rfl, hpr, hpS, hrS, hby⟩
    · rw [List.nodup_append]
      refine ⟨hT3, by simp, fun a ha b hb => ?_⟩
      rw [List.mem_singleton] at hb
      subst hb
      rintro rfl
      rw [List.idxOf?_eq_none_iff] at e
      exact e ha
    · intro x hx
      rcases List.mem_append.1 hx with q | q
      · exact hT4 x q
      · rw [List.mem_singleton.1 q]; exact bt
    · rw [mget_push hT2, hT5 x bx', idxOf_snoc, strL_beq bx' bt]
      cases ts.idxOf? x with
      | some i => rfl
      | none =>
        simp only [Option.map_none, Option.none_or, decide_eq_true_eq]
        by_cases q : x = t
        · rw [if_pos q, if_pos q, hT1]; rfl
        · rw [if_neg q, if_neg q]; rfl
end
end Go.Proofs.Ytnecdbclhdbaoaa
