/- What either crypt comes to. Conditions: each names its own. -/
import Derived.Test.YtnecdbclhdbaoaaSYd
set_option linter.unusedSimpArgs false
set_option linter.unusedVariables false
set_option maxRecDepth 100000
set_option maxHeartbeats 1000000
namespace Go.Proofs.Ytnecdbclhdbaoaa
open Go Go.SL Go.Pure

/-- A crypt, in memory. -/
def CrAt (R h : Hp) (vc : Value) (c : Cr) (S : List Nat) : Prop :=
  match c with
  | .real => vc = .iface t_crypt_actual (.agg #[]) ∧ S = []
  | .book ts bs => ∃ p, vc = .iface t_Pt_crypt_book (.pointer (some ⟨p, 0, none⟩)) ∧ BookAt R h p ts bs S
def few (n : Nat) (c : Cr) : Prop :=
  match c with
  | .real => True
  | .book _ bs => bs.length ≤ n ∧ ∀ s ∈ bs, s.text.length ≤ 1099511627776
theorem few.mono {n m : Nat} {c : Cr} (f : few n c) (h : n ≤ m) : few m c := by
  cases c with
  | real => trivial
  | book ts bs => exact ⟨Nat.le_trans f.1 h, f.2⟩
theorem few.next {n : Nat} {c : Cr} (f : few n c) (key nonce b t : List Nat) (lt : t.length ≤ 1099511627776) : few (n + 1) (crSeal c key nonce b t).2.2 := by
  cases c with
  | real => unfold crSeal; dsimp only; split <;> trivial
  | book ts bs =>
    unfold crSeal
    dsimp only
    split
    · refine ⟨by rw [List.length_append]; have := f.1; simp; omega, fun s hs => ?_⟩
      rcases List.mem_append.1 hs with q | q
      · exact f.2 s q
      · rw [List.mem_singleton.1 q]; exact lt
    · exact f.mono (Nat.le_succ n)
theorem CrAt.keep {R R' h h' : Hp} {vc : Value} {c : Cr} {S : List Nat} (a : CrAt R h vc c S) (e : Hp.ext R R') (k : ∀ b, b ∈ S → h' b = h b) : CrAt R' h' vc c S := by
  cases c with
  | real => exact a
  | book ts bs => exact let ⟨p, hp, hB⟩ := a; ⟨p, hp, hB.keep e k⟩
theorem CrAt.shape {R h : Hp} {vc : Value} {c : Cr} {S : List Nat} (a : CrAt R h vc c S) : ∃ t v, vc = .iface t v := by
  cases c with
  | real => exact ⟨_, _, a.1⟩
  | book ts bs => exact let ⟨p, hp, _⟩ := a; ⟨_, _, hp⟩
theorem crSeal_bytes {c : Cr} {key nonce b t : List Nat} (bt : Bytes t) : Bytes (crSeal c key nonce b t).2.1 := by
  cases c with
  | real =>
    unfold crSeal; dsimp only; split
    · exact sealL_bytes _ _ _ bt
    · intro x hx; cases hx
  | book ts bs =>
    unfold crSeal; dsimp only; split
    · exact boxB_bytes _ _
    · intro x hx; cases hx
theorem crSeal_len {c : Cr} {key nonce b t : List Nat} (h : (crSeal c key nonce b t).1 = 0) : (crSeal c key nonce b t).2.1.length = t.length + 16 := by
  cases c with
  | real =>
    unfold crSeal at h ⊢; dsimp only at h ⊢; split at h
    · rename_i hm; rw [if_pos hm]; exact sealL_len _ _ _ _
    · cases h
  | book ts bs =>
    unfold crSeal at h ⊢; dsimp only at h ⊢; split at h
    · rename_i hm; rw [if_pos hm]; exact boxB_len _ _
    · cases h

theorem crOpen_real (key nonce b x : List Nat) : (crOpen .real key nonce b x).1 = openC key nonce b x ∧ (openC key nonce b x = 0 → (crOpen .real key nonce b x).2 = (openL key nonce b x).2) := by
  by_cases hm : may key nonce
  · have hm' : key.length = 32 ∧ nonce.length = 12 := hm
    simp only [crOpen, if_pos hm, openC, if_pos hm', implies_true, and_self]
  · have hm' : ¬ (key.length = 32 ∧ nonce.length = 12) := hm
    simp only [crOpen, if_neg hm, openC, if_neg hm', Nat.one_ne_zero, false_implies, and_self]

section
variable {h : Hp} {K : Value → Hp → Prop}
theorem T_crSeal {R : Hp} {vc : Value} {c : Cr} {S : List Nat} {vk vn vb vt : Value} {key nonce b t : List Nat} (w : Own R h S) (hC : CrAt R h vc c S) (hf : few 1000000 c)
    (hk : Rn R .u8 vk key) (hn : Rn R .u8 vn nonce) (hb : Rn R .u8 vb b) (ht : Rn R .u8 vt t) (bk : Bytes key) (bn : Bytes nonce) (bb : Bytes b) (bt : Bytes t)
    (lb : b.length ≤ 1099511627776) (lt : t.length ≤ 1099511627776)
    (k : ∀ v R' h' S', Stp R h R' h' S S' → CrAt R' h' vc (crSeal c key nonce b t).2.2 S' → (if (crSeal c key nonce b t).1 = 0 then Rn R' .u8 v (crSeal c key nonce b t).2.1 else v = .slice none 0 0) → K (.tuple #[v, .int .i64 (((crSeal c key nonce b t).1 : Nat) : Int)]) h') :
    aw P (callMethod vc "Seal" #[vk, vn, vb, vt]) (nextP P K) h := by
  cases c with
  | real =>
    obtain ⟨rfl, rfl⟩ := hC
    refine aw_method (g := n_crypt_actual_Seal) (r := .agg #[]) (by kernel_rfl) ?_
    show Cn P n_crypt_actual_Seal #[.agg #[], vk, vn, vb, vt] h K
    refine F_crypt_actual_Seal ?_
    unfold s_crypt_actual_Seal
    refine aw_box fun r hr => ?_
    have s0 := Stp.block (.row t_crypt_actual (Value.agg #[]).cells.toList (Value.agg #[]).cells.size (some (0, 0))) w hr
    generalize h.set r (.row t_crypt_actual (Value.agg #[]).cells.toList (Value.agg #[]).cells.size (some (0, 0))) = M at s0
    generalize R.set r (.row t_crypt_actual (Value.agg #[]).cells.toList (Value.agg #[]).cells.size (some (0, 0))) = R0 at s0
    have up : ∀ {v : Value} {l : List Nat}, Rn R .u8 v l → Rn M .u8 v l := fun r => s0.own.rn (r.mono s0.ext.cle)
    refine T_Seal (up hk) (up hn) (up hb) (up ht) bk bn bb bt lb lt fun v h1 n1 => ?_
    rw [ext0, ext1]
    by_cases hm : key.length = 32 ∧ nonce.length = 12
    · have hm' : may key nonce := hm
      simp only [if_pos hm] at n1 ⊢
      simp only [crSeal, if_pos hm'] at k
      obtain ⟨R1, s1, r1⟩ := Stp.newN s0.own n1
      exact k v R1 h1 [] (s0.trans s1) ⟨rfl, rfl⟩ (by simpa using r1)
    · have hm' : ¬ may key nonce := hm
      simp only [if_neg hm] at n1 ⊢
      simp only [crSeal, if_neg hm'] at k
      obtain ⟨rfl, rfl⟩ := n1
      exact k _ R0 h1 [] s0 ⟨rfl, rfl⟩ (by simp)
  | book ts bs =>
    obtain ⟨p, rfl, hB⟩ := hC
    refine aw_method (g := n_crypt_book_Seal) (r := .pointer (some ⟨p, 0, none⟩)) (by kernel_rfl) ?_
    show Cn P n_crypt_book_Seal #[.pointer (some ⟨p, 0, none⟩), vk, vn, vb, vt] h K
    refine T_book_Seal w hB hf.1 hk hn hb ht bk bn bb bt lb lt fun v R' h' S' st hB' hv => ?_
    by_cases hm : may key nonce
    · simp only [if_pos hm] at hB' hv ⊢
      simp only [crSeal, if_pos hm] at k
      exact k v R' h' S' st ⟨p, rfl, hB'⟩ (by simpa using hv)
    · simp only [if_neg hm] at hB' hv ⊢
      simp only [crSeal, if_neg hm] at k
      exact k v R' h' S' st ⟨p, rfl, hB'⟩ (by simpa using hv)

theorem T_crOpen {R : Hp} {vc : Value} {c : Cr} {S : List Nat} {vk vn vb vx : Value} {key nonce b x : List Nat} (w : Own R h S) (hC : CrAt R h vc c S) (hf : few 1000000 c)
    (hk : Rn R .u8 vk key) (hn : Rn R .u8 vn nonce) (hb : Rn R .u8 vb b) (hx : Rn R .u8 vx x) (bk : Bytes key) (bn : Bytes nonce) (bb : Bytes b) (bx : Bytes x)
    (lb : b.length ≤ 1099511627776) (lx : x.length ≤ 1099511627776)
    (k : ∀ v R' h', Stp R h R' h' S S → CrAt R' h' vc c S → (if (crOpen c key nonce b x).1 = 0 then Rn R' .u8 v (crOpen c key nonce b x).2 else v = .slice none 0 0) → K (.tuple #[v, .int .i64 (((crOpen c key nonce b x).1 : Nat) : Int)]) h') :
    aw P (callMethod vc "Open" #[vk, vn, vb, vx]) (nextP P K) h := by
  cases c with
  | real =>
    obtain ⟨rfl, rfl⟩ := hC
    refine aw_method (g := n_crypt_actual_Open) (r := .agg #[]) (by kernel_rfl) ?_
    show Cn P n_crypt_actual_Open #[.agg #[], vk, vn, vb, vx] h K
    refine F_crypt_actual_Open ?_
    unfold s_crypt_actual_Open
    refine aw_box fun r hr => ?_
    have s0 := Stp.block (.row t_crypt_actual (Value.agg #[]).cells.toList (Value.agg #[]).cells.size (some (0, 0))) w hr
    generalize h.set r (.row t_crypt_actual (Value.agg #[]).cells.toList (Value.agg #[]).cells.size (some (0, 0))) = M at s0
    generalize R.set r (.row t_crypt_actual (Value.agg #[]).cells.toList (Value.agg #[]).cells.size (some (0, 0))) = R0 at s0
    have up : ∀ {v : Value} {l : List Nat}, Rn R .u8 v l → Rn M .u8 v l := fun r => s0.own.rn (r.mono s0.ext.cle)
    refine T_Open (up hk) (up hn) (up hb) (up hx) bk bn bb bx lb lx fun v h1 n1 => ?_
    rw [ext0, ext1]
    obtain ⟨eO, eO2⟩ := crOpen_real key nonce b x
    rw [eO] at k
    by_cases h0 : openC key nonce b x = 0
    · simp only [if_pos h0] at n1 k
      rw [eO2 h0] at k
      obtain ⟨R1, s1, r1⟩ := Stp.newN s0.own n1
      exact k v R1 h1 (s0.trans s1) ⟨rfl, rfl⟩ r1
    · simp only [if_neg h0] at n1 k
      obtain ⟨rfl, rfl⟩ := n1
      exact k _ R0 h1 s0 ⟨rfl, rfl⟩ rfl
  | book ts bs =>
    obtain ⟨p, rfl, hB⟩ := hC
    refine aw_method (g := n_crypt_book_Open) (r := .pointer (some ⟨p, 0, none⟩)) (by kernel_rfl) ?_
    show Cn P n_crypt_book_Open #[.pointer (some ⟨p, 0, none⟩), vk, vn, vb, vx] h K
    exact T_book_Open w hB hf.1 hk hn hb hx bk bn bb bx lx hf.2 fun v R' h' st hB' hv => k v R' h' st ⟨p, rfl, hB'⟩ hv
theorem T_Real (k : K (.iface t_crypt_actual (.agg #[])) h) : Cn P n_crypt_Real #[] h K := by
  refine F_crypt_Real ?_
  unfold s_crypt_Real
  refine (q_of (v := .agg #[]) (by kernel_rfl) _).mpr ?_
  refine (q_mkI u_crypt_actual rfl _).mpr ?_
  exact k
end
end Go.Proofs.Ytnecdbclhdbaoaa
