/- The crypts' statements: what is fixed; an ask of them. Conditions: each names its own. -/
import Derived.Test.YtnecdbclhdbaoaaSYm
set_option linter.unusedSimpArgs false
set_option linter.unusedVariables false
set_option maxRecDepth 100000
set_option maxHeartbeats 1000000
namespace Go.Proofs.Ytnecdbclhdbaoaa
open Go Go.SL Go.Pure

theorem BookAt.stp {R h R' h' : Hp} {p : Nat} {ts : List (List Nat)} {bs : List Box} {S T T' : List Nat} (a : BookAt R h p ts bs S) (w : Own R h S) (e : Hp.ext R R') (x : Hp.ext h h') : BookAt R' h' p ts bs S := a.keep e fun b hb => by
  obtain ⟨o, eo⟩ := w.kn b hb
  rw [eo, x _ _ eo]
theorem pk_slHi12 {a : Option Addr} {n c hi : Nat} (h1 : hi ≤ c) (H : Hp) : peek P H (Instr.sliceAt t_Sl_uint8 (.slice a n c) none (some (.int .i64 (hi : Int))) none) = some (.slice (SL.cut a c 0 1) hi c) := by
  obtain ⟨x, hx, e⟩ := withVal_elim (K := fun x => x = .slice (SL.cut a c 0 1) hi c) ((q_slHi (P := P) (h := H) (K := fun x => x = .slice (SL.cut a c 0 1) hi c) (hi := hi) u_Sl_uint8 z_uint8 a n c .i64 h1).mpr rfl)
  rw [e] at hx
  exact hx

section
variable {h : Hp} {K : Value → Hp → Prop}
/-- A row of one byte, as a text's bytes. -/
theorem aw_one {S : List Nat} {R : Hp} (n : Nat) (hn : n < 256) (w : Own R h S) {F : Value → Hp → Prop} (k : ∀ v R' h', Stp R h R' h' S S → Hp.ext h h' → Rn R' .u8 v [n] → F v h') :
    aw P (Instr.buildSlice t_Sl_uint8 1 #[(0, .int .u8 (n : Int))]) (fun t h => aw P (convert t_Sl_uint8 t_Sl_uint8 t) F h) h := by
  refine aw_lit (ps := [(0, _)]) u_Sl_uint8 z_uint8 zr_uint8 rfl (by omega) (by intro p hp; rw [List.mem_singleton.1 hp]; exact ⟨rfl, by show _ < 1; omega⟩) fun x h2 _ hx => ?_
  obtain ⟨rb, hrb, rfl, rfl⟩ := hx
  refine aw_mark hrb rfl fun h3 n3 => ?_
  have n3' : Nn h t_uint8 .u8 (.slice (some ⟨rb, 0, none⟩) 1 1) h3 [n] := n3
  obtain ⟨R3, s3, q3⟩ := Stp.newN w n3'
  exact k _ R3 h3 s3 n3'.ext q3
theorem T_of12 {R : Hp} {S : List Nat} (ideal : Bool) (w : Own R h S) (k : ∀ v h' S', CrAt R h' v (if ideal then .book [] [] else .real) S' → Own R h' S' → Stp R h R h' S S → (∀ b ∈ S', b ∉ S) → K v h') : Cn P n_orloplaw12_of #[.bool ideal] h K := by
  refine F_orloplaw12_of ?_
  unfold s_orloplaw12_of
  cases ideal with
  | true =>
    simp only [GL, if_true]
    exact T_Book w fun p h1 S1 hB o1 s1 d => k _ h1 S1 ⟨p, rfl, hB⟩ o1 s1 d
  | false =>
    simp only [GL, Bool.false_eq_true, if_false]
    exact T_Real (k _ h [] ⟨rfl, rfl⟩ w.nil (.refl w) fun b hb => by cases hb)
theorem T_awake12 (k : ∀ h', Hp.ext h h' → K (.bool true) h') : Cn P n_orloplaw12_awake #[] h K := by
  refine F_orloplaw12_awake ?_
  unfold s_orloplaw12_awake
  have w0 : Own h h [] := ⟨.refl _, fun b hb => (by cases hb), fun b hb => (by cases hb)⟩
  refine T_Book w0 fun p h1 S1 hB o1 s1 _ => ?_
  have x1 : Hp.ext h h1 := s1.own.sub
  refine T_Real ?_
  simp -zeta only [q_eqlNilI, GL, RL, Bool.false_eq_true, if_false, if_true, Bool.true_eq_false]
  intro J4
  simp only [J4]
  clear J4
  refine aw_one 97 (by omega) o1 fun v21 R2 h2 s2 e2 q2 => ?_
  have b97 : Bytes [97] := by intro y hy; simp at hy; omega
  have b98 : Bytes [98] := by intro y hy; simp at hy; omega
  refine aw_method (g := n_crypt_book_Sum) (r := .pointer (some ⟨p, 0, none⟩)) (by kernel_rfl) ?_
  show Cn P n_crypt_book_Sum #[.pointer (some ⟨p, 0, none⟩), v21] h2 _
  refine T_book_Sum s2.own (hB.stp (T := []) (T' := []) o1 s2.ext e2) (by simp) q2 b97 fun v22 R3 h3 s3 hB3 q3 => ?_
  refine aw_one 98 (by omega) s3.own fun v25 R4 h4 s4 e4 q4 => ?_
  refine aw_method (g := n_crypt_book_Sum) (r := .pointer (some ⟨p, 0, none⟩)) (by kernel_rfl) ?_
  show Cn P n_crypt_book_Sum #[.pointer (some ⟨p, 0, none⟩), v25] h4 _
  refine T_book_Sum s4.own (hB3.stp (T := []) (T' := []) s3.own s4.ext e4) (by simp [textsOf]) q4 b98 fun v26 R5 h5 s5 hB5 q5 => ?_
  have en : numOf (textsOf [] [97]) [98] = 1 := by decide
  rw [en] at q5
  generalize textsOf (textsOf [] [97]) [98] = ts at hB5
  refine aw_make (n := 32) (c := 32) u_Sl_uint8 nfo_uint8 rfl (by omega) (by omega) (by omega) fun t27 h6 n6 => ?_
  rw [replicate_nv] at n6
  have n6' : Nn h5 t_uint8 .u8 t27 h6 k32 := n6
  obtain ⟨R6, s6, q6⟩ := Stp.newN s5.own n6'
  have lk : k32.length = 32 := rfl
  have bk := k32_b
  have C6 : CrAt R6 h6 (.iface t_Pt_crypt_book (.pointer (some ⟨p, 0, none⟩))) (.book ts []) S1 := CrAt.ext (c := .book ts []) ⟨p, rfl, hB5⟩ s5.own s6.ext n6'.ext
  generalize k32 = key at n6' q6 lk bk
  obtain ⟨ak, ck, rfl, hck⟩ := q6.shape
  rw [lk] at hck q6 ⊢
  have p12 : ∀ H : Hp, peek P H (Instr.sliceAt t_Sl_uint8 (.slice ak 32 ck) none (some (.int .i64 12)) none) = some (.slice (SL.cut ak ck 0 1) 12 ck) := fun H => pk_slHi12 (hi := 12) (by omega) H
  have q7 : Rn R6 .u8 (.slice (SL.cut ak ck 0 1) 12 ck) (key.take 12) := rn_hi (by rw [lk]; exact q6) (by omega)
  have l7 : (key.take 12).length = 12 := by rw [List.length_take]; omega
  have b7 := bk.take 12
  generalize key.take 12 = nonce at q7 l7 b7
  generalize SL.cut ak ck 0 1 = an at p12 q7
  rw [q_of (p12 _), q_of (nilSeal C6)]
  have hm : may key nonce := ⟨lk, l7⟩
  have ee : Bytes ([] : List Nat) := by intro y hy; cases hy
  refine T_crSeal s6.own C6 ⟨(by simp), (by intro s hs; cases hs)⟩ q6 q7 (rn_nil _ _) (rn_nil _ _) bk b7 ee ee (by simp) (by simp) fun v36 R7 h7 S7 s7 C7 hv => ?_
  have hb : crSeal (.book ts []) key nonce [] [] = (0, boxB 0 16, .book ts ([] ++ [⟨key, nonce, [], []⟩])) := by simp only [crSeal, if_pos hm]; rfl
  rw [hb] at C7 hv ⊢
  dsimp only at C7 hv ⊢
  rw [if_pos rfl] at hv
  have A0 : CrAt h7 h7 (.iface t_crypt_actual (.agg #[])) .real [] := ⟨rfl, rfl⟩
  rw [ext0, ext1, q_of (p12 _), q_of (nilSeal A0)]
  refine aw_lit (ps := [(0, _)]) u_Sl_uint8 z_uint8 zr_uint8 rfl (by omega) (by intro p hp; rw [List.mem_singleton.1 hp]; exact ⟨rfl, by show _ < 1; omega⟩) fun x h8 _ hx => ?_
  obtain ⟨rb, hrb, rfl, rfl⟩ := hx
  refine ⟨p12 _, ?_⟩
  refine aw_mark hrb rfl fun h8 n8 => ?_
  have n8' : Nn h7 t_uint8 .u8 (.slice (some ⟨rb, 0, none⟩) 1 1) h8 [116] := n8
  obtain ⟨R8, s8, q8⟩ := Stp.newN s7.own n8'
  refine ⟨p12 _, ?_⟩
  have b116 : Bytes [116] := by intro y hy; simp at hy; omega
  have q68 := q6.mono (s7.trans s8).ext.cle
  have q78 := q7.mono (s7.trans s8).ext.cle
  refine T_crSeal (c := .real) (S := []) s8.own.nil ⟨rfl, rfl⟩ trivial q68 q78 (rn_nil _ _) q8 bk b7 ee b116 (by simp) (by simp) fun v49 R9 h9 S9 s9 C9 hv9 => ?_
  have h0 : (crSeal .real key nonce [] [116]).1 = 0 := by simp only [crSeal, if_pos hm]
  have lo := crSeal_len h0
  have bo := crSeal_bytes (c := .real) (key := key) (nonce := nonce) (b := []) b116
  have op := crSeal_open (c2 := .real) h0 (by simp only [crSeal, if_pos hm]; exact .refl _) (by simp [much])
  rw [if_pos h0] at hv9
  rw [h0]
  generalize (crSeal .real key nonce [] [116]).2.1 = X at hv9 lo bo op
  rw [ext0, ext1, q_of (p12 _), q_of (nilOpen A0)]
  have e9 : S9 = [] := by have := C9; unfold crSeal at this; simp only [if_pos hm] at this; exact this.2
  subst e9
  refine T_crOpen (c := .real) (S := []) s9.own ⟨rfl, rfl⟩ trivial (q68.mono s9.ext.cle) (q78.mono s9.ext.cle) (rn_nil _ _) hv9 bk b7 ee bo (by simp) (by rw [lo]; simp) fun v61 R10 h10 s10 C10 hv10 => ?_
  rw [op] at hv10 ⊢
  rw [if_pos rfl] at hv10
  rw [ext0, ext1]
  have r10 : Rn h10 .u8 v61 [116] := s10.own.rn hv10
  have r26 : Rn h10 .u8 v26 (sumB 1) := s10.own.rn (q5.mono ((((s6.trans s7).trans s8).ext.trans s9.ext).trans s10.ext).cle)
  have r37 : Rn h10 .u8 v36 (boxB 0 16) := s10.own.rn (hv.mono ((s8.ext.trans s9.ext).trans s10.ext).cle)
  have hx10 : Hp.ext h h10 := ((((((((s1.ext.trans s2.ext).trans s3.ext).trans s4.ext).trans s5.ext).trans s6.ext).trans s7.ext).trans s8.ext).trans (s9.ext.trans s10.ext)).trans s10.own.sub
  have es : ((strL [116]).toList == (⟨#[116]⟩ : ByteArray).toList) = true := by
    rw [show strL [116] = ⟨#[116]⟩ from rfl]; exact beq_self_eq_true _
  have l1 : (sumB 1).length = 32 := by decide
  have g1 : (sumB 1).getD 31 0 = 1 := by decide
  have g2 : (sumB 1).getD 0 0 = 83 := by decide
  have l2 : (boxB 0 16).length = 16 := by decide
  have g3 : (boxB 0 16).getD 0 0 = 0 := by decide
  obtain ⟨a26, c26, e26, hc26⟩ := r26.shape
  obtain ⟨a37, c37, e37, hc37⟩ := r37.shape
  rw [l1] at e26 hc26
  rw [l2] at e37 hc37
  subst e26 e37
  have z0 : ((((0 : Nat) : Int)) == 0) = true := rfl
  have z32 : ((((32 : Nat) : Int)) == 32) = true := rfl
  have z16 : ((((16 : Nat) : Int)) == 16) = true := rfl
  obtain ⟨b26, o26, rfl, y26⟩ := r26.pos (by rw [l1]; omega)
  obtain ⟨b37, o37, rfl, y37⟩ := r37.pos (by rw [l2]; omega)
  have d1 := y26 31 (by rw [l1]; omega)
  have d2 := y26 0 (by rw [l1]; omega)
  have d3 := y37 0 (by rw [l2]; omega)
  rw [g1] at d1
  rw [g2] at d2
  rw [g3] at d3
  rw [Nat.add_zero] at d2 d3
  have zz1 : ((((1 : Nat) : Int)) == 1) = true := rfl
  have t31 : Int.toNat 31 = 31 := rfl
  have t0 : Int.toNat 0 = 0 := rfl
  have zz2 : ((((83 : Nat) : Int)) == 83) = true := rfl
  simp (disch := omega) only [GL, RL, z0, z32, z16, if_true, t31, t0, Nat.add_zero, d1, d2, d3, zz1, zz2, q_str r10, q_eqlS, es]
  exact k h10 hx10
end
end Go.Proofs.Ytnecdbclhdbaoaa
