/- What the statements' own parts come to: what is fixed, what is small; lengths. Conditions: each names its own. -/
import Derived.Test.YtnecdbclhdbaoaaSYj
import Derived.Test.YtnecdbclhdbaoaaSPl
set_option linter.unusedSimpArgs false
set_option linter.unusedVariables false
set_option maxRecDepth 100000
set_option maxHeartbeats 1000000
namespace Go.Proofs.Ytnecdbclhdbaoaa
open Go Go.SL Go.Pure

theorem af0 {h : Hp} {K : Value → Prop} (r : Nat) : q P h (Instr.fieldAt t_orloplaw17_Ask (.pointer (some ⟨r, 0, none⟩)) 0) K = K (.pointer (some ⟨r, 0, none⟩)) := q_of (by kernel_rfl) K
theorem af1 {h : Hp} {K : Value → Prop} (r : Nat) : q P h (Instr.fieldAt t_orloplaw17_Ask (.pointer (some ⟨r, 0, none⟩)) 1) K = K (.pointer (some ⟨r, 1, none⟩)) := q_of (by kernel_rfl) K
theorem af2 {h : Hp} {K : Value → Prop} (r : Nat) : q P h (Instr.fieldAt t_orloplaw17_Ask (.pointer (some ⟨r, 0, none⟩)) 2) K = K (.pointer (some ⟨r, 2, none⟩)) := q_of (by kernel_rfl) K
theorem af3 {h : Hp} {K : Value → Prop} (r : Nat) : q P h (Instr.fieldAt t_orloplaw17_Ask (.pointer (some ⟨r, 0, none⟩)) 3) K = K (.pointer (some ⟨r, 3, none⟩)) := q_of (by kernel_rfl) K
theorem af4 {h : Hp} {K : Value → Prop} (r : Nat) : q P h (Instr.fieldAt t_orloplaw17_Ask (.pointer (some ⟨r, 0, none⟩)) 4) K = K (.pointer (some ⟨r, 4, none⟩)) := q_of (by kernel_rfl) K
theorem pf0 {h : Hp} (r : Nat) : peek P h (Instr.fieldAt t_orloplaw17_Ask (.pointer (some ⟨r, 0, none⟩)) 0) = some (.pointer (some ⟨r, 0, none⟩)) := by kernel_rfl
theorem pf1 {h : Hp} (r : Nat) : peek P h (Instr.fieldAt t_orloplaw17_Ask (.pointer (some ⟨r, 0, none⟩)) 1) = some (.pointer (some ⟨r, 1, none⟩)) := by kernel_rfl
theorem pf2 {h : Hp} (r : Nat) : peek P h (Instr.fieldAt t_orloplaw17_Ask (.pointer (some ⟨r, 0, none⟩)) 2) = some (.pointer (some ⟨r, 2, none⟩)) := by kernel_rfl
theorem pf3 {h : Hp} (r : Nat) : peek P h (Instr.fieldAt t_orloplaw17_Ask (.pointer (some ⟨r, 0, none⟩)) 3) = some (.pointer (some ⟨r, 3, none⟩)) := by kernel_rfl
theorem pf4 {h : Hp} (r : Nat) : peek P h (Instr.fieldAt t_orloplaw17_Ask (.pointer (some ⟨r, 0, none⟩)) 4) = some (.pointer (some ⟨r, 4, none⟩)) := by kernel_rfl
theorem pk_ldI {h : Hp} {a : Addr} {v : Value} (e : h.cell a = some v) : peek P h (Instr.loadAt t_int (.pointer (some a))) = some v := by
  obtain ⟨x, hx, e⟩ := withVal_elim (K := fun x => x = v) ((q_ld (P := P) (h := h) (K := fun x => x = v) u_int rfl a).mpr (by rw [e]; rfl))
  rw [e] at hx
  exact hx
/-- A box that holds an ask. -/
def Ask17 (R : Hp) (r : Nat) (vk vp vx vl : Value) (size : Int) : Prop := R r = some (.row t_orloplaw17_Ask [vk, vp, vx, vl, .int .i64 size] 5 (some (0, 0)))
theorem Ask17.cells {R h : Hp} {r : Nat} {vk vp vx vl : Value} {size : Int} (a : Ask17 R r vk vp vx vl size) (x : Hp.ext R h) :
    h.cell ⟨r, 0, none⟩ = some vk ∧ h.cell ⟨r, 1, none⟩ = some vp ∧ h.cell ⟨r, 2, none⟩ = some vx ∧ h.cell ⟨r, 3, none⟩ = some vl ∧ h.cell ⟨r, 4, none⟩ = some (.int .i64 size) := by
  have e := x _ _ a
  exact ⟨by rw [cell_row e]; rfl, by rw [cell_row e]; rfl, by rw [cell_row e]; rfl, by rw [cell_row e]; rfl, by rw [cell_row e]; rfl⟩
theorem sz_ask17 : sz P t_orloplaw17_Ask = some 5 := by kernel_rfl
theorem Ask17.load {R h : Hp} {r : Nat} {vk vp vx vl : Value} {size : Int} (a : Ask17 R r vk vp vx vl size) (x : Hp.ext R h) {K : Value → Prop} : q P h (Instr.loadAt t_orloplaw17_Ask (.pointer (some ⟨r, 0, none⟩))) K = K (.agg #[vk, vp, vx, vl, .int .i64 size]) :=
  q_ldRow (ys := [vk, vp, vx, vl, .int .i64 size]) u_orloplaw17_Ask rfl sz_ask17 (x _ _ a)

def small17 (ctx layer : List Nat) (size : Int) : Prop := ctx.length ≤ 300 ∧ layer.length ≤ 1500 ∧ (size < 1 ∨ (layer.length : Int).tdiv size ≤ 60)
instance (ctx layer : List Nat) (size : Int) : Decidable (small17 ctx layer size) := by unfold small17; infer_instance
theorem sealS_ok {c : Cr} {key pre ctx layer : List Nat} {size : Int} (h : okAsk key pre size) : (sealS c key pre ctx layer size).1 = 0 := by
  have hmay : ∀ i l, may key (nonceN pre i l) := fun i l => ⟨h.1, by rw [nonceN_len, h.2.1]⟩
  have hstep : ∀ (c : Cr) (nonce b t : List Nat), may key nonce → (crSeal c key nonce b t).1 = 0 := fun c nonce b t hm => by
    cases c <;> simp only [crSeal, if_pos hm]
  have hgo : ∀ (beside : List Nat) (total : Nat) (ps : List (List Nat)) (c : Cr) (i : Nat), (goL (sealStep key beside pre total) c i ps).1 = 0 := by
    intro beside total ps
    induction ps with
    | nil => intro c i; rfl
    | cons p ps ih =>
      intro c i
      simp only [goL]
      rw [if_pos (show (sealStep key beside pre total c i p).1 = 0 from hstep _ _ _ _ (hmay _ _))]
      exact ih _ _
  unfold sealS
  simp only [if_pos h]
  rw [if_pos (hgo _ _ _ _ _)]
theorem sealS_bad {c : Cr} {key pre ctx layer : List Nat} {size : Int} (h : ¬ okAsk key pre size) : sealS c key pre ctx layer size = (1, [], c) := by
  unfold sealS; rw [if_neg h]
theorem goL_bytes {f : Cr → Nat → List Nat → Nat × List Nat × Cr} (hf : ∀ c i p, Bytes p → Bytes (f c i p).2.1) : ∀ (ps : List (List Nat)) (c : Cr) (i : Nat), (∀ p ∈ ps, Bytes p) → Bytes (goL f c i ps).2.1.flatten
  | [], _, _, _ => by intro x hx; cases hx
  | p :: ps, c, i, hb => by
    simp only [goL]
    split
    · rw [List.flatten_cons]
      exact (hf c i p (hb p (List.mem_cons_self ..))).append (goL_bytes hf ps _ _ fun q hq => hb q (List.mem_cons_of_mem _ hq))
    · intro x hx; cases hx
theorem sealS_bytes {c : Cr} {key pre ctx layer : List Nat} {size : Int} (bp : Bytes pre) (bl : Bytes layer) : Bytes (sealS c key pre ctx layer size).2.1 := by
  unfold sealS
  split
  · dsimp only
    split
    · refine (headL_bytes bp _).append (goL_bytes (fun c i p hp => crSeal_bytes hp) _ _ _ fun p hp => ?_)
      intro x hx
      refine bl x ?_
      rw [← cutL_flat size.toNat layer]
      exact List.mem_flatten.2 ⟨p, hp, hx⟩
    · intro x hx; cases hx
  · intro x hx; cases hx
theorem few_goL {key beside pre : List Nat} {total : Nat} : ∀ (ps : List (List Nat)) (c : Cr) (i n : Nat), few n c → (∀ p ∈ ps, p.length ≤ 1099511627776) → few (n + ps.length) (goL (sealStep key beside pre total) c i ps).2.2
  | [], _, _, _, f, _ => f
  | p :: ps, c, i, n, f, hl => by
    have f1 : few (n + 1) (sealStep key beside pre total c i p).2.2 := f.next _ _ _ _ (hl p (List.mem_cons_self ..))
    simp only [goL]
    split
    · exact (few_goL ps _ (i + 1) (n + 1) f1 fun q hq => hl q (List.mem_cons_of_mem _ hq)).mono (by simp only [List.length_cons]; omega)
    · exact f1.mono (by simp only [List.length_cons]; omega)
theorem few_sealS {n : Nat} {c : Cr} {key pre ctx layer : List Nat} {size : Int} (f : few n c) (ll : layer.length ≤ 100000) : few (n + 100001) (sealS c key pre ctx layer size).2.2 := by
  unfold sealS
  split
  · rename_i hok
    have hn : 0 < size.toNat := by unfold okAsk at hok; omega
    have h65 : size.toNat ≤ 65536 := by unfold okAsk at hok; omega
    have hcnt := pcs_len hn _ (cutL_pcs hn layer)
    rw [cutL_flat] at hcnt
    have := few_goL (key := key) (beside := headL pre size.toNat ++ ctx) (pre := pre) (total := (cutL size.toNat layer).length) (cutL size.toNat layer) c 0 n f fun p hp => by
      have := pcs_le (cutL_pcs hn layer) p hp
      omega
    dsimp only
    split
    · exact this.mono (by omega)
    · exact this.mono (by omega)
  · exact f.mono (by omega)
theorem lengthS_eq (n size : Int) (h0 : 0 ≤ n) (h1 : n ≤ 2147483647) (h2 : 1 ≤ size) (h3 : size ≤ 65536) : lengthS n size = 12 + n + 16 * (if 0 < n % size ∨ n = 0 then n / size + 1 else n / size) := by
  unfold lengthS
  rw [if_neg (by omega)]
  congr 2
  have hdm := Int.mul_ediv_add_emod n size
  have hr0 := Int.emod_nonneg n (show size ≠ 0 by omega)
  have hr1 := Int.emod_lt_of_pos n (show 0 < size by omega)
  have hq0 : 0 ≤ n / size := Int.ediv_nonneg h0 (by omega)
  have e : n + size - 1 = (n % size + size - 1) + size * (n / size) := by omega
  rw [e, Int.add_mul_ediv_left _ _ (by omega)]
  by_cases hr : 0 < n % size
  · have : (n % size + size - 1) / size = 1 := by
      rw [show n % size + size - 1 = (n % size - 1) + size * 1 by omega, Int.add_mul_ediv_left _ _ (by omega), Int.ediv_eq_zero_of_lt (by omega) (by omega)]
      rfl
    rw [this, if_pos (.inl hr)]
    omega
  · have hr' : n % size = 0 := by omega
    have : (n % size + size - 1) / size = 0 := Int.ediv_eq_zero_of_lt (by omega) (by omega)
    rw [this]
    by_cases hn : n = 0
    · subst hn; simp; rfl
    · rw [if_neg (by omega)]
      have : n / size ≠ 0 := fun q => by rw [q, hr'] at hdm; omega
      omega
def digits : List Nat := [48, 49, 50, 51, 52, 53, 54, 55, 56, 57]
def k32 : List Nat := List.replicate 32 0
theorem k32_b : Bytes k32 := fun x hx => by rw [k32, List.mem_replicate] at hx; omega
theorem q_eqlNilI {h : Hp} {K : Value → Prop} (x y : Operand) (t : Nat) (v : Value) : q P h (eqop .eql t_crypt_Crypt x y (.iface t v) .nilIface) K = K (.bool false) := q_of (by
  unfold eqop
  rw [peek_bind]
  have : peek P h (eqGuard .eql t_crypt_Crypt x y (.iface t v) .nilIface) = some () := by rfl
  rw [this, Option.bind_some]
  show peek P h (Sem.bind (Op.equal t_crypt_Crypt (.iface t v) .nilIface) _) = _
  rw [peek_bind]
  have : peek P h (Op.equal t_crypt_Crypt (.iface t v) .nilIface) = some false := by
    show peek P h (Sem.bind (underlying t_crypt_Crypt) _) = _
    rw [peek_bind, pk_und u_crypt_Crypt]
    rfl
  rw [this]
  rfl) K

section
variable {h : Hp} {K : Value → Hp → Prop}
theorem T_small17 {vk vp vx vl : Value} {ctx layer : List Nat} {size : Int} (hx : Rn h .u8 vx ctx) (hl : Rn h .u8 vl layer) (hs : -9223372036854775808 ≤ size ∧ size ≤ 9223372036854775807) (k : ∀ h', Hp.ext h h' → K (.bool (decide (small17 ctx layer size))) h') :
    Cn P n_orloplaw17_small #[.agg #[vk, vp, vx, vl, .int .i64 size]] h K := by
  refine F_orloplaw17_small ?_
  unfold s_orloplaw17_small
  refine aw_box fun r hr => ?_
  have x0 := ext_set (.row t_orloplaw17_Ask (Value.agg #[vk, vp, vx, vl, .int .i64 size]).cells.toList (Value.agg #[vk, vp, vx, vl, .int .i64 size]).cells.size (some (0, 0))) hr
  have ha : Ask17 (h.set r (.row t_orloplaw17_Ask (Value.agg #[vk, vp, vx, vl, .int .i64 size]).cells.toList (Value.agg #[vk, vp, vx, vl, .int .i64 size]).cells.size (some (0, 0)))) r vk vp vx vl size := Hp.set_same ..
  generalize h.set r (.row t_orloplaw17_Ask (Value.agg #[vk, vp, vx, vl, .int .i64 size]).cells.toList (Value.agg #[vk, vp, vx, vl, .int .i64 size]).cells.size (some (0, 0))) = M at x0 ha
  obtain ⟨c0, c1, c2, c3, c4⟩ := ha.cells (.refl _)
  have kk := k M x0
  unfold small17 at kk
  obtain ⟨ax, cx, rfl, hcx⟩ := hx.shape
  obtain ⟨al, cl, rfl, hcl⟩ := hl.shape
  have e1 : decide (((ctx.length : Nat) : Int) ≤ 300) = decide (ctx.length ≤ 300) := by rw [decide_eq_decide]; omega
  have e2 : decide (((layer.length : Nat) : Int) ≤ 1500) = decide (layer.length ≤ 1500) := by rw [decide_eq_decide]; omega
  simp (disch := omega) only [af2, af3, af4, GL, RL, c2, c3, c4, e1, e2]
  by_cases h1 : ctx.length ≤ 300
  case neg => simpa [h1] using kk
  simp only [h1, decide_true, if_true]
  by_cases h2 : layer.length ≤ 1500
  case neg => simpa [h1, h2] using kk
  simp only [h2, decide_true, if_true]
  by_cases h3 : size < 1
  case pos => simpa [h1, h2, h3] using kk
  have hq : (layer.length : Int).tdiv size ≤ layer.length := by
    rw [Int.tdiv_eq_ediv_of_nonneg (by omega)]
    exact Int.ediv_le_self _ (by omega)
  have hq0 : 0 ≤ (layer.length : Int).tdiv size := by
    rw [Int.tdiv_eq_ediv_of_nonneg (by omega)]
    exact Int.ediv_nonneg (by omega) (by omega)
  simp (disch := omega) only [GL, RL, h3, decide_false, if_true, wi64]
  simpa [h1, h2, h3] using kk

theorem T_awake17 (k : ∀ h', Hp.ext h h' → K (.bool true) h') : Cn P n_orloplaw17_awake #[] h K := by
  refine F_orloplaw17_awake ?_
  unfold s_orloplaw17_awake
  have w0 : Own h h [] := ⟨.refl _, fun b hb => (by cases hb), fun b hb => (by cases hb)⟩
  refine T_Book w0 fun p h1 S1 hB o1 s1 _ => ?_
  have x1 : Hp.ext h h1 := s1.own.sub
  rw [q_eqlNilI]
  simp (disch := omega) only [GL, RL, Bool.false_eq_true, if_false]
  refine aw_make (n := 32) (c := 32) u_Sl_uint8 nfo_uint8 rfl (by omega) (by omega) (by omega) fun t12 h2 n2 => ?_
  rw [replicate_nv] at n2
  have n2' : Nn h1 t_uint8 .u8 t12 h2 k32 := n2
  obtain ⟨R2, s2, q2⟩ := Stp.newN o1 n2'
  have lk : k32.length = 32 := rfl
  have bk := k32_b
  have C2 : CrAt R2 h2 (.iface t_Pt_crypt_book (.pointer (some ⟨p, 0, none⟩))) (.book [] []) S1 := CrAt.ext (c := .book [] []) ⟨p, rfl, hB⟩ o1 s2.ext n2'.ext
  generalize k32 = key at n2' q2 lk bk
  obtain ⟨ak, ck, rfl, hck⟩ := q2.shape
  refine (q_slHi (hi := 7) u_Sl_uint8 z_uint8 _ _ ck .i64 (by omega)).mpr ?_
  have q7 : Rn R2 .u8 (.slice (SL.cut ak ck 0 1) 7 ck) (key.take 7) := rn_hi q2 (by omega)
  have l7 : (key.take 7).length = 7 := by rw [List.length_take]; omega
  have b7 := bk.take 7
  generalize key.take 7 = pre at q7 l7 b7
  refine aw_lit (n := 10) (ps := [(0, _), (1, _), (2, _), (3, _), (4, _), (5, _), (6, _), (7, _), (8, _), (9, _)]) u_Sl_uint8 z_uint8 zr_uint8 rfl (by omega) (by
    intro p hp
    simp only [List.mem_cons, List.not_mem_nil, or_false] at hp
    rcases hp with rfl | rfl | rfl | rfl | rfl | rfl | rfl | rfl | rfl | rfl <;> exact ⟨rfl, by show _ < 10; omega⟩) fun x h3 _ hx => ?_
  obtain ⟨rb, hrb, rfl, rfl⟩ := hx
  refine aw_mark hrb rfl fun h3 n3 => ?_
  have n3' : Nn h2 t_uint8 .u8 (.slice (some ⟨rb, 0, none⟩) 10 10) h3 digits := n3
  obtain ⟨R3, s3, q3⟩ := Stp.newN s2.own n3'
  have C3 := C2.ext s2.own s3.ext n3'.ext
  have ld : digits.length = 10 := rfl
  have bd : Bytes digits := by intro x hx; simp [digits] at hx; omega
  generalize hdg : digits = layer at n3' q3 ld bd
  have hok : okAsk key pre 4 := ⟨lk, l7, by omega, by omega⟩
  refine T_seal_Seal 4 s3.own C3 ⟨(by simp), (by intro s hs; cases hs)⟩ (q2.mono s3.ext.cle) (q7.mono s3.ext.cle) (rn_nil _ _) q3 bk b7 (by intro y hy; cases hy) bd (by simp) (by omega) fun v R4 h4 S4 s4 C4 hv => ?_
  have e0 := sealS_ok (c := .book [] []) (ctx := []) (layer := layer) hok
  obtain ⟨eo, _⟩ := seal_open (c2 := (sealS (.book [] []) key pre [] layer 4).2.2) e0 (Later.refl _) (by simp [much]; omega)
  have bX : Bytes (sealS (.book [] []) key pre [] layer 4).2.1 := sealS_bytes b7 bd
  have lX := sealS_len (c := .book [] []) e0 (by simp [much]; omega) (by omega)
  have fC : few 100001 (sealS (.book [] []) key pre [] layer 4).2.2 := few_sealS (n := 0) (c := .book [] []) ⟨by simp, by intro s hs; cases hs⟩ (by omega)
  rw [if_pos e0] at hv
  rw [e0]
  generalize (sealS (.book [] []) key pre [] layer 4).2.1 = X at hv eo bX lX
  generalize (sealS (.book [] []) key pre [] layer 4).2.2 = c4 at C4 eo fC
  have st4 := (s2.trans s3).trans s4
  have q24 := q2.mono (s3.trans s4).ext.cle
  have lXn : X.length ≤ 1000 := by
    have : lengthS 10 4 = 12 + 10 + 16 * 3 := by decide
    rw [ld] at lX
    have e : ((10 : Nat) : Int) = 10 := rfl
    rw [e, this] at lX
    omega
  rw [ext0, ext1]
  refine T_seal_Open s4.own C4 (fC.mono (by omega)) q24 (rn_nil _ _) hv bk (by intro y hy; cases hy) bX (by simp) (by omega) fun v5 R5 h5 S5 s5 C5 hv5 => ?_
  rw [eo, if_pos rfl] at hv5
  rw [eo, ext0, ext1]
  refine T_seal_Open s5.own C5 (fC.mono (by omega)) (q24.mono s5.ext.cle) (rn_nil _ _) (rn_nil _ _) bk (by intro y hy; cases hy) (by intro y hy; cases hy) (by simp) (by simp) fun v6 R6 h6 S6 s6 C6 hv6 => ?_
  have e8 : openS c4 key [] [] = (8, []) := by unfold openS; rw [if_neg (by omega), if_pos (.inl (by simp))]
  rw [e8, ext0, ext1]
  have hx6 : Hp.ext h h6 := (((s1.ext.trans st4.ext).trans s5.ext).trans s6.ext).trans s6.own.sub
  have r5 : Rn h6 .u8 v5 layer := s6.own.rn (hv5.mono s6.ext.cle)
  have es : ((strL layer).toList == (⟨#[48, 49, 50, 51, 52, 53, 54, 55, 56, 57]⟩ : ByteArray).toList) = true := by
    rw [← hdg, show strL digits = ⟨#[48, 49, 50, 51, 52, 53, 54, 55, 56, 57]⟩ from rfl]; exact beq_self_eq_true _
  have z0 : ((((0 : Nat) : Int)) == 0) = true := rfl
  have z8 : ((((8 : Nat) : Int)) == 8) = true := rfl
  simp (disch := omega) only [GL, RL, z0, z8, if_true, q_str r5, q_eqlS, es]
  refine T_seal_Length 0 10 ?_
  have l1 : lengthS 0 10 = 28 := by decide
  rw [l1]
  have z28 : ((28 : Int) == 28) = true := rfl
  simp (disch := omega) only [GL, RL, z28, if_true]
  refine T_seal_Length 25 10 ?_
  have l2 : lengthS 25 10 = 85 := by decide
  rw [l2]
  have z85 : ((85 : Int) == 85) = true := rfl
  simp (disch := omega) only [GL, RL, z85]
  exact k h6 hx6

theorem T_SealLengths (n size : Int) (hn : -9223372036854775808 ≤ n ∧ n ≤ 9223372036854775807) (hs : -9223372036854775808 ≤ size ∧ size ≤ 9223372036854775807) (k : ∀ h', K (.bool true) h') : Cn P n_orloplaw17_SealLengths #[.int .i64 n, .int .i64 size] h K := by
  refine F_orloplaw17_SealLengths ?_
  unfold s_orloplaw17_SealLengths
  refine T_awake17 fun h1 _ => ?_
  simp -zeta (disch := omega) only [GL, RL, Bool.not_true, Bool.false_eq_true, if_false]
  refine T_seal_Length n size ?_
  intro J6
  have bad : (n < 0 ∨ 2147483647 < n ∨ ¬ (1 ≤ size ∧ size ≤ 65536)) → K (.bool (lengthS n size == 0)) h1 := fun hq => by
    have : lengthS n size = 0 := by unfold lengthS; rw [if_pos hq]
    rw [this]
    exact k _
  have good : ¬ (n < 0 ∨ 2147483647 < n ∨ ¬ (1 ≤ size ∧ size ≤ 65536)) → J6 h1 := fun hq => by
    have hl := lengthS_eq n size (by omega) (by omega) (by omega) (by omega)
    simp only [J6]
    clear J6
    have e1 : n.tdiv size = n / size := Int.tdiv_eq_ediv_of_nonneg (by omega)
    have e2 : n.tmod size = n % size := Int.tmod_eq_emod_of_nonneg (by omega)
    have b1 : n / size ≤ n := Int.ediv_le_self _ (by omega)
    have b0 : 0 ≤ n / size := Int.ediv_nonneg (by omega) (by omega)
    have e3 : (n == 0) = decide (n = 0) := by rw [Bool.eq_iff_iff, beq_iff_eq, decide_eq_true_eq]
    generalize n / size = z at e1 b1 b0 hl
    generalize n % size = r at e2 hl
    simp (disch := omega) only [GL, RL, wi64, e1, e2, e3]
    rw [hl]
    by_cases hr : 0 < r
    · simp only [hr, decide_true, Bool.true_eq_false, if_false, if_true, true_or, beq_self_eq_true]
      exact k _
    · simp only [hr, decide_false, if_true, false_or]
      by_cases hn0 : n = 0
      · simp only [hn0, decide_true, if_true, beq_self_eq_true]
        exact k _
      · simp only [hn0, decide_false, Bool.false_eq_true, if_false, beq_self_eq_true]
        exact k _
  clear_value J6
  simp (disch := omega) only [GL, RL]
  by_cases g1 : n < 0
  · simp only [g1, decide_true, Bool.true_eq_false, if_false, if_true]
    exact bad (.inl g1)
  simp only [g1, decide_false, if_true]
  by_cases g2 : 2147483647 < n
  · simp only [g2, decide_true, Bool.true_eq_false, if_false, if_true]
    exact bad (.inr (.inl g2))
  simp only [g2, decide_false, if_true]
  by_cases g3 : size < 1
  · simp only [g3, decide_true, Bool.true_eq_false, if_false, if_true]
    exact bad (.inr (.inr (by omega)))
  simp only [g3, decide_false, if_true]
  by_cases g4 : 65536 < size
  · simp only [g4, decide_true, if_true]
    exact bad (.inr (.inr (by omega)))
  · simp only [g4, decide_false, Bool.false_eq_true, if_false]
    exact good (by omega)
end
end Go.Proofs.Ytnecdbclhdbaoaa
