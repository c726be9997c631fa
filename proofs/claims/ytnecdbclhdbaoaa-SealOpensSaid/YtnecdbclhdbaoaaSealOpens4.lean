/- sealOpens_holds sealOpens proved lifted over: part 4 of its proof; each part's own remarks stand with its declarations. Conditions: each lemma names its own. -/
import Derived.Test.YtnecdbclhdbaoaaSealOpens3
import Derived.Test.YtnecdbclhdbaoaaRows
import Derived.WalkKit
import Derived.ProofKit
import Derived.OpenShut
import Derived.ShutString
import Derived.ChangeOld
import Derived.Below
import Derived.Carry
import Derived.SizedLaws
import Derived.Lib.SmallJoins
set_option linter.unusedSimpArgs false
set_option linter.unusedVariables false
set_option linter.unusedSimpArgs false
set_option linter.unusedVariables false
set_option maxRecDepth 100000
set_option maxHeartbeats 4000000
namespace Go.Proofs.Ytnecdbclhdbaoaa
open Go Go.SL Go.Pure
def cr0 (ideal : Bool) : Cr := if ideal then .book [] [] else .real
theorem few_cr0 (ideal : Bool) (n : Nat) : few n (cr0 ideal) := by
  cases ideal
  · trivial
  · exact ⟨Nat.zero_le _, fun s hs => by cases hs⟩
theorem bldRC {h : Hp} {K : Value → Prop} (ideal : Bool) : q P h (Instr.build t_orlopref12_Crypt #[(0, .bool ideal)]) K = K (.agg #[.bool ideal, .slice none 0 0, .slice none 0 0]) := by
  cases ideal
  · exact q_of (by kernel_rfl) K
  · exact q_of (by kernel_rfl) K
theorem aw_refBox {h : Hp} {F : Value → Hp → Prop} (ideal : Bool) (k : ∀ r, h r = none → F (.pointer (some ⟨r, 0, none⟩)) (h.set r (.row t_orlopref12_Crypt [.bool ideal, .slice none 0 0, .slice none 0 0] 3 (some (0, 0))))) :
    q P h (Instr.build t_orlopref12_Crypt #[(0, .bool ideal)]) fun t => aw P (Instr.box t_orlopref12_Crypt t) F h := by
  rw [bldRC]
  exact aw_box k
/-- The reference's crypt, just made. -/
theorem ref_new {R h : Hp} (ideal : Bool) {r : Nat} (hr : h r = none) : RefAt R (h.set r (.row t_orlopref12_Crypt [.bool ideal, .slice none 0 0, .slice none 0 0] 3 (some (0, 0)))) r (cr0 ideal) [r] := by
  cases ideal
  · exact ⟨Hp.set_same .., rfl⟩
  · exact ⟨.slice none 0 0, [], [], Hp.set_same .., .inl ⟨rfl, rfl, rfl, rfl⟩, ⟨rfl, fun i b e => by simp at e⟩, rfl, by simp, fun b hb => by cases hb⟩
/-- A block of the call's own is made, to be owned. -/
theorem Own.mk1 {R h : Hp} {S : List Nat} {r : Nat} (o : AObj) (w : Own R h S) (hr : h r = none) : Own R (h.set r o) [r] ∧ Own R (h.set r o) S ∧ (∀ b, b ∈ S → b ∉ [r]) ∧ ∀ b, b ∈ S → (h.set r o) b = h b := by
  have hn : ∀ b, b ∈ S → b ≠ r := fun b hb q => by
    obtain ⟨x, e⟩ := w.kn b hb
    rw [q, hr] at e; cases e
  refine ⟨⟨w.sub.trans (ext_set _ hr), fun b hb => ?_, fun b hb => ?_⟩, ⟨w.sub.trans (ext_set _ hr), w.dis, fun b hb => ?_⟩, fun b hb q => hn b hb (List.mem_singleton.1 q), fun b hb => Hp.set_ne _ _ (hn b hb)⟩
  · rw [List.mem_singleton.1 hb]; exact w.sub.none hr
  · rw [List.mem_singleton.1 hb]; exact ⟨_, Hp.set_same ..⟩
  · rw [Hp.set_ne _ _ (hn b hb)]; exact w.kn b hb
theorem goL_open_len {key beside pre : List Nat} {total n : Nat} : ∀ (ps : List (List Nat)) (c : Cr) (i : Nat), few n c → (goL (openStep key beside pre total) c i ps).2.1.flatten.length ≤ ps.flatten.length
  | [], _, _, _ => by simp [goL]
  | p :: ps, c, i, hc => by
    simp only [goL]
    split
    · have h1 := goL_open_len (key := key) (beside := beside) (pre := pre) (total := total) ps c (i + 1) hc
      have h2 := crOpen_len hc key (nonceN pre i (i + 1 == total)) beside p
      have e1 : (openStep key beside pre total c i p).2.2 = c := rfl
      have e2 : (openStep key beside pre total c i p).2.1 = (crOpen c key (nonceN pre i (i + 1 == total)) beside p).2 := rfl
      rw [e1, e2]
      simp only [List.flatten_cons, List.length_append]
      omega
    · simp
theorem openS_len {n : Nat} {c : Cr} (hc : few n c) (key ctx s : List Nat) : (openS c key ctx s).2.length ≤ s.length := by
  unfold openS
  split
  · simp
  split
  · simp
  dsimp only
  split
  · simp
  split
  · simp
  split
  · have h1 := goL_open_len (key := key) (beside := s.take 12 ++ ctx) (pre := (s.take 8).drop 1) (total := (cutL (bval ((s.take 12).drop 8) + 16) (s.drop 12)).length) (cutL (bval ((s.take 12).drop 8) + 16) (s.drop 12)) c 0 hc
    rw [cutL_flat, List.length_drop] at h1
    dsimp only
    omega
  · simp
section
variable {h : Hp} {K : Value → Hp → Prop}
theorem T_of17 {R : Hp} {S : List Nat} (ideal : Bool) (w : Own R h S) (k : ∀ v h' S', CrAt R h' v (cr0 ideal) S' → Own R h' S' → Stp R h R h' S S → (∀ b ∈ S', b ∉ S) → K v h') : Cn P n_orloplaw17_of #[.bool ideal] h K := by
  refine F_orloplaw17_of ?_
  unfold s_orloplaw17_of
  cases ideal with
  | true =>
    simp only [GL, if_true]
    exact T_Book w fun p h1 S1 hB o1 s1 d => k _ h1 S1 ⟨p, rfl, hB⟩ o1 s1 d
  | false =>
    simp only [GL, Bool.false_eq_true, if_false]
    exact T_Real (k _ h [] ⟨rfl, rfl⟩ w.nil (.refl w) fun b hb => by cases hb)
theorem T_SealOpens {vk vp vx vl vs : Value} {key pre ctx layer s : List Nat} {size : Int} (ideal : Bool) (hk : Rn h .u8 vk key) (hp : Rn h .u8 vp pre) (hx : Rn h .u8 vx ctx) (hl : Rn h .u8 vl layer) (hs0 : Rn h .u8 vs s) (bk : Bytes key) (bp : Bytes pre) (bx : Bytes ctx) (bl : Bytes layer) (bs : Bytes s) (hs : -9223372036854775808 ≤ size ∧ size ≤ 9223372036854775807)
    (k : ∀ h', K (.bool true) h') : Cn P n_orloplaw17_SealOpens #[.bool ideal, .agg #[vk, vp, vx, vl, .int .i64 size], vs] h K := by
  refine F_orloplaw17_SealOpens ?_
  unfold s_orloplaw17_SealOpens
  refine aw_box fun r hr => ?_
  have w0 : Own h h [] := ⟨.refl _, fun b hb => (by cases hb), fun b hb => (by cases hb)⟩
  have s0 := Stp.block (.row t_orloplaw17_Ask (Value.agg #[vk, vp, vx, vl, .int .i64 size]).cells.toList (Value.agg #[vk, vp, vx, vl, .int .i64 size]).cells.size (some (0, 0))) w0 hr
  have ha : Ask17 (h.set r (.row t_orloplaw17_Ask (Value.agg #[vk, vp, vx, vl, .int .i64 size]).cells.toList (Value.agg #[vk, vp, vx, vl, .int .i64 size]).cells.size (some (0, 0)))) r vk vp vx vl size := Hp.set_same ..
  generalize h.set r (.row t_orloplaw17_Ask (Value.agg #[vk, vp, vx, vl, .int .i64 size]).cells.toList (Value.agg #[vk, vp, vx, vl, .int .i64 size]).cells.size (some (0, 0))) = M at s0 ha
  refine T_awake17 fun h1 x1 => ?_
  have o1 := (Stp.ext0 s0.own x1).own
  replace hk := hk.mono s0.ext.cle
  replace hp := hp.mono s0.ext.cle
  replace hx := hx.mono s0.ext.cle
  replace hl := hl.mono s0.ext.cle
  replace hs0 := hs0.mono s0.ext.cle
  clear x1 s0 w0
  simp -zeta (disch := omega) only [GL, RL, Bool.not_true, Bool.false_eq_true, if_false]
  intro J5
  obtain ⟨a5, cs, es, hcs⟩ := hs0.shape
  have lns : ∀ {h : Hp} {K : Value → Prop}, q P h (Builtin.len_ #[t_Sl_uint8] t_int #[vs]) K = K (.int .i64 s.length) := fun {h K} => by rw [es]; exact q_lenS u_Sl_uint8 _ _ _
  have good : small17 ctx layer size → s.length ≤ 3000 → ∀ h2, Hp.ext h1 h2 → J5 h2 := by
    intro hsm ls h2 x2
    have o2 := (Stp.ext0 o1 x2).own
    have lc : ctx.length ≤ 300 := hsm.1
    have ll : layer.length ≤ 1500 := hsm.2.1
    simp -zeta only [J5]
    clear J5
    have hfew := few_cr0 ideal
    refine T_of17 ideal o2 fun vc h3 S3 C3 o3 s3 _ => ?_
    refine aw_refBox ideal fun p hp5 => ?_
    obtain ⟨o5p, o5, dj5, same5⟩ := o3.mk1 (.row t_orlopref12_Crypt [.bool ideal, .slice none 0 0, .slice none 0 0] 3 (some (0, 0))) hp5
    have A5 := ref_new (R := M) ideal hp5
    generalize h3.set p (.row t_orlopref12_Crypt [.bool ideal, .slice none 0 0, .slice none 0 0] 3 (some (0, 0))) = h5 at o5p o5 same5 A5 ⊢
    have C5 : CrAt M h5 vc (cr0 ideal) S3 := CrAt.keep C3 (.refl _) same5
    obtain ⟨c0, c1, c2, c3, c4⟩ := ha.cells o5.sub
    simp -zeta (disch := omega) only [af0, af1, af2, af3, af4, GL, RL, c0, c1, c2, c3, c4]
    refine T_seal_Seal size o5 C5 (hfew _) hk hp hx hl bk bp bx bl (by omega) (by omega) fun v6 R6 h6 S6 s6 C6 hv6 => ?_
    obtain ⟨o6, dj6, same6⟩ := s6.frame o5p fun b hb q => dj5 b q hb
    have A6 := A5.keep s6.ext same6
    have up6 := s6.ext.cle
    obtain ⟨c0, c1, c2, c3, c4⟩ := ha.cells (s6.ext.trans o6.sub)
    simp -zeta (disch := omega) only [af0, af1, af2, af3, af4, GL, RL, c0, c1, c2, c3, c4]
    refine T_ref17_Seal size o6 A6 (hfew _) hs (hk.mono up6) (hp.mono up6) (hx.mono up6) (hl.mono up6) bk bp bx bl (by omega) (by omega) fun v7 R7 h7 S7 s7 A7 hv7 => ?_
    obtain ⟨o7, dj7, same7⟩ := s7.frame s6.own fun b hb q => dj6 b q hb
    have C7 := C6.keep s7.ext same7
    have x67 := s6.ext.trans s7.ext
    have up7 := x67.cle
    have hf7 := few_sealS (key := key) (pre := pre) (ctx := ctx) (size := size) (hfew 0) (show layer.length ≤ 100000 by omega)
    generalize (sealS (cr0 ideal) key pre ctx layer size).2.2 = c' at *
    intro J14
    have fin : J14 h7 := by
      simp only [J14]
      clear J14
      obtain ⟨c0, c1, c2, c3, c4⟩ := ha.cells (x67.trans o7.sub)
      simp -zeta (disch := omega) only [af0, af1, af2, af3, af4, GL, RL, c0, c1, c2, c3, c4]
      refine T_seal_Open o7 C7 (hf7.mono (by omega)) (hk.mono up7) (hx.mono up7) (hs0.mono up7) bk bx bs (by omega) (by omega) fun v8 R8 h8 S8 s8 C8 hv8 => ?_
      rw [ext0, ext1]
      obtain ⟨o8, dj8, same8⟩ := s8.frame s7.own fun b hb q => dj7 b q hb
      have A8 := A7.keep s8.ext same8
      have x68 := x67.trans s8.ext
      have up8 := x68.cle
      obtain ⟨c0, c1, c2, c3, c4⟩ := ha.cells (x68.trans o8.sub)
      simp -zeta (disch := omega) only [af0, af1, af2, af3, af4, GL, RL, c0, c1, c2, c3, c4]
      refine T_ref17_Open o8 A8 (hf7.mono (by omega)) (hk.mono up8) (hx.mono up8) (hs0.mono up8) bk bx bs (by omega) (by omega) fun v9 R9 h9 s9 A9 hv9 => ?_
      rw [ext0, ext1]
      simp -zeta (disch := omega) only [GL, RL, beq_self_eq_true, if_true]
      by_cases e0 : (openS c' key ctx s).1 = 0
      · rw [if_pos e0] at hv8 hv9
        have := openS_len hf7 key ctx s
        refine T_orlopref01_Equal (s9.own.rn (hv8.mono s9.ext.cle)) (s9.own.rn hv9) (by omega) ?_
        simp only [decide_true]
        exact k _
      · rw [if_neg e0] at hv8 hv9
        subst hv8 hv9
        refine T_orlopref01_Equal (rn_nil _ _) (rn_nil _ _) (by simp) ?_
        simp only [decide_true]
        exact k _
    clear_value J14
    have e12 : decide ((12 : Int) < ((s.length : Nat) : Int)) = decide (12 < s.length) := lt_dec 12 _
    simp (disch := omega) only [GL, RL, lns, e12]
    by_cases l12 : 12 < s.length
    case neg =>
      simp only [l12, decide_false, Bool.false_eq_true, if_false]
      exact fin
    subst es
    obtain ⟨b0, o0, rfl, hc0⟩ := (o7.rn (hs0.mono up7)).pos (by omega)
    have q8 := hc0 8 (by omega)
    have q9 := hc0 9 (by omega)
    have q10 := hc0 10 (by omega)
    have q11 := hc0 11 (by omega)
    have hb : s.getD 11 0 < 256 := by
      have e := List.getElem_mem (l := s) (n := 11) (by omega)
      have := bs _ e
      simpa [List.getD_eq_getElem?_getD, show 11 < s.length by omega] using this
    have t8 : Int.toNat 8 = 8 := rfl
    have t9 : Int.toNat 9 = 9 := rfl
    have t10 : Int.toNat 10 = 10 := rfl
    have t11 : Int.toNat 11 = 11 := rfl
    have e16 : ((s.getD 11 0 : Nat) : Int) + 16 = ((s.getD 11 0 + 16 : Nat) : Int) := by omega
    have hd0 : 0 ≤ (s.length : Int).tdiv ((s.getD 11 0 + 16 : Nat) : Int) := by
      rw [Int.tdiv_eq_ediv_of_nonneg (by omega)]
      exact Int.ediv_nonneg (by omega) (by omega)
    have hd1 : (s.length : Int).tdiv ((s.getD 11 0 + 16 : Nat) : Int) ≤ s.length := by
      rw [Int.tdiv_eq_ediv_of_nonneg (by omega)]
      exact Int.ediv_le_self _ (by omega)
    simp (disch := omega) only [l12, decide_true, if_true, GL, RL, t8, t9, t10, t11, q8, q9, q10, q11, wi64, e16]
    have eb : ∀ n : Nat, (((n : Nat) : Int) == 0) = decide (n = 0) := fun n => by rw [Bool.eq_iff_iff, beq_iff_eq, decide_eq_true_eq]; omega
    simp only [eb]
    by_cases z8 : s.getD 8 0 = 0
    case neg =>
      simp only [z8, decide_false, Bool.false_eq_true, if_false]
      exact fin
    by_cases z9 : s.getD 9 0 = 0
    case neg =>
      simp only [z8, z9, decide_true, decide_false, Bool.false_eq_true, if_false, if_true]
      exact fin
    by_cases z10 : s.getD 10 0 = 0
    case neg =>
      simp only [z8, z9, z10, decide_true, decide_false, Bool.false_eq_true, if_false, if_true]
      exact fin
    simp only [z8, z9, z10, decide_true, if_true]
    by_cases z11 : 100 < (s.length : Int).tdiv ((s.getD 11 0 + 16 : Nat) : Int)
    · simp only [z11, decide_true, if_true]
      exact k _
    · simp only [z11, decide_false, Bool.false_eq_true, if_false]
      exact fin
  clear_value J5
  rw [ha.load o1.sub]
  refine T_small17 (o1.rn hx) (o1.rn hl) hs fun h2 x2 => ?_
  have e3000 : decide ((3000 : Int) < ((s.length : Nat) : Int)) = decide (3000 < s.length) := lt_dec 3000 _
  by_cases hsm : small17 ctx layer size
  case neg =>
    simp only [hsm, decide_false, GL, RL, Bool.not_false, Bool.true_eq_false, if_false, if_true]
    exact k _
  simp (disch := omega) only [hsm, decide_true, GL, RL, Bool.not_true, if_true, lns, e3000]
  by_cases g : 3000 < s.length
  · simp only [g, decide_true, if_true]
    exact k _
  simp only [g, decide_false, Bool.false_eq_true, if_false]
  exact good hsm (by omega) h2 x2
end
end Go.Proofs.Ytnecdbclhdbaoaa
set_option linter.unusedSimpArgs false
set_option linter.unusedVariables false
set_option maxRecDepth 100000
namespace Go.Proofs.Ytnecdbclhdbaoaa
open Go Go.SL Go.Pure
open Go.ChangeShapes Go.WideShapes Go.ChangeAt Go.RowKit
/-- All cells that lie in memory, to read. -/
def readAll (w : World) : Hp := fun b => match w.heap[b]? with
  | some (.cells c e _) => some (.row e c.toList c.size none)
  | _ => none
theorem readAll_sat (w : World) : (readAll w).sat w := by
  intro b o e
  unfold readAll at e
  split at e
  · rename_i c el f hb
    cases e
    refine ⟨_, hb, rfl, rfl, by simp, fun i v hv => by simpa using hv, fun f hf => by cases hf⟩
  · cases e
theorem readAll_own (w : World) (b : Nat) : ¬ (readAll w).own b := by
  rintro ⟨o, e, hr⟩
  unfold readAll at e
  split at e
  · cases e; cases hr
  · cases e
theorem readAll_cell {w : World} {b o : Nat} {v : Value} (e : w.cell? ⟨b, o, none⟩ = some v) : (readAll w).cell ⟨b, o, none⟩ = some v := by
  unfold World.cell? at e
  unfold Hp.cell readAll
  dsimp only at e ⊢
  split at e
  · rename_i c el f hb
    rw [hb]
    simpa using e
  · cases e
theorem below_of {w w' : World} {h' : Hp} (f : Fr (readAll w) h' w w') : Below w.heap.size w w' :=
  ⟨f.os, f.tape, f.output, f.size, fun k hk => f.keep k hk (readAll_own w k)⟩
/-- A slice of bytes, as it is handed in. -/
theorem rn_open {H : Type} {enc : TypeId × Value → H} {w : World} {fuel : Nat} {v : Value} {x : DataW H × List MemPlace} (h : DataW.trod enc P w 0 (fun _ => true) true fuel t_Sl_uint8 [v] = some x) :
    ∃ l : List Nat, Rn (readAll w) .u8 v l ∧ Bytes l := by
  rcases Go.ChangeShapes.open_ints u_Sl_uint8 u_uint8 (by kernel_rfl) h with ⟨hcs, _⟩ | ⟨a, len, cap, zs, hcs, _, hl, hm, hz, _, hcell, hwz⟩
  · simp only [List.cons.injEq, and_true] at hcs
    subst hcs
    exact ⟨[], rn_nil _ _, by intro y hy; cases hy⟩
  · simp only [List.cons.injEq, and_true] at hcs
    subst hcs
    simp only [if_true] at hz
    have hnn : ∀ n ∈ zs, 0 ≤ n ∧ n < 256 := fun n hn => by
      have := hwz n hn
      simp [Lit.wf, IntKind.min, IntKind.max, IntKind.signed, IntKind.bits] at this
      omega
    have ll : ((zs.take len).map Int.toNat).length = len := by rw [List.length_map, List.length_take]; omega
    refine ⟨(zs.take len).map Int.toNat, ⟨by rw [nv_len]; omega, some a, cap, by rw [ll], by omega, ?_⟩, ?_⟩
    · rw [ll]
      by_cases h0 : len = 0
      · exact .inl h0
      · right
        have hc0 := hcell 0 (by omega)
        obtain ⟨b, o, sp⟩ := a
        have hsp : sp = none := by
          cases sp with
          | none => rfl
          | some s =>
            unfold World.cell? Addr.add at hc0
            dsimp only at hc0
            split at hc0 <;> simp at hc0
        subst hsp
        refine ⟨b, o, rfl, fun i x hx => ?_⟩
        have hi : i < len := by
          have := (List.getElem?_eq_some_iff.1 hx).1
          rwa [nv_len, ll] at this
        rw [nv_getD _ _ _ (by rw [ll]; exact hi)] at hx
        cases hx
        have hci := hcell i (by omega)
        rw [add_off] at hci
        have hz' : zs.getD i 0 = (((zs.take len).map Int.toNat).getD i 0 : Nat) := by
          have hiz : i < zs.length := by omega
          have := hnn zs[i] (List.getElem_mem hiz)
          simp [List.getD_eq_getElem?_getD, hiz, hi]
          omega
        rw [hz'] at hci
        exact readAll_cell hci
    · intro y hy
      obtain ⟨n, hn, rfl⟩ := List.mem_map.1 hy
      have := hnn n (List.mem_of_mem_take hn)
      omega
theorem slice_open {H : Type} {enc : TypeId × Value → H} {w : World} {v : Value} {d : DataW H} {p : List MemPlace} (hv : ∃ a len cap, v = .slice a len cap) (h : DataW.Trod enc P w 0 (fun _ => true) true t_Sl_uint8 v d p) :
    ∃ l : List Nat, Rn (readAll w) .u8 v l ∧ Bytes l := by
  obtain ⟨a, n, c, rfl⟩ := hv
  obtain ⟨fuel, hf⟩ := h
  exact rn_open hf
theorem ownNone : ownKnob Try.prog.godebug = none := by kernel_rfl
theorem laidOut : laidOutB Try.prog = true := by kernel_rfl
/-- The walk of a statement that tells true. -/
theorem tells_true {f : FuncId} {args : Array Value} {w : World} (c : Cn P f args (readAll w) fun v _ => v = .bool true) : Calls P f args w fun e w' => e = .returned (.bool true) ∧ Below w.heap.size w w' :=
  (c.2 w (readAll_sat w)).mono fun e w' ⟨v, h', he, _, f', hv⟩ => ⟨by rw [he, hv], below_of f'⟩
end Go.Proofs.Ytnecdbclhdbaoaa
set_option linter.unusedSimpArgs false
set_option linter.unusedVariables false
set_option maxRecDepth 100000
namespace Go.Proofs.Ytnecdbclhdbaoaa
open Go Go.SL Go.Pure
open Go.ChangeShapes Go.WideShapes Go.ChangeAt Go.RowKit
theorem trod_fields {H : Type} {enc : TypeId × Value → H} {w : World} {base : Nat} {spare : Nat → Bool} {held : Bool} {t : TypeId} {fs : List Field} {fuel : Nat} {cs : List Value} {x : DataW H × List MemPlace} (ht : P.underlying t = some (.struct fs.toArray)) (h : DataW.trod enc P w base spare held fuel t cs = some x) :
    ∃ n, ∀ (j : Nat) (f : Field), fs[j]? = some f → ∃ y, DataW.trod enc P w base spare held n f.type ((cs.drop f.offset).take (P.cellsOf f.type)) = some y := by
  obtain ⟨xs, n, _, rfl, hl, hlen, hf⟩ := DataW.trod_struct ht h
  refine ⟨n, fun j f hj => ?_⟩
  have := hf j f (by simpa using hj)
  have hlt : j < xs.length := by
    have := (List.getElem?_eq_some_iff.1 hj).1
    simp at hlen
    omega
  exact ⟨_, this.trans (List.getElem?_eq_getElem hlt)⟩
theorem array5 {α : Type} {cs : Array α} (h : cs.size = 5) : ∃ c0 c1 c2 c3 c4, cs = #[c0, c1, c2, c3, c4] := by
  obtain ⟨l⟩ := cs
  match l, h with
  | [c0, c1, c2, c3, c4], _ => exact ⟨c0, c1, c2, c3, c4, rfl⟩
theorem wf_i64 {n : Int} (h : (Lit.int .i64 n).wf = true) : -9223372036854775808 ≤ n ∧ n ≤ 9223372036854775807 := by simpa [Lit.wf, IntKind.min, IntKind.max, IntKind.signed, IntKind.bits] using h
theorem ask17_open {H : Type} {enc : TypeId × Value → H} {w : World} {v : Value} {d : DataW H} {p : List MemPlace} (hv : ∃ cs, v = .agg cs ∧ cs.size = P.cellsOf t_orloplaw17_Ask) (h : DataW.Trod enc P w 0 (fun _ => true) true t_orloplaw17_Ask v d p) :
    ∃ vk vp vx vl n, v = .agg #[vk, vp, vx, vl, .int .i64 n] ∧ (-9223372036854775808 ≤ n ∧ n ≤ 9223372036854775807) ∧ ∃ k p x l : List Nat, (Rn (readAll w) .u8 vk k ∧ Bytes k) ∧ (Rn (readAll w) .u8 vp p ∧ Bytes p) ∧ (Rn (readAll w) .u8 vx x ∧ Bytes x) ∧ (Rn (readAll w) .u8 vl l ∧ Bytes l) := by
  obtain ⟨cs, rfl, hs⟩ := hv
  obtain ⟨vk, vp, vx, vl, vn, rfl⟩ := array5 (hs.trans (show P.cellsOf t_orloplaw17_Ask = 5 by kernel_rfl))
  obtain ⟨fuel, hf⟩ := h
  obtain ⟨f0, f1, f2, f3, f4, hu, e0, e1, e2, e3, e4⟩ : ∃ f0 f1 f2 f3 f4 : Field, P.underlying t_orloplaw17_Ask = some (.struct [f0, f1, f2, f3, f4].toArray) ∧ (f0.type = t_Sl_uint8 ∧ f0.offset = 0) ∧ (f1.type = t_Sl_uint8 ∧ f1.offset = 1) ∧ (f2.type = t_Sl_uint8 ∧ f2.offset = 2) ∧ (f3.type = t_Sl_uint8 ∧ f3.offset = 3) ∧ (f4.type = t_int ∧ f4.offset = 4) := by
    refine ⟨_, _, _, _, _, Try.underlying24, ?_⟩
    decide
  obtain ⟨n, hq⟩ := trod_fields hu hf
  obtain ⟨y0, h0⟩ := hq 0 f0 rfl
  obtain ⟨y1, h1⟩ := hq 1 f1 rfl
  obtain ⟨y2, h2⟩ := hq 2 f2 rfl
  obtain ⟨y3, h3⟩ := hq 3 f3 rfl
  obtain ⟨y4, h4⟩ := hq 4 f4 rfl
  have hc : P.cellsOf t_Sl_uint8 = 1 := by kernel_rfl
  have hci : P.cellsOf t_int = 1 := by kernel_rfl
  rw [e0.1, e0.2, hc] at h0
  rw [e1.1, e1.2, hc] at h1
  rw [e2.1, e2.2, hc] at h2
  rw [e3.1, e3.2, hc] at h3
  rw [e4.1, e4.2, hci] at h4
  obtain ⟨k, hk⟩ := rn_open (v := vk) h0
  obtain ⟨p, hp⟩ := rn_open (v := vp) h1
  obtain ⟨x, hx⟩ := rn_open (v := vx) h2
  obtain ⟨l, hl⟩ := rn_open (v := vl) h3
  obtain ⟨m, hm, _, hw⟩ := DataW.trod_int u_int h4
  have hm : [vn] = [.int .i64 m] := hm
  obtain rfl : vn = .int .i64 m := by simpa using hm
  exact ⟨vk, vp, vx, vl, m, rfl, wf_i64 hw, k, p, x, l, hk, hp, hx, hl⟩
end Go.Proofs.Ytnecdbclhdbaoaa
set_option linter.unusedSimpArgs false
set_option linter.unusedVariables false
set_option maxRecDepth 100000
namespace Go.Proofs.Ytnecdbclhdbaoaa
open Go Go.SL Go.Pure
open Go.ChangeShapes Go.WideShapes Go.ChangeAt Go.RowKit
namespace sealOpens
theorem lifted (os : Os) (started : os.Started) (H : Type) (enc : TypeId × Value → H) :
    ReturnsInHanded {} Try.checked os n_orloplaw17_SealOpens .any (Rows.sealOpensSpec.pre6 enc Try.prog Try.f6 Rows.sealOpensRow.domain false) (Rows.sealOpensSpec.post enc Try.prog Try.f6 false true false false) := by
  refine returnsInHanded_of_change_sized (C := Try.checked) ownNone started (by kernel_rfl) Try.func6
    (ChangeSpec.witness6 (enc := enc) (C := Try.checked) false ⟨#[], #[.bool false, .agg #[.slice none 0 0, .slice none 0 0, .slice none 0 0, .slice none 0 0, .int .i64 0], .slice none 0 0], []⟩ 8 (by kernel_rfl) (by kernel_rfl) (by kernel_rfl) (by kernel_rfl)) ?_
  intro W base args ds gs before hval0 hW hcnd hsz0 _
  have hval : ∀ (j : Nat) t v, Try.f6.params[j]? = some t → args[j]? = some v → Value.okWide Try.prog W .any base t v := hval0
  have hW' := hW
  obtain ⟨p, q, hA0, hV, rfl, hfz, hnd⟩ := hW
  have hA : DataW.TrodAll enc Try.prog W 0 (fun _ => true) true Try.f6.params.toList args.toList ds p := hA0
  rw [Try.params6] at hA hval
  obtain ⟨v0, vs0, d0, ds0, p0, q0, hargs, rfl, rfl, h0, r0⟩ := trodAll_cons hA
  obtain ⟨v1, vs1, d1, ds1, p1, q1, rfl, rfl, rfl, h1, r1⟩ := trodAll_cons r0
  obtain ⟨v2, vs2, d2, ds2, p2, q2, rfl, rfl, rfl, h2, r2⟩ := trodAll_cons r1
  obtain ⟨rfl, rfl, rfl⟩ := trodAll_nil r2
  obtain rfl : args = #[v0, v1, v2] := by cases args; simp_all
  obtain ⟨rfl, rfl⟩ := trodVars_none hV
  have lt0 : ∀ x ∈ p0, x.block < W.heap.size := by obtain ⟨m, hm⟩ := h0; exact DataW.trod_lt m _ _ _ hm
  have lt1 : ∀ x ∈ p1, x.block < W.heap.size := by obtain ⟨m, hm⟩ := h1; exact DataW.trod_lt m _ _ _ hm
  have lt2 : ∀ x ∈ p2, x.block < W.heap.size := by obtain ⟨m, hm⟩ := h2; exact DataW.trod_lt m _ _ _ hm
  obtain ⟨b0, rfl⟩ := okWide_bool Try.underlying4 (hval 0 4 v0 rfl rfl)
  obtain ⟨vk, vp, vx, vl, n, rfl, hn, k, pr, x, l, hk, hp, hx, hl⟩ := ask17_open (okWide_struct Try.underlying24 (hval 1 24 v1 rfl rfl)) h1
  obtain ⟨o2, ho2⟩ := slice_open (okWide_slice Try.underlying22 (hval 2 22 v2 rfl rfl)) h2
  clear hA0 hval0 hsz0
  refine (tells_true (T_SealOpens b0 hk.1 hp.1 hx.1 hl.1 ho2.1 hk.2 hp.2 hx.2 hl.2 ho2.2 hn (K := fun v _ => v = .bool true) fun _ => rfl)).mono fun e W' ⟨he, bel⟩ => ?_
  subst he
  exact ⟨_, rfl, _, _, _, [], _, [], hW', trodAll_mk1 (shut_bool Try.underlying4 _), (trodAll_cons_mk (Below.trod laidOut (by kernel_rfl) (of_decide_eq_true (by kernel_rfl)) h0 bel lt0) (trodAll_cons_mk (Below.trod laidOut (by kernel_rfl) (of_decide_eq_true (by kernel_rfl)) h1 bel lt1) (trodAll_cons_mk (Below.trod laidOut (by kernel_rfl) (of_decide_eq_true (by kernel_rfl)) h2 bel lt2) trodAll_mk0))), rfl, bel.frame _, fun h => by cases h⟩
theorem over : Rows.sealOpensRow.holds Try.pinned (OpenSpec.ofChange Rows.sealOpensSpec) :=
  OpenClaim.holds_of_wide 6 Try.f6 rfl rfl rfl rfl rfl rfl rfl ⟨rfl, rfl, rfl, rfl, rfl⟩ rfl rfl rfl rfl rfl (by kernel_rfl) Try.func6 (by kernel_rfl)
    (of_decide_eq_true (by kernel_rfl)) (by unfold Func.isWrapper; first | (rw [if_pos (by decide +kernel)]; kernel_rfl) | (rw [if_neg (by decide +kernel)]; exact ⟨rfl, rfl⟩))
    (fun os started H enc _ => lifted os started H enc)
theorem proved : Rows.SealOpensSaid := over
end sealOpens
/-- The row, under a short name. -/
theorem sealOpens_holds : Rows.SealOpensSaid := sealOpens.proved
end Go.Proofs.Ytnecdbclhdbaoaa
