/- Answers that are fixed. Conditions: each names its own. -/
import Derived.Test.YtoepmfgahcbmiaaSWj
set_option linter.unusedSimpArgs false
set_option linter.unusedVariables false
set_option maxRecDepth 100000
namespace Go.Proofs.Ytoepmfgahcbmiaa
open Go Go.SL Go.Pure

def strL (l : List Nat) : ByteArray := l.foldl (fun s x => s.push (UInt8.ofNat x)) ByteArray.empty
theorem q_str {h : Hp} {K : Value → Prop} {v : Value} {l : List Nat} (hv : Rn h .u8 v l) : q P h (convert t_Sl_uint8 t_string v) K = K (.string (strL l)) := q_of (by
  obtain ⟨hl, a, c, rfl, hc, hr⟩ := hv
  show peek P h (Sem.bind (underlying t_Sl_uint8) _) = _
  rw [peek_bind, pk_und u_Sl_uint8, Option.bind_some]
  show peek P h (Sem.bind (underlying t_string) _) = _
  rw [peek_bind, pk_und u_string, Option.bind_some]
  show peek P h (Sem.bind (underlying t_uint8) _) = _
  rw [peek_bind, pk_und u_uint8, Option.bind_some]
  show peek P h (Conv.bytesToString _) = _
  rcases hr with h0 | ⟨b, o, rfl, hy⟩
  · rw [List.eq_nil_of_length_eq_zero h0]
    cases a <;> rfl
  · unfold Conv.bytesToString
    show peek P h (Sem.bind (loadCellsFrom ⟨b, o, none⟩ 0 l.length #[]) _) = _
    have := pk_loadCells (P := P) (h := h) (b := b) (o := o) (nv .u8 l) 0 #[] (fun j x e => by simpa using hy j x e)
    rw [nv_len] at this
    rw [peek_bind, this, Option.bind_some]
    have key : ∀ (l : List Nat) (s : ByteArray), peek P h (forIn (nv .u8 l) s fun c r => (match c with
        | .int .u8 n => Sem.pure (ForInStep.yield (r.push (UInt8.ofNat n.toNat)))
        | _ => stuck "bytesToString: byte expected" : Sem (ForInStep ByteArray))) = some (l.foldl (fun s x => s.push (UInt8.ofNat x)) s) := by
      intro l
      induction l with
      | nil => intro s; rfl
      | cons x l ih =>
        intro s
        rw [nv_cons, List.forIn_cons]
        exact ih _
    have e0 : (#[] ++ (nv .u8 l).toArray) = (nv .u8 l).toArray := by simp
    rw [e0]
    show peek P h (Sem.bind (forIn (nv .u8 l).toArray ByteArray.empty _) _) = _
    rw [List.forIn_toArray, peek_bind]
    refine (congrArg (fun x => Option.bind x _) (key l ByteArray.empty)).trans ?_
    rfl) K
theorem q_eqlS {h : Hp} {K : Value → Prop} (x y : Operand) (a b : ByteArray) : q P h (eqop .eql t_string x y (.string a) (.string b)) K = K (.bool (a.toList == b.toList)) := q_of (by
  unfold eqop
  rw [peek_bind]
  have : peek P h (eqGuard .eql t_string x y (.string a) (.string b)) = some () := rfl
  rw [this, Option.bind_some]
  simp only [binOp, Op.stringOp]; rfl) K
/-- Bytes as bytes: nothing moves, but what stands behind the block may not be written. -/
theorem aw_mark {h : Hp} {b n : Nat} {xs : List Value} {K : Value → Hp → Prop} (hb : h b = none) (hx : xs.length = n) (k : ∀ h'', New h t_uint8 1 (.slice (some ⟨b, 0, none⟩) n n) h'' xs n → K (.slice (some ⟨b, 0, none⟩) n n) h'') :
    aw P (convert t_Sl_uint8 t_Sl_uint8 (.slice (some ⟨b, 0, none⟩) n n)) K (h.set b (.row t_uint8 xs n (some (0, 0)))) := by
  refine aw_of ?_
  show awp P (Sem.bind (underlying t_Sl_uint8) _) K _
  rw [awp_bind, peek_awp P _ _ _ (pk_und u_Sl_uint8)]
  show awp P (Sem.bind (underlying t_Sl_uint8) _) K _
  rw [awp_bind, peek_awp P _ _ _ (pk_und u_Sl_uint8)]
  show awp P (Sem.bind (underlying t_uint8) _) K _
  rw [awp_bind, peek_awp P _ _ _ (pk_und u_uint8)]
  show awp P (Sem.bind (markStringish ⟨b, 0, none⟩) _) K _
  rw [awp_bind]
  show awp P (Sem.bind (shape b) _) _ _
  rw [awp_bind]
  have hs : (h.set b (.row t_uint8 xs n (some (0, 0)))).shape b = some (some (t_uint8, n)) := by simp [Hp.shape]
  have : peek P (h.set b (.row t_uint8 xs n (some (0, 0)))) (shape b) = some (some (t_uint8, n)) := by
    unfold shape
    simp only [peek, hs]
  rw [peek_awp P _ _ _ this]
  show awp P (freeze ⟨b, n, none⟩ 1) _ _
  have hfz : (h.set b (.row t_uint8 xs n (some (0, 0)))).freeze ⟨b, n, none⟩ 1 = some (h.set b (.row t_uint8 xs n (some (n, n + 1)))) := by simp [Hp.freeze, Hp.set_set, frz]
  simp only [awp, freeze, hfz]
  refine k _ ⟨by rw [Nat.mul_one]; exact hx, .inr ⟨b, n, (n, n + 1), hb, Nat.le_refl _, rfl, by rw [Nat.mul_one], fun i hi => by omega⟩⟩

def k0 : List Nat := List.replicate 32 0
theorem k0_b : Bytes k0 := fun x hx => by rw [k0, List.mem_replicate] at hx; omega
theorem T_awake {h : Hp} {K : Value → Hp → Prop} (k : K (.bool true) h) : Cn P n_orloplaw06_awake #[] h K := by
  refine Cn_wk (F_orloplaw06_awake ?_)
  unfold s_orloplaw06_awake
  refine aw_make (n := 32) (c := 32) u_Sl_uint8 nfo_uint8 rfl (by omega) (by omega) (by omega) fun v8 h1 n1 => ?_
  rw [replicate_nv] at n1
  have n1' : Nn h t_uint8 .u8 v8 h1 k0 := n1
  have lk : k0.length = 32 := rfl
  have l12 : (k0.take 12).length = 12 := rfl
  have hm : k0.length = 32 ∧ (k0.take 12).length = 12 := ⟨rfl, rfl⟩
  have bk := k0_b
  generalize k0 = key at n1' lk l12 hm bk
  refine q_slRnHi u_Sl_uint8 z_uint8 n1'.rn .i64 12 (by omega) fun v12 r12 => ?_
  refine aw_lit (ps := [(0, _)]) u_Sl_uint8 z_uint8 zr_uint8 rfl (by omega) (by intro p hp; rw [List.mem_singleton.1 hp]; exact ⟨rfl, by show _ < 1; omega⟩) fun x h2 _ hx => ?_
  obtain ⟨rb, hrb, rfl, rfl⟩ := hx
  refine aw_mark hrb rfl fun h3 n3 => ?_
  have n3' : Nn h1 t_uint8 .u8 (.slice (some ⟨rb, 0, none⟩) 1 1) h3 [120] := n3
  have c13 := n3'.cle
  refine T_Seal (n1'.rn.mono c13) (r12.mono c13) (rn_nil h3 .u8) n3'.rn bk (bk.take 12) (by intro y hy; cases hy) (by intro y hy; simp at hy; omega) (by simp) (by simp) fun vS h4 n4 => ?_
  simp only [if_pos hm] at n4 ⊢
  have c14 := c13.trans n4.cle
  rw [ext0, ext1]
  refine q_slRnHi u_Sl_uint8 z_uint8 (n1'.rn.mono c14) .i64 12 (by omega) fun v21 r21 => ?_
  have lS := sealL_len key (key.take 12) [] [120]
  have bS := sealL_bytes key (key.take 12) [] (t := [120]) (by intro y hy; simp at hy; omega)
  have oS := open_seal key (key.take 12) [] [120]
  generalize sealL key (key.take 12) [] [120] = S at n4 lS bS oS
  refine T_Open (n1'.rn.mono c14) r21 (rn_nil h4 .u8) n4.rn bk (bk.take 12) (by intro y hy; cases hy) bS (by simp) (by rw [lS]; simp) fun vO h5 n5 => ?_
  have e0 : openC key (key.take 12) [] S = 0 := by unfold openC; rw [if_pos hm, oS]
  rw [e0, if_pos rfl, oS] at n5
  rw [e0, ext0, ext1]
  have c15 := c14.trans n5.cle
  obtain ⟨a8, c8, hv8, hc8⟩ := (n1'.rn).shape
  subst hv8
  have hsl : ∀ H : Hp, peek P H (Instr.sliceAt 22 (.slice a8 key.length c8) none (some (Value.int .i64 12)) none) = some (.slice (SL.cut a8 c8 0 1) 12 c8) := fun H => pk_slHi a8 key.length c8 12 (by omega)
  have hr12 : Rn h1 .u8 (.slice (SL.cut a8 c8 0 1) 12 c8) (key.take 12) := rn_hi n1'.rn (by omega)
  rw [q_of (hsl _)]
  refine aw_make (n := 15) (c := 15) u_Sl_uint8 nfo_uint8 rfl (by omega) (by omega) (by omega) fun v15 h6 n6 => ?_
  rw [replicate_nv] at n6
  have n6' : Nn h5 t_uint8 .u8 v15 h6 (List.replicate 15 0) := n6
  have c16 := c15.trans n6'.cle
  refine ⟨hsl _, ?_⟩
  refine T_Open (n1'.rn.mono c16) (hr12.mono c16) (rn_nil h6 .u8) n6'.rn bk (bk.take 12) (by intro y hy; cases hy) (by intro y hy; rw [List.mem_replicate] at hy; omega) (by simp) (by simp) fun vP h7 n7 => ?_
  have e8 : openC key (key.take 12) [] (List.replicate 15 0) = 8 := by unfold openC; rw [if_pos hm]; rfl
  rw [e8, if_neg (by omega)] at n7
  obtain ⟨rfl, rfl⟩ := n7
  rw [e8, ext0, ext1]
  obtain ⟨aS, cS, rfl, hcS⟩ := n4.rn.shape
  have eS : ((S.length : Nat) : Int) == 17 := by rw [lS]; rfl
  have n5r : Rn h7 .u8 vO [120] := n5.rn.mono n6'.cle
  have e00 : ((0 : Int) == 0) = true := rfl
  have e0' : ((((0 : Nat) : Int)) == 0) = true := rfl
  have e8' : ((((8 : Nat) : Int)) == 8) = true := rfl
  have es : ((strL [120]).toList == (⟨#[120]⟩ : ByteArray).toList) = true := by rw [show strL [120] = ⟨#[120]⟩ from rfl]; exact beq_self_eq_true _
  simp (disch := omega) only [GL, RL, e00, e0', e8', eS, if_true, q_str n5r, q_eqlS, es]
  exact ⟨h, (((New.le n1').trans (New.le n3')).trans (New.le n4)).trans ((New.le n5).trans (New.le n6')), k⟩
end Go.Proofs.Ytoepmfgahcbmiaa
