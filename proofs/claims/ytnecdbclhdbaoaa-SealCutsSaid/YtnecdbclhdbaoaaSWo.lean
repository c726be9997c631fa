/- Bytes as texts; tests. Conditions: each names its own. -/
import Derived.Test.YtnecdbclhdbaoaaSWj
set_option linter.unusedSimpArgs false
set_option linter.unusedVariables false
set_option maxRecDepth 100000
namespace Go.Proofs.Ytnecdbclhdbaoaa
open Go Go.SL Go.Pure

def strL (l : List Nat) : ByteArray := l.foldl (fun s x => s.push (UInt8.ofNat x)) ByteArray.empty
theorem q_str {h : Hp} {K : Value → Prop} {v : Value} {l : List Nat} (hv : Rn h .u8 v l) : q P h (convert t_Sl_uint8 t_string v) K = K (.string (strL l)) := q_of (by
  obtain ⟨hl, a, c, rfl, hc, hr⟩ := hv
  show peek P h (Sem.bind (underlying t_Sl_uint8) _) = _
  rw [peek_bind, pk_und u_Sl_uint8, Option.bind_some]
  show peek P h (Sem.bind (underlying t_string) _) = _
  rw [peek_bind, pk_und u_string, Option.bind_some]
  show peek P h (Sem.bind (underlying t_uint8) _) = _
  rw [peek_bind, pk_und u_uint8, Option.bind_some]
  show peek P h (Conv.bytesToString _) = _
  rcases hr with h0 | ⟨b, o, rfl, hy⟩
  · rw [List.eq_nil_of_length_eq_zero h0]
    cases a <;> rfl
  · unfold Conv.bytesToString
    show peek P h (Sem.bind (loadCellsFrom ⟨b, o, none⟩ 0 l.length #[]) _) = _
    have := pk_loadCells (P := P) (h := h) (b := b) (o := o) (nv .u8 l) 0 #[] (fun j x e => by simpa using hy j x e)
    rw [nv_len] at this
    rw [peek_bind, this, Option.bind_some]
    have key : ∀ (l : List Nat) (s : ByteArray), peek P h (forIn (nv .u8 l) s fun c r => (match c with
        | .int .u8 n => Sem.pure (ForInStep.yield (r.push (UInt8.ofNat n.toNat)))
        | _ => stuck "bytesToString: byte expected" : Sem (ForInStep ByteArray))) = some (l.foldl (fun s x => s.push (UInt8.ofNat x)) s) := by
      intro l
      induction l with
      | nil => intro s; rfl
      | cons x l ih =>
        intro s
        rw [nv_cons, List.forIn_cons]
        exact ih _
    have e0 : (#[] ++ (nv .u8 l).toArray) = (nv .u8 l).toArray := by simp
    rw [e0]
    show peek P h (Sem.bind (forIn (nv .u8 l).toArray ByteArray.empty _) _) = _
    rw [List.forIn_toArray, peek_bind]
    refine (congrArg (fun x => Option.bind x _) (key l ByteArray.empty)).trans ?_
    rfl) K
theorem q_eqlS {h : Hp} {K : Value → Prop} (x y : Operand) (a b : ByteArray) : q P h (eqop .eql t_string x y (.string a) (.string b)) K = K (.bool (a.toList == b.toList)) := q_of (by
  unfold eqop
  rw [peek_bind]
  have : peek P h (eqGuard .eql t_string x y (.string a) (.string b)) = some () := rfl
  rw [this, Option.bind_some]
  simp only [binOp, Op.stringOp]; rfl) K
/-- Bytes as bytes: nothing moves, but what stands behind the block may not be written. -/
theorem aw_mark {h : Hp} {b n : Nat} {xs : List Value} {K : Value → Hp → Prop} (hb : h b = none) (hx : xs.length = n) (k : ∀ h'', New h t_uint8 1 (.slice (some ⟨b, 0, none⟩) n n) h'' xs n → K (.slice (some ⟨b, 0, none⟩) n n) h'') :
    aw P (convert t_Sl_uint8 t_Sl_uint8 (.slice (some ⟨b, 0, none⟩) n n)) K (h.set b (.row t_uint8 xs n (some (0, 0)))) := by
  refine aw_of ?_
  show awp P (Sem.bind (underlying t_Sl_uint8) _) K _
  rw [awp_bind, peek_awp P _ _ _ (pk_und u_Sl_uint8)]
  show awp P (Sem.bind (underlying t_Sl_uint8) _) K _
  rw [awp_bind, peek_awp P _ _ _ (pk_und u_Sl_uint8)]
  show awp P (Sem.bind (underlying t_uint8) _) K _
  rw [awp_bind, peek_awp P _ _ _ (pk_und u_uint8)]
  show awp P (Sem.bind (markStringish ⟨b, 0, none⟩) _) K _
  rw [awp_bind]
  show awp P (Sem.bind (shape b) _) _ _
  rw [awp_bind]
  have hs : (h.set b (.row t_uint8 xs n (some (0, 0)))).shape b = some (some (t_uint8, n)) := by simp [Hp.shape]
  have : peek P (h.set b (.row t_uint8 xs n (some (0, 0)))) (shape b) = some (some (t_uint8, n)) := by
    unfold shape
    simp only [peek, hs]
  rw [peek_awp P _ _ _ this]
  show awp P (freeze ⟨b, n, none⟩ 1) _ _
  have hfz : (h.set b (.row t_uint8 xs n (some (0, 0)))).freeze ⟨b, n, none⟩ 1 = some (h.set b (.row t_uint8 xs n (some (n, n + 1)))) := by simp [Hp.freeze, Hp.set_set, frz]
  simp only [awp, freeze, hfz]
  refine k _ ⟨by rw [Nat.mul_one]; exact hx, .inr ⟨b, n, (n, n + 1), hb, Nat.le_refl _, rfl, by rw [Nat.mul_one], fun i hi => by omega⟩⟩

theorem dec_and {p q : Prop} [Decidable p] [Decidable q] {X Y : Prop} : (if decide p = true then (if decide q = true then X else Y) else Y) = (if decide (p ∧ q) = true then X else Y) := by
  by_cases hp : p <;> by_cases hq : q <;> simp [hp, hq]
theorem ne_dec (a n : Nat) : (((a : Nat) : Int) != ((n : Nat) : Int)) = decide (a ≠ n) := by
  rw [Bool.eq_iff_iff, bne_iff_ne, decide_eq_true_eq]; omega
end Go.Proofs.Ytnecdbclhdbaoaa
