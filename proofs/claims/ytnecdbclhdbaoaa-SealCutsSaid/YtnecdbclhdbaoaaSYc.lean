/- What a book comes to: a new one, sealing, opening. Conditions: each names its own. -/
import Derived.Test.YtnecdbclhdbaoaaSYb
set_option linter.unusedSimpArgs false
set_option linter.unusedVariables false
set_option maxRecDepth 100000
set_option maxHeartbeats 1000000
namespace Go.Proofs.Ytnecdbclhdbaoaa
open Go Go.SL Go.Pure

/-- The cells of a book's boxes. -/
def BoxCells (R : Hp) : List Value → List Box → Prop
  | [], [] => True
  | vk :: vn :: vb :: vt :: xs, b :: bs => (Rn R .u8 vk b.key ∧ Rn R .u8 vn b.nonce ∧ Rn R .u8 vb b.beside ∧ Rn R .u8 vt b.text) ∧ BoxCells R xs bs
  | _, _ => False
theorem BoxCells.mono {R R' : Hp} (c : Hp.cle R R') : ∀ {xs : List Value} {bs : List Box}, BoxCells R xs bs → BoxCells R' xs bs
  | [], [], _ => trivial
  | _ :: _ :: _ :: _ :: _, _ :: _, h => ⟨⟨h.1.1.mono c, h.1.2.1.mono c, h.1.2.2.1.mono c, h.1.2.2.2.mono c⟩, BoxCells.mono c h.2⟩
  | [], _ :: _, h => h.elim
  | [_], _, h => by cases ‹List Box› <;> exact h.elim
  | [_, _], _, h => by cases ‹List Box› <;> exact h.elim
  | [_, _, _], _, h => by cases ‹List Box› <;> exact h.elim
  | _ :: _ :: _ :: _ :: _, [], h => h.elim
theorem BoxCells.len {R : Hp} : ∀ {xs : List Value} {bs : List Box}, BoxCells R xs bs → xs.length = bs.length * 4
  | [], [], _ => rfl
  | _ :: _ :: _ :: _ :: xs, _ :: bs, h => by have := BoxCells.len h.2; simp only [List.length_cons]; omega
  | [], _ :: _, h => h.elim
  | [_], _, h => by cases ‹List Box› <;> exact h.elim
  | [_, _], _, h => by cases ‹List Box› <;> exact h.elim
  | [_, _, _], _, h => by cases ‹List Box› <;> exact h.elim
  | _ :: _ :: _ :: _ :: _, [], h => h.elim
theorem rn_flat {R : Hp} {k : IntKind} {v : Value} {l : List Nat} (r : Rn R k v l) : flat v = true := by
  obtain ⟨a, c, rfl, _⟩ := r.shape; rfl
theorem BoxCells.flat {R : Hp} : ∀ {xs : List Value} {bs : List Box}, BoxCells R xs bs → ∀ y ∈ xs, SL.flat y = true
  | [], [], _ => by intro y hy; cases hy
  | vk :: vn :: vb :: vt :: xs, _ :: bs, h => by
    intro y hy
    rcases List.mem_cons.1 hy with rfl | hy
    · exact rn_flat h.1.1
    rcases List.mem_cons.1 hy with rfl | hy
    · exact rn_flat h.1.2.1
    rcases List.mem_cons.1 hy with rfl | hy
    · exact rn_flat h.1.2.2.1
    rcases List.mem_cons.1 hy with rfl | hy
    · exact rn_flat h.1.2.2.2
    · exact BoxCells.flat h.2 y hy
  | [], _ :: _, h => h.elim
  | [_], _, h => by cases ‹List Box› <;> exact h.elim
  | [_, _], _, h => by cases ‹List Box› <;> exact h.elim
  | [_, _, _], _, h => by cases ‹List Box› <;> exact h.elim
  | _ :: _ :: _ :: _ :: _, [], h => h.elim
theorem BoxCells.snoc {R : Hp} {vk vn vb vt : Value} {b : Box} (hb : Rn R .u8 vk b.key ∧ Rn R .u8 vn b.nonce ∧ Rn R .u8 vb b.beside ∧ Rn R .u8 vt b.text) :
    ∀ {xs : List Value} {bs : List Box}, BoxCells R xs bs → BoxCells R (xs ++ [vk, vn, vb, vt]) (bs ++ [b])
  | [], [], _ => ⟨hb, trivial⟩
  | _ :: _ :: _ :: _ :: _, _ :: _, h => ⟨h.1, BoxCells.snoc hb h.2⟩
  | [], _ :: _, h => h.elim
  | [_], _, h => by cases ‹List Box› <;> exact h.elim
  | [_, _], _, h => by cases ‹List Box› <;> exact h.elim
  | [_, _, _], _, h => by cases ‹List Box› <;> exact h.elim
  | _ :: _ :: _ :: _ :: _, [], h => h.elim
theorem BoxCells.get {R : Hp} : ∀ {xs : List Value} {bs : List Box} (i : Nat) {b : Box}, BoxCells R xs bs → bs[i]? = some b →
    ∃ vk vn vb vt, (∀ (j : Nat) (x : Value), [vk, vn, vb, vt][j]? = some x → xs[i * 4 + j]? = some x) ∧ Rn R .u8 vk b.key ∧ Rn R .u8 vn b.nonce ∧ Rn R .u8 vb b.beside ∧ Rn R .u8 vt b.text
  | [], [], i, b, _, hb => by simp at hb
  | vk :: vn :: vb :: vt :: xs, _ :: bs, 0, b, h, hb => by
    simp only [List.getElem?_cons_zero, Option.some.injEq] at hb
    subst hb
    refine ⟨vk, vn, vb, vt, fun j x e => ?_, h.1⟩
    match j, e with
    | 0, e => simpa using e
    | 1, e => simpa using e
    | 2, e => simpa using e
    | 3, e => simpa using e
    | j + 4, e => simp at e
  | vk :: vn :: vb :: vt :: xs, _ :: bs, i + 1, b, h, hb => by
    obtain ⟨wk, wn, wb, wt, q, r⟩ := BoxCells.get i h.2 (by simpa using hb)
    refine ⟨wk, wn, wb, wt, fun j x e => ?_, r⟩
    have := q j x e
    rw [show (i + 1) * 4 + j = (i * 4 + j) + 1 + 1 + 1 + 1 by omega]
    simpa using this
  | [], _ :: _, _, _, h, _ => h.elim
  | [_], _, _, _, h, _ => by cases ‹List Box› <;> exact h.elim
  | [_, _], _, _, _, h, _ => by cases ‹List Box› <;> exact h.elim
  | [_, _, _], _, _, _, h, _ => by cases ‹List Box› <;> exact h.elim
  | _ :: _ :: _ :: _ :: _, [], _, _, h, _ => h.elim

/-- A book's texts, in their map. -/
def TextsOf (es : Array MapEntry) (ts : List (List Nat)) : Prop :=
  es.size = ts.length ∧ strKeys es.toList ∧ ts.Nodup ∧ (∀ t ∈ ts, Bytes t) ∧ ∀ t, Bytes t → (mget es.toList (strL t)) = (ts.idxOf? t).map fun (i : Nat) => (i, Value.int .i64 (i : Int))
/-- A book's boxes, in their row. -/
def BoxesAt (R h : Hp) (bx : Value) (bs : List Box) (Sb : List Nat) : Prop :=
  (bx = .slice none 0 0 ∧ bs = [] ∧ Sb = []) ∨
  ∃ b c f xs, bx = .slice (some ⟨b, 0, none⟩) bs.length c ∧ bs.length ≤ c ∧ h b = some (.row t_crypt_sealed xs (c * 4) (some f)) ∧ (∀ i, i < c * 4 → ¬ (f.1 ≤ i ∧ i < f.2)) ∧ BoxCells R xs bs ∧ Sb = [b]
def BookAt (R h : Hp) (p : Nat) (ts : List (List Nat)) (bs : List Box) (S : List Nat) : Prop :=
  ∃ r bx es c Sb, h p = some (.row t_crypt_book [.map (some r), bx] 2 (some (0, 0))) ∧ h r = some (.obj (.map es c)) ∧ TextsOf es ts ∧ BoxesAt R h bx bs Sb ∧ S = p :: r :: Sb ∧ p ≠ r ∧ p ∉ Sb ∧ r ∉ Sb ∧ ∀ b ∈ bs, Bytes b.key ∧ Bytes b.nonce ∧ Bytes b.beside ∧ Bytes b.text
theorem BoxesAt.keep {R R' h h' : Hp} {bx : Value} {bs : List Box} {Sb : List Nat} (a : BoxesAt R h bx bs Sb) (e : Hp.ext R R') (k : ∀ b, b ∈ Sb → h' b = h b) : BoxesAt R' h' bx bs Sb := by
  rcases a with a | ⟨b, c, f, xs, h1, h2, h3, h4, h5, h6⟩
  · exact .inl a
  · exact .inr ⟨b, c, f, xs, h1, h2, by rw [k b (by rw [h6]; exact List.mem_singleton.2 rfl)]; exact h3, h4, h5.mono e.cle, h6⟩
theorem BookAt.keep {R R' h h' : Hp} {p : Nat} {ts : List (List Nat)} {bs : List Box} {S : List Nat} (a : BookAt R h p ts bs S) (e : Hp.ext R R') (k : ∀ b, b ∈ S → h' b = h b) : BookAt R' h' p ts bs S := by
  obtain ⟨r, bx, es, c, Sb, h1, h2, h3, h4, rfl, h6⟩ := a
  exact ⟨r, bx, es, c, Sb, by rw [k p (by simp)]; exact h1, by rw [k r (by simp)]; exact h2, h3, h4.keep e fun b hb => k b (by simp [hb]), rfl, h6⟩

theorem bf0 {h : Hp} {K : Value → Prop} (r : Nat) : q P h (Instr.fieldAt t_crypt_book (.pointer (some ⟨r, 0, none⟩)) 0) K = K (.pointer (some ⟨r, 0, none⟩)) := q_of (by kernel_rfl) K
theorem bf1 {h : Hp} {K : Value → Prop} (r : Nat) : q P h (Instr.fieldAt t_crypt_book (.pointer (some ⟨r, 0, none⟩)) 1) K = K (.pointer (some ⟨r, 1, none⟩)) := q_of (by kernel_rfl) K
theorem pbf1 {h : Hp} (r : Nat) : peek P h (Instr.fieldAt t_crypt_book (.pointer (some ⟨r, 0, none⟩)) 1) = some (.pointer (some ⟨r, 1, none⟩)) := by kernel_rfl
theorem sf0 {h : Hp} {K : Value → Prop} (r : Nat) : q P h (Instr.fieldAt t_crypt_sealed (.pointer (some ⟨r, 0, none⟩)) 0) K = K (.pointer (some ⟨r, 0, none⟩)) := q_of (by kernel_rfl) K
theorem sf1 {h : Hp} {K : Value → Prop} (r : Nat) : q P h (Instr.fieldAt t_crypt_sealed (.pointer (some ⟨r, 0, none⟩)) 1) K = K (.pointer (some ⟨r, 1, none⟩)) := q_of (by kernel_rfl) K
theorem sf2 {h : Hp} {K : Value → Prop} (r : Nat) : q P h (Instr.fieldAt t_crypt_sealed (.pointer (some ⟨r, 0, none⟩)) 2) K = K (.pointer (some ⟨r, 2, none⟩)) := q_of (by kernel_rfl) K
theorem sf3 {h : Hp} {K : Value → Prop} (r : Nat) : q P h (Instr.fieldAt t_crypt_sealed (.pointer (some ⟨r, 0, none⟩)) 3) K = K (.pointer (some ⟨r, 3, none⟩)) := q_of (by kernel_rfl) K
theorem bldSealed {h : Hp} {K : Value → Prop} (a b c d : Option Addr) (n1 n2 n3 n4 c1 c2 c3 c4 : Nat) : q P h (Instr.build t_crypt_sealed #[(0, .slice a n1 c1), (1, .slice b n2 c2), (2, .slice c n3 c3), (3, .slice d n4 c4)]) K = K (.agg #[.slice a n1 c1, .slice b n2 c2, .slice c n3 c3, .slice d n4 c4]) := q_of (by kernel_rfl) K
theorem bldBook {h : Hp} {K : Value → Prop} (r : Nat) : q P h (Instr.build t_crypt_book #[(0, .map (some r))]) K = K (.agg #[.map (some r), .slice none 0 0]) := q_of (by kernel_rfl) K
abbrev nil4 : List Value := [.slice none 0 0, .slice none 0 0, .slice none 0 0, .slice none 0 0]
theorem zr_sealed : zr P t_crypt_sealed = some (.agg nil4.toArray) := by kernel_rfl
theorem nfo_sealed : (P.info? t_crypt_sealed).map (fun i => (i.zero, i.size, i.bytes)) = some (some (.agg nil4.toArray), 4, 96) := by kernel_rfl
theorem sz_sealed : sz P t_crypt_sealed = some 4 := by kernel_rfl
theorem lenBoxes {R h H : Hp} {bx : Value} {bs : List Box} {Sb : List Nat} {K : Value → Prop} (a : BoxesAt R h bx bs Sb) : q P H (Builtin.len_ #[t_Sl_crypt_sealed] t_int #[bx]) K = K (.int .i64 bs.length) := by
  rcases a with ⟨rfl, rfl, _⟩ | ⟨b, c, f, xs, rfl, _⟩
  · exact q_lenS u_Sl_crypt_sealed none 0 0
  · exact q_lenS u_Sl_crypt_sealed (some ⟨b, 0, none⟩) bs.length c

section
variable {h : Hp} {K : Value → Hp → Prop}
theorem T_Book {R : Hp} {S : List Nat} (w : Own R h S) (k : ∀ p h' S', BookAt R h' p [] [] S' → Own R h' S' → Stp R h R h' S S → (∀ b ∈ S', b ∉ S) → K (.iface t_Pt_crypt_book (.pointer (some ⟨p, 0, none⟩))) h') : Cn P n_crypt_Book #[] h K := by
  refine F_crypt_Book ?_
  unfold s_crypt_Book
  refine aw_makeMap fun r hr => ?_
  rw [bldBook]
  refine aw_box fun p hp => ?_
  rw [q_mkI u_Pt_crypt_book rfl]
  have hpr : p ≠ r := by rintro rfl; rw [Hp.set_same] at hp; cases hp
  have hp0 : h p = none := by rwa [Hp.set_ne _ _ hpr] at hp
  have hE : (Value.agg #[.map (some r), .slice none 0 0]).cells.toList = [.map (some r), .slice none 0 0] := rfl
  have hS : (Value.agg #[.map (some r), .slice none 0 0]).cells.size = 2 := rfl
  rw [hE, hS]
  have kp : ∀ x o, h x = some o → ((h.set r (.obj (.map #[] 0))).set p (.row t_crypt_book [.map (some r), .slice none 0 0] 2 (some (0, 0)))) x = some o := fun x o e => by
    rw [Hp.set_ne _ _ (by rintro rfl; rw [hp0] at e; cases e), Hp.set_ne _ _ (by rintro rfl; rw [hr] at e; cases e)]; exact e
  refine k p _ [p, r] ⟨r, .slice none 0 0, #[], 0, [], Hp.set_same .., ?_, ⟨rfl, (by intro e he; simp at he), List.nodup_nil, (by intro t ht; cases ht), fun t _ => rfl⟩, .inl ⟨rfl, rfl, rfl⟩, rfl, hpr, (by simp), (by simp), (by intro b hb; cases hb)⟩ ⟨fun x o e => kp x o (w.sub x o e), fun b hb => ?_, fun b hb => ?_⟩
    ⟨.refl _, fun x o _ e => kp x o e, fun x o hn _ => hn, fun x o _ _ e => e, ⟨fun x o e => kp x o (w.sub x o e), w.dis, fun b hb => let ⟨o, e⟩ := w.kn b hb; ⟨o, kp b o e⟩⟩⟩ fun b hb hbS => ?_
  · rw [Hp.set_ne _ _ (Ne.symm hpr), Hp.set_same]
  · simp only [List.mem_cons, List.not_mem_nil, or_false] at hb
    rcases hb with rfl | rfl
    · exact w.sub.none hp0
    · exact w.sub.none hr
  · simp only [List.mem_cons, List.not_mem_nil, or_false] at hb
    rcases hb with rfl | rfl
    · exact ⟨_, Hp.set_same ..⟩
    · exact ⟨_, by rw [Hp.set_ne _ _ (Ne.symm hpr), Hp.set_same]⟩
  · simp only [List.mem_cons, List.not_mem_nil, or_false] at hb
    obtain ⟨o, e⟩ := w.kn b hbS
    rcases hb with rfl | rfl
    · rw [hp0] at e; cases e
    · rw [hr] at e; cases e
end
end Go.Proofs.Ytnecdbclhdbaoaa
