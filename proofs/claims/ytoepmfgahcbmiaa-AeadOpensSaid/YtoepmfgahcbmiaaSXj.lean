/- What the reference's rest comes to. Conditions: each names its own. -/
import Derived.Test.YtoepmfgahcbmiaaSXi
import Derived.Test.YtoepmfgahcbmiaaSPh
set_option linter.unusedSimpArgs false
set_option linter.unusedVariables false
set_option maxRecDepth 100000
set_option maxHeartbeats 2000000
namespace Go.Proofs.Ytoepmfgahcbmiaa
open Go Go.SL Go.Pure

theorem pk_slHiI {h : Hp} (a : Option Addr) (n c hi : Nat) (h1 : hi ≤ c) : peek P h (Instr.sliceAt t_Sl_int (.slice a n c) none (some (.int .i64 hi)) none) = some (.slice (SL.cut a c 0 1) hi c) := by
  obtain ⟨x, hx, e⟩ := withVal_elim (K := fun x => x = .slice (SL.cut a c 0 1) hi c) ((q_slHi (P := P) (h := h) (K := fun x => x = .slice (SL.cut a c 0 1) hi c) u_Sl_int z_int a n c .i64 hi h1).mpr rfl)
  rw [e] at hx
  exact hx
theorem rn_hiI {h : Hp} {a : Option Addr} {c hi : Nat} {l : List Nat} (r : Rn h .i64 (.slice a l.length c) l) (h1 : hi ≤ l.length) : Rn h .i64 (.slice (SL.cut a c 0 1) hi c) (l.take hi) := by
  have := r.cut 0 hi (Nat.zero_le _) h1
  simpa using this
theorem pk_ld3 {h : Hp} {a : Addr} {v : Value} (e : h.cell a = some v) : peek P h (Instr.loadAt 3 (.pointer (some a))) = some v := by
  obtain ⟨x, hx, e⟩ := withVal_elim (K := fun x => x = v) ((q_ld (P := P) (h := h) (K := fun x => x = v) u_int rfl a).mpr (by rw [e]; rfl))
  rw [e] at hx
  exact hx

section
variable {h : Hp} {K : Value → Hp → Prop}
/-- The row of the first 16 and the rest of the 17th, in each order in which it may be made. -/
theorem T_low {H0 : Hp} {a : Option Addr} {c : Nat} {A : List Nat} (b o : Nat) (x : Nat) (hA : Rn H0 .i64 (.slice a A.length c) A) (l16 : 16 ≤ A.length) (hx : H0.cell ⟨b, o, none⟩ = some (.int .i64 (x : Int)))
    (J : Value → Hp → Prop) (fin : ∀ B t63 h', Hp.le H0 B → Hp.cle H0 B → New B t_int 1 t63 h' (nv .i64 (A.take 16 ++ [x % 4])) 17 → J t63 h') :
    (aw P (Instr.buildSlice 45 0 #[]) (fun t54 h => peek P h (Instr.loadAt 3 (.pointer (some ⟨b, o, none⟩))) = some (.int .i64 (x : Int)) ∧ peek P h (Instr.sliceAt 45 (.slice a A.length c) none (some (Value.int .i64 16)) none) = some (.slice (SL.cut a c 0 1) 16 c) ∧ (aw P (Builtin.append_ #[45, 45] 45 #[t54, (.slice (SL.cut a c 0 1) 16 c)]) (fun t57 h => peek P h (Instr.loadAt 3 (.pointer (some ⟨b, o, none⟩))) = some (.int .i64 (x : Int)) ∧ aw P (Instr.buildSlice 45 1 #[(0, .int .i64 ((x % 4 : Nat) : Int))]) (fun t62 h => aw P (Builtin.append_ #[45, 45] 45 #[t57, t62]) (fun t63 h => J t63 h) h) h) h) ∧ (aw P (Instr.buildSlice 45 1 #[(0, .int .i64 ((x % 4 : Nat) : Int))]) (fun t62 h => peek P h (Instr.sliceAt 45 (.slice a A.length c) none (some (Value.int .i64 16)) none) = some (.slice (SL.cut a c 0 1) 16 c) ∧ aw P (Builtin.append_ #[45, 45] 45 #[t54, (.slice (SL.cut a c 0 1) 16 c)]) (fun t57 h => aw P (Builtin.append_ #[45, 45] 45 #[t57, t62]) (fun t63 h => J t63 h) h) h) h)) H0) ∧ (aw P (Instr.buildSlice 45 1 #[(0, .int .i64 ((x % 4 : Nat) : Int))]) (fun t62 h => peek P h (Instr.sliceAt 45 (.slice a A.length c) none (some (Value.int .i64 16)) none) = some (.slice (SL.cut a c 0 1) 16 c) ∧ aw P (Instr.buildSlice 45 0 #[]) (fun t54 h => peek P h (Instr.sliceAt 45 (.slice a A.length c) none (some (Value.int .i64 16)) none) = some (.slice (SL.cut a c 0 1) 16 c) ∧ aw P (Builtin.append_ #[45, 45] 45 #[t54, (.slice (SL.cut a c 0 1) 16 c)]) (fun t57 h => aw P (Builtin.append_ #[45, 45] 45 #[t57, t62]) (fun t63 h => J t63 h) h) h) h) H0) := by
  have hc : A.length ≤ c := by
    obtain ⟨a', c', e, hc⟩ := hA.shape
    simp only [Value.slice.injEq] at e
    omega
  have h16 : Rn H0 .i64 (.slice (SL.cut a c 0 1) 16 c) (A.take 16) := rn_hiI hA l16
  have r16 : Rds H0 1 (.slice (SL.cut a c 0 1) 16 c) (nv .i64 (A.take 16)) 16 := by
    have := h16
    unfold Rn at this
    rwa [List.length_take, Nat.min_eq_left l16] at this
  have ps : ∀ H, peek P H (Instr.sliceAt 45 (.slice a A.length c) none (some (Value.int .i64 16)) none) = some (.slice (SL.cut a c 0 1) 16 c) := fun H => pk_slHiI a _ c 16 (by omega)
  have pl : ∀ H, Hp.cle H0 H → peek P H (Instr.loadAt 3 (.pointer (some ⟨b, o, none⟩))) = some (.int .i64 (x : Int)) := fun H cl => pk_ld3 (cl _ _ hx)
  have nil0 : ∀ (H : Hp) (K : Value → Hp → Prop), (∀ v h', New H t_int 1 v h' [] 0 → K v h') → aw P (Instr.buildSlice 45 0 #[]) K H := fun H K k =>
    aw_lit (n := 0) (ps := []) u_Sl_int z_int zr_int rfl (by omega) (by intro p hp; cases hp) fun v h' n _ => k v h' (by simpa [fillL] using n)
  have one : ∀ (H : Hp) (K : Value → Hp → Prop), (∀ v h', New H t_int 1 v h' (nv .i64 [x % 4]) 1 → (∃ r f, H r = none ∧ h' = H.set r f) → K v h') → aw P (Instr.buildSlice 45 1 #[(0, .int .i64 ((x % 4 : Nat) : Int))]) K H := fun H K k =>
    aw_lit (n := 1) (ps := [(0, _)]) u_Sl_int z_int zr_int rfl (by omega) (by intro p hp; rw [List.mem_singleton.1 hp]; exact ⟨rfl, by omega⟩) fun v h' n ⟨r, hr, _, hh⟩ => k v h' (by simpa [fillL, nv] using n) ⟨r, _, hr, hh⟩
  have app1 : ∀ (B H : Hp) (v : Value) (K : Value → Hp → Prop), Hp.cle H0 H → New B t_int 1 v H [] 0 → (∀ v' h', New B t_int 1 v' h' (nv .i64 (A.take 16)) 16 → K v' h') → aw P (Builtin.append_ #[45, 45] 45 #[v, (.slice (SL.cut a c 0 1) 16 c)]) K H := fun B H v K cl n k =>
    aw_append u_Sl_int u_Sl_int nfo_int rfl (by omega) n (r16.mono cl) (nv_flat _ _) (by omega) (.refl _) fun v' h' n' => k v' h' (by simpa using n')
  have app2 : ∀ (B H : Hp) (v w : Value), Hp.le H0 B → Hp.cle H0 B → New B t_int 1 v H (nv .i64 (A.take 16)) 16 → Rds H 1 w (nv .i64 [x % 4]) 1 → aw P (Builtin.append_ #[45, 45] 45 #[v, w]) (fun t63 h => J t63 h) H := fun B H v w l0 c0 n hw =>
    aw_append u_Sl_int u_Sl_int nfo_int rfl (by omega) n hw (nv_flat _ _) (by omega) (.refl _) fun v' h' n' => fin B v' h' l0 c0 (by rw [nv_app]; exact n')
  refine ⟨nil0 _ _ fun t54 h1 n1 => ⟨pl _ n1.cle, ps _, app1 _ _ _ _ n1.cle n1 fun t57 h2 n2 => ⟨pl _ n2.cle, one _ _ fun t62 h3 n3 _ => ?_⟩, one _ _ fun t62 h2 n2 ⟨r, f, hr, hh⟩ => ⟨ps _, ?_⟩⟩, one _ _ fun t62 h1 n1 ⟨r, f, hr, hh⟩ => ⟨ps _, nil0 _ _ fun t54 h2 n2 => ⟨ps _, app1 _ _ _ _ (n1.cle.trans n2.cle) n2 fun t57 h3 n3 => ?_⟩⟩⟩
  · exact aw_appendN u_Sl_int u_Sl_int nfo_int rfl (by omega) n2 n3 (nv_flat _ _) (by omega) fun v' h' n' => fin H0 v' h' (.refl _) (.refl _) (by rw [nv_app]; exact n')
  · have hr0 : H0 r = none := n1.noneAt hr
    have n1' := n1.add hr f
    rw [← hh] at n1'
    have rw' : Rds h2 1 t62 (nv .i64 [x % 4]) 1 := n2.rds
    have base : Rds (H0.set r f) 1 t62 (nv .i64 [x % 4]) 1 := by
      rcases n2.2 with ⟨_, h0, _⟩ | ⟨b', c', f', hb', hc', hv', hh', _⟩
      · omega
      · have : b' = r := by
          rcases Nat.lt_trichotomy b' r with q | q | q
          · have e1 : h2 b' = h1 b' := by rw [hh, Hp.set_ne _ _ (by omega)]
            rw [hh', Hp.set_same, hb'] at e1; cases e1
          · exact q
          · have e1 : h2 b' = h1 b' := by rw [hh, Hp.set_ne _ _ (by omega)]
            rw [hh', Hp.set_same, hb'] at e1; cases e1
        subst this
        have ef : f = .row t_int (nv .i64 [x % 4]) (c' * 1) (some f') := by
          have := congrFun hh b'
          rw [hh', Hp.set_same, Hp.set_same] at this
          cases this; rfl
        subst ef
        exact New.rds ⟨n2.1, .inr ⟨b', c', f', hr0, hc', hv', rfl, by assumption⟩⟩
    refine app1 _ _ _ _ (n1.cle.trans n2.cle) n1' fun t57 h3 n3 => ?_
    exact app2 _ _ _ _ (le_fresh hr0) (cle_set r f hr0) n3 (base.mono n3.cle)
  · subst hh
    exact app2 _ _ _ _ (le_fresh hr) (cle_set r f hr) n3 ((n1.rds.mono n2.cle).mono (by
      have := n3.cle
      intro p v hp
      rcases n2.2 with ⟨_, _, e⟩ | ⟨b', c', f', hb', hc', hv', hh', hfz⟩
      · subst e; exact this p v hp
      · rcases n3.2 with ⟨_, h0, _⟩ | ⟨b3, c3, f3, hb3, hc3, hv3, hh3, _⟩
        · omega
        · subst hh' hh3
          unfold Hp.cell at hp ⊢
          split at hp
          · cases hp
          · rename_i hsp
            rw [if_neg hsp]
            by_cases e1 : p.block = b'
            · rw [e1, Hp.set_same] at hp
              simp at hp
            · rw [Hp.set_ne _ _ e1] at hp
              have e3 : p.block ≠ b3 := by
                rintro e3
                rw [e3] at hp
                rw [hb3] at hp
                cases hp
              rw [Hp.set_ne _ _ e3]
              exact hp))
end
end Go.Proofs.Ytoepmfgahcbmiaa
