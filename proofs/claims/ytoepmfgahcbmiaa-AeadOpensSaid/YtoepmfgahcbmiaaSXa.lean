/- What the reference's stream cipher comes to: the same as the program's. Conditions: each names its own. -/
import Derived.Test.YtoepmfgahcbmiaaSWk
set_option linter.unusedSimpArgs false
set_option linter.unusedVariables false
set_option maxRecDepth 100000
namespace Go.Proofs.Ytoepmfgahcbmiaa
open Go Go.SL Go.Pure

theorem add32 (a b : Nat) : IntKind.u32.wrap ((a : Int) + (b : Int)) = (((a + b) % 4294967296 : Nat) : Int) := by rw [← Int.natCast_add, wu32]
theorem xor32N {a b : Nat} (ha : a < 4294967296) (hb : b < 4294967296) : ixor .u32 (a : Int) (b : Int) = ((a ^^^ b : Nat) : Int) := by
  rw [xor32 (by omega) (by omega) (by omega) (by omega), Int.toNat_natCast, Int.toNat_natCast]
theorem xor32_lt {a b : Nat} (ha : a < 4294967296) (hb : b < 4294967296) : a ^^^ b < 4294967296 := Nat.xor_lt_two_pow (n := 32) ha hb

section
variable {h : Hp} {K : Value → Hp → Prop}
theorem T_ref_rol (x n : Nat) (hx : x < 4294967296) (hn : 0 < n) (hn2 : n < 32) (k : K (.int .u32 ((rotl x n : Nat) : Int)) h) : Cn P n_orlopref04_rol #[.int .u32 x, .int .i64 n] h K := by
  refine F_orlopref04_rol ?_
  unfold s_orlopref04_rol
  simp (disch := omega) only [GL, RL, wu64i, wi64]
  have e1 : min n IntKind.u32.bits = n := by simp only [IntKind.bits]; omega
  have e2 : min ((32 : Int) - n).toNat IntKind.u32.bits = 32 - n := by simp only [IntKind.bits]; omega
  have h1 : x / 2 ^ (32 - n) ≤ x := Nat.div_le_self _ _
  rw [e1, e2, mulp, fdivp, wu32]
  unfold rotl at k
  generalize x / 2 ^ (32 - n) = y at h1 k ⊢
  rw [or32 (by omega) (by omega) (by omega) (by omega)]
  exact k

theorem T_ref_quarter (a b c d : Nat) (ha : a < 4294967296) (hb : b < 4294967296) (hc : c < 4294967296) (hd : d < 4294967296)
    (k : K (.tuple #[.int .u32 ((qr a b c d).1 : Nat), .int .u32 ((qr a b c d).2.1 : Nat), .int .u32 ((qr a b c d).2.2.1 : Nat), .int .u32 ((qr a b c d).2.2.2 : Nat)]) h) : Cn P n_orlopref04_quarter #[.int .u32 a, .int .u32 b, .int .u32 c, .int .u32 d] h K := by
  refine F_orlopref04_quarter ?_
  unfold s_orlopref04_quarter
  unfold qr at k
  dsimp only at k
  have m : ∀ x : Nat, x % 4294967296 < 4294967296 := fun x => Nat.mod_lt _ (by decide)
  simp (disch := omega) only [GL, RL, add32]
  have a1 := m (a + b)
  generalize (a + b) % 4294967296 = A1 at a1 k ⊢
  rw [xor32N hd a1]
  refine T_ref_rol _ 16 (xor32_lt hd a1) (by omega) (by omega) ?_
  have d1 := rotl_lt _ 16 (xor32_lt hd a1)
  generalize rotl (d ^^^ A1) 16 = D1 at d1 k ⊢
  simp (disch := omega) only [GL, RL, add32]
  have c1 := m (c + D1)
  generalize (c + D1) % 4294967296 = C1 at c1 k ⊢
  rw [xor32N hb c1]
  refine T_ref_rol _ 12 (xor32_lt hb c1) (by omega) (by omega) ?_
  have b1 := rotl_lt _ 12 (xor32_lt hb c1)
  generalize rotl (b ^^^ C1) 12 = B1 at b1 k ⊢
  simp (disch := omega) only [GL, RL, add32]
  have a2 := m (A1 + B1)
  generalize (A1 + B1) % 4294967296 = A2 at a2 k ⊢
  rw [xor32N d1 a2]
  refine T_ref_rol _ 8 (xor32_lt d1 a2) (by omega) (by omega) ?_
  have d2 := rotl_lt _ 8 (xor32_lt d1 a2)
  generalize rotl (D1 ^^^ A2) 8 = D2 at d2 k ⊢
  simp (disch := omega) only [GL, RL, add32]
  have c2 := m (C1 + D2)
  generalize (C1 + D2) % 4294967296 = C2 at c2 k ⊢
  rw [xor32N b1 c2]
  exact T_ref_rol _ 7 (xor32_lt b1 c2) (by omega) (by omega) k

theorem e4_0 {K : Value → Prop} (a b c d : Value) : q P emp (Instr.extract (.tuple #[a, b, c, d]) 0) K = K a := q_ext #[a, b, c, d] 0 a rfl
theorem e4_1 {K : Value → Prop} (a b c d : Value) : q P emp (Instr.extract (.tuple #[a, b, c, d]) 1) K = K b := q_ext #[a, b, c, d] 1 b rfl
theorem e4_2 {K : Value → Prop} (a b c d : Value) : q P emp (Instr.extract (.tuple #[a, b, c, d]) 2) K = K c := q_ext #[a, b, c, d] 2 c rfl
theorem e4_3 {K : Value → Prop} (a b c d : Value) : q P emp (Instr.extract (.tuple #[a, b, c, d]) 3) K = K d := q_ext #[a, b, c, d] 3 d rfl

/-- A word of bytes behind a row of words. -/
theorem quads_get (j : Nat) (hj : j < 8) : quads[j]? = some (if j < 4 then (j, 4 + j, 8 + j, 12 + j) else (j - 4, 4 + (j - 4 + 1) % 4, 8 + (j - 4 + 2) % 4, 12 + (j - 4 + 3) % 4)) := by
  have : j = 0 ∨ j = 1 ∨ j = 2 ∨ j = 3 ∨ j = 4 ∨ j = 5 ∨ j = 6 ∨ j = 7 := by omega
  rcases this with rfl | rfl | rfl | rfl | rfl | rfl | rfl | rfl <;> rfl
theorem quads_step (S : List Nat) (j : Nat) (hj : j < 8) (q : Nat × Nat × Nat × Nat) (hq : quads[j]? = some q) : (quads.take (j + 1)).foldl stepL S = stepL ((quads.take j).foldl stepL S) q := by
  have hl : j < quads.length := hj
  rw [List.take_succ_eq_append_getElem hl, List.foldl_append]
  have : quads[j] = q := by
    have := List.getElem?_eq_getElem hl
    rw [this] at hq
    exact Option.some.inj hq
  rw [this]
  rfl

theorem T_ref_words {v vx : Value} {hx : Hp} {b X : List Nat} (i : Nat) (hb : Rn hx .u8 v b) (bb : Bytes b) (hi : 4 * i + 4 ≤ b.length) (hl : b.length ≤ 1000) (hw : New h t_uint32 1 vx hx (nv .u32 X) X.length) (lX : X.length ≤ 1000) {K' : Value → Hp → Prop}
    (k : ∀ v' h', New h t_uint32 1 v' h' (nv .u32 (X ++ [leval ((b.drop (4 * i)).take 4)])) (X ++ [leval ((b.drop (4 * i)).take 4)]).length → K' v' h') :
    q P hx (Instr.sliceAt 22 v (some (.int .i64 ((4 * i : Nat) : Int))) none none) fun t28 => Cn P 33 #[t28, (Value.int .i64 4)] hx fun t29 h => q P h (convert 38 33 t29) fun t30 => aw P (Instr.buildSlice 49 1 #[(0, t30)]) (fun t31 h => aw P (Builtin.append_ #[49, 49] 49 #[vx, t31]) (fun t32 h => K' t32 h) h) h := by
  refine q_slRn u_Sl_uint8 z_uint8 hb .i64 (4 * i) (by omega) fun w hw' => ?_
  refine T_orlopref01_Get 4 (by omega) hw' (bb.drop _) (by rw [List.length_drop]; omega) ?_
  have := leval_take_lt (b.drop (4 * i)) (bb.drop _) 4
  simp (disch := omega) only [GL, RL, wu32i]
  refine aw_lit (ps := [(0, _)]) u_Sl_uint32 z_uint32 zr_uint32 rfl (by omega) (by intro p hp; rw [List.mem_singleton.1 hp]; exact ⟨rfl, by show _ < 1; omega⟩) fun x h4 hx' _ => ?_
  refine aw_appendN u_Sl_uint32 u_Sl_uint32 nfo_uint32 rfl (by omega) hw hx' (by intro y hy; simp [fillL] at hy; subst hy; rfl) (by omega) fun v2 h5 hw5 => ?_
  refine k _ _ ?_
  rw [nv_app, List.length_append]
  exact hw5
end
end Go.Proofs.Ytoepmfgahcbmiaa
