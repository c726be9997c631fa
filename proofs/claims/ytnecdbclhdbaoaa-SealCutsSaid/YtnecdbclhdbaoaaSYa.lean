/- What numbers with the greatest byte first, copies and comparisons of bytes, and a book's boxes come to. Conditions: each names its own. -/
import Derived.Test.YtnecdbclhdbaoaaSWo
import Derived.Test.YtnecdbclhdbaoaaSLi
import Derived.Test.YtnecdbclhdbaoaaSPj
set_option linter.unusedSimpArgs false
set_option linter.unusedVariables false
set_option maxRecDepth 100000
set_option maxHeartbeats 1000000
namespace Go.Proofs.Ytnecdbclhdbaoaa
open Go Go.SL Go.Pure

theorem baToList (s : ByteArray) : s.toList = s.data.toList := by
  have key : ∀ (n i : Nat) (r : List UInt8), s.size - i = n → i ≤ s.size → ByteArray.toList.loop s i r = r.reverse ++ s.data.toList.drop i := by
    intro n
    induction n with
    | zero =>
      intro i r h h2
      rw [ByteArray.toList.loop.eq_def, if_neg (by omega), List.drop_of_length_le (by rw [Array.length_toList]; show s.size ≤ i; omega)]
      simp
    | succ n ih =>
      intro i r h h2
      have hlt : i < s.data.toList.length := by rw [Array.length_toList]; show i < s.size; omega
      rw [ByteArray.toList.loop.eq_def, if_pos (by omega), ih (i + 1) _ (by omega) (by omega), List.drop_eq_getElem_cons hlt]
      have : s.get! i = s.data.toList[i] := by
        show s.data[i]! = _
        rw [getElem!_pos s.data i (by show i < s.size; omega)]
        simp
      rw [this]
      simp
  have := key s.size 0 [] (by omega) (by omega)
  show ByteArray.toList.loop s 0 [] = _
  rw [this]
  simp
theorem strL_data (l : List Nat) : (strL l).data.toList = l.map UInt8.ofNat := by
  have key : ∀ (l : List Nat) (s : ByteArray), (l.foldl (fun s x => s.push (UInt8.ofNat x)) s).data.toList = s.data.toList ++ l.map UInt8.ofNat := by
    intro l
    induction l with
    | nil => intro s; simp
    | cons x l ih =>
      intro s
      rw [List.foldl_cons, ih]
      show (s.data.push (UInt8.ofNat x)).toList ++ _ = _
      simp
  have := key l ByteArray.empty
  simpa [strL] using this
theorem u8_inj {l m : List Nat} (hl : Bytes l) (hm : Bytes m) (e : l.map UInt8.ofNat = m.map UInt8.ofNat) : l = m := by
  induction l generalizing m with
  | nil => cases m with
    | nil => rfl
    | cons y m => cases e
  | cons x l ih => cases m with
    | nil => cases e
    | cons y m =>
      simp only [List.map_cons, List.cons.injEq] at e
      have hx := hl x (List.mem_cons_self ..)
      have hy := hm y (List.mem_cons_self ..)
      have : x = y := by
        have := congrArg UInt8.toNat e.1
        simpa [UInt8.toNat_ofNat', Nat.mod_eq_of_lt hx, Nat.mod_eq_of_lt hy] using this
      rw [this, ih (fun z hz => hl z (List.mem_cons_of_mem _ hz)) (fun z hz => hm z (List.mem_cons_of_mem _ hz)) e.2]
theorem strL_eq {l m : List Nat} (hl : Bytes l) (hm : Bytes m) : ((strL l).toList == (strL m).toList) = decide (l = m) := by
  rw [baToList, baToList, strL_data, strL_data, Bool.eq_iff_iff, beq_iff_eq, decide_eq_true_eq]
  exact ⟨u8_inj hl hm, fun e => by rw [e]⟩
theorem strL_beq {l m : List Nat} (hl : Bytes l) (hm : Bytes m) : (strL l == strL m) = decide (l = m) := by
  have e : (strL l == strL m) = ((strL l).data == (strL m).data) := by cases strL l; cases strL m; rfl
  rw [e, Bool.eq_iff_iff, beq_iff_eq, decide_eq_true_eq]
  constructor
  · intro e
    have := congrArg Array.toList e
    simp only [strL_data] at this
    exact u8_inj hl hm this
  · rintro rfl; rfl

theorem bg_get (n v i : Nat) (hi : i < n) : (bg n v).getD (n - 1 - i) 0 = v / 256 ^ i % 256 := by
  unfold bg
  rw [List.getD_eq_getElem?_getD, List.getElem?_reverse (by rw [le_len]; omega), le_len, ← List.getD_eq_getElem?_getD, show n - 1 - (n - 1 - i) = i by omega, le_get n v i hi]
theorem bg_step (n v i : Nat) (hi : i < n) : (List.replicate (n - i) 0 ++ (bg n v).drop (n - i)).set (n - 1 - i) (v / 256 ^ i % 256) = List.replicate (n - (i + 1)) 0 ++ (bg n v).drop (n - (i + 1)) := by
  rw [show n - i = (n - (i + 1)) + 1 by omega, show n - 1 - i = n - (i + 1) by omega, List.replicate_succ', List.append_assoc, List.set_append_right _ _ (by simp), List.length_replicate, Nat.sub_self]
  rw [List.singleton_append, List.set_cons_zero]
  congr 1
  have hlt : n - (i + 1) < (bg n v).length := by rw [bg_len]; omega
  rw [List.drop_eq_getElem_cons hlt]
  congr 1
  have := bg_get n v i hi
  rw [show n - 1 - i = n - (i + 1) by omega] at this
  rw [← this]
  simp [List.getD_eq_getElem?_getD, hlt]

section
variable {h : Hp} {K : Value → Hp → Prop}
theorem T_word_big (v n : Nat) (hv : v < 2 ^ 64) (hn : n ≤ 8) (h0 : 0 < n) (k : ∀ r h', Nn h t_uint8 .u8 r h' (bg n v) → K r h') : Cn P n_word_big #[.int .u64 v, .int .i64 n] h K := by
  refine F_word_big ?_
  unfold s_word_big
  refine aw_make u_Sl_uint8 nfo_uint8 rfl (Nat.le_refl n) (by omega) (by omega) fun r h1 hw => ?_
  obtain ⟨b, c, f, hb, hc, rfl, _, _⟩ := hw.form h0
  rw [replicate_nv] at hw
  refine Lp_mk (fun m vs h' => ∃ i : Nat, i + m = n ∧ New h t_uint8 1 (.slice (some ⟨b, 0, none⟩) n c) h' (nv .u8 (List.replicate (n - i) 0 ++ (bg n v).drop (n - i))) n ∧ vs = [.int .i64 (i : Int)]) n
    ⟨0, by omega, by rw [Nat.sub_zero, List.drop_of_length_le (by rw [bg_len]; omega), List.append_nil]; exact hw, rfl⟩ ?_
  rintro m vs h2 ⟨i, hi, hw, rfl⟩
  simp (disch := omega) only [GL, RL, wi64, lt_dec]
  by_cases hlt : i < n
  · have e1 : (n : Int) - 1 - (i : Int) = ((n - 1 - i : Nat) : Int) := by omega
    have e8 : (8 : Int) * (i : Int) = ((8 * i : Nat) : Int) := by omega
    have es : ((v : Int).fdiv (2 ^ min (8 * i) IntKind.u64.bits)) = ((v / 256 ^ i : Nat) : Int) := by
      rw [show min (8 * i) IntKind.u64.bits = 8 * i by simp only [IntKind.bits]; omega, fdivp, pow256]
    simp (disch := omega) only [GL, RL, wi64, hlt, decide_true, if_true, e1, e8, es, wu8]
    refine aw_storeN z_uint8 hw (by omega) rfl fun h3 hw3 => ?_
    rw [nv_set, bg_step n v i hlt] at hw3
    exact ⟨_, .refl _, m - 1, by omega, i + 1, by omega, hw3, rfl⟩
  · obtain rfl : i = n := by omega
    simp only [hlt, decide_false, Bool.false_eq_true, if_false]
    refine k _ _ ?_
    rw [Nat.sub_self, List.replicate_zero, List.nil_append, List.drop_zero] at hw
    unfold Nn
    rw [bg_len]
    exact hw
theorem T_word_Big64 (v : Nat) (hv : v < 2 ^ 64) (k : ∀ r h', Nn h t_uint8 .u8 r h' (bg 8 v) → K r h') : Cn P n_word_Big64 #[.int .u64 v] h K := by
  refine F_word_Big64 ?_
  unfold s_word_Big64
  exact T_word_big v 8 hv (by omega) (by omega) k
theorem T_word_Big32 (v : Nat) (hv : v < 2 ^ 32) (k : ∀ r h', Nn h t_uint8 .u8 r h' (bg 4 v) → K r h') : Cn P n_word_Big32 #[.int .u32 v] h K := by
  refine F_word_Big32 ?_
  unfold s_word_Big32
  simp (disch := omega) only [GL, RL, wu64i]
  exact T_word_big v 4 (by omega) (by omega) (by omega) k
theorem bval_take_succ (l : List Nat) (i : Nat) (hi : i < l.length) : bval (l.take (i + 1)) = bval (l.take i) * 256 + l.getD i 0 := by
  rw [List.take_succ_eq_append_getElem hi, bval_snoc]
  simp [List.getD_eq_getElem?_getD, hi]
theorem bval_take_lt {l : List Nat} (h : Bytes l) (i : Nat) : bval (l.take i) < 256 ^ i := by
  refine Nat.lt_of_lt_of_le (bval_lt (h.take i)) (Nat.pow_le_pow_right (by decide) ?_)
  rw [List.length_take]; exact Nat.min_le_left _ _
theorem T_word_getBig {v : Value} {l : List Nat} (n : Nat) (hn : n ≤ 8) (hr : Rn h .u8 v l) (hb : Bytes l) (hl : n ≤ l.length) (k : K (.int .u64 ((bval (l.take n) : Nat) : Int)) h) : Cn P n_word_getBig #[v, .int .i64 n] h K := by
  refine F_word_getBig ?_
  unfold s_word_getBig
  refine Lp_mk (fun m vs h' => ∃ i, i + m = n ∧ h' = h ∧ vs = [.int .u64 ((bval (l.take i) : Nat) : Int), .int .i64 (i : Int)]) n ⟨0, by omega, rfl, rfl⟩ ?_
  rintro m vs h1 ⟨i, hi, rfl, rfl⟩
  simp (disch := omega) only [GL, RL, lt_dec]
  by_cases hlt : i < n
  · simp only [hlt, decide_true, if_true]
    refine T_word_at i hr hb ?_
    have b1 := bval_take_lt hb i
    have b2 := hb.getD i
    have bi : 256 ^ i ≤ 256 ^ 7 := Nat.pow_le_pow_right (by decide) (by omega)
    have p7 : (256 : Nat) ^ 7 = 72057594037927936 := rfl
    have e1 : IntKind.u64.wrap (((bval (l.take i) : Nat) : Int) * 2 ^ min (Int.toNat 8) IntKind.u64.bits) = ((bval (l.take i) * 2 ^ 8 : Nat) : Int) := by
      rw [show min (Int.toNat 8) IntKind.u64.bits = 8 from rfl, mulp, wu64, Nat.mod_eq_of_lt (by omega)]
    have e2 : ior .u64 ((bval (l.take i) * 2 ^ 8 : Nat) : Int) ((l.getD i 0 : Nat) : Int) = ((bval (l.take (i + 1)) : Nat) : Int) := by
      rw [orN (by omega) (by omega), Nat.or_comm, or_add _ _ 8 b2, bval_take_succ l i (by omega)]
      congr 1
      omega
    simp (disch := omega) only [GL, RL, wi64, e1, e2]
    exact ⟨_, .refl _, m - 1, by omega, i + 1, by omega, rfl, rfl⟩
  · obtain rfl : i = n := by omega
    simp only [hlt, decide_false, Bool.false_eq_true, if_false]
    exact k
theorem T_word_GetBig64 {v : Value} {l : List Nat} (hr : Rn h .u8 v l) (hb : Bytes l) (hl : 8 ≤ l.length) (k : K (.int .u64 ((bval (l.take 8) : Nat) : Int)) h) : Cn P n_word_GetBig64 #[v] h K := by
  refine F_word_GetBig64 ?_
  unfold s_word_GetBig64
  exact T_word_getBig 8 (by omega) hr hb hl k
theorem T_word_GetBig32 {v : Value} {l : List Nat} (hr : Rn h .u8 v l) (hb : Bytes l) (hl : 4 ≤ l.length) (k : K (.int .u32 ((bval (l.take 4) : Nat) : Int)) h) : Cn P n_word_GetBig32 #[v] h K := by
  refine F_word_GetBig32 ?_
  unfold s_word_GetBig32
  refine T_word_getBig 4 (by omega) hr hb hl ?_
  have b1 := bval_take_lt hb 4
  have e : IntKind.u32.wrap ((bval (l.take 4) : Nat) : Int) = ((bval (l.take 4) : Nat) : Int) := by rw [wu32, Nat.mod_eq_of_lt (by omega)]
  simp (disch := omega) only [GL, RL, e]
  exact k
theorem T_bytes_Clone {v : Value} {l : List Nat} (hv : Rn h .u8 v l) (hl : l.length ≤ 70368744177664) (k : ∀ r h', Nn h t_uint8 .u8 r h' l → K r h') : Cn P n_bytes_Clone #[v] h K := by
  refine F_bytes_Clone ?_
  unfold s_bytes_Clone
  obtain ⟨a, c, rfl, hc⟩ := hv.shape
  simp (disch := omega) only [GL, RL]
  cases a with
  | none =>
    have : l = [] := by
      obtain ⟨_, a', c', e, _, h0 | ⟨b, o, ha, _⟩⟩ := hv
      · exact List.eq_nil_of_length_eq_zero h0
      · simp only [Value.slice.injEq] at e
        rw [ha] at e
        cases e.1
    subst this
    simp only [Option.isNone_none, if_true]
    exact k _ _ (Nn.nil ..)
  | some a =>
    simp only [Option.isNone_some, Bool.false_eq_true, if_false]
    refine aw_lit (ps := []) (n := 0) u_Sl_uint8 z_uint8 zr_uint8 rfl (by omega) (by intro p hp; cases hp) fun v1 h1 n1 _ => ?_
    refine aw_append u_Sl_uint8 u_Sl_uint8 nfo_uint8 rfl (by omega) n1 (hv.mono n1.cle) (nv_flat _ _) (by omega) (.refl _) fun v3 h3 n3 => ?_
    refine k _ _ ?_
    unfold Nn
    simpa [fillL] using n3
theorem T_bytes_Equal {v w : Value} {l m : List Nat} (hv : Rn h .u8 v l) (hw : Rn h .u8 w m) (bl : Bytes l) (bm : Bytes m) (k : K (.bool (decide (l = m))) h) : Cn P n_bytes_Equal #[v, w] h K := by
  refine F_bytes_Equal ?_
  unfold s_bytes_Equal
  rw [q_str hv, q_str hw, q_eqlS, strL_eq bl bm]
  exact k
theorem T_crypt_may {vk vn : Value} {key nonce : List Nat} (hk : Rn h .u8 vk key) (hn : Rn h .u8 vn nonce) (k : K (.bool (decide (may key nonce))) h) : Cn P n_crypt_may #[vk, vn] h K := by
  refine F_crypt_may ?_
  unfold s_crypt_may
  obtain ⟨a, c, rfl, hc⟩ := hk.shape
  obtain ⟨a', c', rfl, hc'⟩ := hn.shape
  have e1 : (((key.length : Nat) : Int) == 32) = decide (key.length = 32) := by rw [Bool.eq_iff_iff, beq_iff_eq, decide_eq_true_eq]; omega
  have e2 : (((nonce.length : Nat) : Int) == 12) = decide (nonce.length = 12) := by rw [Bool.eq_iff_iff, beq_iff_eq, decide_eq_true_eq]; omega
  simp (disch := omega) only [GL, RL, e1, e2]
  unfold may at k
  by_cases h1 : key.length = 32
  · simpa [h1] using k
  · simpa [h1] using k
end
end Go.Proofs.Ytnecdbclhdbaoaa
