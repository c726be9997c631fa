/- chestReads_holds chestReads proved lifted over: part 1 of its proof; each part's own remarks stand with its declarations. Conditions: each lemma names its own. -/
import Derived.Test.YtlkhmddmdmlffaaGreatDoorChestReads0
set_option linter.unusedSimpArgs false
set_option linter.unusedVariables false
set_option linter.unusedVariables false
set_option maxRecDepth 100000
namespace Go.Proofs.YtlkhmddmdmlffaaGreatDoor
open Go Go.SL
/-- function 21: (*orlop.chest.writer).chest -/
def s_chest_writer_chest (K : Value → Hp → Prop) (h : Hp) (t0 t1 : Value) : Prop := aw P (Instr.box 49 t1) (fun t3 h => q P h (Instr.fieldAt 49 t3 0) fun t5 => q P h (Instr.loadAt 9 t5) fun t6 => aw P (convert 9 33 t6) (fun t7 h => Cn P 38 #[t0, t7] h fun t8 h => q P h (Instr.fieldAt 49 t3 1) fun t10 => q P h (Instr.loadAt 33 t10) fun t11 => Cn P 38 #[t0, t11] h fun t12 h => q P h (Instr.fieldAt 49 t3 2) fun t14 => q P h (Instr.loadAt 29 t14) fun t15 => Cn P 39 #[t0, t15, (Value.func (.func 38) #[t0] #[])] h fun t18 h => K (Value.tuple #[]) h) h) h
theorem F_chest_writer_chest {K : Value → Hp → Prop} {h : Hp} {t0 t1 : Value} (s : s_chest_writer_chest K h t0 t1) : Cn P 21 #[t0, t1] h K :=
  Cn_ofs mixed Tryz.func21 (by kernel_rfl) (args := [t0, t1]) (by kernel_rfl) s
/-- function 22: orlop.orlopref27.Body -/
def s_orlopref27_Body (K : Value → Hp → Prop) (h : Hp) (t0 : Value) : Prop := aw P (Instr.buildSlice 33 4 #[(0, (Value.int .u8 79)), (1, (Value.int .u8 67)), (2, (Value.int .u8 72)), (3, (Value.int .u8 49))]) (fun t6 h => aw P (convert 33 33 t6) (fun t7 h => q P h (Builtin.len_ #[22] 3 #[t0]) fun t9 => q P h (convert 3 65 t9) fun t10 => Cn P 41 #[t10, (Value.int .i64 4)] h fun t11 h => Cn P 40 #[t11] h fun t12 h => aw P (Builtin.append_ #[33, 33] 33 #[t7, t12]) (fun t13 h => 
Lp [t13, (Value.int .i64 0)] h fun nx5 vs5 h =>
q P h (Builtin.len_ #[22] 3 #[t0]) fun t16 => q P h (binOp .lss 3 (vs5.getD 1 undef) t16) fun t17 => cnd t17 (q P emp (Instr.indexAt 22 t0 (vs5.getD 1 undef)) fun t23 => q P h (Instr.fieldAt 49 t23 0) fun t24 => q P h (Instr.loadAt 9 t24) fun t25 => q P emp (Instr.indexAt 22 t0 (vs5.getD 1 undef)) fun t31 => q P h (Instr.fieldAt 49 t31 1) fun t32 => q P h (Instr.loadAt 33 t32) fun t33 => aw P (convert 9 33 t25) (fun t26 h => peek P h (Instr.loadAt 33 t32) = some t33 ∧ peek P h (Instr.fieldAt 49 t31 1) = some t32 ∧ Cn P 42 #[t26] h fun t27 h => peek P h (Instr.loadAt 33 t32) = some t33 ∧ peek P h (Instr.fieldAt 49 t31 1) = some t32 ∧ aw P (Builtin.append_ #[33, 33] 33 #[(vs5.getD 0 undef), t27]) (fun t28 h => peek P h (Instr.loadAt 33 t32) = some t33 ∧ peek P h (Instr.fieldAt 49 t31 1) = some t32 ∧ Cn P 42 #[t33] h fun t34 h => aw P (Builtin.append_ #[33, 33] 33 #[t28, t34]) (fun t35 h => q P h (Instr.indexAt 22 t0 (vs5.getD 1 undef)) fun t39 => q P h (Instr.fieldAt 49 t39 2) fun t40 => q P h (Instr.loadAt 29 t40) fun t41 => q P h (Builtin.len_ #[29] 3 #[t41]) fun t42 => q P h (convert 3 65 t42) fun t43 => Cn P 41 #[t43, (Value.int .i64 4)] h fun t44 h => Cn P 40 #[t44] h fun t45 h => aw P (Builtin.append_ #[33, 33] 33 #[t35, t45]) (fun t46 h => 
Lp [t46, (Value.int .i64 0)] h fun nx12 vs12 h =>
q P h (Instr.indexAt 22 t0 (vs5.getD 1 undef)) fun t50 => q P h (Instr.fieldAt 49 t50 2) fun t51 => q P h (Instr.loadAt 29 t51) fun t52 => q P h (Builtin.len_ #[29] 3 #[t52]) fun t53 => q P h (binOp .lss 3 (vs12.getD 1 undef) t53) fun t54 => cnd t54 (q P h (Instr.indexAt 22 t0 (vs5.getD 1 undef)) fun t60 => q P h (Instr.fieldAt 49 t60 2) fun t61 => q P h (Instr.loadAt 29 t61) fun t62 => q P h (Instr.indexAt 29 t62 (vs12.getD 1 undef)) fun t64 => q P h (Instr.loadAt 33 t64) fun t65 => Cn P 42 #[t65] h fun t66 h => aw P (Builtin.append_ #[33, 33] 33 #[(vs12.getD 0 undef), t66]) (fun t67 h => q P h (binOp .add 3 (vs12.getD 1 undef) (Value.int .i64 1)) fun t56 => nx12 [t67, t56] h) h) (q P h (binOp .add 3 (vs5.getD 1 undef) (Value.int .i64 1)) fun t19 => nx5 [(vs12.getD 0 undef), t19] h)) h) h) h) h) (K (vs5.getD 0 undef) h)) h) h) h
theorem F_orlopref27_Body {K : Value → Hp → Prop} {h : Hp} {t0 : Value} (s : s_orlopref27_Body K h t0) : Cn P 22 #[t0] h K :=
  Cn_ofs mixed Tryz.func22 (by kernel_rfl) (args := [t0]) (by kernel_rfl) s
/-- function 23: bytes.HasPrefix -/
def s_bytes_HasPrefix (K : Value → Hp → Prop) (h : Hp) (t0 t1 : Value) : Prop := q P h (Builtin.len_ #[33] 3 #[t0]) fun t6 => q P h (Builtin.len_ #[33] 3 #[t1]) fun t8 => q P h (binOp .geq 3 t6 t8) fun t9 => gd t9 true (q P h (Builtin.len_ #[33] 3 #[t1]) fun t13 => q P h (Instr.sliceAt 33 t0 none (some t13) none) fun t14 => Cn P 35 #[t14, t1] h fun t16 h => K t16 h) (K (Value.bool false) h)
theorem F_bytes_HasPrefix {K : Value → Hp → Prop} {h : Hp} {t0 t1 : Value} (s : s_bytes_HasPrefix K h t0 t1) : Cn P 23 #[t0, t1] h K :=
  Cn_ofs mixed Tryz.func23 (by kernel_rfl) (args := [t0, t1]) (by kernel_rfl) s
/-- function 24: orlop.word.Equal -/
def s_word_Equal (K : Value → Hp → Prop) (h : Hp) (t0 t1 : Value) : Prop := q P h (Builtin.len_ #[33] 3 #[t0]) fun t8 => q P h (Builtin.len_ #[33] 3 #[t1]) fun t10 => q P h (eqop .neq 3 (.tmp 8) (.tmp 10) t8 t10) fun t11 => cnd t11 (K (Value.bool false) h) (q P h (Builtin.len_ #[33] 3 #[t0]) fun t13 => 
Lp [(Value.int .u8 0), (Value.int .i64 0)] h fun nx8 vs8 h =>
q P h (binOp .lss 3 (vs8.getD 1 undef) t13) fun t15 => cnd t15 (q P emp (Instr.indexAt 33 t0 (vs8.getD 1 undef)) fun t20 => q P h (Instr.loadAt 5 t20) fun t21 => q P emp (Instr.indexAt 33 t1 (vs8.getD 1 undef)) fun t24 => q P h (Instr.loadAt 5 t24) fun t25 => q P emp (binOp .xor 5 t21 t25) fun t26 => q P emp (binOp .or 5 (vs8.getD 0 undef) t26) fun t27 => q P h (binOp .add 3 (vs8.getD 1 undef) (Value.int .i64 1)) fun t28 => nx8 [t27, t28] h) (q P h (eqop .eql 5 (.tmp 29) (.const (Value.int .u8 0)) (vs8.getD 0 undef) (Value.int .u8 0)) fun t30 => K t30 h))
theorem F_word_Equal {K : Value → Hp → Prop} {h : Hp} {t0 t1 : Value} (s : s_word_Equal K h t0 t1) : Cn P 24 #[t0, t1] h K :=
  Cn_ofs mixed Tryz.func24 (by kernel_rfl) (args := [t0, t1]) (by kernel_rfl) s
/-- function 25: orlop.chest.some[orlop.api.Chest] -/
def s_chest_some_api_Chest (K : Value → Hp → Prop) (h : Hp) (t0 t1 t2 : Value) : Prop := Cn P 43 #[t0, t1] h fun t10 h => 
Lp [(Value.slice none 0 0), (Value.slice none 0 0), (Value.int .i64 0)] h fun nx5 vs5 h =>
q P h (binOp .lss 3 (vs5.getD 2 undef) t10) fun t12 => cnd t12 (callP P t2 [] h fun t15 h => aw P (Instr.buildSlice 22 1 #[(0, t15)]) (fun t16 h => aw P (Builtin.append_ #[22, 22] 22 #[(vs5.getD 0 undef), t16]) (fun t17 h => q P h (nilCk t0) fun t19 => q P h (Instr.fieldAt 60 t19 1) fun t20 => q P h (Instr.loadAt 4 t20) fun t21 => cnd t21 (K (Value.slice none 0 0) h) (q P h (binOp .add 3 (vs5.getD 2 undef) (Value.int .i64 1)) fun t22 => nx5 [t17, (vs5.getD 1 undef), t22] h)) h) h) (K (vs5.getD 0 undef) h)
theorem F_chest_some_api_Chest {K : Value → Hp → Prop} {h : Hp} {t0 t1 t2 : Value} (s : s_chest_some_api_Chest K h t0 t1 t2) : Cn P 25 #[t0, t1, t2] h K :=
  Cn_ofs mixed Tryz.func25 (by kernel_rfl) (args := [t0, t1, t2]) (by kernel_rfl) s
/-- function 26: (*orlop.chest.reader).chest -/
def s_chest_reader_chest (K : Value → Hp → Prop) (h : Hp) (t0 : Value) : Prop := aw P (Instr.alloc 49 true (.tuple #[])) (fun t2 h => Cn P 44 #[t0] h fun t5 h => q P h (convert 33 9 t5) fun t6 => q P h (Instr.build 49 #[(0, t6)]) fun t7 => aw P (Instr.alloc 49 true (.tuple #[])) (fun t3 h => aw P (Instr.storeAt 49 t3 t7) (fun _ h => Cn P 44 #[t0] h fun t9 h => q P h (Instr.fieldAt 49 t3 1) fun t10 => aw P (Instr.storeAt 33 t10 t9) (fun _ h => Cn P 45 #[t0, (Value.int .i64 64), (Value.func (.func 44) #[t0] #[])] h fun t14 h => q P h (Instr.fieldAt 49 t3 2) fun t15 => aw P (Instr.storeAt 29 t15 t14) (fun _ h => q P h (Instr.loadAt 49 t3) fun t16 => aw P (Instr.storeAt 49 t2 t16) (fun _ h => q P h ((asAddr t2).bind (loadVar 49)) fun r0 => K r0 h) h) h) h) h) h) h
theorem F_chest_reader_chest {K : Value → Hp → Prop} {h : Hp} {t0 : Value} (s : s_chest_reader_chest K h t0) : Cn P 26 #[t0] h K :=
  Cn_ofs mixed Tryz.func26 (by kernel_rfl) (args := [t0]) (by kernel_rfl) s
/-- function 27: orlop.orlopref24.Rows -/
def s_orlopref24_Rows (K : Value → Hp → Prop) (h : Hp) (t0 t1 : Value) : Prop := q P h (Builtin.len_ #[29] 3 #[t0]) fun t7 => q P h (Builtin.len_ #[29] 3 #[t1]) fun t9 => q P h (eqop .neq 3 (.tmp 7) (.tmp 9) t7 t9) fun t10 => cnd t10 (K (Value.bool false) h) (
Lp [(Value.bool false), (Value.int .i64 0)] h fun nx7 vs7 h =>
q P h (Builtin.len_ #[29] 3 #[t0]) fun t13 => q P h (binOp .lss 3 (vs7.getD 1 undef) t13) fun t14 => cnd t14 (q P emp (Instr.indexAt 29 t0 (vs7.getD 1 undef)) fun t19 => q P h (Instr.loadAt 33 t19) fun t20 => q P emp (Instr.indexAt 29 t1 (vs7.getD 1 undef)) fun t23 => q P h (Instr.loadAt 33 t23) fun t24 => Cn P 10 #[t20, t24] h fun t25 h => q P emp (Op.unary .not t25) fun t26 => cnd t26 (K (Value.bool false) h) (q P h (binOp .add 3 (vs7.getD 1 undef) (Value.int .i64 1)) fun t16 => nx7 [(vs7.getD 0 undef), t16] h)) (K (Value.bool true) h))
theorem F_orlopref24_Rows {K : Value → Hp → Prop} {h : Hp} {t0 t1 : Value} (s : s_orlopref24_Rows K h t0 t1) : Cn P 27 #[t0, t1] h K :=
  Cn_ofs mixed Tryz.func27 (by kernel_rfl) (args := [t0, t1]) (by kernel_rfl) s
/-- function 28: orlop.orlopref02.Of -/
def s_orlopref02_Of (K : Value → Hp → Prop) (h : Hp) (t0 : Value) : Prop := Cn P 46 #[t0] h fun t10 h => Cn P 47 #[] h fun t11 h => Cn P 48 #[] h fun t12 h => 
Lp [t11, (Value.int .i64 0)] h fun nx7 vs7 h =>
q P h (Builtin.len_ #[33] 3 #[t10]) fun t15 => q P h (binOp .lss 3 (vs7.getD 1 undef) t15) fun t16 => cnd t16 (q P h (binOp .add 3 (vs7.getD 1 undef) (Value.int .i64 64)) fun t24 => q P h (Instr.sliceAt 33 t10 (some (vs7.getD 1 undef)) (some t24) none) fun t25 => Cn P 49 #[(vs7.getD 0 undef), t12, t25] h fun t26 h => q P h (binOp .add 3 (vs7.getD 1 undef) (Value.int .i64 64)) fun t18 => nx7 [t26, t18] h) (
Lp [(Value.slice none 0 0), (Value.int .i64 0)] h fun nx14 vs14 h =>
q P h (binOp .lss 3 (vs14.getD 1 undef) (Value.int .i64 8)) fun t28 => cnd t28 (q P h (Instr.indexAt 95 (vs7.getD 0 undef) (vs14.getD 1 undef)) fun t34 => q P h (Instr.loadAt 98 t34) fun t35 => q P h (convert 98 65 t35) fun t36 => Cn P 41 #[t36, (Value.int .i64 4)] h fun t37 h => Cn P 40 #[t37] h fun t38 h => aw P (Builtin.append_ #[33, 33] 33 #[(vs14.getD 0 undef), t38]) (fun t39 h => q P h (binOp .add 3 (vs14.getD 1 undef) (Value.int .i64 1)) fun t30 => nx14 [t39, t30] h) h) (K (vs14.getD 0 undef) h))
theorem F_orlopref02_Of {K : Value → Hp → Prop} {h : Hp} {t0 : Value} (s : s_orlopref02_Of K h t0) : Cn P 28 #[t0] h K :=
  Cn_ofs mixed Tryz.func28 (by kernel_rfl) (args := [t0]) (by kernel_rfl) s
/-- function 29: orlop.orlopref12.big -/
def s_orlopref12_big (K : Value → Hp → Prop) (h : Hp) (t0 : Value) : Prop := q P h (convert 3 65 t0) fun t4 => Cn P 41 #[t4, (Value.int .i64 8)] h fun t5 h => Cn P 40 #[t5] h fun t6 h => K t6 h
theorem F_orlopref12_big {K : Value → Hp → Prop} {h : Hp} {t0 : Value} (s : s_orlopref12_big K h t0) : Cn P 29 #[t0] h K :=
  Cn_ofs mixed Tryz.func29 (by kernel_rfl) (args := [t0]) (by kernel_rfl) s
/-- function 30: orlop.orlopref01.GetBig -/
def s_orlopref01_GetBig (K : Value → Hp → Prop) (h : Hp) (t0 t1 : Value) : Prop := 
Lp [(Value.int .u64 0), (Value.int .i64 0)] h fun nx5 vs5 h =>
q P h (binOp .lss 3 (vs5.getD 1 undef) t1) fun t9 => cnd t9 (q P h (binOp .mul 65 (vs5.getD 0 undef) (Value.int .u64 256)) fun t13 => q P h (Builtin.len_ #[33] 3 #[t0]) fun t16 => q P h (binOp .lss 3 (vs5.getD 1 undef) t16) fun t17 => cnd t17 (q P h (Instr.indexAt 33 t0 (vs5.getD 1 undef)) fun t21 => q P h (Instr.loadAt 5 t21) fun t22 => q P h (convert 5 65 t22) fun t23 => q P h (binOp .add 65 t13 t23) fun t24 => q P h (binOp .add 3 (vs5.getD 1 undef) (Value.int .i64 1)) fun t11 => nx5 [t24, t11] h) (q P h (binOp .add 3 (vs5.getD 1 undef) (Value.int .i64 1)) fun t11 => nx5 [t13, t11] h)) (K (vs5.getD 0 undef) h)
theorem F_orlopref01_GetBig {K : Value → Hp → Prop} {h : Hp} {t0 t1 : Value} (s : s_orlopref01_GetBig K h t0 t1) : Cn P 30 #[t0, t1] h K :=
  Cn_ofs mixed Tryz.func30 (by kernel_rfl) (args := [t0, t1]) (by kernel_rfl) s
/-- function 31: orlop.orlopref27.take -/
def s_orlopref27_take (K : Value → Hp → Prop) (h : Hp) (t0 t1 : Value) : Prop := 
let J2 : Hp → Prop := fun h => q P h (Instr.sliceAt 33 t0 (some t1) none none) fun t18 => Cn P 30 #[t18, (Value.int .i64 4)] h fun t19 h => q P h (convert 65 3 t19) fun t20 => q P h (binOp .add 3 t1 (Value.int .i64 4)) fun t22 => q P h (binOp .add 3 t22 t20) fun t24 => q P h (Builtin.len_ #[33] 3 #[t0]) fun t26 => q P h (binOp .gtr 3 t24 t26) fun t27 => cnd t27 (K (Value.tuple #[(Value.slice none 0 0), (Value.int .i64 (-1))]) h) (aw P (Instr.buildSlice 33 0 #[]) (fun t28 h => q P h (binOp .add 3 t1 (Value.int .i64 4)) fun t31 => q P h (binOp .add 3 t1 (Value.int .i64 4)) fun t33 => q P h (binOp .add 3 t33 t20) fun t35 => q P h (Instr.sliceAt 33 t0 (some t31) (some t35) none) fun t36 => aw P (Builtin.append_ #[33, 33] 33 #[t28, t36]) (fun t37 h => q P h (binOp .add 3 t1 (Value.int .i64 4)) fun t39 => q P h (binOp .add 3 t39 t20) fun t41 => K (Value.tuple #[t37, t41]) h) h) h);
q P h (binOp .lss 3 t1 (Value.int .i64 0)) fun t8 => gd t8 false (q P h (binOp .add 3 t1 (Value.int .i64 4)) fun t11 => q P h (Builtin.len_ #[33] 3 #[t0]) fun t13 => q P h (binOp .gtr 3 t11 t13) fun t14 => cnd t14 (K (Value.tuple #[(Value.slice none 0 0), (Value.int .i64 (-1))]) h) (J2 h)) (cnd (Value.bool true) (K (Value.tuple #[(Value.slice none 0 0), (Value.int .i64 (-1))]) h) (J2 h))
theorem F_orlopref27_take {K : Value → Hp → Prop} {h : Hp} {t0 t1 : Value} (s : s_orlopref27_take K h t0 t1) : Cn P 31 #[t0, t1] h K :=
  Cn_ofs mixed Tryz.func31 (by kernel_rfl) (args := [t0, t1]) (by kernel_rfl) s
/-- function 32: orlop.store.MayTag -/
def s_store_MayTag (K : Value → Hp → Prop) (h : Hp) (t0 : Value) : Prop := q P h (eqop .neq 9 (.tmp 3) (.const (Value.string ⟨#[]⟩)) t0 (Value.string ⟨#[]⟩)) fun t4 => gd t4 true (q P h (Builtin.len_ #[9] 3 #[t0]) fun t7 => q P h (binOp .leq 3 t7 (Value.int .i64 100)) fun t8 => gd t8 true (Cn P 50 #[t0] h fun t12 h => K t12 h) (K (Value.bool false) h)) (K (Value.bool false) h)
theorem F_store_MayTag {K : Value → Hp → Prop} {h : Hp} {t0 : Value} (s : s_store_MayTag K h t0) : Cn P 32 #[t0] h K :=
  Cn_ofs mixed Tryz.func32 (by kernel_rfl) (args := [t0]) (by kernel_rfl) s
end Go.Proofs.YtlkhmddmdmlffaaGreatDoor
set_option linter.unusedVariables false
set_option maxRecDepth 100000
namespace Go.Proofs.YtlkhmddmdmlffaaGreatDoor
open Go Go.SL
/-- function 35: bytes.Equal -/
def s_bytes_Equal (K : Value → Hp → Prop) (h : Hp) (t0 t1 : Value) : Prop := q P h (convert 33 9 t0) fun t6 => q P h (convert 33 9 t1) fun t8 => q P h (eqop .eql 9 (.tmp 6) (.tmp 8) t6 t8) fun t9 => K t9 h
theorem F_bytes_Equal {K : Value → Hp → Prop} {h : Hp} {t0 t1 : Value} (s : s_bytes_Equal K h t0 t1) : Cn P 35 #[t0, t1] h K :=
  Cn_ofs mixed Tryz.func35 (by kernel_rfl) (args := [t0, t1]) (by kernel_rfl) s
/-- function 36: slices.IndexFunc[[]orlop.api.Chest,orlop.api.Chest] -/
def s_slices_IndexFunc_api_Chest_api_Chest (K : Value → Hp → Prop) (h : Hp) (t0 t1 : Value) : Prop := q P h (Builtin.len_ #[22] 3 #[t0]) fun t7 => 
Lp [(Value.int .i64 0), (Value.int .i64 0)] h fun nx4 vs4 h =>
q P h (binOp .lss 3 (vs4.getD 1 undef) t7) fun t9 => cnd t9 (q P h (Instr.indexAt 22 t0 (vs4.getD 1 undef)) fun t14 => q P h (Instr.loadAt 49 t14) fun t15 => callP P t1 [t15] h fun t16 h => cnd t16 (K (vs4.getD 1 undef) h) (q P h (binOp .add 3 (vs4.getD 1 undef) (Value.int .i64 1)) fun t18 => nx4 [(vs4.getD 0 undef), t18] h)) (K (Value.int .i64 (-1)) h)
theorem F_slices_IndexFunc_api_Chest_api_Chest {K : Value → Hp → Prop} {h : Hp} {t0 t1 : Value} (s : s_slices_IndexFunc_api_Chest_api_Chest K h t0 t1) : Cn P 36 #[t0, t1] h K :=
  Cn_ofs mixed Tryz.func36 (by kernel_rfl) (args := [t0, t1]) (by kernel_rfl) s
/-- function 37: (*orlop.chest.writer).number -/
def s_chest_writer_number (K : Value → Hp → Prop) (h : Hp) (t0 t1 : Value) : Prop := q P emp (nilCk t0) fun t6 => q P h (Instr.fieldAt 54 t6 0) fun t7 => q P h (Instr.loadAt 33 t7) fun t8 => q P h (convert 3 98 t1) fun t10 => Cn P 58 #[t10] h fun t11 h => peek P h (Instr.loadAt 33 t7) = some t8 ∧ peek P h (Instr.fieldAt 54 t6 0) = some t7 ∧ aw P (Builtin.append_ #[33, 33] 33 #[t8, t11]) (fun t12 h => q P emp (nilCk t0) fun t13 => q P h (Instr.fieldAt 54 t13 0) fun t14 => aw P (Instr.storeAt 33 t14 t12) (fun _ h => K (Value.tuple #[]) h) h) h
theorem F_chest_writer_number {K : Value → Hp → Prop} {h : Hp} {t0 t1 : Value} (s : s_chest_writer_number K h t0 t1) : Cn P 37 #[t0, t1] h K :=
  Cn_ofs mixed Tryz.func37 (by kernel_rfl) (args := [t0, t1]) (by kernel_rfl) s
/-- function 38: (*orlop.chest.writer).row -/
def s_chest_writer_row (K : Value → Hp → Prop) (h : Hp) (t0 t1 : Value) : Prop := q P h (Builtin.len_ #[33] 3 #[t1]) fun t6 => Cn P 37 #[t0, t6] h fun t7 h => q P h (nilCk t0) fun t10 => q P h (Instr.fieldAt 54 t10 0) fun t11 => q P h (Instr.loadAt 33 t11) fun t12 => aw P (Builtin.append_ #[33, 33] 33 #[t12, t1]) (fun t14 h => q P h (nilCk t0) fun t15 => q P h (Instr.fieldAt 54 t15 0) fun t16 => aw P (Instr.storeAt 33 t16 t14) (fun _ h => K (Value.tuple #[]) h) h) h
theorem F_chest_writer_row {K : Value → Hp → Prop} {h : Hp} {t0 t1 : Value} (s : s_chest_writer_row K h t0 t1) : Cn P 38 #[t0, t1] h K :=
  Cn_ofs mixed Tryz.func38 (by kernel_rfl) (args := [t0, t1]) (by kernel_rfl) s
/-- function 39: orlop.chest.list[[]byte] -/
def s_chest_list_byte (K : Value → Hp → Prop) (h : Hp) (t0 t1 t2 : Value) : Prop := q P h (Builtin.len_ #[29] 3 #[t1]) fun t10 => Cn P 37 #[t0, t10] h fun t11 h => q P h (Builtin.len_ #[29] 3 #[t1]) fun t13 => 
Lp [(Value.int .i64 0)] h fun nx3 vs3 h =>
q P h (binOp .lss 3 (vs3.getD 0 undef) t13) fun t15 => cnd t15 (q P h (Instr.indexAt 29 t1 (vs3.getD 0 undef)) fun t16 => q P h (Instr.loadAt 33 t16) fun t17 => callP P t2 [t17] h fun t20 h => q P h (binOp .add 3 (vs3.getD 0 undef) (Value.int .i64 1)) fun t21 => nx3 [t21] h) (K (Value.tuple #[]) h)
theorem F_chest_list_byte {K : Value → Hp → Prop} {h : Hp} {t0 t1 t2 : Value} (s : s_chest_list_byte K h t0 t1 t2) : Cn P 39 #[t0, t1, t2] h K :=
  Cn_ofs mixed Tryz.func39 (by kernel_rfl) (args := [t0, t1, t2]) (by kernel_rfl) s
/-- function 40: orlop.orlopref01.Back -/
def s_orlopref01_Back (K : Value → Hp → Prop) (h : Hp) (t0 : Value) : Prop := q P h (Builtin.len_ #[33] 3 #[t0]) fun t6 => q P h (binOp .sub 3 t6 (Value.int .i64 1)) fun t7 => 
Lp [(Value.slice none 0 0), t7] h fun nx5 vs5 h =>
q P h (binOp .geq 3 (vs5.getD 1 undef) (Value.int .i64 0)) fun t9 => cnd t9 (q P h (Instr.indexAt 33 t0 (vs5.getD 1 undef)) fun t15 => q P h (Instr.loadAt 5 t15) fun t16 => aw P (Instr.buildSlice 33 1 #[(0, t16)]) (fun t17 h => aw P (Builtin.append_ #[33, 33] 33 #[(vs5.getD 0 undef), t17]) (fun t18 h => q P h (binOp .sub 3 (vs5.getD 1 undef) (Value.int .i64 1)) fun t11 => nx5 [t18, t11] h) h) h) (K (vs5.getD 0 undef) h)
theorem F_orlopref01_Back {K : Value → Hp → Prop} {h : Hp} {t0 : Value} (s : s_orlopref01_Back K h t0) : Cn P 40 #[t0] h K :=
  Cn_ofs mixed Tryz.func40 (by kernel_rfl) (args := [t0]) (by kernel_rfl) s
/-- function 41: orlop.orlopref01.Little -/
def s_orlopref01_Little (K : Value → Hp → Prop) (h : Hp) (t0 t1 : Value) : Prop := 
Lp [(Value.slice none 0 0), t0, (Value.int .i64 0)] h fun nx5 vs5 h =>
q P h (binOp .lss 3 (vs5.getD 2 undef) t1) fun t9 => cnd t9 (q P h (binOp .rem 65 (vs5.getD 1 undef) (Value.int .u64 256)) fun t14 => q P h (convert 65 5 t14) fun t15 => aw P (Instr.buildSlice 33 1 #[(0, t15)]) (fun t16 h => aw P (Builtin.append_ #[33, 33] 33 #[(vs5.getD 0 undef), t16]) (fun t17 h => q P h (binOp .quo 65 (vs5.getD 1 undef) (Value.int .u64 256)) fun t19 => q P h (binOp .add 3 (vs5.getD 2 undef) (Value.int .i64 1)) fun t11 => nx5 [t17, t19, t11] h) h) h) (K (vs5.getD 0 undef) h)
theorem F_orlopref01_Little {K : Value → Hp → Prop} {h : Hp} {t0 t1 : Value} (s : s_orlopref01_Little K h t0 t1) : Cn P 41 #[t0, t1] h K :=
  Cn_ofs mixed Tryz.func41 (by kernel_rfl) (args := [t0, t1]) (by kernel_rfl) s
/-- function 42: orlop.orlopref27.row -/
def s_orlopref27_row (K : Value → Hp → Prop) (h : Hp) (t0 : Value) : Prop := q P h (Builtin.len_ #[33] 3 #[t0]) fun t4 => q P h (convert 3 65 t4) fun t5 => Cn P 41 #[t5, (Value.int .i64 4)] h fun t6 h => Cn P 40 #[t6] h fun t7 h => aw P (Builtin.append_ #[33, 33] 33 #[t7, t0]) (fun t9 h => K t9 h) h
theorem F_orlopref27_row {K : Value → Hp → Prop} {h : Hp} {t0 : Value} (s : s_orlopref27_row K h t0) : Cn P 42 #[t0] h K :=
  Cn_ofs mixed Tryz.func42 (by kernel_rfl) (args := [t0]) (by kernel_rfl) s
/-- function 43: (*orlop.chest.reader).number -/
def s_chest_reader_number (K : Value → Hp → Prop) (h : Hp) (t0 t1 : Value) : Prop := q P h (nilCk t0) fun t7 => q P h (Instr.fieldAt 60 t7 0) fun t8 => q P h (Instr.loadAt 33 t8) fun t9 => Cn P 59 #[t9] h fun t10 h => q P h (convert 98 3 t10) fun t11 => 
let J4 : Value → Hp → Prop := fun t28 h => cnd t28 (q P h (nilCk t0) fun t30 => q P h (Instr.fieldAt 60 t30 1) fun t31 => aw P (Instr.storeAt 4 t31 (Value.bool true)) (fun _ h => K (Value.int .i64 0) h) h) (q P h (nilCk t0) fun t34 => q P h (Instr.fieldAt 60 t34 0) fun t35 => q P h (Instr.loadAt 33 t35) fun t36 => q P h (Instr.sliceAt 33 t36 (some (Value.int .i64 4)) none none) fun t37 => q P h (nilCk t0) fun t38 => q P h (Instr.fieldAt 60 t38 0) fun t39 => aw P (Instr.storeAt 33 t39 t37) (fun _ h => K t11 h) h);
q P h (nilCk t0) fun t13 => q P h (Instr.fieldAt 60 t13 0) fun t14 => q P h (Instr.loadAt 33 t14) fun t15 => q P h (Builtin.len_ #[33] 3 #[t15]) fun t16 => q P h (binOp .lss 3 t16 (Value.int .i64 4)) fun t17 => gd t17 false (q P h (binOp .gtr 3 t11 t1) fun t21 => gd t21 false (q P h (nilCk t0) fun t25 => q P h (Instr.fieldAt 60 t25 1) fun t26 => q P h (Instr.loadAt 4 t26) fun t27 => J4 t27 h) (J4 (Value.bool true) h)) (J4 (Value.bool true) h)
theorem F_chest_reader_number {K : Value → Hp → Prop} {h : Hp} {t0 t1 : Value} (s : s_chest_reader_number K h t0 t1) : Cn P 43 #[t0, t1] h K :=
  Cn_ofs mixed Tryz.func43 (by kernel_rfl) (args := [t0, t1]) (by kernel_rfl) s
/-- function 44: (*orlop.chest.reader).row -/
def s_chest_reader_row (K : Value → Hp → Prop) (h : Hp) (t0 : Value) : Prop := q P h (nilCk t0) fun t7 => q P h (Instr.fieldAt 60 t7 0) fun t8 => q P h (Instr.loadAt 33 t8) fun t9 => q P h (Builtin.len_ #[33] 3 #[t9]) fun t10 => q P h (binOp .sub 3 t10 (Value.int .i64 4)) fun t11 => q P h (Builtin.max_ #[3, 3] 3 #[t11, (Value.int .i64 0)]) fun t12 => Cn P 43 #[t0, t12] h fun t13 h => q P h (nilCk t0) fun t15 => q P h (Instr.fieldAt 60 t15 0) fun t16 => q P h (Instr.loadAt 33 t16) fun t17 => q P h (Instr.sliceAt 33 t17 none (some t13) none) fun t19 => Cn P 60 #[t19] h fun t20 h => q P h (nilCk t0) fun t23 => q P h (Instr.fieldAt 60 t23 0) fun t24 => q P h (Instr.loadAt 33 t24) fun t25 => q P h (Instr.sliceAt 33 t25 (some t13) none none) fun t27 => q P h (nilCk t0) fun t28 => q P h (Instr.fieldAt 60 t28 0) fun t29 => aw P (Instr.storeAt 33 t29 t27) (fun _ h => K t20 h) h
theorem F_chest_reader_row {K : Value → Hp → Prop} {h : Hp} {t0 : Value} (s : s_chest_reader_row K h t0) : Cn P 44 #[t0] h K :=
  Cn_ofs mixed Tryz.func44 (by kernel_rfl) (args := [t0]) (by kernel_rfl) s
/-- function 45: orlop.chest.some[[]byte] -/
def s_chest_some_byte (K : Value → Hp → Prop) (h : Hp) (t0 t1 t2 : Value) : Prop := Cn P 43 #[t0, t1] h fun t10 h => 
Lp [(Value.slice none 0 0), (Value.slice none 0 0), (Value.int .i64 0)] h fun nx5 vs5 h =>
q P h (binOp .lss 3 (vs5.getD 2 undef) t10) fun t12 => cnd t12 (callP P t2 [] h fun t15 h => aw P (Instr.buildSlice 29 1 #[(0, t15)]) (fun t16 h => aw P (Builtin.append_ #[29, 29] 29 #[(vs5.getD 0 undef), t16]) (fun t17 h => q P h (nilCk t0) fun t19 => q P h (Instr.fieldAt 60 t19 1) fun t20 => q P h (Instr.loadAt 4 t20) fun t21 => cnd t21 (K (Value.slice none 0 0) h) (q P h (binOp .add 3 (vs5.getD 2 undef) (Value.int .i64 1)) fun t22 => nx5 [t17, (vs5.getD 1 undef), t22] h)) h) h) (K (vs5.getD 0 undef) h)
theorem F_chest_some_byte {K : Value → Hp → Prop} {h : Hp} {t0 t1 t2 : Value} (s : s_chest_some_byte K h t0 t1 t2) : Cn P 45 #[t0, t1, t2] h K :=
  Cn_ofs mixed Tryz.func45 (by kernel_rfl) (args := [t0, t1, t2]) (by kernel_rfl) s
end Go.Proofs.YtlkhmddmdmlffaaGreatDoor
set_option linter.unusedVariables false
set_option maxRecDepth 100000
namespace Go.Proofs.YtlkhmddmdmlffaaGreatDoor
open Go Go.SL
/-- function 46: orlop.orlopref02.Pad -/
def s_orlopref02_Pad (K : Value → Hp → Prop) (h : Hp) (t0 : Value) : Prop := aw P (Instr.buildSlice 33 0 #[]) (fun t4 h => aw P (Builtin.append_ #[33, 33] 33 #[t4, t0]) (fun t6 h => aw P (Instr.buildSlice 33 1 #[(0, (Value.int .u8 128))]) (fun t7 h => aw P (Builtin.append_ #[33, 33] 33 #[t6, t7]) (fun t8 h => 
Lp [t8] h fun nx4 vs4 h =>
q P h (Builtin.len_ #[33] 3 #[(vs4.getD 0 undef)]) fun t10 => q P h (binOp .rem 3 t10 (Value.int .i64 64)) fun t11 => q P h (eqop .neq 3 (.tmp 11) (.const (Value.int .i64 56)) t11 (Value.int .i64 56)) fun t12 => cnd t12 (aw P (Instr.buildSlice 33 1 #[(0, (Value.int .u8 0))]) (fun t14 h => aw P (Builtin.append_ #[33, 33] 33 #[(vs4.getD 0 undef), t14]) (fun t15 h => nx4 [t15] h) h) h) (q P h (Builtin.len_ #[33] 3 #[t0]) fun t18 => q P h (convert 3 65 t18) fun t19 => q P h (binOp .mul 65 (Value.int .u64 8) t19) fun t20 => Cn P 41 #[t20, (Value.int .i64 8)] h fun t21 h => Cn P 40 #[t21] h fun t22 h => aw P (Builtin.append_ #[33, 33] 33 #[(vs4.getD 0 undef), t22]) (fun t23 h => K t23 h) h)) h) h) h) h
theorem F_orlopref02_Pad {K : Value → Hp → Prop} {h : Hp} {t0 : Value} (s : s_orlopref02_Pad K h t0) : Cn P 46 #[t0] h K :=
  Cn_ofs mixed Tryz.func46 (by kernel_rfl) (args := [t0]) (by kernel_rfl) s
/-- function 47: orlop.orlopref02.H -/
def s_orlopref02_H (K : Value → Hp → Prop) (h : Hp) : Prop := aw P (Instr.buildSlice 95 8 #[(0, (Value.int .u32 1779033703)), (1, (Value.int .u32 3144134277)), (2, (Value.int .u32 1013904242)), (3, (Value.int .u32 2773480762)), (4, (Value.int .u32 1359893119)), (5, (Value.int .u32 2600822924)), (6, (Value.int .u32 528734635)), (7, (Value.int .u32 1541459225))]) (fun t1 h => K t1 h) h
theorem F_orlopref02_H {K : Value → Hp → Prop} {h : Hp} (s : s_orlopref02_H K h) : Cn P 47 #[] h K :=
  Cn_ofs mixed Tryz.func47 (by kernel_rfl) (args := []) (by kernel_rfl) s
/-- function 48: orlop.orlopref02.K -/
def s_orlopref02_K (K : Value → Hp → Prop) (h : Hp) : Prop := aw P (Instr.buildSlice 95 64 #[(0, (Value.int .u32 1116352408)), (1, (Value.int .u32 1899447441)), (2, (Value.int .u32 3049323471)), (3, (Value.int .u32 3921009573)), (4, (Value.int .u32 961987163)), (5, (Value.int .u32 1508970993)), (6, (Value.int .u32 2453635748)), (7, (Value.int .u32 2870763221)), (8, (Value.int .u32 3624381080)), (9, (Value.int .u32 310598401)), (10, (Value.int .u32 607225278)), (11, (Value.int .u32 1426881987)), (12, (Value.int .u32 1925078388)), (13, (Value.int .u32 2162078206)), (14, (Value.int .u32 2614888103)), (15, (Value.int .u32 3248222580)), (16, (Value.int .u32 3835390401)), (17, (Value.int .u32 4022224774)), (18, (Value.int .u32 264347078)), (19, (Value.int .u32 604807628)), (20, (Value.int .u32 770255983)), (21, (Value.int .u32 1249150122)), (22, (Value.int .u32 1555081692)), (23, (Value.int .u32 1996064986)), (24, (Value.int .u32 2554220882)), (25, (Value.int .u32 2821834349)), (26, (Value.int .u32 2952996808)), (27, (Value.int .u32 3210313671)), (28, (Value.int .u32 3336571891)), (29, (Value.int .u32 3584528711)), (30, (Value.int .u32 113926993)), (31, (Value.int .u32 338241895)), (32, (Value.int .u32 666307205)), (33, (Value.int .u32 773529912)), (34, (Value.int .u32 1294757372)), (35, (Value.int .u32 1396182291)), (36, (Value.int .u32 1695183700)), (37, (Value.int .u32 1986661051)), (38, (Value.int .u32 2177026350)), (39, (Value.int .u32 2456956037)), (40, (Value.int .u32 2730485921)), (41, (Value.int .u32 2820302411)), (42, (Value.int .u32 3259730800)), (43, (Value.int .u32 3345764771)), (44, (Value.int .u32 3516065817)), (45, (Value.int .u32 3600352804)), (46, (Value.int .u32 4094571909)), (47, (Value.int .u32 275423344)), (48, (Value.int .u32 430227734)), (49, (Value.int .u32 506948616)), (50, (Value.int .u32 659060556)), (51, (Value.int .u32 883997877)), (52, (Value.int .u32 958139571)), (53, (Value.int .u32 1322822218)), (54, (Value.int .u32 1537002063)), (55, (Value.int .u32 1747873779)), (56, (Value.int .u32 1955562222)), (57, (Value.int .u32 2024104815)), (58, (Value.int .u32 2227730452)), (59, (Value.int .u32 2361852424)), (60, (Value.int .u32 2428436474)), (61, (Value.int .u32 2756734187)), (62, (Value.int .u32 3204031479)), (63, (Value.int .u32 3329325298))]) (fun t1 h => K t1 h) h
theorem F_orlopref02_K {K : Value → Hp → Prop} {h : Hp} (s : s_orlopref02_K K h) : Cn P 48 #[] h K :=
  Cn_ofs mixed Tryz.func48 (by kernel_rfl) (args := []) (by kernel_rfl) s
/-- function 49: orlop.orlopref02.Work -/
def s_orlopref02_Work (K : Value → Hp → Prop) (h : Hp) (t0 t1 t2 : Value) : Prop := 
Lp [(Value.slice none 0 0), (Value.int .i64 0)] h fun nx5 vs5 h =>
q P h (binOp .lss 3 (vs5.getD 1 undef) (Value.int .i64 16)) fun t24 => cnd t24 (q P h (binOp .mul 3 (Value.int .i64 4) (vs5.getD 1 undef)) fun t30 => q P h (Instr.sliceAt 33 t2 (some t30) none none) fun t31 => Cn P 30 #[t31, (Value.int .i64 4)] h fun t32 h => q P h (convert 65 98 t32) fun t33 => aw P (Instr.buildSlice 95 1 #[(0, t33)]) (fun t34 h => aw P (Builtin.append_ #[95, 95] 95 #[(vs5.getD 0 undef), t34]) (fun t35 h => q P h (binOp .add 3 (vs5.getD 1 undef) (Value.int .i64 1)) fun t26 => nx5 [t35, t26] h) h) h) (
Lp [(vs5.getD 0 undef), (Value.int .i64 16)] h fun nx11 vs11 h =>
q P h (binOp .lss 3 (vs11.getD 1 undef) (Value.int .i64 64)) fun t37 => cnd t37 (q P emp (binOp .sub 3 (vs11.getD 1 undef) (Value.int .i64 15)) fun t42 => q P emp (Instr.indexAt 95 (vs11.getD 0 undef) t42) fun t43 => q P h (Instr.loadAt 98 t43) fun t44 => q P emp (binOp .sub 3 (vs11.getD 1 undef) (Value.int .i64 15)) fun t48 => q P emp (Instr.indexAt 95 (vs11.getD 0 undef) t48) fun t49 => q P h (Instr.loadAt 98 t49) fun t50 => q P emp (binOp .sub 3 (vs11.getD 1 undef) (Value.int .i64 15)) fun t55 => q P emp (Instr.indexAt 95 (vs11.getD 0 undef) t55) fun t56 => q P h (Instr.loadAt 98 t56) fun t57 => q P emp (binOp .shr 98 t57 (Value.int .u64 3)) fun t58 => Cn P 61 #[t44, (Value.int .i64 7)] h fun t45 h => peek P h (Instr.loadAt 98 t56) = some t57 ∧ peek P h (Instr.loadAt 98 t49) = some t50 ∧ Cn P 61 #[t50, (Value.int .i64 18)] h fun t51 h => peek P h (Instr.loadAt 98 t56) = some t57 ∧ q P emp (binOp .xor 98 t45 t51) fun t52 => q P emp (binOp .xor 98 t52 t58) fun t59 => q P emp (binOp .sub 3 (vs11.getD 1 undef) (Value.int .i64 2)) fun t62 => q P emp (Instr.indexAt 95 (vs11.getD 0 undef) t62) fun t63 => q P h (Instr.loadAt 98 t63) fun t64 => q P emp (binOp .sub 3 (vs11.getD 1 undef) (Value.int .i64 2)) fun t68 => q P emp (Instr.indexAt 95 (vs11.getD 0 undef) t68) fun t69 => q P h (Instr.loadAt 98 t69) fun t70 => q P emp (binOp .sub 3 (vs11.getD 1 undef) (Value.int .i64 2)) fun t75 => q P emp (Instr.indexAt 95 (vs11.getD 0 undef) t75) fun t76 => q P h (Instr.loadAt 98 t76) fun t77 => q P emp (binOp .shr 98 t77 (Value.int .u64 10)) fun t78 => Cn P 61 #[t64, (Value.int .i64 17)] h fun t65 h => peek P h (Instr.loadAt 98 t76) = some t77 ∧ peek P h (Instr.loadAt 98 t69) = some t70 ∧ Cn P 61 #[t70, (Value.int .i64 19)] h fun t71 h => peek P h (Instr.loadAt 98 t76) = some t77 ∧ q P emp (binOp .xor 98 t65 t71) fun t72 => q P emp (binOp .xor 98 t72 t78) fun t79 => q P emp (binOp .sub 3 (vs11.getD 1 undef) (Value.int .i64 16)) fun t83 => q P emp (Instr.indexAt 95 (vs11.getD 0 undef) t83) fun t84 => q P h (Instr.loadAt 98 t84) fun t85 => q P emp (binOp .add 98 t85 t59) fun t87 => q P emp (binOp .sub 3 (vs11.getD 1 undef) (Value.int .i64 7)) fun t90 => q P emp (Instr.indexAt 95 (vs11.getD 0 undef) t90) fun t91 => q P h (Instr.loadAt 98 t91) fun t92 => q P emp (binOp .add 98 t87 t92) fun t93 => q P emp (binOp .add 98 t93 t79) fun t95 => aw P (Instr.buildSlice 95 1 #[(0, t95)]) (fun t96 h => aw P (Builtin.append_ #[95, 95] 95 #[(vs11.getD 0 undef), t96]) (fun t97 h => q P h (binOp .add 3 (vs11.getD 1 undef) (Value.int .i64 1)) fun t39 => nx11 [t97, t39] h) h) h) (q P emp (Instr.indexAt 95 t0 (Value.int .i64 0)) fun t99 => q P h (Instr.loadAt 98 t99) fun t100 => q P emp (Instr.indexAt 95 t0 (Value.int .i64 1)) fun t102 => q P h (Instr.loadAt 98 t102) fun t103 => q P emp (Instr.indexAt 95 t0 (Value.int .i64 2)) fun t105 => q P h (Instr.loadAt 98 t105) fun t106 => q P emp (Instr.indexAt 95 t0 (Value.int .i64 3)) fun t108 => q P h (Instr.loadAt 98 t108) fun t109 => q P emp (Instr.indexAt 95 t0 (Value.int .i64 4)) fun t111 => q P h (Instr.loadAt 98 t111) fun t112 => q P emp (Instr.indexAt 95 t0 (Value.int .i64 5)) fun t114 => q P h (Instr.loadAt 98 t114) fun t115 => q P emp (Instr.indexAt 95 t0 (Value.int .i64 6)) fun t117 => q P h (Instr.loadAt 98 t117) fun t118 => q P emp (Instr.indexAt 95 t0 (Value.int .i64 7)) fun t120 => q P h (Instr.loadAt 98 t120) fun t121 => 
Lp [t121, t118, t115, t112, t109, t106, t103, t100, (Value.int .i64 0)] h fun nx20 vs20 h =>
q P h (binOp .lss 3 (vs20.getD 8 undef) (Value.int .i64 64)) fun t123 => cnd t123 (q P emp (binOp .and 98 (vs20.getD 3 undef) (vs20.getD 2 undef)) fun t138 => q P emp (Op.unary .xor (vs20.getD 3 undef)) fun t140 => q P emp (binOp .and 98 t140 (vs20.getD 1 undef)) fun t142 => q P emp (binOp .xor 98 t138 t142) fun t143 => q P emp (Instr.indexAt 95 t1 (vs20.getD 8 undef)) fun t147 => q P h (Instr.loadAt 98 t147) fun t148 => q P emp (Instr.indexAt 95 (vs11.getD 0 undef) (vs20.getD 8 undef)) fun t152 => q P h (Instr.loadAt 98 t152) fun t153 => Cn P 61 #[(vs20.getD 3 undef), (Value.int .i64 6)] h fun t128 h => peek P h (Instr.loadAt 98 t152) = some t153 ∧ peek P h (Instr.loadAt 98 t147) = some t148 ∧ Cn P 61 #[(vs20.getD 3 undef), (Value.int .i64 11)] h fun t130 h => peek P h (Instr.loadAt 98 t152) = some t153 ∧ peek P h (Instr.loadAt 98 t147) = some t148 ∧ q P emp (binOp .xor 98 t128 t130) fun t131 => Cn P 61 #[(vs20.getD 3 undef), (Value.int .i64 25)] h fun t133 h => peek P h (Instr.loadAt 98 t152) = some t153 ∧ peek P h (Instr.loadAt 98 t147) = some t148 ∧ q P emp (binOp .xor 98 t131 t133) fun t134 => q P emp (binOp .add 98 (vs20.getD 0 undef) t134) fun t135 => q P emp (binOp .add 98 t135 t143) fun t144 => q P emp (binOp .add 98 t144 t148) fun t149 => q P emp (binOp .add 98 t149 t153) fun t154 => Cn P 61 #[(vs20.getD 7 undef), (Value.int .i64 2)] h fun t156 h => Cn P 61 #[(vs20.getD 7 undef), (Value.int .i64 13)] h fun t158 h => q P h (binOp .xor 98 t156 t158) fun t159 => Cn P 61 #[(vs20.getD 7 undef), (Value.int .i64 22)] h fun t161 h => q P h (binOp .xor 98 t159 t161) fun t162 => q P h (binOp .and 98 (vs20.getD 7 undef) (vs20.getD 6 undef)) fun t165 => q P h (binOp .and 98 (vs20.getD 7 undef) (vs20.getD 5 undef)) fun t168 => q P h (binOp .xor 98 t165 t168) fun t169 => q P h (binOp .and 98 (vs20.getD 6 undef) (vs20.getD 5 undef)) fun t172 => q P h (binOp .xor 98 t169 t172) fun t173 => q P h (binOp .add 98 t162 t173) fun t174 => q P h (binOp .add 98 (vs20.getD 4 undef) t154) fun t180 => q P h (binOp .add 98 t154 t174) fun t186 => q P h (binOp .add 3 (vs20.getD 8 undef) (Value.int .i64 1)) fun t125 => nx20 [(vs20.getD 1 undef), (vs20.getD 2 undef), (vs20.getD 3 undef), t180, (vs20.getD 5 undef), (vs20.getD 6 undef), (vs20.getD 7 undef), t186, t125] h) (q P emp (Instr.indexAt 95 t0 (Value.int .i64 0)) fun t188 => q P h (Instr.loadAt 98 t188) fun t189 => q P emp (binOp .add 98 t189 (vs20.getD 7 undef)) fun t191 => q P emp (Instr.indexAt 95 t0 (Value.int .i64 1)) fun t193 => q P h (Instr.loadAt 98 t193) fun t194 => q P emp (binOp .add 98 t194 (vs20.getD 6 undef)) fun t196 => q P emp (Instr.indexAt 95 t0 (Value.int .i64 2)) fun t198 => q P h (Instr.loadAt 98 t198) fun t199 => q P emp (binOp .add 98 t199 (vs20.getD 5 undef)) fun t201 => q P emp (Instr.indexAt 95 t0 (Value.int .i64 3)) fun t203 => q P h (Instr.loadAt 98 t203) fun t204 => q P emp (binOp .add 98 t204 (vs20.getD 4 undef)) fun t206 => q P emp (Instr.indexAt 95 t0 (Value.int .i64 4)) fun t208 => q P h (Instr.loadAt 98 t208) fun t209 => q P emp (binOp .add 98 t209 (vs20.getD 3 undef)) fun t211 => q P emp (Instr.indexAt 95 t0 (Value.int .i64 5)) fun t213 => q P h (Instr.loadAt 98 t213) fun t214 => q P emp (binOp .add 98 t214 (vs20.getD 2 undef)) fun t216 => q P emp (Instr.indexAt 95 t0 (Value.int .i64 6)) fun t218 => q P h (Instr.loadAt 98 t218) fun t219 => q P emp (binOp .add 98 t219 (vs20.getD 1 undef)) fun t221 => q P emp (Instr.indexAt 95 t0 (Value.int .i64 7)) fun t223 => q P h (Instr.loadAt 98 t223) fun t224 => q P emp (binOp .add 98 t224 (vs20.getD 0 undef)) fun t226 => aw P (Instr.buildSlice 95 8 #[(0, t191), (1, t196), (2, t201), (3, t206), (4, t211), (5, t216), (6, t221), (7, t226)]) (fun t227 h => K t227 h) h)))
theorem F_orlopref02_Work {K : Value → Hp → Prop} {h : Hp} {t0 t1 t2 : Value} (s : s_orlopref02_Work K h t0 t1 t2) : Cn P 49 #[t0, t1, t2] h K :=
  Cn_ofs mixed Tryz.func49 (by kernel_rfl) (args := [t0, t1, t2]) (by kernel_rfl) s
end Go.Proofs.YtlkhmddmdmlffaaGreatDoor
set_option linter.unusedVariables false
set_option maxRecDepth 100000
namespace Go.Proofs.YtlkhmddmdmlffaaGreatDoor
open Go Go.SL
/-- function 58: orlop.word.Big32 -/
def s_word_Big32 (K : Value → Hp → Prop) (h : Hp) (t0 : Value) : Prop := q P h (convert 98 65 t0) fun t4 => Cn P 90 #[t4, (Value.int .i64 4)] h fun t5 h => K t5 h
theorem F_word_Big32 {K : Value → Hp → Prop} {h : Hp} {t0 : Value} (s : s_word_Big32 K h t0) : Cn P 58 #[t0] h K :=
  Cn_ofs mixed Tryz.func58 (by kernel_rfl) (args := [t0]) (by kernel_rfl) s
/-- function 59: orlop.word.GetBig32 -/
def s_word_GetBig32 (K : Value → Hp → Prop) (h : Hp) (t0 : Value) : Prop := Cn P 91 #[t0, (Value.int .i64 4)] h fun t4 h => q P h (convert 65 98 t4) fun t5 => K t5 h
theorem F_word_GetBig32 {K : Value → Hp → Prop} {h : Hp} {t0 : Value} (s : s_word_GetBig32 K h t0) : Cn P 59 #[t0] h K :=
  Cn_ofs mixed Tryz.func59 (by kernel_rfl) (args := [t0]) (by kernel_rfl) s
/-- function 60: bytes.Clone -/
def s_bytes_Clone (K : Value → Hp → Prop) (h : Hp) (t0 : Value) : Prop := q P h (eqop .eql 33 (.tmp 3) (.const (Value.slice none 0 0)) t0 (Value.slice none 0 0)) fun t4 => cnd t4 (K (Value.slice none 0 0) h) (aw P (Instr.buildSlice 33 0 #[]) (fun t5 h => aw P (Builtin.append_ #[33, 33] 33 #[t5, t0]) (fun t7 h => K t7 h) h) h)
theorem F_bytes_Clone {K : Value → Hp → Prop} {h : Hp} {t0 : Value} (s : s_bytes_Clone K h t0) : Cn P 60 #[t0] h K :=
  Cn_ofs mixed Tryz.func60 (by kernel_rfl) (args := [t0]) (by kernel_rfl) s
/-- function 61: orlop.orlopref02.ror -/
def s_orlopref02_ror (K : Value → Hp → Prop) (h : Hp) (t0 t1 : Value) : Prop := q P h (convert 3 121 t1) fun t7 => q P h (binOp .shr 98 t0 t7) fun t8 => q P h (binOp .sub 3 (Value.int .i64 32) t1) fun t11 => q P h (convert 3 121 t11) fun t12 => q P h (binOp .shl 98 t0 t12) fun t13 => q P h (binOp .or 98 t8 t13) fun t14 => K t14 h
theorem F_orlopref02_ror {K : Value → Hp → Prop} {h : Hp} {t0 t1 : Value} (s : s_orlopref02_ror K h t0 t1) : Cn P 61 #[t0, t1] h K :=
  Cn_ofs mixed Tryz.func61 (by kernel_rfl) (args := [t0, t1]) (by kernel_rfl) s
end Go.Proofs.YtlkhmddmdmlffaaGreatDoor
set_option linter.unusedVariables false
set_option maxRecDepth 100000
namespace Go.Proofs.YtlkhmddmdmlffaaGreatDoor
open Go Go.SL
/-- function 90: orlop.word.big -/
def s_word_big (K : Value → Hp → Prop) (h : Hp) (t0 t1 : Value) : Prop := aw P (Instr.makeSlice 33 t1 t1) (fun t8 h => 
Lp [(Value.int .i64 0)] h fun nx5 vs5 h =>
q P h (binOp .lss 3 (vs5.getD 0 undef) t1) fun t11 => cnd t11 (q P h (binOp .sub 3 t1 (Value.int .i64 1)) fun t15 => q P h (binOp .sub 3 t15 (vs5.getD 0 undef)) fun t17 => q P h (binOp .mul 3 (Value.int .i64 8) (vs5.getD 0 undef)) fun t20 => q P h (binOp .shr 65 t0 t20) fun t21 => q P h (convert 65 5 t21) fun t22 => q P h (Instr.indexAt 33 t8 t17) fun t23 => aw P (Instr.storeAt 5 t23 t22) (fun _ h => q P h (binOp .add 3 (vs5.getD 0 undef) (Value.int .i64 1)) fun t24 => nx5 [t24] h) h) (K t8 h)) h
theorem F_word_big {K : Value → Hp → Prop} {h : Hp} {t0 t1 : Value} (s : s_word_big K h t0 t1) : Cn P 90 #[t0, t1] h K :=
  Cn_ofs mixed Tryz.func90 (by kernel_rfl) (args := [t0, t1]) (by kernel_rfl) s
/-- function 91: orlop.word.getBig -/
def s_word_getBig (K : Value → Hp → Prop) (h : Hp) (t0 t1 : Value) : Prop := 
Lp [(Value.int .u64 0), (Value.int .i64 0)] h fun nx5 vs5 h =>
q P h (binOp .lss 3 (vs5.getD 1 undef) t1) fun t9 => cnd t9 (q P h (binOp .shl 65 (vs5.getD 0 undef) (Value.int .u64 8)) fun t12 => Cn P 117 #[t0, (vs5.getD 1 undef)] h fun t15 h => q P h (binOp .or 65 t12 t15) fun t16 => q P h (binOp .add 3 (vs5.getD 1 undef) (Value.int .i64 1)) fun t17 => nx5 [t16, t17] h) (K (vs5.getD 0 undef) h)
theorem F_word_getBig {K : Value → Hp → Prop} {h : Hp} {t0 t1 : Value} (s : s_word_getBig K h t0 t1) : Cn P 91 #[t0, t1] h K :=
  Cn_ofs mixed Tryz.func91 (by kernel_rfl) (args := [t0, t1]) (by kernel_rfl) s
end Go.Proofs.YtlkhmddmdmlffaaGreatDoor
set_option linter.unusedVariables false
set_option maxRecDepth 100000
namespace Go.Proofs.YtlkhmddmdmlffaaGreatDoor
open Go Go.SL
/-- function 117: orlop.word.at -/
def s_word_at (K : Value → Hp → Prop) (h : Hp) (t0 t1 : Value) : Prop := q P h (Builtin.len_ #[33] 3 #[t0]) fun t7 => q P h (binOp .lss 3 t1 t7) fun t8 => cnd t8 (q P h (Instr.indexAt 33 t0 t1) fun t11 => q P h (Instr.loadAt 5 t11) fun t12 => q P h (convert 5 65 t12) fun t13 => K t13 h) (K (Value.int .u64 0) h)
theorem F_word_at {K : Value → Hp → Prop} {h : Hp} {t0 t1 : Value} (s : s_word_at K h t0 t1) : Cn P 117 #[t0, t1] h K :=
  Cn_ofs mixed Tryz.func117 (by kernel_rfl) (args := [t0, t1]) (by kernel_rfl) s
end Go.Proofs.YtlkhmddmdmlffaaGreatDoor
set_option linter.unusedVariables false
set_option maxRecDepth 100000
namespace Go.Proofs.YtlkhmddmdmlffaaGreatDoor
open Go Go.SL
/-- function 221: (*orlop.crypt.book).Sum -/
def s_crypt_book_Sum (K : Value → Hp → Prop) (h : Hp) (t0 t1 : Value) : Prop := q P emp (nilCk t0) fun t10 => q P h (Instr.fieldAt 73 t10 0) fun t11 => q P h (Instr.loadAt 70 t11) fun t12 => q P h (convert 33 9 t1) fun t14 => q P h (Instr.lookup 70 t12 t14 true) fun t15 => q P emp (Instr.extract t15 0) fun t16 => q P emp (Instr.extract t15 1) fun t17 => 
let J3 : Value → Hp → Prop := fun t5 h => aw P (Instr.makeSlice 33 (Value.int .i64 32) (Value.int .i64 32)) (fun t32 h => aw P (Builtin.copy_ #[33, 9] 3 #[t32, (Value.string ⟨#[83, 85, 77, 33]⟩)]) (fun t34 h => q P h (Instr.sliceAt 33 t32 (some (Value.int .i64 24)) none none) fun t36 => q P h (convert 3 65 t5) fun t38 => Cn P 222 #[t38] h fun t39 h => peek P h (Instr.sliceAt 33 t32 (some (Value.int .i64 24)) none none) = some t36 ∧ aw P (Builtin.copy_ #[33, 33] 3 #[t36, t39]) (fun t40 h => K t32 h) h) h) h;
q P h (Op.unary .not t17) fun t19 => cnd t19 (q P h (nilCk t0) fun t21 => q P h (Instr.fieldAt 73 t21 0) fun t22 => q P h (Instr.loadAt 70 t22) fun t23 => q P h (Builtin.len_ #[70] 3 #[t23]) fun t24 => q P emp (nilCk t0) fun t26 => q P h (Instr.fieldAt 73 t26 0) fun t27 => q P h (Instr.loadAt 70 t27) fun t28 => q P h (convert 33 9 t1) fun t30 => aw P (Instr.mapUpdate 70 t28 t30 t24) (fun _ h => J3 t24 h) h) (J3 t16 h)
theorem F_crypt_book_Sum {K : Value → Hp → Prop} {h : Hp} {t0 t1 : Value} (s : s_crypt_book_Sum K h t0 t1) : Cn P 221 #[t0, t1] h K :=
  Cn_ofs mixed Tryz.func221 (by kernel_rfl) (args := [t0, t1]) (by kernel_rfl) s
/-- function 222: orlop.word.Big64 -/
def s_word_Big64 (K : Value → Hp → Prop) (h : Hp) (t0 : Value) : Prop := Cn P 90 #[t0, (Value.int .i64 8)] h fun t4 h => K t4 h
theorem F_word_Big64 {K : Value → Hp → Prop} {h : Hp} {t0 : Value} (s : s_word_Big64 K h t0) : Cn P 222 #[t0] h K :=
  Cn_ofs mixed Tryz.func222 (by kernel_rfl) (args := [t0]) (by kernel_rfl) s
/-- function 225: (orlop.crypt.actual).Sum -/
def s_crypt_actual_Sum (K : Value → Hp → Prop) (h : Hp) (t0 t1 : Value) : Prop := aw P (Instr.box 86 t0) (fun t2 h => Cn P 226 #[t1] h fun t6 h => K t6 h) h
theorem F_crypt_actual_Sum {K : Value → Hp → Prop} {h : Hp} {t0 t1 : Value} (s : s_crypt_actual_Sum K h t0 t1) : Cn P 225 #[t0, t1] h K :=
  Cn_ofs mixed Tryz.func225 (by kernel_rfl) (args := [t0, t1]) (by kernel_rfl) s
/-- function 226: orlop.sha.Of -/
def s_sha_Of (K : Value → Hp → Prop) (h : Hp) (t0 : Value) : Prop := Cn P 227 #[] h fun t4 h => Cn P 228 #[t4, t0] h fun t7 h => Cn P 229 #[t4] h fun t9 h => K t9 h
theorem F_sha_Of {K : Value → Hp → Prop} {h : Hp} {t0 : Value} (s : s_sha_Of K h t0) : Cn P 226 #[t0] h K :=
  Cn_ofs mixed Tryz.func226 (by kernel_rfl) (args := [t0]) (by kernel_rfl) s
/-- function 227: orlop.sha.New -/
def s_sha_New (K : Value → Hp → Prop) (h : Hp) : Prop := Cn P 230 #[] h fun t1 h => Cn P 231 #[] h fun t2 h => q P h (Instr.build 294 #[(0, t1), (1, t2)]) fun t3 => aw P (Instr.box 294 t3) (fun t4 h => K t4 h) h
theorem F_sha_New {K : Value → Hp → Prop} {h : Hp} (s : s_sha_New K h) : Cn P 227 #[] h K :=
  Cn_ofs mixed Tryz.func227 (by kernel_rfl) (args := []) (by kernel_rfl) s
/-- function 228: (*orlop.sha.Hash).Add -/
def s_sha_Hash_Add (K : Value → Hp → Prop) (h : Hp) (t0 t1 : Value) : Prop := q P h (nilCk t0) fun t6 => q P h (Instr.fieldAt 294 t6 4) fun t7 => q P h (Instr.loadAt 65 t7) fun t8 => q P h (Builtin.len_ #[33] 3 #[t1]) fun t10 => q P h (convert 3 65 t10) fun t11 => q P h (binOp .add 65 t8 t11) fun t12 => q P h (nilCk t0) fun t13 => q P h (Instr.fieldAt 294 t13 4) fun t14 => aw P (Instr.storeAt 65 t14 t12) (fun _ h => 
Lp [t1] h fun nx2 vs2 h =>
q P h (Builtin.len_ #[33] 3 #[(vs2.getD 0 undef)]) fun t16 => q P h (binOp .gtr 3 t16 (Value.int .i64 0)) fun t17 => cnd t17 (q P emp (nilCk t0) fun t19 => q P h (Instr.fieldAt 294 t19 2) fun t20 => q P emp (nilCk t0) fun t22 => q P h (Instr.fieldAt 294 t22 3) fun t23 => q P h (Instr.loadAt 3 t23) fun t24 => q P h (Instr.sliceAt 252 t20 (some t24) none none) fun t25 => aw P (Builtin.copy_ #[33, 33] 3 #[t25, (vs2.getD 0 undef)]) (fun t27 h => q P h (nilCk t0) fun t29 => q P h (Instr.fieldAt 294 t29 3) fun t30 => q P h (Instr.loadAt 3 t30) fun t31 => q P h (binOp .add 3 t31 t27) fun t33 => q P h (nilCk t0) fun t34 => q P h (Instr.fieldAt 294 t34 3) fun t35 => aw P (Instr.storeAt 3 t35 t33) (fun _ h => q P h (Instr.sliceAt 33 (vs2.getD 0 undef) (some t27) none none) fun t38 => q P h (nilCk t0) fun t40 => q P h (Instr.fieldAt 294 t40 3) fun t41 => q P h (Instr.loadAt 3 t41) fun t42 => q P h (eqop .eql 3 (.tmp 42) (.const (Value.int .i64 64)) t42 (Value.int .i64 64)) fun t43 => cnd t43 (q P h (nilCk t0) fun t46 => q P h (Instr.fieldAt 294 t46 2) fun t47 => q P h (Instr.sliceAt 252 t47 none none none) fun t48 => Cn P 232 #[t0, t48] h fun t49 h => q P h (nilCk t0) fun t51 => q P h (Instr.fieldAt 294 t51 3) fun t52 => aw P (Instr.storeAt 3 t52 (Value.int .i64 0)) (fun _ h => nx2 [t38] h) h) (nx2 [t38] h)) h) h) (K (Value.tuple #[]) h)) h
theorem F_sha_Hash_Add {K : Value → Hp → Prop} {h : Hp} {t0 t1 : Value} (s : s_sha_Hash_Add K h t0 t1) : Cn P 228 #[t0, t1] h K :=
  Cn_ofs mixed Tryz.func228 (by kernel_rfl) (args := [t0, t1]) (by kernel_rfl) s
/-- function 229: (*orlop.sha.Hash).Sum -/
def s_sha_Hash_Sum (K : Value → Hp → Prop) (h : Hp) (t0 : Value) : Prop := q P h (nilCk t0) fun t9 => q P h (Instr.loadAt 294 t9) fun t10 => aw P (Instr.alloc 294 true (.tuple #[])) (fun t3 h => aw P (Instr.storeAt 294 t3 t10) (fun _ h => q P h (nilCk t0) fun t12 => q P h (Instr.fieldAt 294 t12 3) fun t13 => q P h (Instr.loadAt 3 t13) fun t14 => q P h (binOp .sub 3 (Value.int .i64 119) t14) fun t15 => q P h (binOp .rem 3 t15 (Value.int .i64 64)) fun t16 => q P h (binOp .add 3 (Value.int .i64 1) t16) fun t17 => aw P (Instr.makeSlice 33 t17 t17) (fun t18 h => q P h (Instr.indexAt 33 t18 (Value.int .i64 0)) fun t20 => aw P (Instr.storeAt 5 t20 (Value.int .u8 128)) (fun _ h => Cn P 228 #[t3, t18] h fun t22 h => q P h (nilCk t0) fun t24 => q P h (Instr.fieldAt 294 t24 4) fun t25 => q P h (Instr.loadAt 65 t25) fun t26 => q P h (binOp .mul 65 (Value.int .u64 8) t26) fun t27 => Cn P 222 #[t27] h fun t28 h => Cn P 228 #[t3, t28] h fun t29 h => q P h (Instr.fieldAt 294 t3 0) fun t30 => q P h (Instr.loadAt 289 t30) fun t31 => 
Lp [(Value.slice none 0 0), (Value.int .i64 0)] h fun nx10 vs10 h =>
q P h (binOp .lss 3 (vs10.getD 1 undef) (Value.int .i64 8)) fun t33 => cnd t33 (q P h (Instr.index 289 t31 (vs10.getD 1 undef)) fun t34 => Cn P 58 #[t34] h fun t37 h => aw P (Builtin.append_ #[33, 33] 33 #[(vs10.getD 0 undef), t37]) (fun t38 h => q P h (binOp .add 3 (vs10.getD 1 undef) (Value.int .i64 1)) fun t39 => nx10 [t38, t39] h) h) (K (vs10.getD 0 undef) h)) h) h) h) h
theorem F_sha_Hash_Sum {K : Value → Hp → Prop} {h : Hp} {t0 : Value} (s : s_sha_Hash_Sum K h t0) : Cn P 229 #[t0] h K :=
  Cn_ofs mixed Tryz.func229 (by kernel_rfl) (args := [t0]) (by kernel_rfl) s
/-- function 230: orlop.sha.beginning -/
def s_sha_beginning (K : Value → Hp → Prop) (h : Hp) : Prop := aw P (Instr.alloc 289 true (.tuple #[])) (fun t0 h => q P h (Instr.build 289 #[(0, (Value.int .u32 1779033703)), (1, (Value.int .u32 3144134277)), (2, (Value.int .u32 1013904242)), (3, (Value.int .u32 2773480762)), (4, (Value.int .u32 1359893119)), (5, (Value.int .u32 2600822924)), (6, (Value.int .u32 528734635)), (7, (Value.int .u32 1541459225))]) fun t1 => aw P (Instr.storeAt 289 t0 t1) (fun _ h => q P h ((asAddr t0).bind (loadVar 289)) fun r0 => K r0 h) h) h
theorem F_sha_beginning {K : Value → Hp → Prop} {h : Hp} (s : s_sha_beginning K h) : Cn P 230 #[] h K :=
  Cn_ofs mixed Tryz.func230 (by kernel_rfl) (args := []) (by kernel_rfl) s
/-- function 231: orlop.sha.constants -/
def s_sha_constants (K : Value → Hp → Prop) (h : Hp) : Prop := aw P (Instr.alloc 291 true (.tuple #[])) (fun t0 h => q P h (Instr.build 291 #[(0, (Value.int .u32 1116352408)), (1, (Value.int .u32 1899447441)), (2, (Value.int .u32 3049323471)), (3, (Value.int .u32 3921009573)), (4, (Value.int .u32 961987163)), (5, (Value.int .u32 1508970993)), (6, (Value.int .u32 2453635748)), (7, (Value.int .u32 2870763221)), (8, (Value.int .u32 3624381080)), (9, (Value.int .u32 310598401)), (10, (Value.int .u32 607225278)), (11, (Value.int .u32 1426881987)), (12, (Value.int .u32 1925078388)), (13, (Value.int .u32 2162078206)), (14, (Value.int .u32 2614888103)), (15, (Value.int .u32 3248222580)), (16, (Value.int .u32 3835390401)), (17, (Value.int .u32 4022224774)), (18, (Value.int .u32 264347078)), (19, (Value.int .u32 604807628)), (20, (Value.int .u32 770255983)), (21, (Value.int .u32 1249150122)), (22, (Value.int .u32 1555081692)), (23, (Value.int .u32 1996064986)), (24, (Value.int .u32 2554220882)), (25, (Value.int .u32 2821834349)), (26, (Value.int .u32 2952996808)), (27, (Value.int .u32 3210313671)), (28, (Value.int .u32 3336571891)), (29, (Value.int .u32 3584528711)), (30, (Value.int .u32 113926993)), (31, (Value.int .u32 338241895)), (32, (Value.int .u32 666307205)), (33, (Value.int .u32 773529912)), (34, (Value.int .u32 1294757372)), (35, (Value.int .u32 1396182291)), (36, (Value.int .u32 1695183700)), (37, (Value.int .u32 1986661051)), (38, (Value.int .u32 2177026350)), (39, (Value.int .u32 2456956037)), (40, (Value.int .u32 2730485921)), (41, (Value.int .u32 2820302411)), (42, (Value.int .u32 3259730800)), (43, (Value.int .u32 3345764771)), (44, (Value.int .u32 3516065817)), (45, (Value.int .u32 3600352804)), (46, (Value.int .u32 4094571909)), (47, (Value.int .u32 275423344)), (48, (Value.int .u32 430227734)), (49, (Value.int .u32 506948616)), (50, (Value.int .u32 659060556)), (51, (Value.int .u32 883997877)), (52, (Value.int .u32 958139571)), (53, (Value.int .u32 1322822218)), (54, (Value.int .u32 1537002063)), (55, (Value.int .u32 1747873779)), (56, (Value.int .u32 1955562222)), (57, (Value.int .u32 2024104815)), (58, (Value.int .u32 2227730452)), (59, (Value.int .u32 2361852424)), (60, (Value.int .u32 2428436474)), (61, (Value.int .u32 2756734187)), (62, (Value.int .u32 3204031479)), (63, (Value.int .u32 3329325298))]) fun t1 => aw P (Instr.storeAt 291 t0 t1) (fun _ h => q P h ((asAddr t0).bind (loadVar 291)) fun r0 => K r0 h) h) h
theorem F_sha_constants {K : Value → Hp → Prop} {h : Hp} (s : s_sha_constants K h) : Cn P 231 #[] h K :=
  Cn_ofs mixed Tryz.func231 (by kernel_rfl) (args := []) (by kernel_rfl) s
/-- function 232: (*orlop.sha.Hash).block -/
def s_sha_Hash_block (K : Value → Hp → Prop) (h : Hp) (t0 t1 : Value) : Prop := Cn P 233 #[t1] h fun t14 h => aw P (Instr.alloc 291 true (.tuple #[])) (fun t4 h => aw P (Instr.storeAt 291 t4 t14) (fun _ h => q P h (nilCk t0) fun t16 => q P h (Instr.fieldAt 294 t16 0) fun t17 => q P h (Instr.loadAt 289 t17) fun t18 => aw P (Instr.alloc 289 true (.tuple #[])) (fun t5 h => aw P (Instr.storeAt 289 t5 t18) (fun _ h => 
Lp [(Value.int .i64 0)] h fun nx5 vs5 h =>
q P h (binOp .lss 3 (vs5.getD 0 undef) (Value.int .i64 64)) fun t20 => cnd t20 (q P emp (Instr.indexAt 289 t5 (Value.int .i64 0)) fun t22 => q P h (Instr.loadAt 98 t22) fun t23 => q P emp (Instr.indexAt 289 t5 (Value.int .i64 4)) fun t24 => q P h (Instr.loadAt 98 t24) fun t25 => Cn P 234 #[t25, (Value.int .i64 (-6))] h fun t27 h => Cn P 234 #[t25, (Value.int .i64 (-11))] h fun t29 h => q P h (binOp .xor 98 t27 t29) fun t30 => Cn P 234 #[t25, (Value.int .i64 (-25))] h fun t32 h => q P h (binOp .xor 98 t30 t32) fun t33 => q P emp (Instr.indexAt 289 t5 (Value.int .i64 7)) fun t34 => q P h (Instr.loadAt 98 t34) fun t35 => q P emp (binOp .add 98 t35 t33) fun t37 => q P emp (Instr.indexAt 289 t5 (Value.int .i64 5)) fun t39 => q P h (Instr.loadAt 98 t39) fun t40 => q P emp (binOp .and 98 t25 t40) fun t41 => q P emp (Op.unary .xor t25) fun t43 => q P emp (Instr.indexAt 289 t5 (Value.int .i64 6)) fun t44 => q P h (Instr.loadAt 98 t44) fun t45 => q P emp (binOp .and 98 t43 t45) fun t46 => q P emp (binOp .xor 98 t41 t46) fun t47 => q P emp (binOp .add 98 t37 t47) fun t48 => q P emp (nilCk t0) fun t51 => q P h (Instr.fieldAt 294 t51 1) fun t52 => q P emp (Instr.indexAt 291 t52 (vs5.getD 0 undef)) fun t53 => q P h (Instr.loadAt 98 t53) fun t54 => q P emp (binOp .add 98 t48 t54) fun t55 => q P emp (Instr.indexAt 291 t4 (vs5.getD 0 undef)) fun t57 => q P h (Instr.loadAt 98 t57) fun t58 => q P emp (binOp .add 98 t55 t58) fun t59 => Cn P 234 #[t23, (Value.int .i64 (-2))] h fun t61 h => Cn P 234 #[t23, (Value.int .i64 (-13))] h fun t63 h => q P h (binOp .xor 98 t61 t63) fun t64 => Cn P 234 #[t23, (Value.int .i64 (-22))] h fun t66 h => q P h (binOp .xor 98 t64 t66) fun t67 => q P h (Instr.indexAt 289 t5 (Value.int .i64 1)) fun t70 => q P h (Instr.loadAt 98 t70) fun t71 => q P h (binOp .and 98 t23 t71) fun t72 => q P h (Instr.indexAt 289 t5 (Value.int .i64 2)) fun t74 => q P h (Instr.loadAt 98 t74) fun t75 => q P h (binOp .and 98 t23 t75) fun t76 => q P h (binOp .xor 98 t72 t76) fun t77 => q P h (Instr.indexAt 289 t5 (Value.int .i64 1)) fun t78 => q P h (Instr.loadAt 98 t78) fun t79 => q P h (Instr.indexAt 289 t5 (Value.int .i64 2)) fun t80 => q P h (Instr.loadAt 98 t80) fun t81 => q P h (binOp .and 98 t79 t81) fun t82 => q P h (binOp .xor 98 t77 t82) fun t83 => q P h (binOp .add 98 t67 t83) fun t84 => q P h (Instr.sliceAt 289 t5 (some (Value.int .i64 1)) none none) fun t85 => q P h (Instr.sliceAt 289 t5 none (some (Value.int .i64 7)) none) fun t86 => aw P (Builtin.copy_ #[95, 95] 3 #[t85, t86]) (fun t87 h => q P h (Instr.indexAt 289 t5 (Value.int .i64 4)) fun t88 => q P h (Instr.loadAt 98 t88) fun t89 => q P h (binOp .add 98 t89 t59) fun t91 => q P h (Instr.indexAt 289 t5 (Value.int .i64 4)) fun t92 => aw P (Instr.storeAt 98 t92 t91) (fun _ h => q P h (binOp .add 98 t59 t84) fun t95 => q P h (Instr.indexAt 289 t5 (Value.int .i64 0)) fun t96 => aw P (Instr.storeAt 98 t96 t95) (fun _ h => q P h (binOp .add 3 (vs5.getD 0 undef) (Value.int .i64 1)) fun t97 => nx5 [t97] h) h) h) h) (
Lp [(Value.int .i64 0)] h fun nx18 vs18 h =>
q P h (binOp .lss 3 (vs18.getD 0 undef) (Value.int .i64 8)) fun t99 => cnd t99 (q P emp (nilCk t0) fun t103 => q P h (Instr.fieldAt 294 t103 0) fun t104 => q P emp (Instr.indexAt 289 t104 (vs18.getD 0 undef)) fun t105 => q P h (Instr.loadAt 98 t105) fun t106 => q P emp (Instr.indexAt 289 t5 (vs18.getD 0 undef)) fun t108 => q P h (Instr.loadAt 98 t108) fun t109 => q P emp (binOp .add 98 t106 t109) fun t110 => q P emp (nilCk t0) fun t111 => q P h (Instr.fieldAt 294 t111 0) fun t112 => q P emp (Instr.indexAt 289 t112 (vs18.getD 0 undef)) fun t113 => aw P (Instr.storeAt 98 t113 t110) (fun _ h => q P h (binOp .add 3 (vs18.getD 0 undef) (Value.int .i64 1)) fun t114 => nx18 [t114] h) h) (K (Value.tuple #[]) h))) h) h) h) h
theorem F_sha_Hash_block {K : Value → Hp → Prop} {h : Hp} {t0 t1 : Value} (s : s_sha_Hash_block K h t0 t1) : Cn P 232 #[t0, t1] h K :=
  Cn_ofs mixed Tryz.func232 (by kernel_rfl) (args := [t0, t1]) (by kernel_rfl) s
end Go.Proofs.YtlkhmddmdmlffaaGreatDoor
set_option linter.unusedVariables false
set_option maxRecDepth 100000
namespace Go.Proofs.YtlkhmddmdmlffaaGreatDoor
open Go Go.SL
/-- function 233: orlop.sha.schedule -/
def s_sha_schedule (K : Value → Hp → Prop) (h : Hp) (t0 : Value) : Prop := aw P (Instr.alloc 291 true (.tuple #[])) (fun t2 h => aw P (Instr.alloc 291 true (.tuple #[])) (fun t3 h => 
Lp [(Value.int .i64 0)] h fun nx5 vs5 h =>
q P h (binOp .lss 3 (vs5.getD 0 undef) (Value.int .i64 16)) fun t11 => cnd t11 (q P h (binOp .mul 3 (Value.int .i64 4) (vs5.getD 0 undef)) fun t16 => q P h (binOp .mul 3 (Value.int .i64 4) (vs5.getD 0 undef)) fun t18 => q P h (binOp .add 3 t18 (Value.int .i64 4)) fun t19 => q P h (Instr.sliceAt 33 t0 (some t16) (some t19) none) fun t20 => Cn P 59 #[t20] h fun t21 h => q P h (Instr.indexAt 291 t3 (vs5.getD 0 undef)) fun t22 => aw P (Instr.storeAt 98 t22 t21) (fun _ h => q P h (binOp .add 3 (vs5.getD 0 undef) (Value.int .i64 1)) fun t23 => nx5 [t23] h) h) (
Lp [(Value.int .i64 16)] h fun nx12 vs12 h =>
q P h (binOp .lss 3 (vs12.getD 0 undef) (Value.int .i64 64)) fun t25 => cnd t25 (q P emp (binOp .sub 3 (vs12.getD 0 undef) (Value.int .i64 15)) fun t29 => q P emp (Instr.indexAt 291 t3 t29) fun t30 => q P h (Instr.loadAt 98 t30) fun t31 => q P emp (binOp .sub 3 (vs12.getD 0 undef) (Value.int .i64 2)) fun t33 => q P emp (Instr.indexAt 291 t3 t33) fun t34 => q P h (Instr.loadAt 98 t34) fun t35 => Cn P 234 #[t31, (Value.int .i64 (-7))] h fun t37 h => Cn P 234 #[t31, (Value.int .i64 (-18))] h fun t39 h => q P h (binOp .xor 98 t37 t39) fun t40 => q P h (binOp .shr 98 t31 (Value.int .u64 3)) fun t42 => q P h (binOp .xor 98 t40 t42) fun t43 => Cn P 234 #[t35, (Value.int .i64 (-17))] h fun t45 h => Cn P 234 #[t35, (Value.int .i64 (-19))] h fun t47 h => q P h (binOp .xor 98 t45 t47) fun t48 => q P h (binOp .shr 98 t35 (Value.int .u64 10)) fun t50 => q P h (binOp .xor 98 t48 t50) fun t51 => q P emp (binOp .sub 3 (vs12.getD 0 undef) (Value.int .i64 16)) fun t54 => q P emp (Instr.indexAt 291 t3 t54) fun t55 => q P h (Instr.loadAt 98 t55) fun t56 => q P emp (binOp .add 98 t56 t43) fun t58 => q P emp (binOp .sub 3 (vs12.getD 0 undef) (Value.int .i64 7)) fun t60 => q P emp (Instr.indexAt 291 t3 t60) fun t61 => q P h (Instr.loadAt 98 t61) fun t62 => q P emp (binOp .add 98 t58 t62) fun t63 => q P emp (binOp .add 98 t63 t51) fun t65 => q P emp (Instr.indexAt 291 t3 (vs12.getD 0 undef)) fun t66 => aw P (Instr.storeAt 98 t66 t65) (fun _ h => q P h (binOp .add 3 (vs12.getD 0 undef) (Value.int .i64 1)) fun t27 => nx12 [t27] h) h) (q P h (Instr.loadAt 291 t3) fun t67 => aw P (Instr.storeAt 291 t2 t67) (fun _ h => q P h ((asAddr t2).bind (loadVar 291)) fun r0 => K r0 h) h))) h) h
theorem F_sha_schedule {K : Value → Hp → Prop} {h : Hp} {t0 : Value} (s : s_sha_schedule K h t0) : Cn P 233 #[t0] h K :=
  Cn_ofs mixed Tryz.func233 (by kernel_rfl) (args := [t0]) (by kernel_rfl) s
/-- function 234: math.bits.RotateLeft32 -/
def s_bits_RotateLeft32 (K : Value → Hp → Prop) (h : Hp) (t0 t1 : Value) : Prop := q P h (convert 3 121 t1) fun t7 => q P h (binOp .and 121 t7 (Value.int .u64 31)) fun t8 => q P h (binOp .shl 98 t0 t8) fun t11 => q P h (binOp .sub 121 (Value.int .u64 32) t8) fun t14 => q P h (binOp .shr 98 t0 t14) fun t15 => q P h (binOp .or 98 t11 t15) fun t16 => K t16 h
theorem F_bits_RotateLeft32 {K : Value → Hp → Prop} {h : Hp} {t0 t1 : Value} (s : s_bits_RotateLeft32 K h t0 t1) : Cn P 234 #[t0, t1] h K :=
  Cn_ofs mixed Tryz.func234 (by kernel_rfl) (args := [t0, t1]) (by kernel_rfl) s
end Go.Proofs.YtlkhmddmdmlffaaGreatDoor
namespace Go.Pure
def le : Nat → Nat → List Nat
  | 0, _ => []
  | n + 1, v => v % 256 :: le n (v / 256)
def leval : List Nat → Nat
  | [] => 0
  | x :: l => x + 256 * leval l
def Bytes (l : List Nat) : Prop := ∀ x ∈ l, x < 256
theorem le_len (n v : Nat) : (le n v).length = n := by
  induction n generalizing v with
  | zero => rfl
  | succ n ih => simp [le, ih]
theorem le_bytes (n v : Nat) : Bytes (le n v) := by
  induction n generalizing v with
  | zero => intro x hx; cases hx
  | succ n ih =>
    intro x hx
    rcases List.mem_cons.1 hx with rfl | hx
    · exact Nat.mod_lt _ (by decide)
    · exact ih _ x hx
theorem le_get (n v i : Nat) (hi : i < n) : (le n v).getD i 0 = v / 256 ^ i % 256 := by
  induction n generalizing v i with
  | zero => omega
  | succ n ih =>
    cases i with
    | zero => simp [le]
    | succ i =>
      have := ih (v / 256) i (by omega)
      simp only [le, List.getD_cons_succ, this]
      rw [Nat.div_div_eq_div_mul, Nat.pow_succ, Nat.mul_comm]
theorem leval_lt (l : List Nat) (h : Bytes l) : leval l < 256 ^ l.length := by
  induction l with
  | nil => simp [leval]
  | cons x l ih =>
    have hx := h x (List.mem_cons_self ..)
    have := ih fun y hy => h y (List.mem_cons_of_mem _ hy)
    simp only [leval, List.length_cons, Nat.pow_succ]
    omega
theorem leval_append (a b : List Nat) : leval (a ++ b) = leval a + 256 ^ a.length * leval b := by
  induction a with
  | nil => simp [leval]
  | cons x a ih =>
    simp only [List.cons_append, leval, ih, List.length_cons, Nat.pow_succ]
    rw [Nat.mul_add, ← Nat.mul_assoc, Nat.mul_comm 256 (256 ^ a.length), Nat.add_assoc]
theorem leval_le (n v : Nat) : leval (le n v) = v % 256 ^ n := by
  induction n generalizing v with
  | zero => simp [le, leval, Nat.mod_one]
  | succ n ih =>
    simp only [le, leval, ih, Nat.pow_succ]
    rw [Nat.mul_comm (256 ^ n) 256, Nat.mod_mul]
theorem Bytes.take {l : List Nat} (h : Bytes l) (n : Nat) : Bytes (l.take n) := fun x hx => h x (List.mem_of_mem_take hx)
theorem Bytes.drop {l : List Nat} (h : Bytes l) (n : Nat) : Bytes (l.drop n) := fun x hx => h x (List.mem_of_mem_drop hx)
theorem Bytes.append {a b : List Nat} (h : Bytes a) (g : Bytes b) : Bytes (a ++ b) := fun x hx => (List.mem_append.1 hx).elim (h x) (g x)
theorem Bytes.getD {l : List Nat} (h : Bytes l) (i : Nat) : l.getD i 0 < 256 := by
  rw [List.getD_eq_getElem?_getD]
  cases hg : l[i]? with
  | none => simp
  | some x => exact h x (List.mem_of_getElem? hg)
theorem leval_take_succ (l : List Nat) (i : Nat) : leval (l.take (i + 1)) = leval (l.take i) + 256 ^ i * l.getD i 0 := by
  by_cases hi : i < l.length
  · rw [List.take_succ_eq_append_getElem hi, leval_append]
    simp [leval, List.length_take, Nat.min_eq_left (Nat.le_of_lt hi), hi]
  · rw [List.take_of_length_le (by omega), List.take_of_length_le (by omega)]
    simp [List.getElem?_eq_none (show l.length ≤ i by omega)]
theorem or_add (a b n : Nat) (h : a < 2 ^ n) : a ||| b * 2 ^ n = a + b * 2 ^ n := by
  rw [Nat.mul_comm, Nat.or_comm, ← Nat.two_pow_add_eq_or_of_lt h, Nat.add_comm]
theorem pow256 (i : Nat) : 256 ^ i = 2 ^ (8 * i) := by rw [Nat.pow_mul]
end Go.Pure
set_option linter.unusedSimpArgs false
set_option linter.unusedVariables false
set_option maxRecDepth 100000
namespace Go.Proofs.YtlkhmddmdmlffaaGreatDoor
open Go Go.SL Go.Pure
theorem T_word_at {h : Hp} {K : Value → Hp → Prop} {v : Value} {l : List Nat} (i : Nat) (hr : Rn h .u8 v l) (hb : Bytes l) (k : K (.int .u64 ((l.getD i 0 : Nat) : Int)) h) : Cn P n_word_at #[v, .int .i64 i] h K := by
  refine F_word_at ?_
  obtain ⟨a, c, rfl, hc⟩ := hr.shape
  unfold s_word_at
  by_cases hlt : i < l.length
  · obtain ⟨b, o, rfl, hy⟩ := hr.pos (by omega)
    have := hb.getD i
    simp (disch := omega) only [GL, RL, hy i hlt, wu64i]
    rw [if_pos (by simpa using hlt)]
    exact k
  · simp (disch := omega) only [GL, RL]
    rw [if_neg (by simpa using hlt)]
    simpa [List.getElem?_eq_none (show l.length ≤ i by omega)] using k
end Go.Proofs.YtlkhmddmdmlffaaGreatDoor
set_option linter.unusedSimpArgs false
set_option linter.unusedVariables false
namespace Go.SL
open Go
/-- All that is known stays known. -/
def Hp.ext (h h' : Hp) : Prop := ∀ b o, h b = some o → h' b = some o
theorem Hp.ext.refl (h : Hp) : Hp.ext h h := fun _ _ e => e
theorem Hp.ext.trans {a b c : Hp} (x : Hp.ext a b) (y : Hp.ext b c) : Hp.ext a c := fun i o e => y i o (x i o e)
theorem ext_set {h : Hp} {r : Nat} (o : AObj) (hr : h r = none) : Hp.ext h (h.set r o) := fun i x e => by
  have : i ≠ r := by rintro rfl; rw [hr] at e; cases e
  rw [Hp.set_ne _ _ this]; exact e
theorem Hp.ext.le {h h' : Hp} (x : Hp.ext h h') : Hp.le h h' := fun b o e => ⟨o, x b o e, .refl o⟩
theorem Hp.ext.cle {h h' : Hp} (x : Hp.ext h h') : Hp.cle h h' := fun a v e => by
  unfold Hp.cell at e ⊢
  split at e
  · cases e
  · rename_i hs
    rw [if_neg hs]
    cases hb : h a.block with
    | none => rw [hb] at e; cases e
    | some o => rw [x _ _ hb]; rw [hb] at e; exact e
theorem Hp.ext.none {h h' : Hp} (x : Hp.ext h h') {b : Nat} (e : h' b = none) : h b = none := by
  cases hb : h b with
  | none => rfl
  | some o => rw [x b o hb] at e; cases e
theorem New.ext {h : Hp} {e s : Nat} {v : Value} {h' : Hp} {xs : List Value} {n : Nat} (w : New h e s v h' xs n) : Hp.ext h h' := by
  rcases w.2 with ⟨_, _, rfl⟩ | ⟨b, c, f, hb, _, _, rfl, _⟩
  · exact .refl _
  · exact ext_set _ hb
theorem Nn.ext {h : Hp} {e : Nat} {k : IntKind} {v : Value} {h' : Hp} {l : List Nat} (w : Nn h e k v h' l) : Hp.ext h h' := New.ext w
theorem del_set (h : Hp) {b : Nat} {o : AObj} (e : h b = some o) : (h.del b).set b o = h := by
  funext i
  unfold Hp.set Hp.del
  by_cases hi : i = b
  · subst hi; simp [e]
  · simp [hi]
theorem del_at (h : Hp) (b : Nat) : (h.del b) b = none := by simp [Hp.del]
/-- A row of the call's own that stands somewhere, as a new one. -/
theorem New.at {h : Hp} {b : Nat} {e s n c : Nat} {xs : List Value} {f : Nat × Nat} (hb : h b = some (.row e xs (c * s) (some f))) (hl : xs.length = n * s) (hc : n ≤ c) (hf : ∀ i, i < c * s → ¬ (f.1 ≤ i ∧ i < f.2)) :
    New (h.del b) e s (.slice (some ⟨b, 0, none⟩) n c) h xs n := ⟨hl, .inr ⟨b, c, f, del_at h b, hc, rfl, (del_set h hb).symm, hf⟩⟩
section
variable {P : Program} {h : Hp}
/-! ### Methods -/
theorem awp_method {t : TypeId} {v : Value} {name : String} {args : Array Value} {K : Next → Hp → Prop} {g : FuncId} {r : Value}
    (hm : peek P h (method (P.types.size + Made.depth) t v name) = some (g, r)) (c : Callable P g) (k : K (.enter g (#[r] ++ args)) h) : awp P (callMethod (.iface t v) name args) K h := by
  show awp P (Sem.program fun p => Sem.bind (method (p.types.size + Made.depth) t v name) fun x => callFunc x.1 (#[x.2] ++ args)) K h
  show awp P (Sem.bind (method (P.types.size + Made.depth) t v name) fun x => callFunc x.1 (#[x.2] ++ args)) K h
  rw [awp_bind, peek_awp P _ _ _ hm, awp_call c]
  exact k
/-- A call of a method of an interface. -/
theorem aw_method {t : TypeId} {v : Value} {name : String} {args : Array Value} {K : Value → Hp → Prop} {g : FuncId} {r : Value}
    (hm : peek P h (method (P.types.size + Made.depth) t v name) = some (g, r)) (c : Cn P g (#[r] ++ args) h K) : aw P (callMethod (.iface t v) name args) (nextP P K) h :=
  awp_method hm c.1 ⟨h, .refl _, c⟩
theorem q_mkI {t : TypeId} {d : TypeDesc} {K : Value → Prop} (ht : P.underlying t = some d) (hd : (match d with | .interface _ => true | _ => false) = false) (x : Value) : q P h (Instr.makeInterface t x) K = K (.iface t x) := q_of (by
  show peek P h (Sem.bind (underlying t) _) = _
  rw [peek_bind, pk_und ht, Option.bind_some]
  cases d <;> first | rfl | cases hd) K
/-! ### Maps whose keys are strings -/
/-- The entries, by their keys. -/
def mget (es : List MapEntry) (k : ByteArray) : Option (Nat × Value) :=
  match es with
  | [] => none
  | e :: es => match e.key with
    | .string s => if (k == s) = true then some (0, e.val) else (mget es k).map fun p => (p.1 + 1, p.2)
    | _ => none
def strKeys (es : List MapEntry) : Prop := ∀ e ∈ es, ∃ s, e.key = .string s
theorem findNow_str {es : List MapEntry} (hs : strKeys es) (k : ByteArray) : ∀ i, Instr.findNow .string (.string k) es i = some ((mget es k).map fun p => (p.1 + i, p.2)) := by
  induction es with
  | nil => intro i; rfl
  | cons e es ih =>
    intro i
    obtain ⟨s, he⟩ := hs e (List.mem_cons_self ..)
    have ih := ih (fun x hx => hs x (List.mem_cons_of_mem _ hx)) (i + 1)
    simp only [Instr.findNow, Instr.sameNow, he, mget]
    cases hk : (k == s)
    · simp only [Bool.false_eq_true, if_false, ih, Option.map_map]
      congr 2
      funext p
      simp only [Function.comp]
      congr 1
      omega
    · simp
theorem pk_findKey {t : TypeId} (ht : P.underlying t = some .string) {es : List MapEntry} (hs : strKeys es) (k : ByteArray) : peek P h (Instr.findKey t (.string k) es) = some (mget es k) := by
  show peek P h (Sem.bind (underlying t) _) = _
  rw [peek_bind, pk_und ht, Option.bind_some, findNow_str hs k 0]
  show some ((mget es k).map fun p => (p.1 + 0, p.2)) = _
  congr 1
  cases mget es k <;> rfl
theorem pk_checkKey {t : TypeId} (ht : P.underlying t = some .string) (b : Bool) (k : ByteArray) : peek P h (Instr.checkKey b 10000 t (.string k)) = some () := by
  show peek P h (Sem.bind (underlying t) _) = _
  rw [peek_bind, pk_und ht, Option.bind_some]
  rfl
theorem q_lookup {t kt e : TypeId} {r c : Nat} {es : Array MapEntry} {z : Value} {K : Value → Prop} (ht : P.underlying t = some (.map kt e)) (hk : P.underlying kt = some .string) (hz : zr P e = some z) (hr : h r = some (.obj (.map es c))) (hs : strKeys es.toList) (k : ByteArray) :
    q P h (Instr.lookup t (.map (some r)) (.string k) true) K = K (.tuple #[((mget es.toList k).map (·.2)).getD z, .bool (mget es.toList k).isSome]) := q_of (by
  show peek P h (Sem.bind (underlying t) _) = _
  rw [peek_bind, pk_und ht, Option.bind_some]
  show peek P h (Sem.bind (getObj r) _) = _
  have : peek P h (getObj r) = some (.map es c) := by
    unfold getObj
    simp only [peek, hr]
  rw [peek_bind, this, Option.bind_some]
  show peek P h (Sem.bind (Instr.checkKey es.isEmpty 10000 kt (.string k)) _) = _
  rw [peek_bind, pk_checkKey hk, Option.bind_some]
  show peek P h (Sem.bind (Instr.findKey kt (.string k) es.toList) _) = _
  rw [peek_bind, pk_findKey hk hs, Option.bind_some]
  cases mget es.toList k with
  | none =>
    show peek P h (Sem.bind (zeroValue e) _) = _
    rw [peek_bind, pk_zero hz]
    rfl
  | some p => rfl) K
theorem q_lenM {t kt e T : TypeId} {r c : Nat} {es : Array MapEntry} {K : Value → Prop} (ht : P.underlying t = some (.map kt e)) (hr : h r = some (.obj (.map es c))) : q P h (Builtin.len_ #[t] T #[.map (some r)]) K = K (.int .i64 es.size) := q_of (by
  show peek P h (Sem.bind (underlying t) _) = _
  rw [peek_bind, pk_und ht, Option.bind_some]
  show peek P h (Sem.bind (getObj r) _) = _
  have : peek P h (getObj r) = some (.map es c) := by
    unfold getObj
    simp only [peek, hr]
  rw [peek_bind, this]
  rfl) K
/-- A key that isn't there yet is put. -/
theorem aw_mapNew {t kt e : TypeId} {r c : Nat} {es : Array MapEntry} {K : Unit → Hp → Prop} (ht : P.underlying t = some (.map kt e)) (hk : P.underlying kt = some .string) (hr : h r = some (.obj (.map es c))) (hs : strKeys es.toList) (k : ByteArray) (v : Value)
    (hn : mget es.toList k = none) (kk : K () (h.set r (.obj (.map (es.push ⟨.string k, v, c⟩) (c + 1))))) : aw P (Instr.mapUpdate t (.map (some r)) (.string k) v) K h := by
  refine aw_of ?_
  show awp P (Sem.bind (underlying t) _) K h
  rw [awp_bind, peek_awp P _ _ _ (pk_und ht)]
  show awp P (Sem.bind (getObj r) _) K h
  have hg : peek P h (getObj r) = some (.map es c) := by
    unfold getObj
    simp only [peek, hr]
  rw [awp_bind, peek_awp P _ _ _ hg]
  show awp P (Sem.bind (Instr.checkKey false 10000 kt (.string k)) _) K h
  rw [awp_bind, peek_awp P _ _ _ (pk_checkKey hk false k)]
  show awp P (Sem.bind (Instr.findKey kt (.string k) es.toList) _) K h
  rw [awp_bind, peek_awp P _ _ _ (pk_findKey hk hs k), hn]
  show awp P (setObj r (.map (es.push ⟨.string k, v, c⟩) (c + 1))) K h
  show (match h r with | some (.obj _) => isCells _ = false ∧ awp P (.pure ()) K _ | _ => False)
  rw [hr]
  exact ⟨rfl, kk⟩
theorem aw_makeMap {t : TypeId} {K : Value → Hp → Prop} (k : ∀ r, h r = none → K (.map (some r)) (h.set r (.obj (.map #[] 0)))) : aw P (Instr.makeMap t none) K h := by
  refine aw_of ?_
  show awp P (Sem.bind (newObj (.map #[] 0)) fun r => Sem.pure (.map (some r))) K h
  rw [awp_bind]
  exact fun r hr => k r hr
theorem mget_push {es : Array MapEntry} (hs : strKeys es.toList) (k k' : ByteArray) (v : Value) (c : Nat) :
    mget (es.push ⟨.string k, v, c⟩).toList k' = (mget es.toList k').or (if (k' == k) = true then some (es.size, v) else none) := by
  have : ∀ l : List MapEntry, strKeys l → mget (l ++ [⟨.string k, v, c⟩]) k' = (mget l k').or (if (k' == k) = true then some (l.length, v) else none) := by
    intro l
    induction l with
    | nil => intro _; simp only [List.nil_append, mget]; split <;> rfl
    | cons e l ih =>
      intro hl
      obtain ⟨s, he⟩ := hl e (List.mem_cons_self ..)
      have ih := ih fun x hx => hl x (List.mem_cons_of_mem _ hx)
      simp only [List.cons_append, mget, he]
      split
      · rfl
      · rw [ih]
        cases mget l k' with
        | none => simp only [Option.none_or, Option.map_none]; split <;> rfl
        | some p => rfl
  simpa using this es.toList hs
theorem strKeys_push {es : Array MapEntry} (hs : strKeys es.toList) (k : ByteArray) (v : Value) (c : Nat) : strKeys (es.push ⟨.string k, v, c⟩).toList := by
  intro e he
  rw [Array.toList_push, List.mem_append, List.mem_singleton] at he
  rcases he with he | rfl
  · exact hs e he
  · exact ⟨k, rfl⟩
/-! ### Copies -/
def putL : List Value → Nat → List Value → List Value
  | xs, _, [] => xs
  | xs, j, y :: ys => putL (xs.set j y) (j + 1) ys
theorem putL_eq : ∀ (ys xs : List Value) (j : Nat), j + ys.length ≤ xs.length → putL xs j ys = xs.take j ++ ys ++ xs.drop (j + ys.length)
  | [], xs, j, _ => by simp [putL]
  | y :: ys, xs, j, h => by
    simp only [List.length_cons] at h
    rw [putL, putL_eq ys _ _ (by rw [List.length_set]; omega), List.take_succ_eq_append_getElem (by rw [List.length_set]; omega), List.getElem_set_self, List.take_set_of_le (Nat.le_refl _), List.drop_set_of_lt (by omega)]
    simp only [List.append_assoc, List.singleton_append, List.cons_append, List.nil_append, List.length_cons]
    rw [show j + 1 + ys.length = j + (ys.length + 1) by omega]
theorem awp_putCells {b e cap : Nat} {f : Nat × Nat} : ∀ (ys xs : List Value) (h : Hp) (K : Unit → Hp → Prop) (o i : Nat), h b = some (.row e xs cap (some f)) → (∀ y ∈ ys, flat y = true) → o + i + ys.length ≤ xs.length →
    (∀ i, i < xs.length → ¬ (f.1 ≤ i ∧ i < f.2)) → K () (h.set b (.row e (putL xs (o + i) ys) cap (some f))) → awp P (storeCells ⟨b, o, none⟩ ys i) K h := by
  intro ys
  induction ys with
  | nil =>
    intro xs h K o i hb _ hl _ k
    have : h.set b (.row e (putL xs (o + i) []) cap (some f)) = h := by
      funext j
      unfold Hp.set
      split
      · rename_i e1; subst e1; rw [hb]; rfl
      · rfl
    rw [this] at k
    exact k
  | cons y ys ih =>
    intro xs h K o i hb hfl hl hf k
    simp only [List.length_cons] at hl
    show awp P (Sem.bind (store ((⟨b, o, none⟩ : Addr).add i) y) fun _ => storeCells ⟨b, o, none⟩ ys (i + 1)) K h
    rw [awp_bind, add_off]
    refine ⟨hfl y (List.mem_cons_self ..), ?_⟩
    rw [put_row hb (by omega) (hf (o + i) (by omega))]
    refine ih (xs.set (o + i) y) _ K o (i + 1) (Hp.set_same ..) (fun z hz => hfl z (List.mem_cons_of_mem _ hz)) (by rw [List.length_set]; omega) (fun j hj => hf j (by rwa [List.length_set] at hj)) ?_
    rw [Hp.set_set]
    exact k
/-- A copy into a row of the call's own, at a place, of a row that is read. -/
theorem aw_copy {t t2 T e b o dl dc n : Nat} {cap : Nat} {f : Nat × Nat} {xs ys : List Value} {w : Value} {K : Value → Hp → Prop} (ht : P.underlying t = some (.slice e)) (hs : sz P e = some 1) (hb : h b = some (.row e xs cap (some f)))
    (hr : Rds h 1 w ys n) (hfl : ∀ y ∈ ys, flat y = true) (hn : n ≤ dl) (hl : o + dl ≤ xs.length) (hf : ∀ i, i < xs.length → ¬ (f.1 ≤ i ∧ i < f.2))
    (k : K (.int .i64 n) (h.set b (.row e (putL xs o ys) cap (some f)))) : aw P (Builtin.copy_ #[t, t2] T #[.slice (some ⟨b, o, none⟩) dl dc, w]) K h := by
  refine aw_of ?_
  obtain ⟨hyl, wa, wc, rfl, hwc, hwr⟩ := hr
  have hr : Rds h 1 (.slice wa n wc) ys n := ⟨hyl, wa, wc, rfl, hwc, hwr⟩
  show awp P (Sem.bind (underlying t) _) _ h
  rw [awp_bind, peek_awp P _ _ _ (pk_und ht)]
  show awp P (Sem.bind (sizeOf e) _) _ h
  rw [awp_bind, peek_awp P _ _ _ (pk_size hs)]
  show awp P (Sem.bind (Builtin.firstCells 1 (Nat.min n dl) (.slice wa n wc)) _) _ h
  have hmin : Nat.min n dl = n := Nat.min_eq_left hn
  rw [hmin, awp_bind]
  refine awp_firstCells hr ?_
  show awp P (Sem.bind (storeCells ⟨b, o, none⟩ ys.toArray.toList 0) _) _ h
  rw [awp_bind]
  exact awp_putCells ys xs h _ o 0 hb hfl (by omega) hf (by rw [Nat.add_zero]; exact k)
/-- A copy of a text. -/
theorem aw_copyS {t t2 T e b o dl dc : Nat} {cap : Nat} {f : Nat × Nat} {xs ys : List Value} {s : ByteArray} {K : Value → Hp → Prop} (ht : P.underlying t = some (.slice e)) (hs : sz P e = some 1) (hb : h b = some (.row e xs cap (some f)))
    (hy : (s.extract 0 s.size).data.map (fun b => Value.int .u8 b.toNat) = ys.toArray) (hfl : ∀ y ∈ ys, flat y = true) (hn : s.size ≤ dl) (hyl : ys.length = s.size) (hl : o + dl ≤ xs.length) (hf : ∀ i, i < xs.length → ¬ (f.1 ≤ i ∧ i < f.2))
    (k : K (.int .i64 s.size) (h.set b (.row e (putL xs o ys) cap (some f)))) : aw P (Builtin.copy_ #[t, t2] T #[.slice (some ⟨b, o, none⟩) dl dc, .string s]) K h := by
  refine aw_of ?_
  show awp P (Sem.bind (underlying t) _) _ h
  rw [awp_bind, peek_awp P _ _ _ (pk_und ht)]
  show awp P (Sem.bind (sizeOf e) _) _ h
  rw [awp_bind, peek_awp P _ _ _ (pk_size hs)]
  show awp P (Sem.bind (Builtin.firstCells 1 (Nat.min s.size dl) (.string s)) _) _ h
  have hmin : Nat.min s.size dl = s.size := Nat.min_eq_left hn
  rw [hmin, awp_bind]
  show awp P (Sem.bind (storeCells ⟨b, o, none⟩ ((s.extract 0 s.size).data.map (fun b => Value.int .u8 b.toNat)).toList 0) _) _ h
  rw [hy, awp_bind]
  exact awp_putCells ys xs h _ o 0 hb hfl (by omega) hf (by rw [Nat.add_zero]; exact k)
/-! ### Slices of structs -/
end
end Go.SL
set_option linter.unusedSimpArgs false
set_option linter.unusedVariables false
namespace Go.SL
open Go
section
variable {P : Program} {h : Hp}
theorem aw_wkK {m : Sem Value} {K : Value → Hp → Prop} (a : aw P m (fun v h' => ∃ h0, Hp.le h0 h' ∧ K v h0) h) : aw P m K h :=
  awp_mono P m _ _ h (fun v h' ⟨h1, l1, h0, l0, q⟩ => ⟨h0, Hp.le.trans l0 l1, q⟩) a
/-- An empty row without room: nothing need be known of it. -/
theorem aw_nil0 {t e : Nat} {z : Value} {K : Value → Hp → Prop} (ht : P.underlying t = some (.slice e)) (hs : sz P e = some 1) (hzr : zr P e = some z) (hz : z.cells = #[z]) (k : ∀ r, K (.slice (some ⟨r, 0, none⟩) 0 0) h) : aw P (Instr.buildSlice t 0 #[]) K h :=
  aw_wkK (aw_lit (n := 0) (ps := []) ht hs hzr hz (by omega) (by intro p hp; cases hp) fun v h' nw hx => by
    obtain ⟨r, hr, rfl, rfl⟩ := hx
    exact ⟨h, le_fresh hr, k r⟩)
/-- Appending to what has no room makes a new row, or leaves all as it was. -/
theorem aw_append0 {t t2 T e e2 s B m : Nat} {a : Option Addr} {w : Value} {ys : List Value} {z : Value} {K : Value → Hp → Prop}
    (ht : P.underlying t = some (.slice e)) (ht2 : P.underlying t2 = some (.slice e2)) (hi : (P.info? e).map (fun i => (i.zero, i.size, i.bytes)) = some (some z, s, B)) (hzs : z.cells.size = s) (hB1 : 1 ≤ B) (hr : Rds h s w ys m)
    (hB : (2 * m + 768) * B ≤ 2 ^ 48)
    (k0 : m = 0 → K (.slice a 0 0) h) (k : ∀ v' h'', New h e s v' h'' ys m → K v' h'') : aw P (Builtin.append_ #[t, t2] T #[.slice a 0 0, w]) K h := by
  obtain ⟨i, hi0, hi1⟩ := Option.map_eq_some_iff.1 hi
  simp only [Prod.mk.injEq] at hi1
  have hs : sz P e = some s := by simp [sz, hi0, hi1.2.1]
  have hz : zr P e = some z := by simp [zr, hi0, hi1.1]
  have hbound : m ≤ 140737488355328 := by
    have : (2 * m + 768) * 1 ≤ (2 * m + 768) * B := Nat.mul_le_mul_left _ hB1
    omega
  obtain ⟨hyl, wa, wc, rfl, hwc, hwr⟩ := hr
  have hr : Rds h s (.slice wa m wc) ys m := ⟨hyl, wa, wc, rfl, hwc, hwr⟩
  have hrv : Rds h s (.slice a 0 0) [] 0 := ⟨by simp, a, 0, rfl, Nat.le_refl _, .inl rfl⟩
  show awp P (Sem.bind (underlying t) _) _ h
  rw [awp_bind, peek_awp P _ _ _ (pk_und ht)]
  show awp P (Sem.bind (sizeOf e) _) _ h
  rw [awp_bind, peek_awp P _ _ _ (pk_size hs)]
  show awp P (Sem.bind (underlying t2) _) _ h
  rw [awp_bind, peek_awp P _ _ _ (pk_und ht2)]
  show awp P (if 0 + m ≤ 0 then _ else _) _ h
  split
  · rename_i hle
    have hm0 : m = 0 := by omega
    subst hm0
    have : ys = [] := List.eq_nil_of_length_eq_zero (by simpa using hyl)
    subst this
    show awp P (Sem.bind (Builtin.firstCells s 0 _) _) _ h
    rw [awp_bind]
    refine awp_firstCells hr ?_
    cases a with
    | none => exact ⟨h, .refl _, k0 rfl⟩
    | some a => exact ⟨h, .refl _, k0 rfl⟩
  · rename_i hgt
    have hnc : Builtin.nextslicecap (0 + m) 0 * B ≤ 2 ^ 48 := Nat.le_trans (Nat.mul_le_mul_right B (nextcap_le (0 + m) 0 (by omega))) (by rw [Nat.zero_add]; exact hB)
    have hinfo : peek P h (typeInfo e) = some i := pk_info hi0
    show awp P (Sem.bind (typeInfo e) _) _ h
    rw [awp_bind, peek_awp P _ _ _ hinfo]
    show awp P (if ((0 + m : Nat) : Int) > IntKind.i64.max ∧ (false = true ∨ i.bytes = 0) then _ else _) _ h
    rw [if_neg (by rw [hi1.2.2]; simp; omega)]
    show awp P (Sem.bind (typeInfo e) _) _ h
    rw [awp_bind, peek_awp P _ _ _ hinfo]
    show awp P (if Builtin.nextslicecap (0 + m) 0 * i.bytes > 2 ^ 48 then _ else _) _ h
    rw [if_neg (by rw [hi1.2.2]; omega)]
    show awp P (Sem.choose (.appendCap (0 + m) 0 e) _) _ h
    simp only [awp, Question.forced, Bool.false_eq_true, if_false]
    intro tp
    obtain ⟨nc, hncap, hge⟩ : ∃ nc, Question.cut (.appendCap (0 + m) 0 e) tp = nc ∧ 0 + m ≤ nc := ⟨_, rfl, by simp [Question.cut]⟩
    rw [hncap]
    show awp P (Sem.bind (typeInfo e) _) _ h
    rw [awp_bind, peek_awp P _ _ _ hinfo]
    show awp P (Sem.bind (askRoom (nc * i.bytes)) _) _ h
    rw [awp_bind]
    have hroom : ∀ (x : Nat) (K : Unit → Hp → Prop), K () h → awp P (askRoom x) K h := by
      intro x K q
      unfold askRoom
      split <;> exact q
    refine hroom _ _ ?_
    show awp P (Sem.bind (Builtin.firstCells s 0 _) _) _ h
    rw [awp_bind]
    refine awp_firstCells hrv ?_
    show awp P (Sem.bind (Builtin.firstCells s m _) _) _ h
    rw [awp_bind]
    refine awp_firstCells hr ?_
    show awp P (Sem.bind (zeroValue e) _) _ h
    rw [awp_bind, peek_awp P _ _ _ (pk_zero hz)]
    intro r hrn
    obtain ⟨rest, hrest, hsz⟩ : ∃ rest : Array Value, Builtin.zeroCells z.cells (nc - (0 + m)) = rest ∧ rest.size = (nc - (0 + m)) * s := ⟨_, rfl, by rw [zeroCells_size, hzs]⟩
    refine ⟨h.set r (.row e ys (nc * s) (some (0, 0))), fun b' o ho => ?_, k _ _ ⟨hyl, .inr ⟨r, nc, (0, 0), hrn, by omega, by rw [Nat.zero_add], rfl, fun i _ => by simp⟩⟩⟩
    by_cases e1 : b' = r
    · subst e1
      rw [Hp.set_same] at ho
      cases ho
      refine ⟨_, Hp.set_same .., ?_⟩
      rw [hrest]
      refine ⟨rfl, ?_, ?_, .inl rfl⟩
      · simp only [Array.size_append, List.size_toArray, List.length_nil, hyl, hsz]
        rw [Nat.zero_add, ← Nat.add_mul]
        congr 1
        omega
      · simp only [Array.toList_append, List.append_assoc]
        exact ⟨rest.toList, by simp⟩
    · rw [Hp.set_ne _ _ e1] at ho ⊢
      exact ⟨o, ho, .refl _⟩
end
end Go.SL
set_option linter.unusedSimpArgs false
set_option linter.unusedVariables false
namespace Go.SL
open Go
section
variable {P : Program} {h : Hp}
/-- A copy into a row of the call's own, at a place, of a row that is read. -/
theorem aw_copyG {t t2 T e b o dl dc n : Nat} {e' cap : Nat} {f : Nat × Nat} {xs ys : List Value} {w : Value} {K : Value → Hp → Prop} (ht : P.underlying t = some (.slice e)) (hs : sz P e = some 1) (hb : h b = some (.row e' xs cap (some f)))
    (hr : Rds h 1 w ys n) (hfl : ∀ y ∈ ys, flat y = true) (hn : n ≤ dl) (hl : o + dl ≤ xs.length) (hf : ∀ i, i < xs.length → ¬ (f.1 ≤ i ∧ i < f.2))
    (k : K (.int .i64 n) (h.set b (.row e' (putL xs o ys) cap (some f)))) : aw P (Builtin.copy_ #[t, t2] T #[.slice (some ⟨b, o, none⟩) dl dc, w]) K h := by
  refine aw_of ?_
  obtain ⟨hyl, wa, wc, rfl, hwc, hwr⟩ := hr
  have hr : Rds h 1 (.slice wa n wc) ys n := ⟨hyl, wa, wc, rfl, hwc, hwr⟩
  show awp P (Sem.bind (underlying t) _) _ h
  rw [awp_bind, peek_awp P _ _ _ (pk_und ht)]
  show awp P (Sem.bind (sizeOf e) _) _ h
  rw [awp_bind, peek_awp P _ _ _ (pk_size hs)]
  show awp P (Sem.bind (Builtin.firstCells 1 (Nat.min n dl) (.slice wa n wc)) _) _ h
  have hmin : Nat.min n dl = n := Nat.min_eq_left hn
  rw [hmin, awp_bind]
  refine awp_firstCells hr ?_
  show awp P (Sem.bind (storeCells ⟨b, o, none⟩ ys.toArray.toList 0) _) _ h
  rw [awp_bind]
  exact awp_putCells ys xs h _ o 0 hb hfl (by omega) hf (by rw [Nat.add_zero]; exact k)
/-- A copy of a part: as much as there is room for. -/
theorem aw_copyMinG {t t2 T e b o dl dc n : Nat} {e' cap : Nat} {f : Nat × Nat} {xs ys : List Value} {w : Value} {K : Value → Hp → Prop} (ht : P.underlying t = some (.slice e)) (hs : sz P e = some 1) (hb : h b = some (.row e' xs cap (some f)))
    (hr : Rds h 1 w ys n) (hfl : ∀ y ∈ ys, flat y = true) (hl : o + dl ≤ xs.length) (hf : ∀ i, i < xs.length → ¬ (f.1 ≤ i ∧ i < f.2))
    (k : K (.int .i64 (Nat.min n dl : Nat)) (h.set b (.row e' (putL xs o (ys.take dl)) cap (some f)))) : aw P (Builtin.copy_ #[t, t2] T #[.slice (some ⟨b, o, none⟩) dl dc, w]) K h := by
  refine aw_of ?_
  obtain ⟨hyl, wa, wc, rfl, hwc, hwr⟩ := hr
  have hr : Rds h 1 (.slice wa (Nat.min n dl) wc) (ys.take dl) (Nat.min n dl) := by
    refine ⟨by rw [List.length_take, hyl]; simp [Nat.min_comm, Nat.min_def], wa, wc, rfl, Nat.le_trans (Nat.min_le_left _ _) hwc, ?_⟩
    rcases hwr with h0 | ⟨b', o', ha, hy⟩
    · left; subst h0; exact Nat.zero_min _
    · right
      refine ⟨b', o', ha, fun i x ex => ?_⟩
      rw [List.getElem?_take] at ex
      split at ex
      · exact hy i x ex
      · cases ex
  show awp P (Sem.bind (underlying t) _) _ h
  rw [awp_bind, peek_awp P _ _ _ (pk_und ht)]
  show awp P (Sem.bind (sizeOf e) _) _ h
  rw [awp_bind, peek_awp P _ _ _ (pk_size hs)]
  show awp P (Sem.bind (Builtin.firstCells 1 (Nat.min n dl) (.slice wa n wc)) _) _ h
  have e1 : Builtin.firstCells 1 (Nat.min n dl) (.slice wa n wc) = Builtin.firstCells 1 (Nat.min n dl) (.slice wa (Nat.min n dl) wc) := by cases wa <;> rfl
  rw [e1, awp_bind]
  refine awp_firstCells hr ?_
  show awp P (Sem.bind (storeCells ⟨b, o, none⟩ (ys.take dl).toArray.toList 0) _) _ h
  rw [awp_bind]
  exact awp_putCells (ys.take dl) xs h _ o 0 hb (fun y hy => hfl y (List.mem_of_mem_take hy)) (by rw [List.length_take]; omega) hf (by rw [Nat.add_zero]; exact k)
/-- An array from a place on. -/
theorem q_slArrLo {t e s n : Nat} {K : Value → Prop} (ht : P.underlying t = some (.array n e)) (hs : sz P e = some s) (a : Addr) (k : IntKind) (lo : Nat) (h1 : lo ≤ n) :
    q P h (Instr.sliceAt t (.pointer (some a)) (some (.int k lo)) none none) K = K (.slice (some (if n = lo then a else a.add (lo * s))) (n - lo) (n - lo)) := q_of (by
  show peek P h (Sem.bind (underlying t) _) = _
  rw [peek_bind, pk_und ht, Option.bind_some]
  show peek P h (Sem.bind (Sem.bind (Instr.sliceBound (.int k (lo : Int)) n .sliceB) _) _) = _
  rw [peek_bind, peek_bind, pk_bound k lo n h1, Option.bind_some]
  show peek P h (Sem.bind (sizeOf e) _) = _
  rw [peek_bind, pk_size hs]
  rfl) K
end
end Go.SL
set_option linter.unusedSimpArgs false
set_option linter.unusedVariables false
namespace Go.SL
open Go
/-- Shapes: numbers, truths, texts, slices, structs (parts in a row), arrays. -/
inductive Ty where
  | int (k : IntKind)
  | bool
  | str
  | sl (e : Ty)
  | arr (n : Nat) (e : Ty)
  | rcd (fs : Ty)
  | nil
  | cons (a b : Ty)
def Ty.size : Ty → Nat
  | .int _ => 1
  | .bool => 1
  | .str => 1
  | .sl _ => 1
  | .arr n e => n * e.size
  | .rcd fs => fs.size
  | .nil => 0
  | .cons a b => a.size + b.size
/-- Rows of cells, one behind the other, behind a slice. -/
def SlAt (R : Hp) (s : Nat) (v : Value) (items : List (List Value)) : Prop :=
  ∃ a c, v = .slice a items.length c ∧ items.length ≤ c ∧ (items = [] ∨ ∃ b o, a = some ⟨b, o, none⟩ ∧ ∀ (i : Nat) (x : List Value), items[i]? = some x → ∀ (j : Nat) (y : Value), x[j]? = some y → R.cell ⟨b, o + i * s + j, none⟩ = some y)
theorem SlAt.mono {R R' : Hp} {s : Nat} {v : Value} {items : List (List Value)} (a : SlAt R s v items) (c : Hp.cle R R') : SlAt R' s v items := by
  obtain ⟨x, n, h1, h2, h3⟩ := a
  refine ⟨x, n, h1, h2, ?_⟩
  rcases h3 with h3 | ⟨b, o, h4, h5⟩
  · exact .inl h3
  · exact .inr ⟨b, o, h4, fun i x e j y ey => c _ _ (h5 i x e j y ey)⟩
theorem SlAt.shape {R : Hp} {s : Nat} {v : Value} {items : List (List Value)} (a : SlAt R s v items) : ∃ x c, v = .slice x items.length c ∧ items.length ≤ c := let ⟨x, c, e, hc, _⟩ := a; ⟨x, c, e, hc⟩
/-- Cells that are a thing of that shape. -/
def Ty.Rd (R : Hp) : Ty → List Value → Prop
  | .int k, vs => ∃ n, vs = [.int k n] ∧ (Lit.int k n).wf = true
  | .bool, vs => ∃ b, vs = [.bool b]
  | .str, vs => ∃ s : ByteArray, vs = [.string s] ∧ s.size ≤ 9223372036854775807
  | .sl e, vs => ∃ (v : Value) (items : List (List Value)), vs = [v] ∧ SlAt R e.size v items ∧ items.length ≤ 9223372036854775807 ∧ ∀ x ∈ items, x.length = e.size ∧ e.Rd R x
  | .arr n e, vs => ∃ items : List (List Value), vs = items.flatten ∧ items.length = n ∧ ∀ x ∈ items, x.length = e.size ∧ e.Rd R x
  | .rcd fs, vs => fs.Rd R vs
  | .nil, vs => vs = []
  | .cons a b, vs => ∃ x y, vs = x ++ y ∧ x.length = a.size ∧ a.Rd R x ∧ b.Rd R y
theorem Ty.Rd.mono {R R' : Hp} (c : Hp.cle R R') : ∀ {ty : Ty} {vs : List Value}, ty.Rd R vs → ty.Rd R' vs
  | .int _, _, h => h
  | .bool, _, h => h
  | .str, _, h => h
  | .sl _, _, ⟨v, items, e, a, hl, h⟩ => ⟨v, items, e, a.mono c, hl, fun x hx => ⟨(h x hx).1, Ty.Rd.mono c (h x hx).2⟩⟩
  | .arr _ _, _, ⟨items, e, l, h⟩ => ⟨items, e, l, fun x hx => ⟨(h x hx).1, Ty.Rd.mono c (h x hx).2⟩⟩
  | .rcd fs, _, h => Ty.Rd.mono (ty := fs) c h
  | .nil, _, h => h
  | .cons _ _, _, ⟨x, y, e, l, h1, h2⟩ => ⟨x, y, e, l, Ty.Rd.mono c h1, Ty.Rd.mono c h2⟩
theorem flatten_len {s : Nat} : ∀ {items : List (List Value)}, (∀ x ∈ items, x.length = s) → items.flatten.length = items.length * s
  | [], _ => by simp
  | x :: l, h => by
    rw [List.flatten_cons, List.length_append, flatten_len fun y hy => h y (List.mem_cons_of_mem _ hy), h x (by simp), List.length_cons, Nat.succ_mul, Nat.add_comm]
theorem Ty.Rd.len {R : Hp} : ∀ {ty : Ty} {vs : List Value}, ty.Rd R vs → vs.length = ty.size
  | .int _, _, ⟨_, e, _⟩ => by rw [e]; rfl
  | .bool, _, ⟨_, e⟩ => by rw [e]; rfl
  | .str, _, ⟨_, e, _⟩ => by rw [e]; rfl
  | .sl _, _, ⟨_, _, e, _⟩ => by rw [e]; rfl
  | .arr n e, _, ⟨items, h1, h2, h3⟩ => by rw [h1, flatten_len fun x hx => (h3 x hx).1, h2]; rfl
  | .rcd fs, _, h => Ty.Rd.len (ty := fs) h
  | .nil, _, h => by rw [show _ = [] from h]; rfl
  | .cons a b, _, ⟨x, y, e, l, _, h2⟩ => by rw [e, List.length_append, l, Ty.Rd.len h2]; rfl
theorem Ty.Rd.flat {R : Hp} : ∀ {ty : Ty} {vs : List Value}, ty.Rd R vs → ∀ y ∈ vs, SL.flat y = true
  | .int _, _, ⟨_, e, _⟩, y, hy => by rw [e, List.mem_singleton] at hy; rw [hy]; rfl
  | .bool, _, ⟨_, e⟩, y, hy => by rw [e, List.mem_singleton] at hy; rw [hy]; rfl
  | .str, _, ⟨_, e, _⟩, y, hy => by rw [e, List.mem_singleton] at hy; rw [hy]; rfl
  | .sl _, _, ⟨_, _, e, a, _⟩, y, hy => by obtain ⟨_, _, ev, _⟩ := a; rw [e, List.mem_singleton] at hy; rw [hy, ev]; rfl
  | .arr n e, _, ⟨items, h1, h2, h3⟩, y, hy => by
    rw [h1] at hy
    obtain ⟨x, hx, hy⟩ := List.mem_flatten.1 hy
    exact Ty.Rd.flat (h3 x hx).2 y hy
  | .rcd fs, _, h, y, hy => Ty.Rd.flat (ty := fs) h y hy
  | .nil, _, h, y, hy => by rw [show _ = [] from h] at hy; cases hy
  | .cons a b, _, ⟨x, z, e, l, h1, h2⟩, y, hy => by
    rw [e] at hy
    rcases List.mem_append.1 hy with q | q
    · exact Ty.Rd.flat h1 y q
    · exact Ty.Rd.flat h2 y q
/-- Does a type of the program have a shape? Of a struct's parts: from a place on. -/
def tyB (P : Program) : Ty → TypeId ⊕ (Nat × List Field) → Bool
  | .int k, .inl t => match P.underlying t with
    | some (.int k') => k' == k
    | _ => false
  | .bool, .inl t => match P.underlying t with
    | some .bool => true
    | _ => false
  | .str, .inl t => match P.underlying t with
    | some .string => true
    | _ => false
  | .sl e, .inl t => match P.underlying t with
    | some (.slice te) => P.cellsOf te == e.size && decide (0 < e.size) && tyB P e (.inl te)
    | _ => false
  | .arr n e, .inl t => match P.underlying t with
    | some (.array m te) => m == n && P.cellsOf te == e.size && P.cellsOf t == n * e.size && tyB P e (.inl te)
    | _ => false
  | .rcd fs, .inl t => match P.underlying t with
    | some (.struct fa) => P.cellsOf t == fs.size && tyB P fs (.inr (0, fa.toList))
    | _ => false
  | .nil, .inr (_, l) => l.isEmpty
  | .cons a b, .inr (o, l) => match l with
    | f :: l => f.offset == o && P.cellsOf f.type == a.size && tyB P a (.inl f.type) && tyB P b (.inr (o + a.size, l))
    | [] => false
  | _, _ => false
/-- Bytes. -/
abbrev Ty.bytes : Ty := .sl (.int .u8)
theorem wf_u8 {n : Int} (h : (Lit.int .u8 n).wf = true) : 0 ≤ n ∧ n < 256 := by
  simp [Lit.wf, IntKind.min, IntKind.max, IntKind.signed, IntKind.bits] at h
  omega
theorem Ty.Rd.asBytes {R : Hp} {vs : List Value} (h : Ty.bytes.Rd R vs) : ∃ (v : Value) (l : List Nat), vs = [v] ∧ Rn R .u8 v l ∧ (∀ x ∈ l, x < 256) ∧ l.length ≤ 9223372036854775807 := by
  obtain ⟨v, items, rfl, ⟨a, c, hv, hc, hcell⟩, hl, hi⟩ := h
  have hf : ∀ x ∈ items, ∃ n : Nat, n < 256 ∧ x = [.int .u8 (n : Int)] := fun x hx => by
    obtain ⟨_, n, rfl, hw⟩ := hi x hx
    have := wf_u8 hw
    exact ⟨n.toNat, by omega, by rw [Int.toNat_of_nonneg this.1]⟩
  obtain ⟨l, rfl, hb⟩ : ∃ l : List Nat, items = l.map (fun (n : Nat) => [Value.int .u8 (n : Int)]) ∧ ∀ x ∈ l, x < 256 := by
    clear hcell hc hv hl hi
    induction items with
    | nil => exact ⟨[], rfl, by simp⟩
    | cons x xs ih =>
      obtain ⟨l, e, hb⟩ := ih fun y hy => hf y (List.mem_cons_of_mem _ hy)
      obtain ⟨n, hn, ex⟩ := hf x (by simp)
      refine ⟨n :: l, by rw [e, ex]; rfl, fun y hy => ?_⟩
      rcases List.mem_cons.1 hy with rfl | hy
      · exact hn
      · exact hb y hy
  rw [List.length_map] at hv hc hl
  refine ⟨v, l, rfl, ⟨by rw [nv_len]; omega, a, c, hv, hc, ?_⟩, hb, hl⟩
  rcases hcell with h0 | ⟨b, o, ha, hcl⟩
  · left; simpa using h0
  · right
    refine ⟨b, o, ha, fun i x e => ?_⟩
    have hi : i < l.length := by have := (List.getElem?_eq_some_iff.1 e).1; rwa [nv_len] at this
    have := hcl i [.int .u8 ((l[i] : Nat) : Int)] (by rw [List.getElem?_map, List.getElem?_eq_getElem hi]; rfl) 0 _ rfl
    rw [nv_get _ _ _ hi] at e
    rw [← Option.some.inj e, ← this]
    show R.cell _ = R.cell _
    congr 2
    show o + i = o + i * 1 + 0
    omega
/-- A struct's first part, and the others. -/
theorem Ty.Rd.one {R : Hp} {a b : Ty} {vs : List Value} (h1 : a.size = 1) (h : (Ty.cons a b).Rd R vs) : ∃ v rest, vs = v :: rest ∧ a.Rd R [v] ∧ b.Rd R rest := by
  obtain ⟨x, y, rfl, l, ha, hb⟩ := h
  rw [h1] at l
  match x, l with
  | [v], _ => exact ⟨v, y, rfl, ha, hb⟩
section
variable {P : Program} {h : Hp}
/-- A thing out of a row is copied into a row of its own. -/
theorem aw_itemAt {R : Hp} {t e s : Nat} {v : Value} {items : List (List Value)} {i : Nat} {x zs : List Value} {d : TypeDesc} {F : Value → Hp → Prop} (ht : P.underlying t = some (.slice e)) (hs : sz P e = some s) (hd : P.underlying e = some d) (hg : aggB d = true)
    (hz : zr P e = some (.agg zs.toArray)) (lz : zs.length = s) (A : SlAt R s v items) (c : Hp.cle R h) (hi : items[i]? = some x) (lx : x.length = s) (fx : ∀ y ∈ x, flat y = true)
    (k : ∀ r, h r = none → F (.pointer (some ⟨r, 0, none⟩)) (h.set r (.row e x s (some (0, 0))))) :
    q P h (Instr.indexAt t v (.int .i64 (i : Int))) fun t31 => q P h (Instr.loadAt e t31) fun t32 => aw P (Instr.alloc e true (.tuple #[])) (fun t8 h => aw P (Instr.storeAt e t8 t32) (fun _ h => F t8 h) h) h := by
  obtain ⟨a, cc, rfl, hc, hA⟩ := A
  have hlt : i < items.length := (List.getElem?_eq_some_iff.1 hi).1
  rcases hA with h0 | ⟨b, o, rfl, hcl⟩
  · rw [h0] at hlt; cases hlt
  rw [q_idxS ht hs ⟨b, o, none⟩ items.length cc .i64 i (by omega) (by omega), Int.toNat_natCast, add_off]
  rw [q_ldAgg (ys := x) hd hg (by rw [lx]; exact hs) (b := b) (o := o + i * s) (fun j y e => c _ _ (hcl i x hi j y e))]
  refine aw_allocL zs hz rfl fun r hr => ?_
  refine aw_storeRow (ys := x) (by rw [lx]; exact hs) (Hp.set_same ..) (by rw [lz, lx]) fx (fun i _ => by simp) ?_
  rw [Hp.set_set, lz]
  exact k r hr
end
end Go.SL
set_option linter.unusedSimpArgs false
set_option linter.unusedVariables false
namespace Go.SL
open Go
section
variable {P : Program} {h : Hp}
theorem zeroCells1 (z : Value) (n : Nat) : (Builtin.zeroCells #[z] n).toList = List.replicate n z := by
  unfold Builtin.zeroCells
  apply List.ext_getElem
  · simp
  · intro i h1 h2
    simp [Nat.mod_one]
/-- Zeros are appended. -/
theorem aw_grow {h0 h h' : Hp} {t ti T e B n m : Nat} {v : Value} {xs : List Value} {z : Value} {K : Value → Hp → Prop}
    (ht : P.underlying t = some (.slice e)) (hti : P.underlying ti = some (.int .i64)) (hi : (P.info? e).map (fun i => (i.zero, i.size, i.bytes)) = some (some z, 1, B)) (hz : z.cells = #[z]) (hfz : flat z = true) (hB1 : 1 ≤ B) (hw : New h e 1 v h' xs n)
    (hB : (2 * (n + m) + 768) * B ≤ 2 ^ 48) (hle0 : Hp.le h0 h)
    (k : ∀ v' h'', New h0 e 1 v' h'' (xs ++ List.replicate m z) (n + m) → K v' h'') : aw P (Builtin.append_ #[t, ti] T #[v, .int .i64 m]) K h' := by
  obtain ⟨i, hi0, hi1⟩ := Option.map_eq_some_iff.1 hi
  simp only [Prod.mk.injEq] at hi1
  have hs : sz P e = some 1 := by simp [sz, hi0, hi1.2.1]
  have hzr : zr P e = some z := by simp [zr, hi0, hi1.1]
  have hinfo : peek P h' (typeInfo e) = some i := pk_info hi0
  have hbound : n + m ≤ 140737488355328 := by
    have : (2 * (n + m) + 768) * 1 ≤ (2 * (n + m) + 768) * B := Nat.mul_le_mul_left _ hB1
    omega
  have hmB : m * B ≤ (2 * (n + m) + 768) * B := Nat.mul_le_mul_right B (by omega)
  have hrv := hw.rds
  obtain ⟨hxl, hv⟩ := hw
  obtain ⟨a, c, rfl⟩ : ∃ a c, v = .slice a n c := by
    obtain ⟨_, a, c, e1, _⟩ := hrv
    exact ⟨a, c, e1⟩
  have w1 : IntKind.i64.wrap (m : Int) = m := by unfold IntKind.wrap; simp [IntKind.bits, IntKind.signed]; omega
  show awp P (Sem.bind (underlying t) _) _ h'
  rw [awp_bind, peek_awp P _ _ _ (pk_und ht)]
  show awp P (Sem.bind (sizeOf e) _) _ h'
  rw [awp_bind, peek_awp P _ _ _ (pk_size hs)]
  show awp P (Sem.bind (underlying ti) _) _ h'
  rw [awp_bind, peek_awp P _ _ _ (pk_und hti)]
  show awp P (if IntKind.i64.wrap (m : Int) < 0 then _ else _) _ h'
  rw [if_neg (by rw [w1]; omega)]
  show awp P (Sem.bind (typeInfo e) _) _ h'
  rw [awp_bind, peek_awp P _ _ _ hinfo]
  show awp P (if IntKind.i64.wrap (m : Int) * (i.bytes : Int) > 2 ^ 48 then _ else _) _ h'
  rw [if_neg (by
    rw [w1, hi1.2.2]
    have : ((m * B : Nat) : Int) ≤ 2 ^ 48 := by exact_mod_cast Nat.le_trans hmB hB
    push_cast at this; omega)]
  show awp P (if n + (IntKind.i64.wrap (m : Int)).toNat ≤ c then _ else _) _ h'
  rw [w1, Int.toNat_natCast]
  have zs : ∀ (K : Array Value → Hp → Prop), K (List.replicate m z).toArray h' → awp P (if m * 1 = 0 then (pure #[] : Sem (Array Value)) else (zeroValue e).bind fun z => .pure (Builtin.zeroCells z.cells m)) K h' := fun K q => by
    by_cases h0 : m * 1 = 0
    · rw [if_pos h0]
      obtain rfl : m = 0 := by omega
      exact q
    · rw [if_neg h0, awp_bind, peek_awp P _ _ _ (pk_zero hzr), hz]
      have e1 : Builtin.zeroCells #[z] m = (List.replicate m z).toArray := by rw [← zeroCells1]
      rw [e1]
      exact q
  have fz : ∀ y ∈ List.replicate m z, flat y = true := fun y hy => by rw [(List.mem_replicate.1 hy).2]; exact hfz
  split
  · rename_i hle
    show awp P (Sem.bind (if m * 1 = 0 then _ else _) _) _ h'
    rw [awp_bind]
    refine zs _ ?_
    rcases hv with ⟨hv, hn, hh⟩ | ⟨b, c', f, hb, hn, hv, hh, hf⟩
    · simp only [Value.slice.injEq] at hv
      obtain ⟨rfl, rfl, rfl⟩ := hv
      have hm0 : m = 0 := by omega
      subst hm0
      refine ⟨h0, by rw [hh]; exact hle0, k _ _ ⟨by simpa using hxl, .inl ⟨rfl, rfl, rfl⟩⟩⟩
    · simp only [Value.slice.injEq] at hv
      obtain ⟨rfl, _, rfl⟩ := hv
      show awp P (Sem.bind (storeCells ((⟨b, 0, none⟩ : Addr).add (n * 1)) (List.replicate m z).toArray.toList) _) _ h'
      rw [awp_bind, add_off]
      have hb' : h' b = some (.row e xs (c * 1) (some f)) := by rw [hh]; exact Hp.set_same ..
      refine awp_storeCells (List.replicate m z) xs h' _ hb' fz (by rw [hxl, List.length_replicate]; omega) hf 0 (0 + n * 1) (by omega) ?_
      refine ⟨h0.set b (.row e (xs ++ List.replicate m z) (c * 1) (some f)), ?_, k _ _ ⟨by rw [List.length_append, hxl, List.length_replicate]; omega, .inr ⟨b, c, f, le_none hle0 hb, hle, rfl, rfl, hf⟩⟩⟩
      have e1 : (if List.replicate m z = [] then h' else h'.set b (.row e (xs ++ List.replicate m z) (c * 1) (some f))) = h.set b (.row e (xs ++ List.replicate m z) (c * 1) (some f)) := by
        split
        · rename_i e0; rw [e0, List.append_nil]; exact hh
        · rw [hh, Hp.set_set]
      rw [e1]
      exact le_set hle0
  · rename_i hgt
    have hnc : Builtin.nextslicecap (n + m) c * B ≤ 2 ^ 48 := Nat.le_trans (Nat.mul_le_mul_right B (nextcap_le (n + m) c (by omega))) hB
    show awp P (Sem.bind (typeInfo e) _) _ h'
    rw [awp_bind, peek_awp P _ _ _ hinfo]
    show awp P (if ((n + m : Nat) : Int) > IntKind.i64.max ∧ (true = true ∨ i.bytes = 0) then _ else _) _ h'
    rw [if_neg (fun q => by have := q.1; simp [IntKind.max, IntKind.bits, IntKind.signed] at this; omega)]
    show awp P (Sem.bind (typeInfo e) _) _ h'
    rw [awp_bind, peek_awp P _ _ _ hinfo]
    show awp P (if Builtin.nextslicecap (n + m) c * i.bytes > 2 ^ 48 then _ else _) _ h'
    rw [if_neg (by rw [hi1.2.2]; omega)]
    show awp P (Sem.choose (.appendCap (n + m) c e) _) _ h'
    simp only [awp, Question.forced, Bool.false_eq_true, if_false]
    intro tp
    obtain ⟨nc, hncap, hge⟩ : ∃ nc, Question.cut (.appendCap (n + m) c e) tp = nc ∧ n + m ≤ nc := ⟨_, rfl, by simp [Question.cut]⟩
    rw [hncap]
    show awp P (Sem.bind (typeInfo e) _) _ h'
    rw [awp_bind, peek_awp P _ _ _ hinfo]
    show awp P (Sem.bind (askRoom (nc * i.bytes)) _) _ h'
    rw [awp_bind]
    have hroom : ∀ (x : Nat) (K : Unit → Hp → Prop), K () h' → awp P (askRoom x) K h' := by
      intro x K q
      unfold askRoom
      split <;> exact q
    refine hroom _ _ ?_
    show awp P (Sem.bind (Builtin.firstCells 1 n _) _) _ h'
    rw [awp_bind]
    refine awp_firstCells hrv ?_
    show awp P (Sem.bind (if m * 1 = 0 then _ else _) _) _ h'
    rw [awp_bind]
    refine zs _ ?_
    show awp P (Sem.bind (zeroValue e) _) _ h'
    rw [awp_bind, peek_awp P _ _ _ (pk_zero hzr)]
    intro r hrn
    obtain ⟨rest, hrest, hsz⟩ : ∃ rest : Array Value, Builtin.zeroCells z.cells (nc - (n + m)) = rest ∧ rest.size = (nc - (n + m)) * 1 := ⟨_, rfl, by rw [zeroCells_size, hz]; rfl⟩
    have hh0 : h r = none := by
      rcases hv with ⟨_, _, rfl⟩ | ⟨b, c', f, hb, _, _, rfl, _⟩
      · exact hrn
      · by_cases e1 : r = b
        · subst e1; rw [Hp.set_same] at hrn; cases hrn
        · rwa [Hp.set_ne _ _ e1] at hrn
    refine ⟨h0.set r (.row e (xs ++ List.replicate m z) (nc * 1) (some (0, 0))), Hp.le.trans (le_set hle0) fun b' o ho => ?_, k _ _ ⟨by rw [List.length_append, hxl, List.length_replicate]; omega, .inr ⟨r, nc, (0, 0), le_none hle0 hh0, hge, rfl, rfl, fun i _ => by simp⟩⟩⟩
    by_cases e1 : b' = r
    · subst e1
      rw [Hp.set_same] at ho
      cases ho
      refine ⟨_, Hp.set_same .., ?_⟩
      rw [hrest]
      refine ⟨rfl, ?_, ?_, .inl rfl⟩
      · simp only [Array.size_append, List.size_toArray, hxl, List.length_replicate, hsz]
        omega
      · simp only [Array.toList_append, List.append_assoc]
        exact ⟨rest.toList, by simp⟩
    · rw [Hp.set_ne _ _ e1] at ho ⊢
      rcases hv with ⟨_, _, rfl⟩ | ⟨b, c', f, hb, _, _, rfl, _⟩
      · exact ⟨o, ho, .refl _⟩
      · by_cases e2 : b' = b
        · subst e2; rw [hb] at ho; cases ho
        · rw [Hp.set_ne _ _ e2]; exact ⟨o, ho, .refl _⟩
end
end Go.SL
set_option linter.unusedSimpArgs false
set_option linter.unusedVariables false
set_option maxRecDepth 100000
set_option maxHeartbeats 1000000
namespace Go.SL
open Go
section
variable {P : Program}
theorem replicate_nv (k : IntKind) (n : Nat) : List.replicate n (Value.int k 0) = nv k (List.replicate n 0) := by simp [nv]
theorem set_end (A : List Nat) (m x : Nat) : (A ++ List.replicate (m + 1) 0).set A.length x = A ++ [x] ++ List.replicate m 0 := by
  rw [List.set_append_right _ _ (Nat.le_refl _), Nat.sub_self, List.replicate_succ, List.set_cons_zero, List.append_assoc]
  rfl
theorem lt_dec (i n : Nat) : decide ((i : Int) < (n : Int)) = decide (i < n) := by
  rw [decide_eq_decide]; omega
theorem rn_nil (h : Hp) (k : IntKind) : Rn h k (.slice none 0 0) [] := ⟨rfl, none, 0, rfl, Nat.le_refl _, .inl rfl⟩
theorem ext0 {h : Hp} {K : Value → Prop} (a b : Value) : q P h (Instr.extract (.tuple #[a, b]) 0) K = K a := q_ext #[a, b] 0 a rfl
theorem ext1 {h : Hp} {K : Value → Prop} (a b : Value) : q P h (Instr.extract (.tuple #[a, b]) 1) K = K b := q_ext #[a, b] 1 b rfl
def strL (l : List Nat) : ByteArray := l.foldl (fun s x => s.push (UInt8.ofNat x)) ByteArray.empty
theorem ne_dec (a n : Nat) : (((a : Nat) : Int) != ((n : Nat) : Int)) = decide (a ≠ n) := by
  rw [Bool.eq_iff_iff, bne_iff_ne, decide_eq_true_eq]; omega
theorem add32 (a b : Nat) : IntKind.u32.wrap ((a : Int) + (b : Int)) = (((a + b) % 4294967296 : Nat) : Int) := by rw [← Int.natCast_add, wu32]
theorem xor32N {a b : Nat} (ha : a < 4294967296) (hb : b < 4294967296) : ixor .u32 (a : Int) (b : Int) = ((a ^^^ b : Nat) : Int) := by
  rw [xor32 (by omega) (by omega) (by omega) (by omega), Int.toNat_natCast, Int.toNat_natCast]
theorem putL_nv (l : List Nat) (j : Nat) (ys : List Nat) (h : j + ys.length ≤ l.length) : putL (nv .u8 l) j (nv .u8 ys) = nv .u8 (l.take j ++ ys ++ l.drop (j + ys.length)) := by
  rw [putL_eq _ _ _ (by rw [nv_len, nv_len]; exact h), nv_len]
  unfold nv
  rw [List.map_append, List.map_append, List.map_take, List.map_drop]
theorem nv_take (k : IntKind) (l : List Nat) (n : Nat) : (nv k l).take n = nv k (l.take n) := by unfold nv; rw [List.map_take]
/-- What is to be read (R) is known, what is owned (S) is known and not among it. -/
structure Own (R h : Hp) (S : List Nat) : Prop where
  sub : Hp.ext R h
  dis : ∀ b, b ∈ S → R b = none
  kn : ∀ b, b ∈ S → ∃ o, h b = some o
/-- A step: what is to be read (R) grows, what is owned (S) changes, all else that is known (h) stays. -/
structure Stp (R h R' h' : Hp) (S S' : List Nat) : Prop where
  ext : Hp.ext R R'
  keep : ∀ b o, b ∉ S → h b = some o → h' b = some o
  frS : ∀ b o, b ∉ S → h b = some o → b ∉ S'
  frR : ∀ b o, b ∉ S → h b = some o → R b = none → R' b = none
  own : Own R' h' S'
theorem Stp.refl {R h : Hp} {S : List Nat} (w : Own R h S) : Stp R h R h S S := ⟨.refl _, fun _ _ _ e => e, fun _ _ n _ => n, fun _ _ _ _ e => e, w⟩
theorem Stp.trans {R h R1 h1 R2 h2 : Hp} {S S1 S2 : List Nat} (a : Stp R h R1 h1 S S1) (b : Stp R1 h1 R2 h2 S1 S2) : Stp R h R2 h2 S S2 where
  ext := a.ext.trans b.ext
  own := b.own
  keep := fun x o n e => b.keep x o (a.frS x o n e) (a.keep x o n e)
  frS := fun x o n e => b.frS x o (a.frS x o n e) (a.keep x o n e)
  frR := fun x o n e r => b.frR x o (a.frS x o n e) (a.keep x o n e) (a.frR x o n e r)
/-- What is owned beside stays so. -/
theorem Stp.frame {R h R' h' : Hp} {S S' S2 : List Nat} (a : Stp R h R' h' S S') (w : Own R h S2) (n : ∀ b, b ∈ S2 → b ∉ S) : Own R' h' S2 ∧ (∀ b, b ∈ S2 → b ∉ S') ∧ ∀ b, b ∈ S2 → h' b = h b := by
  refine ⟨⟨a.own.sub, fun b hb => ?_, fun b hb => ?_⟩, fun b hb => ?_, fun b hb => ?_⟩ <;> obtain ⟨o, e⟩ := w.kn b hb
  · exact a.frR b o (n b hb) e (w.dis b hb)
  · exact ⟨o, a.keep b o (n b hb) e⟩
  · exact a.frS b o (n b hb) e
  · rw [e]; exact a.keep b o (n b hb) e
/-- A step, with what is owned beside. -/
theorem Stp.wide {R h R' h' : Hp} {S S' S2 : List Nat} (a : Stp R h R' h' S S') (w : Own R h S2) (n : ∀ b, b ∈ S2 → b ∉ S) : Stp R h R' h' (S ++ S2) (S' ++ S2) where
  ext := a.ext
  keep := fun b o hn e => a.keep b o (fun q => hn (List.mem_append_left _ q)) e
  frS := fun b o hn e q => (List.mem_append.1 q).elim (a.frS b o (fun q => hn (List.mem_append_left _ q)) e) (fun q => hn (List.mem_append_right _ q))
  frR := fun b o hn e r => a.frR b o (fun q => hn (List.mem_append_left _ q)) e r
  own := by
    obtain ⟨w2, _, _⟩ := a.frame w n
    exact ⟨w2.sub, fun b hb => (List.mem_append.1 hb).elim (a.own.dis b) (w2.dis b), fun b hb => (List.mem_append.1 hb).elim (a.own.kn b) (w2.kn b)⟩
theorem Own.nil {R h : Hp} {S : List Nat} (w : Own R h S) : Own R h [] := ⟨w.sub, fun b hb => (by cases hb), fun b hb => (by cases hb)⟩
/-- A step that only makes what is to be read: a block. -/
theorem Stp.block {R h : Hp} {S : List Nat} {r : Nat} (o : AObj) (w : Own R h S) (hr : h r = none) : Stp R h (R.set r o) (h.set r o) S S := by
  have hRb : R r = none := w.sub.none hr
  refine ⟨ext_set _ hRb, fun x o' hn e => ?_, fun x o' hn e => hn, fun x o' hn e r' => ?_, ⟨fun x o' e => ?_, fun x hx => ?_, fun x hx => ?_⟩⟩
  · rw [Hp.set_ne _ _ (by rintro rfl; rw [hr] at e; cases e)]; exact e
  · rw [Hp.set_ne _ _ (by rintro rfl; rw [hr] at e; cases e)]; exact r'
  · by_cases q : x = r
    · subst q; rw [Hp.set_same] at e ⊢; exact e
    · rw [Hp.set_ne _ _ q] at e ⊢; exact w.sub x o' e
  · rw [Hp.set_ne _ _ (by rintro rfl; obtain ⟨o2, e⟩ := w.kn x hx; rw [hr] at e; cases e)]; exact w.dis x hx
  · obtain ⟨o2, e⟩ := w.kn x hx
    exact ⟨o2, by rw [Hp.set_ne _ _ (by rintro rfl; rw [hr] at e; cases e)]; exact e⟩
/-- A new row, to be read. -/
theorem Stp.new {R h : Hp} {S : List Nat} {t s n : Nat} {v : Value} {h' : Hp} {xs : List Value} (w : Own R h S) (nw : New h t s v h' xs n) : ∃ R', Stp R h R' h' S S ∧ Rds R' s v xs n := by
  rcases nw.2 with ⟨rfl, rfl, rfl⟩ | ⟨b, c, f, hb, hc, rfl, rfl, hf⟩
  · exact ⟨R, .refl w, nw.1, none, 0, rfl, Nat.le_refl _, .inl rfl⟩
  · exact ⟨_, Stp.block _ w hb, nw.1, _, c, rfl, hc, .inr ⟨b, 0, rfl, fun i x e => by rw [cell_row (Hp.set_same ..), Nat.zero_add]; exact e⟩⟩
theorem Stp.newN {R h : Hp} {S : List Nat} {t : Nat} {v : Value} {h' : Hp} {k : IntKind} {l : List Nat} (w : Own R h S) (nw : Nn h t k v h' l) : ∃ R', Stp R h R' h' S S ∧ Rn R' k v l := Stp.new w nw
theorem Own.rn {R h : Hp} {S : List Nat} {k : IntKind} {v : Value} {l : List Nat} (w : Own R h S) (r : Rn R k v l) : Rn h k v l := r.mono w.sub.cle
theorem rn_flat {R : Hp} {k : IntKind} {v : Value} {l : List Nat} (r : Rn R k v l) : flat v = true := by
  obtain ⟨a, c, rfl, _⟩ := r.shape; rfl
/-- A row of the call's own that may be appended to, or nil; the block that it lies in. -/
def OutAt (t s : Nat) (h : Hp) (v : Value) (xs : List Value) (n : Nat) (So : List Nat) : Prop :=
  (v = .slice none 0 0 ∧ n = 0 ∧ xs = [] ∧ So = []) ∨
  ∃ b c f, h b = some (.row t xs (c * s) (some f)) ∧ v = .slice (some ⟨b, 0, none⟩) n c ∧ n ≤ c ∧ (∀ i, i < c * s → ¬ (f.1 ≤ i ∧ i < f.2)) ∧ So = [b] ∧ xs.length = n * s
theorem OutAt.of {t s : Nat} {h h' : Hp} {v : Value} {xs : List Value} {n : Nat} (w : New h t s v h' xs n) : ∃ So, OutAt t s h' v xs n So ∧ (∀ x, x ∈ So → h x = none) := by
  rcases w.2 with ⟨rfl, rfl, rfl⟩ | ⟨b, c, f, hb, hc, rfl, rfl, hf⟩
  · exact ⟨[], .inl ⟨rfl, rfl, List.eq_nil_of_length_eq_zero (by have := w.1; omega), rfl⟩, fun x hx => by cases hx⟩
  · exact ⟨[b], .inr ⟨b, c, f, Hp.set_same .., rfl, hc, hf, rfl, w.1⟩, fun x hx => by rw [List.mem_singleton.1 hx]; exact hb⟩
theorem OutAt.new {t s : Nat} {h : Hp} {v : Value} {xs : List Value} {n : Nat} {So : List Nat} (a : OutAt t s h v xs n So) : ∃ X, New X t s v h xs n ∧ (∀ x, x ∉ So → X x = h x) ∧ (∀ x, x ∈ So → X x = none) := by
  rcases a with ⟨rfl, rfl, rfl, rfl⟩ | ⟨b, c, f, hb, rfl, hc, hf, rfl, hl⟩
  · exact ⟨h, ⟨by simp, .inl ⟨rfl, rfl, rfl⟩⟩, fun _ _ => rfl, fun x hx => by cases hx⟩
  · refine ⟨h.del b, New.at hb hl hc hf, fun x hx => Hp.del_ne _ (by simpa using hx), fun x hx => by rw [List.mem_singleton.1 hx]; exact del_at _ _⟩
theorem OutAt.keep {t s : Nat} {h h' : Hp} {v : Value} {xs : List Value} {n : Nat} {So : List Nat} (a : OutAt t s h v xs n So) (k : ∀ x, x ∈ So → h' x = h x) : OutAt t s h' v xs n So := by
  rcases a with a | ⟨b, c, f, hb, hv, hc, hf, hS, hl⟩
  · exact .inl a
  · exact .inr ⟨b, c, f, by rw [k b (by simp [hS])]; exact hb, hv, hc, hf, hS, hl⟩
theorem OutAt.rds {t s : Nat} {h : Hp} {v : Value} {xs : List Value} {n : Nat} {So : List Nat} (a : OutAt t s h v xs n So) : Rds h s v xs n := by
  obtain ⟨X, w, _⟩ := a.new
  exact w.rds
theorem aw_appendO {t2 T ts e e2 s B n m : Nat} {h : Hp} {v w : Value} {xs ys : List Value} {z : Value} {So : List Nat} {K : Value → Hp → Prop}
    (ht : P.underlying ts = some (.slice e)) (ht2 : P.underlying t2 = some (.slice e2)) (hi : (P.info? e).map (fun i => (i.zero, i.size, i.bytes)) = some (some z, s, B)) (hzs : z.cells.size = s) (hB1 : 1 ≤ B) (ho : OutAt e s h v xs n So) (hr : Rds h s w ys m) (hfl : ∀ y ∈ ys, flat y = true)
    (hB : (2 * (n + m) + 768) * B ≤ 2 ^ 48)
    (k : ∀ v' h' So', OutAt e s h' v' (xs ++ ys) (n + m) So' → (∀ x o, x ∉ So → h x = some o → h' x = some o) → (∀ x o, x ∉ So → h x = some o → x ∉ So') → K v' h') : aw P (Builtin.append_ #[ts, t2] T #[v, w]) K h := by
  obtain ⟨X, nX, X1, X2⟩ := ho.new
  refine aw_append ht ht2 hi hzs hB1 nX hr hfl hB (.refl _) fun v' h' n' => ?_
  obtain ⟨So', o', f'⟩ := OutAt.of n'
  refine k v' h' So' o' (fun x o hx e => ?_) (fun x o hx e q => ?_)
  · exact n'.ext _ _ (by rw [X1 x hx]; exact e)
  · have := f' x q
    rw [X1 x hx, e] at this
    cases this
/-- A step that only makes blocks that nobody asks for. -/
theorem Stp.ext0 {R h : Hp} {S : List Nat} {h' : Hp} (w : Own R h S) (x : Hp.ext h h') : Stp R h R h' S S :=
  ⟨.refl _, fun y oy _ ey => x y oy ey, fun y oy n _ => n, fun y oy _ _ r => r, ⟨fun y oy ey => x y oy (w.sub y oy ey), w.dis, fun y hy => let ⟨oy, ey⟩ := w.kn y hy; ⟨oy, x y oy ey⟩⟩⟩
theorem Own.sub' {R h : Hp} {S T : List Nat} (w : Own R h S) (m : ∀ x, x ∈ T → x ∈ S) : Own R h T := ⟨w.sub, fun b hb => w.dis b (m b hb), fun b hb => w.kn b (m b hb)⟩
theorem Own.app {R h : Hp} {S T : List Nat} (w : Own R h S) (v : Own R h T) : Own R h (S ++ T) := ⟨w.sub, fun b hb => (List.mem_append.1 hb).elim (w.dis b) (v.dis b), fun b hb => (List.mem_append.1 hb).elim (w.kn b) (v.kn b)⟩
theorem Stp.perm {R h R' h' : Hp} {S S' T T' : List Nat} (a : Stp R h R' h' S S') (m : ∀ x, x ∈ S ↔ x ∈ T) (m' : ∀ x, x ∈ S' ↔ x ∈ T') : Stp R h R' h' T T' :=
  ⟨a.ext, fun b o n e => a.keep b o (fun q => n ((m b).1 q)) e, fun b o n e q => a.frS b o (fun q => n ((m b).1 q)) e ((m' b).2 q), fun b o n e r => a.frR b o (fun q => n ((m b).1 q)) e r, a.own.sub' fun x hx => (m' x).2 hx⟩
/-- Less is owned behind a step. -/
theorem Stp.drop {R h R' h' : Hp} {S S' T' : List Nat} (a : Stp R h R' h' S S') (m : ∀ x, x ∈ T' → x ∈ S') : Stp R h R' h' S T' :=
  ⟨a.ext, a.keep, fun b o n e q => a.frS b o n e (m b q), a.frR, a.own.sub' m⟩
/-- A row that was owned is to be read from now on. -/
theorem Stp.fix {R h R' h' : Hp} {S S' T' : List Nat} {b : Nat} {o : AObj} (a : Stp R h R' h' S S') (hb : b ∈ S') (e : h' b = some o) (m : ∀ x, x ∈ T' → x ∈ S' ∧ x ≠ b) : Stp R h (R'.set b o) h' S T' := by
  have hR := a.own.dis b hb
  refine ⟨a.ext.trans (ext_set _ hR), a.keep, fun x ox n e q => a.frS x ox n e (m x q).1, fun x ox n ex r => ?_, ⟨fun x ox ex => ?_, fun x hx => ?_, fun x hx => a.own.kn x (m x hx).1⟩⟩
  · have := a.frS x ox n ex
    rw [Hp.set_ne _ _ (by rintro rfl; exact this hb)]
    exact a.frR x ox n ex r
  · by_cases q : x = b
    · subst q; rw [Hp.set_same] at ex; rw [← ex]; exact e
    · rw [Hp.set_ne _ _ q] at ex; exact a.own.sub x ox ex
  · rw [Hp.set_ne _ _ (m x hx).2]; exact a.own.dis x (m x hx).1
/-- A row that grows is owned. -/
theorem OutAt.step {t s n' : Nat} {R h h' : Hp} {v' : Value} {xs' : List Value} {So So' : List Nat} (w : Own R h So) (o' : OutAt t s h' v' xs' n' So') (kp : ∀ x o, x ∉ So → h x = some o → h' x = some o) (fr : ∀ x o, x ∉ So → h x = some o → x ∉ So') :
    Stp R h R h' So So' := by
  refine ⟨.refl _, kp, fr, fun x o _ _ r => r, ⟨fun x o e => ?_, fun x hx => ?_, fun x hx => ?_⟩⟩
  · refine kp x o (fun hx => ?_) (w.sub x o e)
    rw [w.dis x hx] at e; cases e
  · cases e : R x with
    | none => rfl
    | some o =>
      refine absurd hx (fr x o (fun hx => ?_) (w.sub x o e))
      rw [w.dis x hx] at e; cases e
  · rcases o' with ⟨_, _, _, rfl⟩ | ⟨b, c, f, hb, _, _, _, rfl, _⟩
    · cases hx
    · rw [List.mem_singleton.1 hx]; exact ⟨_, hb⟩
theorem pk_q {h : Hp} {m : Sem Value} {v : Value} (e : ∀ K : Value → Prop, q P h m K = K v) : peek P h m = some v := by
  obtain ⟨x, hx, e2⟩ := withVal_elim (K := fun x => x = v) ((e fun x => x = v).mpr rfl)
  rw [e2] at hx
  exact hx
/-- What was made since is owned, too. -/
theorem Stp.gain {R h R' h' : Hp} {S S' T : List Nat} (a : Stp R h R' h' S S') (w : Own R' h' T) (fr : ∀ x, x ∈ T → h x = none) : Stp R h R' h' S (S' ++ T) :=
  ⟨a.ext, a.keep, fun b o n e q => (List.mem_append.1 q).elim (a.frS b o n e) (fun q => by rw [fr b q] at e; cases e), a.frR, a.own.app w⟩
/-- A block of the call's own is made, to be owned. -/
theorem Own.mk1 {R h : Hp} {S : List Nat} {r : Nat} (o : AObj) (w : Own R h S) (hr : h r = none) : Own R (h.set r o) [r] ∧ Own R (h.set r o) S ∧ (∀ b, b ∈ S → b ∉ [r]) ∧ ∀ b, b ∈ S → (h.set r o) b = h b := by
  have hn : ∀ b, b ∈ S → b ≠ r := fun b hb q => by
    obtain ⟨x, e⟩ := w.kn b hb
    rw [q, hr] at e; cases e
  refine ⟨⟨w.sub.trans (ext_set _ hr), fun b hb => ?_, fun b hb => ?_⟩, ⟨w.sub.trans (ext_set _ hr), w.dis, fun b hb => ?_⟩, fun b hb q => hn b hb (List.mem_singleton.1 q), fun b hb => Hp.set_ne _ _ (hn b hb)⟩
  · rw [List.mem_singleton.1 hb]; exact w.sub.none hr
  · rw [List.mem_singleton.1 hb]; exact ⟨_, Hp.set_same ..⟩
  · rw [Hp.set_ne _ _ (hn b hb)]; exact w.kn b hb
theorem and32N {a b : Nat} (ha : a < 4294967296) (hb : b < 4294967296) : iand .u32 (a : Int) (b : Int) = ((a &&& b : Nat) : Int) := by
  rw [and32 (by omega) (by omega) (by omega) (by omega), Int.toNat_natCast, Int.toNat_natCast]
theorem u32row (n : Nat) : List.replicate n (Value.int .u32 0) = nv .u32 (List.replicate n 0) := by simp [nv]
theorem getD_app_left (a b : List Nat) (i : Nat) (h : i < a.length) : (a ++ b).getD i 0 = a.getD i 0 := by
  simp [List.getD_eq_getElem?_getD, List.getElem?_append_left h]
theorem Hp.set_id {h : Hp} {b : Nat} {o : AObj} (e : h b = some o) : h.set b o = h := by
  funext i
  by_cases q : i = b
  · subst q; rw [Hp.set_same, e]
  · rw [Hp.set_ne _ _ q]
end
end Go.SL
set_option linter.unusedSimpArgs false
set_option linter.unusedVariables false
set_option maxRecDepth 100000
namespace Go.Proofs.YtlkhmddmdmlffaaGreatDoor
open Go Go.SL Go.Pure
theorem T_orlopref01_Little {h : Hp} {K : Value → Hp → Prop} (v n : Nat) (hv : v < 2 ^ 64) (hn : n ≤ 8) (k : ∀ r h', Nn h t_uint8 .u8 r h' (le n v) → K r h') : Cn P n_orlopref01_Little #[.int .u64 v, .int .i64 n] h K := by
  refine F_orlopref01_Little ?_
  unfold s_orlopref01_Little
  refine Lp_mk (fun m vs h' => ∃ (i w : Nat) (r : Value), i + m = n ∧ w < 2 ^ 64 ∧ Nn h t_uint8 .u8 r h' ((le n v).take i) ∧ (le n v).drop i = le (n - i) w ∧ vs = [r, .int .u64 (w : Int), .int .i64 (i : Int)]) n ⟨0, v, _, by omega, hv, Nn.nil .., rfl, rfl⟩ ?_
  rintro m vs h2 ⟨i, w, r, hi, hw64, hw, hd, rfl⟩
  simp (disch := omega) only [GL, RL, wi64]
  split
  · rename_i hlt
    simp only [decide_eq_true_eq, Int.ofNat_lt] at hlt
    have e1 : (w : Int).tmod 256 = ((w % 256 : Nat) : Int) := by rw [Int.tmod_eq_emod_of_nonneg (by omega)]; omega
    have e2 : IntKind.u64.wrap ((w : Int).tdiv 256) = ((w / 256 : Nat) : Int) := by rw [Int.tdiv_eq_ediv_of_nonneg (by omega), wu64i (by omega) (by omega)]; omega
    rw [e1, wu8i (by omega) (by omega)]
    refine aw_lit (ps := [(0, _)]) u_Sl_uint8 z_uint8 zr_uint8 rfl (by omega) (by intro p hp; rw [List.mem_singleton.1 hp]; exact ⟨rfl, by omega⟩) fun x h3 hx hxe => ?_
    obtain ⟨rr, hrr, rfl, rfl⟩ := hxe
    have hwn := New.add hw hrr (.row t_uint8 (fillL [(0, Value.int .u8 ((w % 256 : Nat) : Int))] (List.replicate 1 (Value.int .u8 0))) 1 (some (0, 0)))
    refine aw_append u_Sl_uint8 u_Sl_uint8 nfo_uint8 rfl (by omega) hwn (New.rds hx) ?_ ?_ (le_fresh (hw.noneAt hrr)) fun v' h4 hw4 => ?_
    · intro y hy
      simp [fillL] at hy
      subst hy
      rfl
    · rw [List.length_take, le_len]; omega
    · refine ⟨_, .refl _, m - 1, by omega, i + 1, w / 256, v', by omega, by omega, ?_, ?_, by rw [e2]; rfl⟩
      · have hlt' : i < (le n v).length := by rw [le_len]; exact hlt
        obtain ⟨d, hdd⟩ : ∃ d, n - i = d + 1 := ⟨n - i - 1, by omega⟩
        rw [hdd, List.drop_eq_getElem_cons hlt'] at hd
        simp only [le, List.cons.injEq] at hd
        unfold Nn
        rw [List.take_succ_eq_append_getElem hlt', nv_app, hd.1, List.length_append]
        exact hw4
      · have hlt' : i < (le n v).length := by rw [le_len]; exact hlt
        obtain ⟨d, hdd⟩ : ∃ d, n - i = d + 1 := ⟨n - i - 1, by omega⟩
        rw [hdd, List.drop_eq_getElem_cons hlt'] at hd
        simp only [le, List.cons.injEq] at hd
        rw [hd.2, show n - (i + 1) = d by omega]
  · rename_i hge
    simp only [decide_eq_true_eq, Int.ofNat_lt] at hge
    obtain rfl : i = n := by omega
    rw [List.take_of_length_le (by rw [le_len]; omega)] at hw
    exact k _ _ hw
theorem T_orlopref01_Equal {h : Hp} {K : Value → Hp → Prop} {v w : Value} {l m : List Nat} (hv : Rn h .u8 v l) (hw : Rn h .u8 w m) (hl : l.length ≤ 9223372036854775807) (k : K (.bool (decide (l = m))) h) : Cn P n_orlopref01_Equal #[v, w] h K := by
  refine F_orlopref01_Equal ?_
  obtain ⟨a, c, rfl, hc⟩ := hv.shape
  obtain ⟨a', c', rfl, hc'⟩ := hw.shape
  unfold s_orlopref01_Equal
  simp (disch := omega) only [GL, RL]
  by_cases hlen : l.length = m.length
  · rw [if_neg (by simp [hlen])]
    refine Lp_mk (fun n vs h' => ∃ (i : Nat) (r : Value), i + n = l.length ∧ h' = h ∧ (∀ j, j < i → l.getD j 0 = m.getD j 0) ∧ vs = [r, .int .i64 (i : Int)]) l.length ⟨0, _, by omega, rfl, fun j hj => by omega, rfl⟩ ?_
    rintro n vs h2 ⟨i, r, hi, rfl, hs, rfl⟩
    simp (disch := omega) only [GL, RL]
    split
    · rename_i hlt
      simp only [decide_eq_true_eq, Int.ofNat_lt] at hlt
      obtain ⟨b, o, rfl, hy⟩ := hv.pos (by omega)
      obtain ⟨b', o', rfl, hy'⟩ := hw.pos (by omega)
      simp (disch := omega) only [GL, RL, hy i hlt, hy' i (by omega), wi64]
      split
      · rename_i hne
        have : l ≠ m := by rintro rfl; simp at hne
        simpa [this] using k
      · rename_i he
        refine ⟨_, .refl _, n - 1, by omega, i + 1, r, by omega, rfl, fun j hj => ?_, rfl⟩
        by_cases hji : j = i
        · subst hji
          simp only [bne_iff_ne, ne_eq, Decidable.not_not] at he
          omega
        · exact hs j (by omega)
    · rename_i hge
      simp only [decide_eq_true_eq, Int.ofNat_lt] at hge
      have : l = m := by
        apply List.ext_getElem hlen
        intro j h1 h2
        have := hs j (by omega)
        simpa [h1, h2] using this
      simpa [this] using k
  · rw [if_pos (by simp; omega)]
    have : l ≠ m := by rintro rfl; exact hlen rfl
    simpa [this] using k
end Go.Proofs.YtlkhmddmdmlffaaGreatDoor
set_option linter.unusedSimpArgs false
namespace Go.Pure
def W32 (l : List Nat) : Prop := ∀ x ∈ l, x < 4294967296
theorem W32.getD {l : List Nat} (h : W32 l) (i : Nat) : l.getD i 0 < 4294967296 := by
  rw [List.getD_eq_getElem?_getD]
  cases hg : l[i]? with
  | none => simp
  | some x => exact h x (List.mem_of_getElem? hg)
theorem W32.set {l : List Nat} (h : W32 l) (i : Nat) {x : Nat} (hx : x < 4294967296) : W32 (l.set i x) := by
  intro y hy
  rcases List.mem_or_eq_of_mem_set hy with q | rfl
  · exact h y q
  · exact hx
theorem W32.append {a b : List Nat} (h : W32 a) (g : W32 b) : W32 (a ++ b) := fun x hx => (List.mem_append.1 hx).elim (h x) (g x)
def rotl (x n : Nat) : Nat := (x * 2 ^ n % 4294967296) ||| (x / 2 ^ (32 - n))
theorem rotl_lt (x n : Nat) (hx : x < 4294967296) : rotl x n < 4294967296 := by
  unfold rotl
  refine Nat.or_lt_two_pow (n := 32) (Nat.mod_lt _ (by decide)) (Nat.lt_of_le_of_lt (Nat.div_le_self _ _) hx)
def halfL (s : List Nat) (a b d n : Nat) : List Nat :=
  let s1 := s.set a ((s.getD a 0 + s.getD b 0) % 4294967296)
  s1.set d (rotl (s1.getD d 0 ^^^ s1.getD a 0) n)
def quarterL (s : List Nat) (a b c d : Nat) : List Nat := halfL (halfL (halfL (halfL s a b d 16) c d b 12) a b d 8) c d b 7
def quads : List (Nat × Nat × Nat × Nat) := [(0, 4, 8, 12), (1, 5, 9, 13), (2, 6, 10, 14), (3, 7, 11, 15), (0, 5, 10, 15), (1, 6, 11, 12), (2, 7, 8, 13), (3, 4, 9, 14)]
def stepL (s : List Nat) (q : Nat × Nat × Nat × Nat) : List Nat := quarterL s q.1 q.2.1 q.2.2.1 q.2.2.2
def droundL (s : List Nat) : List Nat := quads.foldl stepL s
def rounds : Nat → List Nat → List Nat
  | 0, s => s
  | n + 1, s => droundL (rounds n s)
/-- The state at the beginning. -/
def words (b : List Nat) : Nat → List Nat
  | 0 => []
  | n + 1 => words b n ++ [leval ((b.drop (4 * n)).take 4)]
def consts : List Nat := [1634760805, 857760878, 2036477234, 1797285236]
def beginL (key nonce : List Nat) (counter : Nat) : List Nat := consts ++ words key 8 ++ [counter] ++ words nonce 3
def outL (s x : List Nat) : Nat → List Nat
  | 0 => []
  | n + 1 => outL s x n ++ le 4 ((s.getD n 0 + x.getD n 0) % 4294967296)
def blockL (key nonce : List Nat) (counter : Nat) : List Nat := outL (rounds 10 (beginL key nonce counter)) (beginL key nonce counter) 16
/-- Byte by byte. -/
def xorL (key nonce : List Nat) (counter : Nat) (b : List Nat) : List Nat :=
  b.zipIdx.map fun p => p.1 ^^^ (blockL key nonce ((counter + p.2 / 64) % 4294967296)).getD (p.2 % 64) 0
end Go.Pure
set_option linter.unusedSimpArgs false
set_option linter.unusedVariables false
set_option maxRecDepth 100000
namespace Go.Proofs.YtlkhmddmdmlffaaGreatDoor
open Go Go.SL Go.Pure
/-! ### A block -/
theorem ixor8_nat (a b : Nat) (ha : a < 256) (hb : b < 256) : ixor .u8 (a : Int) (b : Int) = ((a ^^^ b : Nat) : Int) := by
  rw [xor8 (by omega) (by omega) (by omega) (by omega), Int.toNat_natCast, Int.toNat_natCast]
end Go.Proofs.YtlkhmddmdmlffaaGreatDoor
namespace Go.Pure
abbrev W : Nat := 18446744073709551616
def W64 (l : List Nat) : Prop := ∀ x ∈ l, x < 18446744073709551616
theorem W64.getD {l : List Nat} (h : W64 l) (i : Nat) : l.getD i 0 < 18446744073709551616 := by
  rw [List.getD_eq_getElem?_getD]
  cases hg : l[i]? with
  | none => simp
  | some x => exact h x (List.mem_of_getElem? hg)
theorem W64.set {l : List Nat} (h : W64 l) (i : Nat) {x : Nat} (hx : x < 18446744073709551616) : W64 (l.set i x) := fun y hy => by
  rcases List.mem_or_eq_of_mem_set hy with q | rfl
  · exact h y q
  · exact hx
def zero5 : List Nat := [0, 0, 0, 0, 0]
def addN (S M : List Nat) : Nat → List Nat
  | 0 => S
  | i + 1 => (addN S M i).set i (((addN S M i).getD i 0 + M.getD i 0) % 18446744073709551616)
def addL (S M : List Nat) : List Nat := addN S M 5
def carryN (S : List Nat) : Nat → Nat × List Nat
  | 0 => (0, S)
  | i + 1 => (((carryN S i).2.getD i 0 + (carryN S i).1) % 18446744073709551616 / 67108864, (carryN S i).2.set i (((carryN S i).2.getD i 0 + (carryN S i).1) % 18446744073709551616 % 67108864))
def carryE (c : Nat) (T : List Nat) : List Nat :=
  let A := T.set 0 ((T.getD 0 0 + 5 * c % 18446744073709551616) % 18446744073709551616)
  let B := A.set 1 ((A.getD 1 0 + A.getD 0 0 / 67108864) % 18446744073709551616)
  B.set 0 (B.getD 0 0 % 67108864)
def carryL (S : List Nat) : List Nat := carryE (carryN S 5).1 (carryN S 5).2
def tval (i k : Nat) (S R : List Nat) : Nat :=
  if 5 ≤ i + k then S.getD i 0 * R.getD k 0 % 18446744073709551616 * 5 % 18446744073709551616 else S.getD i 0 * R.getD k 0 % 18446744073709551616
def tin (S R : List Nat) (i : Nat) (O : List Nat) : Nat → List Nat
  | 0 => O
  | k + 1 => (tin S R i O k).set ((i + k) % 5) (((tin S R i O k).getD ((i + k) % 5) 0 + tval i k S R) % 18446744073709551616)
def tout (S R : List Nat) : Nat → List Nat
  | 0 => zero5
  | i + 1 => tin S R i (tout S R i) 5
def timesL (S R : List Nat) : List Nat := carryL (tout S R 5)
def redN (T : List Nat) : Nat → List Nat
  | 0 => T.set 0 ((T.getD 0 0 + 5) % 18446744073709551616)
  | i + 1 =>
    let A := (redN T i).set (i + 1) (((redN T i).getD (i + 1) 0 + (redN T i).getD i 0 / 67108864) % 18446744073709551616)
    A.set i (A.getD i 0 % 67108864)
def redE (T M : List Nat) : List Nat := if M.getD 4 0 / 67108864 ≠ 0 then M.set 4 (M.getD 4 0 % 67108864) else T
def reduceL (S : List Nat) : List Nat := redE (carryL (carryL S)) (redN (carryL (carryL S)) 4)
def lowL (S : List Nat) : Nat := (S.getD 0 0 ||| S.getD 1 0 * 2 ^ 26 % 18446744073709551616) ||| S.getD 2 0 * 2 ^ 52 % 18446744073709551616
def highL (S : List Nat) : Nat := (S.getD 2 0 / 2 ^ 12 ||| S.getD 3 0 * 2 ^ 14 % 18446744073709551616) ||| S.getD 4 0 * 2 ^ 40 % 18446744073709551616
def bytesL (S s : List Nat) : List Nat :=
  let a := leval (s.take 8)
  let lo := (lowL S + a) % 18446744073709551616
  let hi := (highL S + leval ((s.drop 8).take 8)) % 18446744073709551616
  le 8 lo ++ le 8 (if lo < a then (hi + 1) % 18446744073709551616 else hi)
def loadI (b : List Nat) (i : Nat) : Nat := leval ((b.drop (min (26 * i / 8) b.length)).take 8) / 2 ^ (26 * i % 8) % 67108864
def loadN (b : List Nat) : Nat → List Nat
  | 0 => zero5
  | i + 1 => (loadN b i).set i (loadI b i)
def loadL (b : List Nat) : List Nat := loadN b 5
def clampN (v : Nat) (l : List Nat) (is : List Nat) : List Nat := is.foldl (fun l i => l.set i (l.getD i 0 &&& v)) l
def clampL (k : List Nat) : List Nat := clampN 252 (clampN 15 k [3, 7, 11, 15]) [4, 8, 12]
theorem Bytes.set {l : List Nat} (h : Bytes l) (i : Nat) {x : Nat} (hx : x < 256) : Bytes (l.set i x) := fun y hy => by
  rcases List.mem_or_eq_of_mem_set hy with q | rfl
  · exact h y q
  · exact hx
/-- The ith of a row's pieces of n. -/
def chunkN (n : Nat) (m : List Nat) (i : Nat) : List Nat := (m.take (min (n * i + n) m.length)).drop (n * i)
abbrev chunk (m : List Nat) (i : Nat) : List Nat := chunkN 16 m i
def tagN (r m : List Nat) : Nat → List Nat
  | 0 => zero5
  | i + 1 => timesL (addL (tagN r m i) (loadL (chunk m i ++ [1]))) r
def tagL (key m : List Nat) : List Nat := bytesL (reduceL (tagN (loadL (clampL (key.take 16))) m ((m.length + 15) / 16))) (key.drop 16)
end Go.Pure
set_option linter.unusedSimpArgs false
set_option linter.unusedVariables false
set_option maxRecDepth 100000
namespace Go.Proofs.YtlkhmddmdmlffaaGreatDoor
open Go Go.SL Go.Pure
theorem orN {a b : Nat} (ha : a < 18446744073709551616) (hb : b < 18446744073709551616) : ior .u64 (a : Int) (b : Int) = ((a ||| b : Nat) : Int) := by
  rw [or64 (by omega) (by omega) (by omega) (by omega), Int.toNat_natCast, Int.toNat_natCast]
section
variable {h : Hp} {K : Value → Hp → Prop}
end
end Go.Proofs.YtlkhmddmdmlffaaGreatDoor
set_option linter.unusedSimpArgs false
set_option linter.unusedVariables false
set_option maxRecDepth 100000
namespace Go.Proofs.YtlkhmddmdmlffaaGreatDoor
open Go Go.SL Go.Pure
def t15 : List Nat := [3, 7, 11, 15]
section
variable {h : Hp} {K : Value → Hp → Prop}
end
end Go.Proofs.YtlkhmddmdmlffaaGreatDoor
namespace Go.Pure
def need16 (n : Nat) : Nat := (16 - n % 16) % 16
def pad16 (o : List Nat) : List Nat := o ++ List.replicate (need16 o.length) 0
def padL (ps : List (List Nat)) : List Nat := ps.foldl (fun o p => pad16 (o ++ p)) []
def tagB (key nonce beside hidden : List Nat) : List Nat :=
  tagL ((blockL key nonce 0).take 32) (padL [beside, hidden] ++ (le 8 beside.length ++ le 8 hidden.length))
def sealL (key nonce beside text : List Nat) : List Nat := xorL key nonce 1 text ++ tagB key nonce beside (xorL key nonce 1 text)
def may (key nonce : List Nat) : Prop := key.length = 32 ∧ nonce.length = 12
instance (key nonce : List Nat) : Decidable (may key nonce) := by unfold may; infer_instance
end Go.Pure
set_option linter.unusedSimpArgs false
set_option linter.unusedVariables false
set_option maxRecDepth 100000
namespace Go.Proofs.YtlkhmddmdmlffaaGreatDoor
open Go Go.SL Go.Pure
section
variable {h : Hp} {K : Value → Hp → Prop}
/-- The parts of a row of rows. -/
def Parts (h : Hp) (v : Value) (ps : List (List Nat)) : Prop :=
  ∃ b o c, v = .slice (some ⟨b, o, none⟩) ps.length c ∧ ps.length ≤ c ∧ ∀ i, i < ps.length → ∃ w, h.cell ⟨b, o + i, none⟩ = some w ∧ Rn h .u8 w (ps.getD i [])
theorem Parts.mono {h h' : Hp} {v : Value} {ps : List (List Nat)} (p : Parts h v ps) (c : Hp.cle h h') : Parts h' v ps := by
  obtain ⟨b, o, cc, e, hc, q⟩ := p
  exact ⟨b, o, cc, e, hc, fun i hi => let ⟨w, h1, h2⟩ := q i hi; ⟨w, c _ _ h1, h2.mono c⟩⟩
end
end Go.Proofs.YtlkhmddmdmlffaaGreatDoor
set_option linter.unusedSimpArgs false
set_option linter.unusedVariables false
set_option maxRecDepth 100000
namespace Go.Proofs.YtlkhmddmdmlffaaGreatDoor
open Go Go.SL Go.Pure
theorem or0 (r s : Nat) : r ||| s = 0 ↔ r = 0 ∧ s = 0 := by
  constructor
  · intro e
    have h1 : r ≤ r ||| s := Nat.left_le_or
    have h2 : s ≤ r ||| s := Nat.right_le_or
    omega
  · rintro ⟨rfl, rfl⟩; rfl
theorem xor0 (x y : Nat) : x ^^^ y = 0 ↔ x = y := by
  constructor
  · intro e
    have : (x ^^^ y) ^^^ y = x := by rw [Nat.xor_assoc, Nat.xor_self, Nat.xor_zero]
    rw [e, Nat.zero_xor] at this
    exact this.symm
  · rintro rfl; exact Nat.xor_self _
section
variable {h : Hp} {K : Value → Hp → Prop}
theorem T_word_Equal {v w : Value} {l m : List Nat} (hv : Rn h .u8 v l) (hw : Rn h .u8 w m) (bl : Bytes l) (bm : Bytes m) (hl : l.length ≤ 4611686018427387904) (k : K (.bool (decide (l = m))) h) : Cn P n_word_Equal #[v, w] h K := by
  refine F_word_Equal ?_
  obtain ⟨a, c, rfl, hc⟩ := hv.shape
  obtain ⟨a', c', rfl, hc'⟩ := hw.shape
  unfold s_word_Equal
  simp (disch := omega) only [GL, RL]
  by_cases hlen : l.length = m.length
  · rw [if_neg (by simp [hlen])]
    refine Lp_mk (fun n vs h' => ∃ (i r : Nat), i + n = l.length ∧ h' = h ∧ r < 256 ∧ (r = 0 ↔ ∀ j, j < i → l.getD j 0 = m.getD j 0) ∧ vs = [.int .u8 (r : Int), .int .i64 (i : Int)]) l.length ⟨0, 0, by omega, rfl, by omega, ⟨fun _ j hj => by omega, fun _ => rfl⟩, rfl⟩ ?_
    rintro n vs h2 ⟨i, r, hi, rfl, hr, hs, rfl⟩
    simp (disch := omega) only [GL, RL, lt_dec]
    by_cases hlt : i < l.length
    · obtain ⟨b, o, rfl, hy⟩ := hv.pos (by omega)
      obtain ⟨b', o', rfl, hy'⟩ := hw.pos (by omega)
      simp (disch := omega) only [GL, RL, hlt, decide_true, if_true, hy i hlt, hy' i (by omega), wi64]
      have b1 := bl.getD i
      have b2 := bm.getD i
      have b3 : l.getD i 0 ^^^ m.getD i 0 < 256 := Nat.xor_lt_two_pow (n := 8) b1 b2
      have b4 : r ||| (l.getD i 0 ^^^ m.getD i 0) < 256 := Nat.or_lt_two_pow (n := 8) hr b3
      rw [ixor8_nat _ _ b1 b2, or8 (by omega) (by omega) (by omega) (by omega), Int.toNat_natCast, Int.toNat_natCast]
      refine ⟨_, .refl _, n - 1, by omega, i + 1, _, by omega, rfl, b4, ?_, rfl⟩
      rw [or0, xor0, hs]
      constructor
      · rintro ⟨q, e⟩ j hj
        by_cases hji : j = i
        · rw [hji]; exact e
        · exact q j (by omega)
      · exact fun q => ⟨fun j hj => q j (by omega), q i (by omega)⟩
    · simp (disch := omega) only [GL, RL, hlt, decide_false, Bool.false_eq_true, if_false]
      have e1 : ((r : Int) == 0) = decide (l = m) := by
        rw [Bool.eq_iff_iff, beq_iff_eq, decide_eq_true_eq]
        have : (r : Int) = 0 ↔ r = 0 := by omega
        rw [this, hs]
        constructor
        · intro q
          apply List.ext_getElem hlen
          intro j h1 h2
          have := q j (by omega)
          simpa [h1, h2] using this
        · rintro rfl j _; rfl
      rw [e1]
      exact k
  · rw [if_pos (by simp; omega)]
    have : l ≠ m := by rintro rfl; exact hlen rfl
    simpa [this] using k
end
end Go.Proofs.YtlkhmddmdmlffaaGreatDoor
set_option linter.unusedSimpArgs false
set_option linter.unusedVariables false
set_option maxRecDepth 100000
namespace Go.Proofs.YtlkhmddmdmlffaaGreatDoor
open Go Go.SL
theorem q_str {h : Hp} {K : Value → Prop} {v : Value} {l : List Nat} (hv : Rn h .u8 v l) : q P h (convert t_Sl_uint8 t_string v) K = K (.string (strL l)) := q_of (by
  obtain ⟨hl, a, c, rfl, hc, hr⟩ := hv
  show peek P h (Sem.bind (underlying t_Sl_uint8) _) = _
  rw [peek_bind, pk_und u_Sl_uint8, Option.bind_some]
  show peek P h (Sem.bind (underlying t_string) _) = _
  rw [peek_bind, pk_und u_string, Option.bind_some]
  show peek P h (Sem.bind (underlying t_uint8) _) = _
  rw [peek_bind, pk_und u_uint8, Option.bind_some]
  show peek P h (Conv.bytesToString _) = _
  rcases hr with h0 | ⟨b, o, rfl, hy⟩
  · rw [List.eq_nil_of_length_eq_zero h0]
    cases a <;> rfl
  · unfold Conv.bytesToString
    show peek P h (Sem.bind (loadCellsFrom ⟨b, o, none⟩ 0 l.length #[]) _) = _
    have := pk_loadCells (P := P) (h := h) (b := b) (o := o) (nv .u8 l) 0 #[] (fun j x e => by simpa using hy j x e)
    rw [nv_len] at this
    rw [peek_bind, this, Option.bind_some]
    have key : ∀ (l : List Nat) (s : ByteArray), peek P h (forIn (nv .u8 l) s fun c r => (match c with
        | .int .u8 n => Sem.pure (ForInStep.yield (r.push (UInt8.ofNat n.toNat)))
        | _ => stuck "bytesToString: byte expected" : Sem (ForInStep ByteArray))) = some (l.foldl (fun s x => s.push (UInt8.ofNat x)) s) := by
      intro l
      induction l with
      | nil => intro s; rfl
      | cons x l ih =>
        intro s
        rw [nv_cons, List.forIn_cons]
        exact ih _
    have e0 : (#[] ++ (nv .u8 l).toArray) = (nv .u8 l).toArray := by simp
    rw [e0]
    show peek P h (Sem.bind (forIn (nv .u8 l).toArray ByteArray.empty _) _) = _
    rw [List.forIn_toArray, peek_bind]
    refine (congrArg (fun x => Option.bind x _) (key l ByteArray.empty)).trans ?_
    rfl) K
theorem q_eqlS {h : Hp} {K : Value → Prop} (x y : Operand) (a b : ByteArray) : q P h (eqop .eql t_string x y (.string a) (.string b)) K = K (.bool (a.toList == b.toList)) := q_of (by
  unfold eqop
  rw [peek_bind]
  have : peek P h (eqGuard .eql t_string x y (.string a) (.string b)) = some () := rfl
  rw [this, Option.bind_some]
  simp only [binOp, Op.stringOp]; rfl) K
/-- Bytes as bytes: nothing moves, but what stands behind the block may not be written. -/
theorem aw_mark {h : Hp} {b n : Nat} {xs : List Value} {K : Value → Hp → Prop} (hb : h b = none) (hx : xs.length = n) (k : ∀ h'', New h t_uint8 1 (.slice (some ⟨b, 0, none⟩) n n) h'' xs n → K (.slice (some ⟨b, 0, none⟩) n n) h'') :
    aw P (convert t_Sl_uint8 t_Sl_uint8 (.slice (some ⟨b, 0, none⟩) n n)) K (h.set b (.row t_uint8 xs n (some (0, 0)))) := by
  refine aw_of ?_
  show awp P (Sem.bind (underlying t_Sl_uint8) _) K _
  rw [awp_bind, peek_awp P _ _ _ (pk_und u_Sl_uint8)]
  show awp P (Sem.bind (underlying t_Sl_uint8) _) K _
  rw [awp_bind, peek_awp P _ _ _ (pk_und u_Sl_uint8)]
  show awp P (Sem.bind (underlying t_uint8) _) K _
  rw [awp_bind, peek_awp P _ _ _ (pk_und u_uint8)]
  show awp P (Sem.bind (markStringish ⟨b, 0, none⟩) _) K _
  rw [awp_bind]
  show awp P (Sem.bind (shape b) _) _ _
  rw [awp_bind]
  have hs : (h.set b (.row t_uint8 xs n (some (0, 0)))).shape b = some (some (t_uint8, n)) := by simp [Hp.shape]
  have : peek P (h.set b (.row t_uint8 xs n (some (0, 0)))) (shape b) = some (some (t_uint8, n)) := by
    unfold shape
    simp only [peek, hs]
  rw [peek_awp P _ _ _ this]
  show awp P (freeze ⟨b, n, none⟩ 1) _ _
  have hfz : (h.set b (.row t_uint8 xs n (some (0, 0)))).freeze ⟨b, n, none⟩ 1 = some (h.set b (.row t_uint8 xs n (some (n, n + 1)))) := by simp [Hp.freeze, Hp.set_set, frz]
  simp only [awp, freeze, hfz]
  refine k _ ⟨by rw [Nat.mul_one]; exact hx, .inr ⟨b, n, (n, n + 1), hb, Nat.le_refl _, rfl, by rw [Nat.mul_one], fun i hi => by omega⟩⟩
end Go.Proofs.YtlkhmddmdmlffaaGreatDoor
set_option linter.unusedSimpArgs false
set_option linter.unusedVariables false
set_option maxRecDepth 100000
namespace Go.Pure
/-- A number's bytes, the greatest first. -/
def bg (n v : Nat) : List Nat := (le n v).reverse
theorem bg_len (n v : Nat) : (bg n v).length = n := by simp [bg, le_len]
theorem bg_bytes (n v : Nat) : Bytes (bg n v) := fun x hx => le_bytes n v x (List.mem_reverse.1 hx)
/-- The number of bytes, the greatest first; what isn't there is 0. -/
def bval (l : List Nat) : Nat := l.foldl (fun v x => v * 256 + x) 0
theorem bval_snoc (a : List Nat) (x : Nat) : bval (a ++ [x]) = bval a * 256 + x := by simp [bval, List.foldl_append]
theorem bval_rev (l : List Nat) : bval l.reverse = leval l := by
  induction l with
  | nil => rfl
  | cons x l ih => rw [List.reverse_cons, bval_snoc, ih, leval]; omega
theorem bval_lt {l : List Nat} (h : Bytes l) : bval l < 256 ^ l.length := by
  have := leval_lt l.reverse (fun x hx => h x (List.mem_reverse.1 hx))
  rwa [← bval_rev, List.reverse_reverse, List.length_reverse] at this
theorem bval_bg (n v : Nat) : bval (bg n v) = v % 256 ^ n := by unfold bg; rw [bval_rev, leval_le]
/-- A box of a number. -/
def boxB (n len : Nat) : List Nat := (List.range len).map fun i => (bg 8 n).getD (i % 8) 0
structure Box where
  key : List Nat
  nonce : List Nat
  beside : List Nat
  text : List Nat
  deriving DecidableEq
/-- What hides and digests: the real one, or a book of texts and boxes. -/
inductive Cr where
  | real
  | book (texts : List (List Nat)) (boxes : List Box)
def crSeal (c : Cr) (key nonce beside text : List Nat) : Nat × List Nat × Cr :=
  match c with
  | .real => if may key nonce then (0, sealL key nonce beside text, .real) else (1, [], .real)
  | .book ts bs => if may key nonce then (0, boxB bs.length (text.length + 16), .book ts (bs ++ [⟨key, nonce, beside, text⟩])) else (1, [], .book ts bs)
/-! ### A layer in chunks -/
end Go.Pure
set_option linter.unusedSimpArgs false
set_option linter.unusedVariables false
set_option maxRecDepth 100000
set_option maxHeartbeats 1000000
namespace Go.Proofs.YtlkhmddmdmlffaaGreatDoor
open Go Go.SL Go.Pure
theorem baToList (s : ByteArray) : s.toList = s.data.toList := by
  have key : ∀ (n i : Nat) (r : List UInt8), s.size - i = n → i ≤ s.size → ByteArray.toList.loop s i r = r.reverse ++ s.data.toList.drop i := by
    intro n
    induction n with
    | zero =>
      intro i r h h2
      rw [ByteArray.toList.loop.eq_def, if_neg (by omega), List.drop_of_length_le (by rw [Array.length_toList]; show s.size ≤ i; omega)]
      simp
    | succ n ih =>
      intro i r h h2
      have hlt : i < s.data.toList.length := by rw [Array.length_toList]; show i < s.size; omega
      rw [ByteArray.toList.loop.eq_def, if_pos (by omega), ih (i + 1) _ (by omega) (by omega), List.drop_eq_getElem_cons hlt]
      have : s.get! i = s.data.toList[i] := by
        show s.data[i]! = _
        rw [getElem!_pos s.data i (by show i < s.size; omega)]
        simp
      rw [this]
      simp
  have := key s.size 0 [] (by omega) (by omega)
  show ByteArray.toList.loop s 0 [] = _
  rw [this]
  simp
theorem strL_data (l : List Nat) : (strL l).data.toList = l.map UInt8.ofNat := by
  have key : ∀ (l : List Nat) (s : ByteArray), (l.foldl (fun s x => s.push (UInt8.ofNat x)) s).data.toList = s.data.toList ++ l.map UInt8.ofNat := by
    intro l
    induction l with
    | nil => intro s; simp
    | cons x l ih =>
      intro s
      rw [List.foldl_cons, ih]
      show (s.data.push (UInt8.ofNat x)).toList ++ _ = _
      simp
  have := key l ByteArray.empty
  simpa [strL] using this
theorem u8_inj {l m : List Nat} (hl : Bytes l) (hm : Bytes m) (e : l.map UInt8.ofNat = m.map UInt8.ofNat) : l = m := by
  induction l generalizing m with
  | nil => cases m with
    | nil => rfl
    | cons y m => cases e
  | cons x l ih => cases m with
    | nil => cases e
    | cons y m =>
      simp only [List.map_cons, List.cons.injEq] at e
      have hx := hl x (List.mem_cons_self ..)
      have hy := hm y (List.mem_cons_self ..)
      have : x = y := by
        have := congrArg UInt8.toNat e.1
        simpa [UInt8.toNat_ofNat', Nat.mod_eq_of_lt hx, Nat.mod_eq_of_lt hy] using this
      rw [this, ih (fun z hz => hl z (List.mem_cons_of_mem _ hz)) (fun z hz => hm z (List.mem_cons_of_mem _ hz)) e.2]
theorem strL_eq {l m : List Nat} (hl : Bytes l) (hm : Bytes m) : ((strL l).toList == (strL m).toList) = decide (l = m) := by
  rw [baToList, baToList, strL_data, strL_data, Bool.eq_iff_iff, beq_iff_eq, decide_eq_true_eq]
  exact ⟨u8_inj hl hm, fun e => by rw [e]⟩
theorem strL_beq {l m : List Nat} (hl : Bytes l) (hm : Bytes m) : (strL l == strL m) = decide (l = m) := by
  have e : (strL l == strL m) = ((strL l).data == (strL m).data) := by cases strL l; cases strL m; rfl
  rw [e, Bool.eq_iff_iff, beq_iff_eq, decide_eq_true_eq]
  constructor
  · intro e
    have := congrArg Array.toList e
    simp only [strL_data] at this
    exact u8_inj hl hm this
  · rintro rfl; rfl
theorem bg_get (n v i : Nat) (hi : i < n) : (bg n v).getD (n - 1 - i) 0 = v / 256 ^ i % 256 := by
  unfold bg
  rw [List.getD_eq_getElem?_getD, List.getElem?_reverse (by rw [le_len]; omega), le_len, ← List.getD_eq_getElem?_getD, show n - 1 - (n - 1 - i) = i by omega, le_get n v i hi]
theorem bg_step (n v i : Nat) (hi : i < n) : (List.replicate (n - i) 0 ++ (bg n v).drop (n - i)).set (n - 1 - i) (v / 256 ^ i % 256) = List.replicate (n - (i + 1)) 0 ++ (bg n v).drop (n - (i + 1)) := by
  rw [show n - i = (n - (i + 1)) + 1 by omega, show n - 1 - i = n - (i + 1) by omega, List.replicate_succ', List.append_assoc, List.set_append_right _ _ (by simp), List.length_replicate, Nat.sub_self]
  rw [List.singleton_append, List.set_cons_zero]
  congr 1
  have hlt : n - (i + 1) < (bg n v).length := by rw [bg_len]; omega
  rw [List.drop_eq_getElem_cons hlt]
  congr 1
  have := bg_get n v i hi
  rw [show n - 1 - i = n - (i + 1) by omega] at this
  rw [← this]
  simp [List.getD_eq_getElem?_getD, hlt]
section
variable {h : Hp} {K : Value → Hp → Prop}
theorem T_word_big (v n : Nat) (hv : v < 2 ^ 64) (hn : n ≤ 8) (h0 : 0 < n) (k : ∀ r h', Nn h t_uint8 .u8 r h' (bg n v) → K r h') : Cn P n_word_big #[.int .u64 v, .int .i64 n] h K := by
  refine F_word_big ?_
  unfold s_word_big
  refine aw_make u_Sl_uint8 nfo_uint8 rfl (Nat.le_refl n) (by omega) (by omega) fun r h1 hw => ?_
  obtain ⟨b, c, f, hb, hc, rfl, _, _⟩ := hw.form h0
  rw [replicate_nv] at hw
  refine Lp_mk (fun m vs h' => ∃ i : Nat, i + m = n ∧ New h t_uint8 1 (.slice (some ⟨b, 0, none⟩) n c) h' (nv .u8 (List.replicate (n - i) 0 ++ (bg n v).drop (n - i))) n ∧ vs = [.int .i64 (i : Int)]) n
    ⟨0, by omega, by rw [Nat.sub_zero, List.drop_of_length_le (by rw [bg_len]; omega), List.append_nil]; exact hw, rfl⟩ ?_
  rintro m vs h2 ⟨i, hi, hw, rfl⟩
  simp (disch := omega) only [GL, RL, wi64, lt_dec]
  by_cases hlt : i < n
  · have e1 : (n : Int) - 1 - (i : Int) = ((n - 1 - i : Nat) : Int) := by omega
    have e8 : (8 : Int) * (i : Int) = ((8 * i : Nat) : Int) := by omega
    have es : ((v : Int).fdiv (2 ^ min (8 * i) IntKind.u64.bits)) = ((v / 256 ^ i : Nat) : Int) := by
      rw [show min (8 * i) IntKind.u64.bits = 8 * i by simp only [IntKind.bits]; omega, fdivp, pow256]
    simp (disch := omega) only [GL, RL, wi64, hlt, decide_true, if_true, e1, e8, es, wu8]
    refine aw_storeN z_uint8 hw (by omega) rfl fun h3 hw3 => ?_
    rw [nv_set, bg_step n v i hlt] at hw3
    exact ⟨_, .refl _, m - 1, by omega, i + 1, by omega, hw3, rfl⟩
  · obtain rfl : i = n := by omega
    simp only [hlt, decide_false, Bool.false_eq_true, if_false]
    refine k _ _ ?_
    rw [Nat.sub_self, List.replicate_zero, List.nil_append, List.drop_zero] at hw
    unfold Nn
    rw [bg_len]
    exact hw
theorem T_word_Big64 (v : Nat) (hv : v < 2 ^ 64) (k : ∀ r h', Nn h t_uint8 .u8 r h' (bg 8 v) → K r h') : Cn P n_word_Big64 #[.int .u64 v] h K := by
  refine F_word_Big64 ?_
  unfold s_word_Big64
  exact T_word_big v 8 hv (by omega) (by omega) k
theorem T_word_Big32 (v : Nat) (hv : v < 2 ^ 32) (k : ∀ r h', Nn h t_uint8 .u8 r h' (bg 4 v) → K r h') : Cn P n_word_Big32 #[.int .u32 v] h K := by
  refine F_word_Big32 ?_
  unfold s_word_Big32
  simp (disch := omega) only [GL, RL, wu64i]
  exact T_word_big v 4 (by omega) (by omega) (by omega) k
theorem bval_take_succ (l : List Nat) (i : Nat) (hi : i < l.length) : bval (l.take (i + 1)) = bval (l.take i) * 256 + l.getD i 0 := by
  rw [List.take_succ_eq_append_getElem hi, bval_snoc]
  simp [List.getD_eq_getElem?_getD, hi]
theorem bval_take_lt {l : List Nat} (h : Bytes l) (i : Nat) : bval (l.take i) < 256 ^ i := by
  refine Nat.lt_of_lt_of_le (bval_lt (h.take i)) (Nat.pow_le_pow_right (by decide) ?_)
  rw [List.length_take]; exact Nat.min_le_left _ _
theorem T_word_getBig {v : Value} {l : List Nat} (n : Nat) (hn : n ≤ 8) (hr : Rn h .u8 v l) (hb : Bytes l) (hl : n ≤ l.length) (k : K (.int .u64 ((bval (l.take n) : Nat) : Int)) h) : Cn P n_word_getBig #[v, .int .i64 n] h K := by
  refine F_word_getBig ?_
  unfold s_word_getBig
  refine Lp_mk (fun m vs h' => ∃ i, i + m = n ∧ h' = h ∧ vs = [.int .u64 ((bval (l.take i) : Nat) : Int), .int .i64 (i : Int)]) n ⟨0, by omega, rfl, rfl⟩ ?_
  rintro m vs h1 ⟨i, hi, rfl, rfl⟩
  simp (disch := omega) only [GL, RL, lt_dec]
  by_cases hlt : i < n
  · simp only [hlt, decide_true, if_true]
    refine T_word_at i hr hb ?_
    have b1 := bval_take_lt hb i
    have b2 := hb.getD i
    have bi : 256 ^ i ≤ 256 ^ 7 := Nat.pow_le_pow_right (by decide) (by omega)
    have p7 : (256 : Nat) ^ 7 = 72057594037927936 := rfl
    have e1 : IntKind.u64.wrap (((bval (l.take i) : Nat) : Int) * 2 ^ min (Int.toNat 8) IntKind.u64.bits) = ((bval (l.take i) * 2 ^ 8 : Nat) : Int) := by
      rw [show min (Int.toNat 8) IntKind.u64.bits = 8 from rfl, mulp, wu64, Nat.mod_eq_of_lt (by omega)]
    have e2 : ior .u64 ((bval (l.take i) * 2 ^ 8 : Nat) : Int) ((l.getD i 0 : Nat) : Int) = ((bval (l.take (i + 1)) : Nat) : Int) := by
      rw [orN (by omega) (by omega), Nat.or_comm, or_add _ _ 8 b2, bval_take_succ l i (by omega)]
      congr 1
      omega
    simp (disch := omega) only [GL, RL, wi64, e1, e2]
    exact ⟨_, .refl _, m - 1, by omega, i + 1, by omega, rfl, rfl⟩
  · obtain rfl : i = n := by omega
    simp only [hlt, decide_false, Bool.false_eq_true, if_false]
    exact k
theorem T_word_GetBig32 {v : Value} {l : List Nat} (hr : Rn h .u8 v l) (hb : Bytes l) (hl : 4 ≤ l.length) (k : K (.int .u32 ((bval (l.take 4) : Nat) : Int)) h) : Cn P n_word_GetBig32 #[v] h K := by
  refine F_word_GetBig32 ?_
  unfold s_word_GetBig32
  refine T_word_getBig 4 (by omega) hr hb hl ?_
  have b1 := bval_take_lt hb 4
  have e : IntKind.u32.wrap ((bval (l.take 4) : Nat) : Int) = ((bval (l.take 4) : Nat) : Int) := by rw [wu32, Nat.mod_eq_of_lt (by omega)]
  simp (disch := omega) only [GL, RL, e]
  exact k
theorem T_bytes_Clone {v : Value} {l : List Nat} (hv : Rn h .u8 v l) (hl : l.length ≤ 70368744177664) (k : ∀ r h', Nn h t_uint8 .u8 r h' l → K r h') : Cn P n_bytes_Clone #[v] h K := by
  refine F_bytes_Clone ?_
  unfold s_bytes_Clone
  obtain ⟨a, c, rfl, hc⟩ := hv.shape
  simp (disch := omega) only [GL, RL]
  cases a with
  | none =>
    have : l = [] := by
      obtain ⟨_, a', c', e, _, h0 | ⟨b, o, ha, _⟩⟩ := hv
      · exact List.eq_nil_of_length_eq_zero h0
      · simp only [Value.slice.injEq] at e
        rw [ha] at e
        cases e.1
    subst this
    simp only [Option.isNone_none, if_true]
    exact k _ _ (Nn.nil ..)
  | some a =>
    simp only [Option.isNone_some, Bool.false_eq_true, if_false]
    refine aw_lit (ps := []) (n := 0) u_Sl_uint8 z_uint8 zr_uint8 rfl (by omega) (by intro p hp; cases hp) fun v1 h1 n1 _ => ?_
    refine aw_append u_Sl_uint8 u_Sl_uint8 nfo_uint8 rfl (by omega) n1 (hv.mono n1.cle) (nv_flat _ _) (by omega) (.refl _) fun v3 h3 n3 => ?_
    refine k _ _ ?_
    unfold Nn
    simpa [fillL] using n3
theorem T_bytes_Equal {v w : Value} {l m : List Nat} (hv : Rn h .u8 v l) (hw : Rn h .u8 w m) (bl : Bytes l) (bm : Bytes m) (k : K (.bool (decide (l = m))) h) : Cn P n_bytes_Equal #[v, w] h K := by
  refine F_bytes_Equal ?_
  unfold s_bytes_Equal
  rw [q_str hv, q_str hw, q_eqlS, strL_eq bl bm]
  exact k
end
end Go.Proofs.YtlkhmddmdmlffaaGreatDoor
set_option linter.unusedSimpArgs false
set_option linter.unusedVariables false
set_option maxRecDepth 100000
namespace Go.Pure
def rotr (x n : Nat) : Nat := rotl x (32 - n)
theorem rotr_lt (x n : Nat) (hx : x < 4294967296) : rotr x n < 4294967296 := rotl_lt x _ hx
theorem rotr_eq (x n : Nat) (h : n ≤ 32) : (x / 2 ^ n) ||| (x * 2 ^ (32 - n) % 4294967296) = rotr x n := by
  unfold rotr rotl
  rw [Nat.or_comm, show 32 - (32 - n) = n by omega]
def sgS0 (x : Nat) : Nat := (rotr x 7 ^^^ rotr x 18) ^^^ (x / 2 ^ 3)
def sgS1 (x : Nat) : Nat := (rotr x 17 ^^^ rotr x 19) ^^^ (x / 2 ^ 10)
def bS1 (x : Nat) : Nat := (rotr x 6 ^^^ rotr x 11) ^^^ rotr x 25
def bS0 (x : Nat) : Nat := (rotr x 2 ^^^ rotr x 13) ^^^ rotr x 22
theorem x32 {a b : Nat} (ha : a < 4294967296) (hb : b < 4294967296) : a ^^^ b < 4294967296 := Nat.xor_lt_two_pow (n := 32) ha hb
theorem a32 {a b : Nat} (ha : a < 4294967296) : a &&& b < 4294967296 := Nat.lt_of_le_of_lt Nat.and_le_left ha
def chS (e f g : Nat) : Nat := (e &&& f) ^^^ ((4294967295 ^^^ e) &&& g)
def majS (a b c : Nat) : Nat := ((a &&& b) ^^^ (a &&& c)) ^^^ (b &&& c)
theorem m32 (x : Nat) : x % 4294967296 < 4294967296 := Nat.mod_lt _ (by decide)
/-! ### A block's words -/
def schStep (l : List Nat) : Nat := (((l.getD (l.length - 16) 0 + sgS0 (l.getD (l.length - 15) 0)) % 4294967296 + l.getD (l.length - 7) 0) % 4294967296 + sgS1 (l.getD (l.length - 2) 0)) % 4294967296
def schF (w : List Nat) : Nat → List Nat
  | 0 => w
  | n + 1 => schF w n ++ [schStep (schF w n)]
theorem schF_len (w : List Nat) : ∀ n, (schF w n).length = w.length + n
  | 0 => rfl
  | n + 1 => by simp only [schF, List.length_append, schF_len w n, List.length_singleton]; omega
theorem schF_w {w : List Nat} (h : W32 w) : ∀ n, W32 (schF w n)
  | 0 => h
  | n + 1 => (schF_w h n).append fun x hx => by rw [List.mem_singleton.1 hx]; exact m32 _
def bwords (b : List Nat) : Nat → List Nat
  | 0 => []
  | n + 1 => bwords b n ++ [bval ((b.drop (4 * n)).take 4)]
theorem bwords_len (b : List Nat) : ∀ n, (bwords b n).length = n
  | 0 => rfl
  | n + 1 => by simp [bwords, bwords_len b n]
theorem bval4_lt {b : List Nat} (h : Bytes b) (i : Nat) : bval ((b.drop i).take 4) < 4294967296 := by
  have h1 := bval_lt ((h.drop i).take 4)
  have h2 : ((b.drop i).take 4).length ≤ 4 := by rw [List.length_take]; exact Nat.min_le_left _ _
  have h3 : 256 ^ ((b.drop i).take 4).length ≤ 256 ^ 4 := Nat.pow_le_pow_right (by decide) h2
  have h4 : (256 : Nat) ^ 4 = 4294967296 := by decide
  omega
theorem bwords_w {b : List Nat} (h : Bytes b) : ∀ n, W32 (bwords b n)
  | 0 => fun x hx => by cases hx
  | n + 1 => (bwords_w h n).append fun x hx => by rw [List.mem_singleton.1 hx]; exact bval4_lt h _
def schL (b : List Nat) : List Nat := schF (bwords b 16) 48
theorem schL_len (b : List Nat) : (schL b).length = 64 := by rw [schL, schF_len, bwords_len]
theorem schL_w {b : List Nat} (h : Bytes b) : W32 (schL b) := schF_w (bwords_w h 16) 48
/-! ### A round -/
def t1S (k w e f g h : Nat) : Nat := ((((h + bS1 e) % 4294967296 + chS e f g) % 4294967296 + k) % 4294967296 + w) % 4294967296
def t2S (a b c : Nat) : Nat := (bS0 a + majS a b c) % 4294967296
def rnd (k w : Nat) (s : List Nat) : List Nat :=
  [(t1S k w (s.getD 4 0) (s.getD 5 0) (s.getD 6 0) (s.getD 7 0) + t2S (s.getD 0 0) (s.getD 1 0) (s.getD 2 0)) % 4294967296, s.getD 0 0, s.getD 1 0, s.getD 2 0,
   (s.getD 3 0 + t1S k w (s.getD 4 0) (s.getD 5 0) (s.getD 6 0) (s.getD 7 0)) % 4294967296, s.getD 4 0, s.getD 5 0, s.getD 6 0]
theorem rnd_w {k w : Nat} {s : List Nat} (h : W32 s) : W32 (rnd k w s) := by
  intro x hx
  simp only [rnd, List.mem_cons, List.not_mem_nil, or_false] at hx
  rcases hx with rfl | rfl | rfl | rfl | rfl | rfl | rfl | rfl <;> first | exact m32 _ | exact h.getD _
def rnds (K w s : List Nat) : Nat → List Nat
  | 0 => s
  | n + 1 => rnd (K.getD n 0) (w.getD n 0) (rnds K w s n)
theorem rnds_w {K w s : List Nat} (h : W32 s) : ∀ n, W32 (rnds K w s n)
  | 0 => h
  | n + 1 => rnd_w (rnds_w h n)
theorem rnds_len {K w s : List Nat} (h : s.length = 8) : ∀ n, (rnds K w s n).length = 8
  | 0 => h
  | n + 1 => rfl
def addS (s v : List Nat) (n : Nat) : List Nat := (List.range n).map fun i => (s.getD i 0 + v.getD i 0) % 4294967296
theorem addS_len (s v : List Nat) (n : Nat) : (addS s v n).length = n := by simp [addS]
theorem addS_w (s v : List Nat) (n : Nat) : W32 (addS s v n) := by
  intro x hx
  obtain ⟨i, _, rfl⟩ := List.mem_map.1 hx
  exact m32 _
theorem addS_succ (s v : List Nat) (n : Nat) : addS s v (n + 1) = addS s v n ++ [(s.getD n 0 + v.getD n 0) % 4294967296] := by simp [addS, List.range_succ]
def workL (K s b : List Nat) : List Nat := addS s (rnds K (schL b) s 64) 8
theorem workL_len (K s b : List Nat) : (workL K s b).length = 8 := addS_len _ _ _
theorem workL_w (K s b : List Nat) : W32 (workL K s b) := addS_w _ _ _
/-! ### All blocks -/
def foldB (K s b : List Nat) : Nat → List Nat
  | 0 => s
  | n + 1 => workL K (foldB K s b n) ((b.drop (64 * n)).take 64)
theorem foldB_len {K s b : List Nat} (h : s.length = 8) : ∀ n, (foldB K s b n).length = 8
  | 0 => h
  | n + 1 => workL_len _ _ _
theorem foldB_w {K s b : List Nat} (h : W32 s) : ∀ n, W32 (foldB K s b n)
  | 0 => h
  | n + 1 => workL_w _ _ _
theorem foldB_app (K s a b : List Nat) : ∀ n, 64 * n ≤ a.length → foldB K s (a ++ b) n = foldB K s a n
  | 0, _ => rfl
  | n + 1, h => by
    simp only [foldB]
    rw [foldB_app K s a b n (by omega), List.drop_append_of_le_length (by omega), List.take_append_of_le_length (by rw [List.length_drop]; omega)]
def shaK : List Nat := [1116352408, 1899447441, 3049323471, 3921009573, 961987163, 1508970993, 2453635748, 2870763221, 3624381080, 310598401, 607225278, 1426881987, 1925078388, 2162078206, 2614888103, 3248222580, 3835390401, 4022224774, 264347078, 604807628, 770255983, 1249150122, 1555081692, 1996064986, 2554220882, 2821834349, 2952996808, 3210313671, 3336571891, 3584528711, 113926993, 338241895, 666307205, 773529912, 1294757372, 1396182291, 1695183700, 1986661051, 2177026350, 2456956037, 2730485921, 2820302411, 3259730800, 3345764771, 3516065817, 3600352804, 4094571909, 275423344, 430227734, 506948616, 659060556, 883997877, 958139571, 1322822218, 1537002063, 1747873779, 1955562222, 2024104815, 2227730452, 2361852424, 2428436474, 2756734187, 3204031479, 3329325298]
def shaH : List Nat := [1779033703, 3144134277, 1013904242, 2773480762, 1359893119, 2600822924, 528734635, 1541459225]
theorem shaK_w : W32 shaK := by
  intro x hx
  have : (shaK.all fun x => decide (x < 4294967296)) = true := by decide +kernel
  exact of_decide_eq_true (List.all_eq_true.1 this x hx)
theorem shaH_w : W32 shaH := by
  intro x hx
  have : (shaH.all fun x => decide (x < 4294967296)) = true := by decide +kernel
  exact of_decide_eq_true (List.all_eq_true.1 this x hx)
theorem shaK_len : shaK.length = 64 := rfl
theorem shaH_len : shaH.length = 8 := rfl
/-- A message padded. -/
def padE (n : Nat) : List Nat := [128] ++ List.replicate ((119 - n % 64) % 64) 0
def padS (b : List Nat) : List Nat := (b ++ padE b.length) ++ bg 8 (8 * b.length)
theorem padS_len (b : List Nat) : (padS b).length % 64 = 0 := by
  unfold padS padE
  rw [List.length_append, List.length_append, List.length_append, List.length_replicate, bg_len, List.length_singleton]
  omega
theorem padE_bytes (n : Nat) : Bytes (padE n) := by
  intro x hx
  rcases List.mem_append.1 hx with h | h
  · rw [List.mem_singleton.1 h]; decide
  · rw [(List.mem_replicate.1 h).2]; decide
theorem padS_bytes {b : List Nat} (h : Bytes b) : Bytes (padS b) := (h.append (padE_bytes _)).append (bg_bytes _ _)
def outS (st : List Nat) : Nat → List Nat
  | 0 => []
  | n + 1 => outS st n ++ bg 4 (st.getD n 0)
theorem outS_len (st : List Nat) : ∀ n, (outS st n).length = 4 * n
  | 0 => rfl
  | n + 1 => by simp only [outS, List.length_append, outS_len st n, bg_len]; omega
theorem outS_bytes (st : List Nat) : ∀ n, Bytes (outS st n)
  | 0 => fun x hx => by cases hx
  | n + 1 => (outS_bytes st n).append (bg_bytes _ _)
def shaL (b : List Nat) : List Nat := outS (foldB shaK shaH (padS b) ((padS b).length / 64)) 8
theorem shaL_len (b : List Nat) : (shaL b).length = 32 := outS_len _ _
theorem shaL_bytes (b : List Nat) : Bytes (shaL b) := outS_bytes _ _
/-! ### A digest on its way -/
/-- What was worked and what waits, behind the bytes M. -/
def Hst (M st wt : List Nat) (many : Nat) : Prop := st = foldB shaK shaH M (M.length / 64) ∧ many = M.length % 64 ∧ wt.length = 64 ∧ wt.take many = M.drop (64 * (M.length / 64))
theorem Hst.nil : Hst [] shaH (List.replicate 64 0) 0 := ⟨rfl, rfl, by rw [List.length_replicate], rfl⟩
theorem hst_wait {M wt : List Nat} {many : Nat} (hw : wt.length = 64) (e : wt.take many = M.drop (64 * (M.length / 64))) (hm : many = M.length % 64) (c : List Nat) (hc : c.length ≤ 64 - many) :
    (wt.take many ++ c ++ wt.drop (many + c.length)).take (many + c.length) = (M ++ c).drop (64 * (M.length / 64)) := by
  have hl : (wt.take many).length = many := by rw [List.length_take]; omega
  rw [List.take_append_of_le_length (by rw [List.length_append, hl]; exact Nat.le_refl _), List.take_of_length_le (by rw [List.length_append, hl]; exact Nat.le_refl _), e,
    List.drop_append_of_le_length (by omega)]
theorem Hst.part {M st wt : List Nat} {many : Nat} (h : Hst M st wt many) (c : List Nat) (hc : many + c.length < 64) : Hst (M ++ c) st (wt.take many ++ c ++ wt.drop (many + c.length)) (many + c.length) := by
  obtain ⟨h1, h2, h3, h4⟩ := h
  have e1 : (M ++ c).length / 64 = M.length / 64 := by rw [List.length_append]; omega
  refine ⟨?_, by rw [List.length_append]; omega, ?_, ?_⟩
  · rw [e1, foldB_app _ _ _ _ _ (by omega)]; exact h1
  · rw [List.length_append, List.length_append, List.length_take, List.length_drop]; omega
  · rw [e1]; exact hst_wait h3 h4 h2 c (by omega)
theorem Hst.full {M st wt : List Nat} {many : Nat} (h : Hst M st wt many) (c : List Nat) (hc : many + c.length = 64) : Hst (M ++ c) (workL shaK st (wt.take many ++ c ++ wt.drop (many + c.length))) (wt.take many ++ c ++ wt.drop (many + c.length)) 0 := by
  obtain ⟨h1, h2, h3, h4⟩ := h
  have e1 : (M ++ c).length / 64 = M.length / 64 + 1 := by rw [List.length_append]; omega
  have hl : (wt.take many ++ c ++ wt.drop (many + c.length)).length = 64 := by rw [List.length_append, List.length_append, List.length_take, List.length_drop]; omega
  have hw := hst_wait h3 h4 h2 c (by omega)
  generalize wt.take many ++ c ++ wt.drop (many + c.length) = W at hl hw ⊢
  have eW : W.take (many + c.length) = W := List.take_of_length_le (by omega)
  rw [eW] at hw
  refine ⟨?_, by rw [List.length_append]; omega, hl, ?_⟩
  · have eW2 : W.take 64 = W := List.take_of_length_le (by omega)
    rw [e1, foldB, foldB_app _ _ _ _ _ (by omega), ← h1, ← hw, eW2]
  · have e2 : 64 * ((M ++ c).length / 64) = (M ++ c).length := by
      have : (M ++ c).length = M.length + c.length := List.length_append
      omega
    rw [e2, List.drop_length, List.take_zero]
theorem Hst.many_lt {M st wt : List Nat} {many : Nat} (h : Hst M st wt many) : many < 64 := by rw [h.2.1]; exact Nat.mod_lt _ (by decide)
theorem Hst.len {M st wt : List Nat} {many : Nat} (h : Hst M st wt many) : st.length = 8 := by rw [h.1]; exact foldB_len rfl _
theorem Hst.w {M st wt : List Nat} {many : Nat} (h : Hst M st wt many) : W32 st := by rw [h.1]; exact foldB_w shaH_w _
end Go.Pure
set_option linter.unusedSimpArgs false
set_option linter.unusedVariables false
set_option maxRecDepth 100000
set_option maxHeartbeats 4000000
namespace Go.Proofs.YtlkhmddmdmlffaaGreatDoor
open Go Go.SL Go.Pure
theorem q_xorU {h : Hp} {K : Value → Prop} (a : Int) : q P h (Op.unary .xor (.int .u32 a)) K = K (.int .u32 (ixor .u32 ((4294967295 : Nat) : Int) a)) := q_of rfl K
theorem T_rotN {h : Hp} {K : Value → Hp → Prop} (x n : Nat) (hx : x < 4294967296) (hn : 0 < n) (hn2 : n < 32) (k : K (.int .u32 ((rotr x n : Nat) : Int)) h) : Cn P n_bits_RotateLeft32 #[.int .u32 x, .int .i64 (-(n : Int))] h K := by
  refine F_bits_RotateLeft32 ?_
  unfold s_bits_RotateLeft32
  have ew : IntKind.u64.wrap (-(n : Int)) = ((18446744073709551616 - n : Nat) : Int) := by
    unfold IntKind.wrap; simp [IntKind.bits, IntKind.signed]; omega
  have e0 : iand .u64 ((18446744073709551616 - n : Nat) : Int) 31 = ((32 - n : Nat) : Int) := by
    rw [and64 (by omega) (by omega) (by omega) (by omega), Int.toNat_natCast]
    have : (18446744073709551616 - n) &&& 31 = 32 - n := by
      have := Nat.and_two_pow_sub_one_eq_mod (18446744073709551616 - n) 5
      simp only [Nat.reducePow, Nat.add_one_sub_one, Nat.reduceSub] at this
      rw [this]; omega
    show ((((18446744073709551616 - n) &&& 31 : Nat)) : Int) = _
    rw [this]
  have e3 : (32 : Int) - ((32 - n : Nat) : Int) = (n : Int) := by omega
  simp (disch := omega) only [GL, RL, ew, e0, e3, wu64i]
  have e1 : min (32 - n) IntKind.u32.bits = 32 - n := by simp only [IntKind.bits]; omega
  have e2 : min n IntKind.u32.bits = n := by simp only [IntKind.bits]; omega
  have h1 : x / 2 ^ n ≤ x := Nat.div_le_self _ _
  rw [e1, e2, mulp, fdivp, wu32]
  unfold rotr rotl at k
  rw [show 32 - (32 - n) = n by omega] at k
  generalize x / 2 ^ n = y at h1 k ⊢
  rw [or32 (by omega) (by omega) (by omega) (by omega)]
  exact k
theorem zr_64u32 : zr P t_64_uint32 = some (.agg (List.replicate 64 (Value.int .u32 0)).toArray) := by kernel_rfl
theorem zr_8u32 : zr P t_8_uint32 = some (.agg (List.replicate 8 (Value.int .u32 0)).toArray) := by kernel_rfl
section
variable {h : Hp} {K : Value → Hp → Prop}
theorem T_schedule {v : Value} {b : List Nat} (hv : Rn h .u8 v b) (bb : Bytes b) (lb : b.length = 64) (k : K (.agg (nv .u32 (schL b)).toArray) h) : Cn P n_sha_schedule #[v] h K := by
  refine Cn_wk (F_sha_schedule ?_)
  unfold s_sha_schedule
  refine aw_allocL (List.replicate 64 (Value.int .u32 0)) zr_64u32 rfl fun r2 hr2 => ?_
  obtain ⟨O, hO⟩ : ∃ O, AObj.row t_64_uint32 (List.replicate 64 (Value.int .u32 0)) (List.replicate 64 (Value.int .u32 0)).length (some (0, 0)) = O := ⟨_, rfl⟩
  rw [hO]
  refine aw_allocL (List.replicate 64 (Value.int .u32 0)) zr_64u32 rfl fun r3 hr3 => ?_
  have hne : r3 ≠ r2 := by rintro rfl; rw [Hp.set_same] at hr3; cases hr3
  have hr3' : h r3 = none := by rwa [Hp.set_ne _ _ hne] at hr3
  have key1 : ∀ o : AObj, Hp.cle h ((h.set r2 O).set r3 o) := fun o => (cle_set r2 O hr2).trans (cle_set r3 o hr3)
  refine Lp_mk (fun m vs h' => ∃ i : Nat, i + m = 16 ∧ h' = (h.set r2 O).set r3 (.row t_64_uint32 (nv .u32 (bwords b i ++ List.replicate (64 - i) 0)) 64 (some (0, 0))) ∧ vs = [.int .i64 (i : Int)]) 16 ⟨0, rfl, by rw [u32row]; rfl, rfl⟩ ?_
  rintro m vs h' ⟨i, hi, rfl, rfl⟩
  simp (disch := omega) only [GL, RL, wi64, lt_dec]
  have e4 : (4 * (i : Int)) = ((4 * i : Nat) : Int) := by push_cast; rfl
  have e44 : (((4 * i : Nat) : Int) + 4) = ((4 * i + 4 : Nat) : Int) := by push_cast; rfl
  have e16 : decide ((i : Int) < 16) = decide (i < 16) := lt_dec i 16
  rw [e4, e16]
  by_cases hlt : i < 16
  · simp only [hlt, decide_true, if_true]
    rw [e44]
    refine q_slRnLH u_Sl_uint8 z_uint8 (hv.mono (key1 _)) .i64 .i64 (4 * i) (4 * i + 4) (by omega) (by omega) fun w' hw' => ?_
    refine T_word_GetBig32 hw' ((bb.take _).drop _) (by rw [List.length_drop, List.length_take]; omega) ?_
    have eb : bval (((b.take (4 * i + 4)).drop (4 * i)).take 4) = bval ((b.drop (4 * i)).take 4) := by
      rw [List.drop_take, List.take_take, show 4 * i + 4 - 4 * i = 4 by omega]; rfl
    rw [eb]
    have lw := bwords_len b i
    refine aw_store z_uint32 rfl (put_row (Hp.set_same ..) (by rw [nv_len, List.length_append, lw, List.length_replicate]; omega) (by simp) _) ?_
    refine ⟨_, .refl _, m - 1, by omega, i + 1, by omega, ?_, rfl⟩
    have es := set_end (bwords b i) (64 - (i + 1)) (bval ((b.drop (4 * i)).take 4))
    rw [lw] at es
    rw [Hp.set_set, nv_set, show 64 - i = (64 - (i + 1)) + 1 by omega, es]
    rfl
  obtain rfl : i = 16 := by omega
  simp only [hlt, decide_false, Bool.false_eq_true, if_false]
  have lw0 : (bwords b 16).length = 16 := bwords_len b 16
  have ww0 : W32 (bwords b 16) := bwords_w bb 16
  show Lp _ _ _
  generalize hw0 : bwords b 16 = w0 at lw0 ww0
  refine Lp_mk (fun m vs h' => ∃ n : Nat, n + m = 48 ∧ h' = (h.set r2 O).set r3 (.row t_64_uint32 (nv .u32 (schF w0 n ++ List.replicate (48 - n) 0)) 64 (some (0, 0))) ∧ vs = [.int .i64 ((16 + n : Nat) : Int)]) 48 ⟨0, rfl, by rw [show 64 - 16 = 48 - 0 from rfl]; rfl, rfl⟩ ?_
  rintro m vs h' ⟨n, hn, rfl, rfl⟩
  have ls : (schF w0 n).length = 16 + n := by rw [schF_len, lw0]
  have ws := schF_w ww0 n
  have e64 : decide ((((16 + n : Nat)) : Int) < 64) = decide (16 + n < 64) := lt_dec (16 + n) 64
  have e15 : ((16 + n : Nat) : Int) - 15 = ((n + 1 : Nat) : Int) := by omega
  have e2 : ((16 + n : Nat) : Int) - 2 = ((n + 14 : Nat) : Int) := by omega
  have e16' : ((16 + n : Nat) : Int) - 16 = ((n : Nat) : Int) := by omega
  have e7 : ((16 + n : Nat) : Int) - 7 = ((n + 9 : Nat) : Int) := by omega
  have cell : ∀ j, j < 16 + n → ((h.set r2 O).set r3 (.row t_64_uint32 (nv .u32 (schF w0 n ++ List.replicate (48 - n) 0)) 64 (some (0, 0)))).cell ⟨r3, j, none⟩ = some (.int .u32 (((schF w0 n).getD j 0 : Nat) : Int)) := fun j hj => by
    rw [cell_row (Hp.set_same ..), nv_getD _ _ _ (by rw [List.length_append]; omega), getD_app_left _ _ _ (by omega)]
  simp (disch := omega) only [GL, RL, wi64, e64]
  by_cases hlt2 : 16 + n < 64
  · simp only [hlt2, decide_true, if_true]
    simp (disch := omega) only [GL, RL, wi64, e15, e2, cell]
    have hx := ws.getD (n + 1)
    have hy := ws.getD (n + 14)
    have es : schStep (schF w0 n) = ((((schF w0 n).getD n 0 + sgS0 ((schF w0 n).getD (n + 1) 0)) % 4294967296 + (schF w0 n).getD (n + 9) 0) % 4294967296 + sgS1 ((schF w0 n).getD (n + 14) 0)) % 4294967296 := by
      unfold schStep
      rw [ls, show 16 + n - 16 = n by omega, show 16 + n - 15 = n + 1 by omega, show 16 + n - 7 = n + 9 by omega, show 16 + n - 2 = n + 14 by omega]
    generalize hX : (schF w0 n).getD (n + 1) 0 = X at hx es
    generalize hY : (schF w0 n).getD (n + 14) 0 = Y at hy es
    refine T_rotN X 7 hx (by omega) (by omega) ?_
    refine T_rotN X 18 hx (by omega) (by omega) ?_
    simp (disch := omega) only [GL, RL]
    rw [xor32N (rotr_lt _ _ hx) (rotr_lt _ _ hx)]
    have sh3 : ((X : Int).fdiv (2 ^ min (Int.toNat 3) IntKind.u32.bits)) = ((X / 2 ^ 3 : Nat) : Int) := fdivp X 3
    rw [sh3, xor32N (x32 (rotr_lt _ _ hx) (rotr_lt _ _ hx)) (Nat.lt_of_le_of_lt (Nat.div_le_self _ _) hx)]
    refine T_rotN Y 17 hy (by omega) (by omega) ?_
    refine T_rotN Y 19 hy (by omega) (by omega) ?_
    simp (disch := omega) only [GL, RL, wi64, e16', e7, cell]
    rw [xor32N (rotr_lt _ _ hy) (rotr_lt _ _ hy)]
    have sh10 : ((Y : Int).fdiv (2 ^ min (Int.toNat 10) IntKind.u32.bits)) = ((Y / 2 ^ 10 : Nat) : Int) := fdivp Y 10
    rw [sh10, xor32N (x32 (rotr_lt _ _ hy) (rotr_lt _ _ hy)) (Nat.lt_of_le_of_lt (Nat.div_le_self _ _) hy)]
    simp only [add32]
    have eS : ((((schF w0 n).getD n 0 + (rotr X 7 ^^^ rotr X 18 ^^^ X / 2 ^ 3)) % 4294967296 + (schF w0 n).getD (n + 9) 0) % 4294967296 + (rotr Y 17 ^^^ rotr Y 19 ^^^ Y / 2 ^ 10)) % 4294967296 = schStep (schF w0 n) := by
      rw [es]; rfl
    rw [eS]
    refine aw_store z_uint32 rfl (put_row (Hp.set_same ..) (by rw [nv_len, List.length_append, ls, List.length_replicate]; omega) (by simp) _) ?_
    refine ⟨_, .refl _, m - 1, by omega, n + 1, by omega, ?_, by rw [show ((16 + n : Nat) : Int) + 1 = ((16 + (n + 1) : Nat) : Int) by omega]⟩
    have es2 := set_end (schF w0 n) (48 - (n + 1)) (schStep (schF w0 n))
    rw [ls] at es2
    rw [Hp.set_set, nv_set, show 48 - n = (48 - (n + 1)) + 1 by omega, es2]
    rfl
  have hn48 : n = 48 := by omega
  simp only [hlt2, decide_false, Bool.false_eq_true, if_false]
  have hfin : schF w0 n ++ List.replicate (48 - n) 0 = schL b := by
    have e1 : 48 - n = 0 := by omega
    have e2 : schL b = schF w0 n := by unfold schL; rw [hw0, hn48]
    rw [e1, e2, List.replicate_zero, List.append_nil]
  rw [hfin]
  have hl64 : (nv .u32 (schL b)).length = 64 := by rw [nv_len, schL_len]
  generalize schL b = W at hl64 k ⊢
  rw [q_ldRow u_64_uint32 rfl (by rw [hl64]; exact z_64_uint32) (Hp.set_same ..)]
  refine aw_storeRow (xs := List.replicate 64 (Value.int .u32 0)) (f := (0, 0)) (cap := 64) (e := t_64_uint32) (by rw [hl64]; exact z_64_uint32) (by rw [Hp.set_ne _ _ (Ne.symm hne), Hp.set_same, ← hO]; rfl) (by rw [hl64, List.length_replicate]) (nv_flat _ _) (fun i _ => by simp) ?_
  rw [q_resRow u_64_uint32 rfl (by rw [hl64]; exact z_64_uint32) (Hp.set_same ..)]
  refine ⟨h, fun b o e => ?_, k⟩
  have n6 : b ≠ r2 := by rintro rfl; rw [hr2] at e; cases e
  have n7 : b ≠ r3 := by rintro rfl; rw [hr3'] at e; cases e
  exact ⟨o, by rw [Hp.set_ne _ _ n6, Hp.set_ne _ _ n7, Hp.set_ne _ _ n6]; exact e, .refl _⟩
end
end Go.Proofs.YtlkhmddmdmlffaaGreatDoor
set_option linter.unusedSimpArgs false
set_option linter.unusedVariables false
set_option maxRecDepth 100000
set_option maxHeartbeats 4000000
namespace Go.Proofs.YtlkhmddmdmlffaaGreatDoor
open Go Go.SL Go.Pure
/-- The cells of a digest on its way, behind its state. -/
def hashT (wt : List Nat) (many : Nat) (all : Nat) : List Value := nv .u32 shaK ++ (nv .u8 wt ++ [.int .i64 (many : Int), .int .u64 (all : Int)])
def hashC (st wt : List Nat) (many all : Nat) : List Value := nv .u32 st ++ hashT wt many all
theorem hashT_len {wt : List Nat} (lw : wt.length = 64) (many all : Nat) : (hashT wt many all).length = 130 := by
  simp only [hashT, List.length_append, nv_len, lw, shaK_len, List.length_cons, List.length_nil]
theorem hashC_len {st wt : List Nat} (ls : st.length = 8) (lw : wt.length = 64) (many all : Nat) : (hashC st wt many all).length = 138 := by
  rw [hashC, List.length_append, nv_len, ls, hashT_len lw]
theorem ht0 {h : Hp} {K : Value → Prop} (r : Nat) : q P h (Instr.fieldAt t_sha_Hash (.pointer (some ⟨r, 0, none⟩)) 0) K = K (.pointer (some ⟨r, 0, none⟩)) := q_of (by kernel_rfl) K
theorem ht1 {h : Hp} {K : Value → Prop} (r : Nat) : q P h (Instr.fieldAt t_sha_Hash (.pointer (some ⟨r, 0, none⟩)) 1) K = K (.pointer (some ⟨r, 8, none⟩)) := q_of (by kernel_rfl) K
theorem ht2 {h : Hp} {K : Value → Prop} (r : Nat) : q P h (Instr.fieldAt t_sha_Hash (.pointer (some ⟨r, 0, none⟩)) 2) K = K (.pointer (some ⟨r, 72, none⟩)) := q_of (by kernel_rfl) K
theorem ht3 {h : Hp} {K : Value → Prop} (r : Nat) : q P h (Instr.fieldAt t_sha_Hash (.pointer (some ⟨r, 0, none⟩)) 3) K = K (.pointer (some ⟨r, 136, none⟩)) := q_of (by kernel_rfl) K
theorem ht4 {h : Hp} {K : Value → Prop} (r : Nat) : q P h (Instr.fieldAt t_sha_Hash (.pointer (some ⟨r, 0, none⟩)) 4) K = K (.pointer (some ⟨r, 137, none⟩)) := q_of (by kernel_rfl) K
theorem s8lo {h : Hp} {K : Value → Prop} (r : Nat) : q P h (Instr.sliceAt t_8_uint32 (.pointer (some ⟨r, 0, none⟩)) (some (.int .i64 1)) none none) K = K (.slice (some ⟨r, 1, none⟩) 7 7) := q_of (by kernel_rfl) K
theorem s8hi {h : Hp} {K : Value → Prop} (r : Nat) : q P h (Instr.sliceAt t_8_uint32 (.pointer (some ⟨r, 0, none⟩)) none (some (.int .i64 7)) none) K = K (.slice (some ⟨r, 0, none⟩) 7 8) := q_of (by kernel_rfl) K
theorem hashC_K {st wt : List Nat} {many all : Nat} (ls : st.length = 8) (i : Nat) (hi : i < 64) : (hashC st wt many all)[8 + i]? = some (.int .u32 ((shaK.getD i 0 : Nat) : Int)) := by
  have l1 : (nv .u32 st).length = 8 := by rw [nv_len, ls]
  rw [hashC, List.getElem?_append_right (by omega), l1, Nat.add_sub_cancel_left, hashT, List.getElem?_append_left (by rw [nv_len, shaK_len]; exact hi), nv_getD _ _ _ (by rw [shaK_len]; exact hi)]
theorem hashC_st {st wt : List Nat} {many all : Nat} (i : Nat) (hi : i < st.length) : (hashC st wt many all)[i]? = some (.int .u32 ((st.getD i 0 : Nat) : Int)) := by
  rw [hashC, List.getElem?_append_left (by rw [nv_len]; exact hi), nv_getD _ _ _ hi]
theorem hashC_set {st wt : List Nat} {many all : Nat} (i x : Nat) (hi : i < st.length) : (hashC st wt many all).set i (.int .u32 (x : Int)) = hashC (st.set i x) wt many all := by
  rw [hashC, List.set_append_left _ _ (by rw [nv_len]; exact hi), nv_set]; rfl
section
variable {h : Hp} {K : Value → Hp → Prop}
/-- One round. -/
theorem round_go {base : Hp} {r5 p r4 : Nat} {s w : List Nat} {i : Nat} (hs : W32 s) (ls : s.length = 8) (hw : W32 w) (lw : w.length = 64) (hi : i < 64)
    (b4 : base r4 = some (.row t_64_uint32 (nv .u32 w) 64 (some (0, 0)))) (n45 : r4 ≠ r5) (n5p : p ≠ r5) (cK : base.cell ⟨p, 8 + i, none⟩ = some (.int .u32 ((shaK.getD i 0 : Nat) : Int)))
    {F : Value → Hp → Prop} (k : F (.int .i64 ((i + 1 : Nat) : Int)) (base.set r5 (.row t_8_uint32 (nv .u32 (rnd (shaK.getD i 0) (w.getD i 0) s)) 8 (some (0, 0))))) :
    (fun (h : Hp) => q P emp (Instr.indexAt t_8_uint32 (.pointer (some ⟨r5, 0, none⟩)) (Value.int .i64 0)) fun t22 => q P h (Instr.loadAt t_uint32 t22) fun t23 => q P emp (Instr.indexAt t_8_uint32 (.pointer (some ⟨r5, 0, none⟩)) (Value.int .i64 4)) fun t24 => q P h (Instr.loadAt t_uint32 t24) fun t25 => Cn P n_bits_RotateLeft32 #[t25, (Value.int .i64 (-6))] h fun t27 h => Cn P n_bits_RotateLeft32 #[t25, (Value.int .i64 (-11))] h fun t29 h => q P h (binOp .xor t_uint32 t27 t29) fun t30 => Cn P n_bits_RotateLeft32 #[t25, (Value.int .i64 (-25))] h fun t32 h => q P h (binOp .xor t_uint32 t30 t32) fun t33 => q P emp (Instr.indexAt t_8_uint32 (.pointer (some ⟨r5, 0, none⟩)) (Value.int .i64 7)) fun t34 => q P h (Instr.loadAt t_uint32 t34) fun t35 => q P emp (binOp .add t_uint32 t35 t33) fun t37 => q P emp (Instr.indexAt t_8_uint32 (.pointer (some ⟨r5, 0, none⟩)) (Value.int .i64 5)) fun t39 => q P h (Instr.loadAt t_uint32 t39) fun t40 => q P emp (binOp .and t_uint32 t25 t40) fun t41 => q P emp (Op.unary .xor t25) fun t43 => q P emp (Instr.indexAt t_8_uint32 (.pointer (some ⟨r5, 0, none⟩)) (Value.int .i64 6)) fun t44 => q P h (Instr.loadAt t_uint32 t44) fun t45 => q P emp (binOp .and t_uint32 t43 t45) fun t46 => q P emp (binOp .xor t_uint32 t41 t46) fun t47 => q P emp (binOp .add t_uint32 t37 t47) fun t48 => q P emp (nilCk (.pointer (some ⟨p, 0, none⟩))) fun t51 => q P h (Instr.fieldAt t_sha_Hash t51 1) fun t52 => q P emp (Instr.indexAt t_64_uint32 t52 (Value.int .i64 (i : Int))) fun t53 => q P h (Instr.loadAt t_uint32 t53) fun t54 => q P emp (binOp .add t_uint32 t48 t54) fun t55 => q P emp (Instr.indexAt t_64_uint32 (.pointer (some ⟨r4, 0, none⟩)) (Value.int .i64 (i : Int))) fun t57 => q P h (Instr.loadAt t_uint32 t57) fun t58 => q P emp (binOp .add t_uint32 t55 t58) fun t59 => Cn P n_bits_RotateLeft32 #[t23, (Value.int .i64 (-2))] h fun t61 h => Cn P n_bits_RotateLeft32 #[t23, (Value.int .i64 (-13))] h fun t63 h => q P h (binOp .xor t_uint32 t61 t63) fun t64 => Cn P n_bits_RotateLeft32 #[t23, (Value.int .i64 (-22))] h fun t66 h => q P h (binOp .xor t_uint32 t64 t66) fun t67 => q P h (Instr.indexAt t_8_uint32 (.pointer (some ⟨r5, 0, none⟩)) (Value.int .i64 1)) fun t70 => q P h (Instr.loadAt t_uint32 t70) fun t71 => q P h (binOp .and t_uint32 t23 t71) fun t72 => q P h (Instr.indexAt t_8_uint32 (.pointer (some ⟨r5, 0, none⟩)) (Value.int .i64 2)) fun t74 => q P h (Instr.loadAt t_uint32 t74) fun t75 => q P h (binOp .and t_uint32 t23 t75) fun t76 => q P h (binOp .xor t_uint32 t72 t76) fun t77 => q P h (Instr.indexAt t_8_uint32 (.pointer (some ⟨r5, 0, none⟩)) (Value.int .i64 1)) fun t78 => q P h (Instr.loadAt t_uint32 t78) fun t79 => q P h (Instr.indexAt t_8_uint32 (.pointer (some ⟨r5, 0, none⟩)) (Value.int .i64 2)) fun t80 => q P h (Instr.loadAt t_uint32 t80) fun t81 => q P h (binOp .and t_uint32 t79 t81) fun t82 => q P h (binOp .xor t_uint32 t77 t82) fun t83 => q P h (binOp .add t_uint32 t67 t83) fun t84 => q P h (Instr.sliceAt t_8_uint32 (.pointer (some ⟨r5, 0, none⟩)) (some (Value.int .i64 1)) none none) fun t85 => q P h (Instr.sliceAt t_8_uint32 (.pointer (some ⟨r5, 0, none⟩)) none (some (Value.int .i64 7)) none) fun t86 => aw P (Builtin.copy_ #[t_Sl_uint32, t_Sl_uint32] t_int #[t85, t86]) (fun t87 h => q P h (Instr.indexAt t_8_uint32 (.pointer (some ⟨r5, 0, none⟩)) (Value.int .i64 4)) fun t88 => q P h (Instr.loadAt t_uint32 t88) fun t89 => q P h (binOp .add t_uint32 t89 t59) fun t91 => q P h (Instr.indexAt t_8_uint32 (.pointer (some ⟨r5, 0, none⟩)) (Value.int .i64 4)) fun t92 => aw P (Instr.storeAt t_uint32 t92 t91) (fun _ h => q P h (binOp .add t_uint32 t59 t84) fun t95 => q P h (Instr.indexAt t_8_uint32 (.pointer (some ⟨r5, 0, none⟩)) (Value.int .i64 0)) fun t96 => aw P (Instr.storeAt t_uint32 t96 t95) (fun _ h => q P h (binOp .add t_int (Value.int .i64 (i : Int)) (Value.int .i64 1)) fun t97 => F t97 h) h) h) h) (base.set r5 (.row t_8_uint32 (nv .u32 s) 8 (some (0, 0)))) := by
  match s, ls with
  | [a, b, c, d, e, f, g, z], _ =>
  have ha : a < 4294967296 := hs.getD 0
  have hb : b < 4294967296 := hs.getD 1
  have hc : c < 4294967296 := hs.getD 2
  have hd : d < 4294967296 := hs.getD 3
  have he : e < 4294967296 := hs.getD 4
  have hf : f < 4294967296 := hs.getD 5
  have hg : g < 4294967296 := hs.getD 6
  have hz : z < 4294967296 := hs.getD 7
  have hwi := hw.getD i
  have hki := shaK_w.getD i
  have ernd : rnd (shaK.getD i 0) (w.getD i 0) [a, b, c, d, e, f, g, z] = [(t1S (shaK.getD i 0) (w.getD i 0) e f g z + t2S a b c) % 4294967296, a, b, c, (d + t1S (shaK.getD i 0) (w.getD i 0) e f g z) % 4294967296, e, f, g] := rfl
  rw [ernd] at k
  generalize hkk : shaK.getD i 0 = kq at *
  have c4 : base.cell ⟨r4, i, none⟩ = some (.int .u32 ((w.getD i 0 : Nat) : Int)) := by rw [cell_row b4, nv_getD _ _ _ (by omega)]
  generalize w.getD i 0 = wq at *
  have cells : ∀ (X : List Nat) (j x : Nat), X[j]? = some x → (base.set r5 (.row t_8_uint32 (nv .u32 X) 8 (some (0, 0)))).cell ⟨r5, j, none⟩ = some (.int .u32 (x : Int)) := fun X j x e => by
    rw [cell_row (Hp.set_same ..), nv, List.getElem?_map, e]; rfl
  have ck : ∀ X, (base.set r5 X).cell ⟨p, 8 + i, none⟩ = some (.int .u32 (kq : Int)) := fun X => by
    unfold Hp.cell at cK ⊢; rw [Hp.set_ne _ _ n5p]; exact cK
  have cw : ∀ X, (base.set r5 X).cell ⟨r4, i, none⟩ = some (.int .u32 (wq : Int)) := fun X => by
    unfold Hp.cell at c4 ⊢; rw [Hp.set_ne _ _ n45]; exact c4
  have z0 := cells [a, b, c, d, e, f, g, z] 0 a rfl
  have z1 := cells [a, b, c, d, e, f, g, z] 1 b rfl
  have z2 := cells [a, b, c, d, e, f, g, z] 2 c rfl
  have z4 := cells [a, b, c, d, e, f, g, z] 4 e rfl
  have z5 := cells [a, b, c, d, e, f, g, z] 5 f rfl
  have z6 := cells [a, b, c, d, e, f, g, z] 6 g rfl
  have z7 := cells [a, b, c, d, e, f, g, z] 7 z rfl
  have tn : ∀ x : Nat, Int.toNat (OfNat.ofNat x) = x := fun x => rfl
  simp (disch := omega) only [GL, RL, Int.reduceToNat, z0, z4]
  refine T_rotN e 6 he (by omega) (by omega) ?_
  refine T_rotN e 11 he (by omega) (by omega) ?_
  simp (disch := omega) only [GL, RL]
  refine T_rotN e 25 he (by omega) (by omega) ?_
  simp (disch := omega) only [GL, RL, Int.reduceToNat, q_xorU, ht1, z5, z6, z7, ck, cw]
  rw [xor32N (rotr_lt e 6 he) (rotr_lt e 11 he), xor32N (x32 (rotr_lt e 6 he) (rotr_lt e 11 he)) (rotr_lt e 25 he), and32N he hf, xor32N (by decide) he, and32N (x32 (by decide) he) hg, xor32N (a32 he) (a32 (x32 (by decide) he))]
  simp only [add32]
  have e1 : ((((z + (rotr e 6 ^^^ rotr e 11 ^^^ rotr e 25)) % 4294967296 + (e &&& f ^^^ (4294967295 ^^^ e) &&& g)) % 4294967296 + kq) % 4294967296 + wq) % 4294967296 = t1S kq wq e f g z := rfl
  rw [e1]
  have ht : t1S kq wq e f g z < 4294967296 := m32 _
  generalize t1S kq wq e f g z = T at ht k ⊢
  refine T_rotN a 2 ha (by omega) (by omega) ?_
  refine T_rotN a 13 ha (by omega) (by omega) ?_
  simp (disch := omega) only [GL, RL]
  refine T_rotN a 22 ha (by omega) (by omega) ?_
  simp (disch := omega) only [GL, RL, Int.reduceToNat, z1, z2, s8lo, s8hi]
  rw [xor32N (rotr_lt a 2 ha) (rotr_lt a 13 ha), xor32N (x32 (rotr_lt a 2 ha) (rotr_lt a 13 ha)) (rotr_lt a 22 ha), and32N ha hb, and32N ha hc, and32N hb hc, xor32N (a32 ha) (a32 ha), xor32N (x32 (a32 ha) (a32 ha)) (a32 hb)]
  simp only [add32]
  have e2 : ((rotr a 2 ^^^ rotr a 13 ^^^ rotr a 22) + (a &&& b ^^^ a &&& c ^^^ b &&& c)) % 4294967296 = t2S a b c := rfl
  rw [e2]
  generalize t2S a b c = U at k ⊢
  refine aw_copyG (o := 1) (xs := nv .u32 [a, b, c, d, e, f, g, z]) (f := (0, 0)) (dl := 7) (dc := 7) (n := 7) (ys := nv .u32 [a, b, c, d, e, f, g]) u_Sl_uint32 z_uint32 (Hp.set_same ..) ⟨rfl, _, 8, rfl, by omega, .inr ⟨r5, 0, rfl, fun j x ex => ?_⟩⟩ (nv_flat _ _) (by omega) (by simp [nv_len]) (fun j _ => by simp) ?_
  · rw [cell_row (Hp.set_same ..), Nat.zero_add]
    have hj : j < 7 := (List.getElem?_eq_some_iff.1 ex).1
    rw [← ex]
    show (nv .u32 ([a, b, c, d, e, f, g] ++ [z]))[j]? = _
    rw [nv_app, List.getElem?_append_left hj]
  rw [Hp.set_set]
  have eput : putL (nv .u32 [a, b, c, d, e, f, g, z]) 1 (nv .u32 [a, b, c, d, e, f, g]) = nv .u32 [a, a, b, c, d, e, f, g] := rfl
  rw [eput]
  have y4 := cells [a, a, b, c, d, e, f, g] 4 d rfl
  simp (disch := omega) only [GL, RL, Int.reduceToNat, y4, add32]
  refine aw_store z_uint32 rfl (put_row (Hp.set_same ..) (by simp [nv_len]) (by simp) _) ?_
  rw [Hp.set_set, nv_set]
  refine aw_store z_uint32 rfl (put_row (Hp.set_same ..) (by simp [nv_len]) (by simp) _) ?_
  rw [Hp.set_set, nv_set, wi64 (by omega) (by omega)]
  exact k
end
end Go.Proofs.YtlkhmddmdmlffaaGreatDoor
set_option linter.unusedSimpArgs false
set_option linter.unusedVariables false
set_option maxRecDepth 100000
set_option maxHeartbeats 4000000
namespace Go.Proofs.YtlkhmddmdmlffaaGreatDoor
open Go Go.SL Go.Pure
theorem sz_hash : sz P t_sha_Hash = some 138 := by kernel_rfl
def zHash : List Value := nv .u32 (List.replicate 72 0) ++ (nv .u8 (List.replicate 64 0) ++ [.int .i64 0, .int .u64 0])
theorem zr_hash : zr P t_sha_Hash = some (.agg zHash.toArray) := by kernel_rfl
theorem zHash_len : zHash.length = 138 := by decide +kernel
theorem bldK {h : Hp} {K : Value → Prop} : q P h (Instr.build t_64_uint32 #[(0, (Value.int .u32 1116352408)), (1, (Value.int .u32 1899447441)), (2, (Value.int .u32 3049323471)), (3, (Value.int .u32 3921009573)), (4, (Value.int .u32 961987163)), (5, (Value.int .u32 1508970993)), (6, (Value.int .u32 2453635748)), (7, (Value.int .u32 2870763221)), (8, (Value.int .u32 3624381080)), (9, (Value.int .u32 310598401)), (10, (Value.int .u32 607225278)), (11, (Value.int .u32 1426881987)), (12, (Value.int .u32 1925078388)), (13, (Value.int .u32 2162078206)), (14, (Value.int .u32 2614888103)), (15, (Value.int .u32 3248222580)), (16, (Value.int .u32 3835390401)), (17, (Value.int .u32 4022224774)), (18, (Value.int .u32 264347078)), (19, (Value.int .u32 604807628)), (20, (Value.int .u32 770255983)), (21, (Value.int .u32 1249150122)), (22, (Value.int .u32 1555081692)), (23, (Value.int .u32 1996064986)), (24, (Value.int .u32 2554220882)), (25, (Value.int .u32 2821834349)), (26, (Value.int .u32 2952996808)), (27, (Value.int .u32 3210313671)), (28, (Value.int .u32 3336571891)), (29, (Value.int .u32 3584528711)), (30, (Value.int .u32 113926993)), (31, (Value.int .u32 338241895)), (32, (Value.int .u32 666307205)), (33, (Value.int .u32 773529912)), (34, (Value.int .u32 1294757372)), (35, (Value.int .u32 1396182291)), (36, (Value.int .u32 1695183700)), (37, (Value.int .u32 1986661051)), (38, (Value.int .u32 2177026350)), (39, (Value.int .u32 2456956037)), (40, (Value.int .u32 2730485921)), (41, (Value.int .u32 2820302411)), (42, (Value.int .u32 3259730800)), (43, (Value.int .u32 3345764771)), (44, (Value.int .u32 3516065817)), (45, (Value.int .u32 3600352804)), (46, (Value.int .u32 4094571909)), (47, (Value.int .u32 275423344)), (48, (Value.int .u32 430227734)), (49, (Value.int .u32 506948616)), (50, (Value.int .u32 659060556)), (51, (Value.int .u32 883997877)), (52, (Value.int .u32 958139571)), (53, (Value.int .u32 1322822218)), (54, (Value.int .u32 1537002063)), (55, (Value.int .u32 1747873779)), (56, (Value.int .u32 1955562222)), (57, (Value.int .u32 2024104815)), (58, (Value.int .u32 2227730452)), (59, (Value.int .u32 2361852424)), (60, (Value.int .u32 2428436474)), (61, (Value.int .u32 2756734187)), (62, (Value.int .u32 3204031479)), (63, (Value.int .u32 3329325298))]) K = K (.agg (nv .u32 shaK).toArray) := q_of (by kernel_rfl) K
theorem bldH {h : Hp} {K : Value → Prop} : q P h (Instr.build t_8_uint32 #[(0, (Value.int .u32 1779033703)), (1, (Value.int .u32 3144134277)), (2, (Value.int .u32 1013904242)), (3, (Value.int .u32 2773480762)), (4, (Value.int .u32 1359893119)), (5, (Value.int .u32 2600822924)), (6, (Value.int .u32 528734635)), (7, (Value.int .u32 1541459225))]) K = K (.agg (nv .u32 shaH).toArray) := q_of (by kernel_rfl) K
theorem bldNew {h : Hp} {K : Value → Prop} : q P h (Instr.build t_sha_Hash #[(0, .agg (nv .u32 shaH).toArray), (1, .agg (nv .u32 shaK).toArray)]) K = K (.agg (hashC shaH (List.replicate 64 0) 0 0).toArray) := q_of (by kernel_rfl) K
theorem s64 {h : Hp} {K : Value → Prop} (r : Nat) : q P h (Instr.sliceAt t_64_uint8 (.pointer (some ⟨r, 72, none⟩)) none none none) K = K (.slice (some ⟨r, 72, none⟩) 64 64) := q_of (by kernel_rfl) K
theorem hashC_wt {st wt : List Nat} {many all : Nat} (ls : st.length = 8) (lw : wt.length = 64) (i : Nat) (hi : i < 64) : (hashC st wt many all)[72 + i]? = some (.int .u8 ((wt.getD i 0 : Nat) : Int)) := by
  have l1 : (nv .u32 st).length = 8 := by rw [nv_len, ls]
  have l2 : (nv .u32 shaK).length = 64 := by rw [nv_len, shaK_len]
  rw [hashC, List.getElem?_append_right (by omega), l1, hashT, List.getElem?_append_right (by omega), l2, List.getElem?_append_left (by rw [nv_len]; omega), show 72 + i - 8 - 64 = i by omega, nv_getD _ _ _ (by omega)]
theorem hashC_136 {st wt : List Nat} {many all : Nat} (ls : st.length = 8) (lw : wt.length = 64) : (hashC st wt many all)[136]? = some (.int .i64 (many : Int)) := by
  have l1 : (nv .u32 st).length = 8 := by rw [nv_len, ls]
  have l2 : (nv .u32 shaK).length = 64 := by rw [nv_len, shaK_len]
  have l3 : (nv .u8 wt).length = 64 := by rw [nv_len, lw]
  rw [hashC, List.getElem?_append_right (by omega), l1, hashT, List.getElem?_append_right (by omega), l2, List.getElem?_append_right (by omega), l3]
  rfl
theorem hashC_137 {st wt : List Nat} {many all : Nat} (ls : st.length = 8) (lw : wt.length = 64) : (hashC st wt many all)[137]? = some (.int .u64 (all : Int)) := by
  have l1 : (nv .u32 st).length = 8 := by rw [nv_len, ls]
  have l2 : (nv .u32 shaK).length = 64 := by rw [nv_len, shaK_len]
  have l3 : (nv .u8 wt).length = 64 := by rw [nv_len, lw]
  rw [hashC, List.getElem?_append_right (by omega), l1, hashT, List.getElem?_append_right (by omega), l2, List.getElem?_append_right (by omega), l3]
  rfl
theorem hashC_set136 {st wt : List Nat} {many all : Nat} (ls : st.length = 8) (lw : wt.length = 64) (x : Nat) : (hashC st wt many all).set 136 (.int .i64 (x : Int)) = hashC st wt x all := by
  have l1 : (nv .u32 st).length = 8 := by rw [nv_len, ls]
  have l2 : (nv .u32 shaK).length = 64 := by rw [nv_len, shaK_len]
  have l3 : (nv .u8 wt).length = 64 := by rw [nv_len, lw]
  rw [hashC, List.set_append_right _ _ (by omega), l1, hashT, List.set_append_right _ _ (by omega), l2, List.set_append_right _ _ (by omega), l3]
  rfl
theorem hashC_set137 {st wt : List Nat} {many all : Nat} (ls : st.length = 8) (lw : wt.length = 64) (x : Nat) : (hashC st wt many all).set 137 (.int .u64 (x : Int)) = hashC st wt many x := by
  have l1 : (nv .u32 st).length = 8 := by rw [nv_len, ls]
  have l2 : (nv .u32 shaK).length = 64 := by rw [nv_len, shaK_len]
  have l3 : (nv .u8 wt).length = 64 := by rw [nv_len, lw]
  rw [hashC, List.set_append_right _ _ (by omega), l1, hashT, List.set_append_right _ _ (by omega), l2, List.set_append_right _ _ (by omega), l3]
  rfl
theorem hashC_put {st wt c : List Nat} {many all : Nat} (ls : st.length = 8) (lw : wt.length = 64) (hm : many + c.length ≤ 64) : putL (hashC st wt many all) (72 + many) (nv .u8 c) = hashC st (wt.take many ++ c ++ wt.drop (many + c.length)) many all := by
  have l1 : (nv .u32 st).length = 8 := by rw [nv_len, ls]
  have l2 : (nv .u32 shaK).length = 64 := by rw [nv_len, shaK_len]
  rw [putL_eq _ _ _ (by rw [hashC_len ls lw, nv_len]; omega)]
  have e1 : (hashC st wt many all) = (nv .u32 st ++ nv .u32 shaK) ++ (nv .u8 wt ++ [.int .i64 (many : Int), .int .u64 (all : Int)]) := by simp only [hashC, hashT, List.append_assoc]
  have l12 : (nv .u32 st ++ nv .u32 shaK).length = 72 := by rw [List.length_append]; omega
  have lt : (nv .u8 wt).length = 64 := by rw [nv_len, lw]
  rw [e1, List.take_append, List.take_of_length_le (by omega), l12, Nat.add_sub_cancel_left, List.take_append_of_le_length (by omega), List.drop_append, List.drop_of_length_le (by omega), List.nil_append, l12, show 72 + many + (nv .u8 c).length - 72 = many + c.length by rw [nv_len]; omega, List.drop_append_of_le_length (by omega)]
  simp only [hashC, hashT, nv_app, nv_take, List.append_assoc]
  have : List.drop (many + c.length) (nv .u8 wt) = nv .u8 (wt.drop (many + c.length)) := by unfold nv; rw [List.map_drop]
  rw [this]
section
variable {h : Hp} {K : Value → Hp → Prop}
theorem T_constants (k : K (.agg (nv .u32 shaK).toArray) h) : Cn P n_sha_constants #[] h K := by
  refine Cn_wk (F_sha_constants ?_)
  unfold s_sha_constants
  refine aw_allocL (List.replicate 64 (Value.int .u32 0)) zr_64u32 rfl fun r hr => ?_
  have hl : (nv .u32 shaK).length = 64 := by rw [nv_len, shaK_len]
  rw [bldK]
  refine aw_storeRow (ys := nv .u32 shaK) (by rw [hl]; exact z_64_uint32) (Hp.set_same ..) (by rw [hl, List.length_replicate]) (nv_flat _ _) (fun i _ => by simp) ?_
  rw [q_resRow (ys := nv .u32 shaK) u_64_uint32 rfl (by rw [hl]; exact z_64_uint32) (Hp.set_same ..)]
  refine ⟨h, ?_, k⟩
  rw [Hp.set_set]
  exact le_fresh hr
theorem T_beginning (k : K (.agg (nv .u32 shaH).toArray) h) : Cn P n_sha_beginning #[] h K := by
  refine Cn_wk (F_sha_beginning ?_)
  unfold s_sha_beginning
  refine aw_allocL (List.replicate 8 (Value.int .u32 0)) zr_8u32 rfl fun r hr => ?_
  have hl : (nv .u32 shaH).length = 8 := by rw [nv_len, shaH_len]
  rw [bldH]
  refine aw_storeRow (ys := nv .u32 shaH) (by rw [hl]; exact z_8_uint32) (Hp.set_same ..) (by rw [hl, List.length_replicate]) (nv_flat _ _) (fun i _ => by simp) ?_
  rw [q_resRow (ys := nv .u32 shaH) u_8_uint32 rfl (by rw [hl]; exact z_8_uint32) (Hp.set_same ..)]
  refine ⟨h, ?_, k⟩
  rw [Hp.set_set]
  exact le_fresh hr
/-- A row that holds a digest on its way. -/
def HashRow (h : Hp) (p : Nat) (st wt : List Nat) (many all : Nat) : Prop := h p = some (.row t_sha_Hash (hashC st wt many all) 138 (some (0, 0)))
theorem T_shaBlock {p : Nat} {v1 : Value} {st wt b : List Nat} {many all : Nat} (hb : HashRow h p st wt many all) (ws : W32 st) (ls : st.length = 8) (lw : wt.length = 64) (hv : Rn h .u8 v1 b) (bb : Bytes b) (lb : b.length = 64)
    (k : K (.tuple #[]) (h.set p (.row t_sha_Hash (hashC (workL shaK st b) wt many all) 138 (some (0, 0))))) : Cn P n_sha_Hash_block #[.pointer (some ⟨p, 0, none⟩), v1] h K := by
  refine Cn_wk (F_sha_Hash_block ?_)
  unfold s_sha_Hash_block
  refine T_schedule hv bb lb ?_
  have lW := schL_len b
  have wW := schL_w bb
  unfold workL at k
  generalize schL b = W at lW wW k ⊢
  have lnW : (nv .u32 W).length = 64 := by rw [nv_len, lW]
  have lnS : (nv .u32 st).length = 8 := by rw [nv_len, ls]
  refine aw_allocL (List.replicate 64 (Value.int .u32 0)) zr_64u32 rfl fun r4 hr4 => ?_
  refine aw_storeRow (ys := nv .u32 W) (by rw [lnW]; exact z_64_uint32) (Hp.set_same ..) (by rw [lnW, List.length_replicate]) (nv_flat _ _) (fun i _ => by simp) ?_
  rw [Hp.set_set, List.length_replicate]
  have n4 : p ≠ r4 := by rintro rfl; rw [HashRow, hr4] at hb; cases hb
  have hb4 : (h.set r4 (.row t_64_uint32 (nv .u32 W) 64 (some (0, 0)))) p = some (.row t_sha_Hash (hashC st wt many all) 138 (some (0, 0))) := by rw [Hp.set_ne _ _ n4]; exact hb
  have b4 : (h.set r4 (.row t_64_uint32 (nv .u32 W) 64 (some (0, 0)))) r4 = some (.row t_64_uint32 (nv .u32 W) 64 (some (0, 0))) := Hp.set_same ..
  have le4 : ∀ r5 o, (h.set r4 (.row t_64_uint32 (nv .u32 W) 64 (some (0, 0)))) r5 = none → Hp.le h ((h.set r4 (.row t_64_uint32 (nv .u32 W) 64 (some (0, 0)))).set r5 o) := fun r5 o e => (le_fresh hr4).trans (le_fresh e)
  generalize h.set r4 (.row t_64_uint32 (nv .u32 W) 64 (some (0, 0))) = base at hb4 b4 le4 ⊢
  simp (disch := omega) only [GL, RL, ht0]
  rw [q_ldAgg (ys := nv .u32 st) u_8_uint32 rfl (by rw [lnS]; exact z_8_uint32) fun j x e => by
    rw [cell_row hb4, Nat.zero_add, hashC, List.getElem?_append_left (List.getElem?_eq_some_iff.1 e).1]; exact e]
  refine aw_allocL (List.replicate 8 (Value.int .u32 0)) zr_8u32 rfl fun r5 hr5 => ?_
  refine aw_storeRow (ys := nv .u32 st) (by rw [lnS]; exact z_8_uint32) (Hp.set_same ..) (by rw [lnS, List.length_replicate]) (nv_flat _ _) (fun i _ => by simp) ?_
  rw [Hp.set_set, List.length_replicate]
  have n5 : p ≠ r5 := by rintro rfl; rw [hr5] at hb4; cases hb4
  have n45 : r4 ≠ r5 := by rintro rfl; rw [hr5] at b4; cases b4
  refine Lp_mk (fun m vs h' => ∃ i : Nat, i + m = 64 ∧ h' = base.set r5 (.row t_8_uint32 (nv .u32 (rnds shaK W st i)) 8 (some (0, 0))) ∧ vs = [.int .i64 (i : Int)]) 64 ⟨0, rfl, rfl, rfl⟩ ?_
  rintro m vs h' ⟨i, hi, rfl, rfl⟩
  have e64 : decide ((i : Int) < 64) = decide (i < 64) := lt_dec i 64
  simp only [List.getD_cons_zero]
  refine (q_lss _ _ _ _).mpr ?_
  refine (cnd_bool _ _ _).mpr ?_
  rw [e64]
  have wr := rnds_w (K := shaK) (w := W) ws i
  have lr := rnds_len (K := shaK) (w := W) ls i
  by_cases hlt : i < 64
  · rw [if_pos (by simp [hlt])]
    exact round_go wr lr wW lW hlt b4 n45 n5 (by rw [cell_row hb4]; exact hashC_K ls i hlt) ⟨_, .refl _, m - 1, by omega, i + 1, by omega, rfl, rfl⟩
  rw [if_neg (by simp [hlt])]
  obtain rfl : i = 64 := by omega
  generalize rnds shaK W st 64 = V at wr lr k ⊢
  have hb5 : (base.set r5 (.row t_8_uint32 (nv .u32 V) 8 (some (0, 0)))) p = some (.row t_sha_Hash (hashC st wt many all) 138 (some (0, 0))) := by rw [Hp.set_ne _ _ n5]; exact hb4
  have v5 : ∀ X : AObj, ((base.set r5 (.row t_8_uint32 (nv .u32 V) 8 (some (0, 0)))).set p X) r5 = some (.row t_8_uint32 (nv .u32 V) 8 (some (0, 0))) := fun X => by rw [Hp.set_ne _ _ (Ne.symm n5), Hp.set_same]
  have le5 := le4 r5 (.row t_8_uint32 (nv .u32 V) 8 (some (0, 0))) hr5
  generalize base.set r5 (.row t_8_uint32 (nv .u32 V) 8 (some (0, 0))) = B5 at hb5 v5 le5 ⊢
  refine Lp_mk (fun m vs h' => ∃ i : Nat, i + m = 8 ∧ h' = B5.set p (.row t_sha_Hash (hashC (addS st V i ++ st.drop i) wt many all) 138 (some (0, 0))) ∧ vs = [.int .i64 (i : Int)]) 8 ⟨0, rfl, (Hp.set_id hb5).symm, rfl⟩ ?_
  rintro m vs h' ⟨i, hi, rfl, rfl⟩
  have e8 : decide ((i : Int) < 8) = decide (i < 8) := lt_dec i 8
  have lA := addS_len st V i
  by_cases hlt : i < 8
  · have lS : (addS st V i ++ st.drop i).length = 8 := by rw [List.length_append, lA, List.length_drop]; omega
    have c1 : ∀ o, (B5.set p (.row t_sha_Hash (hashC (addS st V i ++ st.drop i) wt many all) 138 o)).cell ⟨p, i, none⟩ = some (.int .u32 ((st.getD i 0 : Nat) : Int)) := fun o => by
      rw [cell_row (Hp.set_same ..), hashC_st _ (by omega)]
      congr 3
      rw [List.getD_eq_getElem?_getD, List.getElem?_append_right (by omega), lA, Nat.sub_self, List.getElem?_drop, Nat.add_zero, List.getD_eq_getElem?_getD]
    have c2 : ∀ X, (B5.set p X).cell ⟨r5, i, none⟩ = some (.int .u32 ((V.getD i 0 : Nat) : Int)) := fun X => by
      rw [cell_row (v5 X), nv_getD _ _ _ (by omega)]
    simp (disch := omega) only [GL, RL, e8, hlt, decide_true, if_true, ht0, c1, c2, add32, wi64]
    refine aw_store z_uint32 rfl (put_row (Hp.set_same ..) (by rw [hashC_len lS lw]; omega) (by simp) _) ?_
    refine ⟨_, .refl _, m - 1, by omega, i + 1, by omega, ?_, rfl⟩
    rw [Hp.set_set, hashC_set _ _ (by omega)]
    have e1 : (addS st V i ++ st.drop i).set i ((st.getD i 0 + V.getD i 0) % 4294967296) = addS st V (i + 1) ++ st.drop (i + 1) := by
      rw [List.set_append_right _ _ (by omega), lA, Nat.sub_self, List.drop_eq_getElem_cons (by omega), List.set_cons_zero, addS_succ, List.append_assoc]
      rfl
    rw [e1]
  obtain rfl : i = 8 := by omega
  simp (disch := omega) only [GL, RL, e8, hlt, decide_false, Bool.false_eq_true, if_false]
  rw [List.drop_of_length_le (by omega), List.append_nil]
  exact ⟨_, le_set le5, k⟩
end
end Go.Proofs.YtlkhmddmdmlffaaGreatDoor
set_option linter.unusedSimpArgs false
set_option linter.unusedVariables false
set_option maxRecDepth 100000
set_option maxHeartbeats 1000000
namespace Go.Proofs.YtlkhmddmdmlffaaGreatDoor
open Go Go.SL Go.Pure
/-- The cells of a book's boxes. -/
def BoxCells (R : Hp) : List Value → List Box → Prop
  | [], [] => True
  | vk :: vn :: vb :: vt :: xs, b :: bs => (Rn R .u8 vk b.key ∧ Rn R .u8 vn b.nonce ∧ Rn R .u8 vb b.beside ∧ Rn R .u8 vt b.text) ∧ BoxCells R xs bs
  | _, _ => False
theorem BoxCells.mono {R R' : Hp} (c : Hp.cle R R') : ∀ {xs : List Value} {bs : List Box}, BoxCells R xs bs → BoxCells R' xs bs
  | [], [], _ => trivial
  | _ :: _ :: _ :: _ :: _, _ :: _, h => ⟨⟨h.1.1.mono c, h.1.2.1.mono c, h.1.2.2.1.mono c, h.1.2.2.2.mono c⟩, BoxCells.mono c h.2⟩
  | [], _ :: _, h => h.elim
  | [_], _, h => by cases ‹List Box› <;> exact h.elim
  | [_, _], _, h => by cases ‹List Box› <;> exact h.elim
  | [_, _, _], _, h => by cases ‹List Box› <;> exact h.elim
  | _ :: _ :: _ :: _ :: _, [], h => h.elim
theorem BoxCells.len {R : Hp} : ∀ {xs : List Value} {bs : List Box}, BoxCells R xs bs → xs.length = bs.length * 4
  | [], [], _ => rfl
  | _ :: _ :: _ :: _ :: xs, _ :: bs, h => by have := BoxCells.len h.2; simp only [List.length_cons]; omega
  | [], _ :: _, h => h.elim
  | [_], _, h => by cases ‹List Box› <;> exact h.elim
  | [_, _], _, h => by cases ‹List Box› <;> exact h.elim
  | [_, _, _], _, h => by cases ‹List Box› <;> exact h.elim
  | _ :: _ :: _ :: _ :: _, [], h => h.elim
theorem BoxCells.flat {R : Hp} : ∀ {xs : List Value} {bs : List Box}, BoxCells R xs bs → ∀ y ∈ xs, SL.flat y = true
  | [], [], _ => by intro y hy; cases hy
  | vk :: vn :: vb :: vt :: xs, _ :: bs, h => by
    intro y hy
    rcases List.mem_cons.1 hy with rfl | hy
    · exact rn_flat h.1.1
    rcases List.mem_cons.1 hy with rfl | hy
    · exact rn_flat h.1.2.1
    rcases List.mem_cons.1 hy with rfl | hy
    · exact rn_flat h.1.2.2.1
    rcases List.mem_cons.1 hy with rfl | hy
    · exact rn_flat h.1.2.2.2
    · exact BoxCells.flat h.2 y hy
  | [], _ :: _, h => h.elim
  | [_], _, h => by cases ‹List Box› <;> exact h.elim
  | [_, _], _, h => by cases ‹List Box› <;> exact h.elim
  | [_, _, _], _, h => by cases ‹List Box› <;> exact h.elim
  | _ :: _ :: _ :: _ :: _, [], h => h.elim
theorem BoxCells.get {R : Hp} : ∀ {xs : List Value} {bs : List Box} (i : Nat) {b : Box}, BoxCells R xs bs → bs[i]? = some b →
    ∃ vk vn vb vt, (∀ (j : Nat) (x : Value), [vk, vn, vb, vt][j]? = some x → xs[i * 4 + j]? = some x) ∧ Rn R .u8 vk b.key ∧ Rn R .u8 vn b.nonce ∧ Rn R .u8 vb b.beside ∧ Rn R .u8 vt b.text
  | [], [], i, b, _, hb => by simp at hb
  | vk :: vn :: vb :: vt :: xs, _ :: bs, 0, b, h, hb => by
    simp only [List.getElem?_cons_zero, Option.some.injEq] at hb
    subst hb
    refine ⟨vk, vn, vb, vt, fun j x e => ?_, h.1⟩
    match j, e with
    | 0, e => simpa using e
    | 1, e => simpa using e
    | 2, e => simpa using e
    | 3, e => simpa using e
    | j + 4, e => simp at e
  | vk :: vn :: vb :: vt :: xs, _ :: bs, i + 1, b, h, hb => by
    obtain ⟨wk, wn, wb, wt, q, r⟩ := BoxCells.get i h.2 (by simpa using hb)
    refine ⟨wk, wn, wb, wt, fun j x e => ?_, r⟩
    have := q j x e
    rw [show (i + 1) * 4 + j = (i * 4 + j) + 1 + 1 + 1 + 1 by omega]
    simpa using this
  | [], _ :: _, _, _, h, _ => h.elim
  | [_], _, _, _, h, _ => by cases ‹List Box› <;> exact h.elim
  | [_, _], _, _, _, h, _ => by cases ‹List Box› <;> exact h.elim
  | [_, _, _], _, _, _, h, _ => by cases ‹List Box› <;> exact h.elim
  | _ :: _ :: _ :: _ :: _, [], _, _, h, _ => h.elim
/-- A book's texts, in their map. -/
def TextsOf (es : Array MapEntry) (ts : List (List Nat)) : Prop :=
  es.size = ts.length ∧ strKeys es.toList ∧ ts.Nodup ∧ (∀ t ∈ ts, Bytes t) ∧ ∀ t, Bytes t → (mget es.toList (strL t)) = (ts.idxOf? t).map fun (i : Nat) => (i, Value.int .i64 (i : Int))
theorem bf0 {h : Hp} {K : Value → Prop} (r : Nat) : q P h (Instr.fieldAt t_crypt_book (.pointer (some ⟨r, 0, none⟩)) 0) K = K (.pointer (some ⟨r, 0, none⟩)) := q_of (by kernel_rfl) K
theorem bldBook {h : Hp} {K : Value → Prop} (r : Nat) : q P h (Instr.build t_crypt_book #[(0, .map (some r))]) K = K (.agg #[.map (some r), .slice none 0 0]) := q_of (by kernel_rfl) K
section
variable {h : Hp} {K : Value → Hp → Prop}
end
end Go.Proofs.YtlkhmddmdmlffaaGreatDoor
set_option linter.unusedSimpArgs false
set_option linter.unusedVariables false
set_option maxRecDepth 100000
set_option maxHeartbeats 1000000
namespace Go.Proofs.YtlkhmddmdmlffaaGreatDoor
open Go Go.SL Go.Pure
def few (n : Nat) (c : Cr) : Prop :=
  match c with
  | .real => True
  | .book _ bs => bs.length ≤ n ∧ ∀ s ∈ bs, s.text.length ≤ 1099511627776
theorem few.mono {n m : Nat} {c : Cr} (f : few n c) (h : n ≤ m) : few m c := by
  cases c with
  | real => trivial
  | book ts bs => exact ⟨Nat.le_trans f.1 h, f.2⟩
theorem few.next {n : Nat} {c : Cr} (f : few n c) (key nonce b t : List Nat) (lt : t.length ≤ 1099511627776) : few (n + 1) (crSeal c key nonce b t).2.2 := by
  cases c with
  | real => unfold crSeal; dsimp only; split <;> trivial
  | book ts bs =>
    unfold crSeal
    dsimp only
    split
    · refine ⟨by rw [List.length_append]; have := f.1; simp; omega, fun s hs => ?_⟩
      rcases List.mem_append.1 hs with q | q
      · exact f.2 s q
      · rw [List.mem_singleton.1 q]; exact lt
    · exact f.mono (Nat.le_succ n)
section
variable {h : Hp} {K : Value → Hp → Prop}
theorem T_Real (k : K (.iface t_crypt_actual (.agg #[])) h) : Cn P n_crypt_Real #[] h K := by
  refine F_crypt_Real ?_
  unfold s_crypt_Real
  refine (q_of (v := .agg #[]) (by kernel_rfl) _).mpr ?_
  refine (q_mkI u_crypt_actual rfl _).mpr ?_
  exact k
end
end Go.Proofs.YtlkhmddmdmlffaaGreatDoor
set_option linter.unusedSimpArgs false
set_option linter.unusedVariables false
set_option maxRecDepth 100000
namespace Go.Pure
def okAsk (key pre : List Nat) (size : Int) : Prop := key.length = 32 ∧ pre.length = 7 ∧ 1 ≤ size ∧ size ≤ 65536
instance (key pre : List Nat) (size : Int) : Decidable (okAsk key pre size) := by unfold okAsk; infer_instance
end Go.Pure
set_option linter.unusedSimpArgs false
set_option linter.unusedVariables false
set_option maxRecDepth 100000
set_option maxHeartbeats 1000000
namespace Go.Proofs.YtlkhmddmdmlffaaGreatDoor
open Go Go.SL Go.Pure
/-- Bytes that were made on the way from h to h'. -/
def Res (h : Hp) (v : Value) (h' : Hp) (l : List Nat) : Prop :=
  Hp.ext h h' ∧ ((∀ R, Rn R .u8 v l) ∨ ∃ b o, h b = none ∧ h' b = some o ∧ ∀ R : Hp, R b = some o → Rn R .u8 v l)
theorem Res.of {h H h' : Hp} {t : Nat} {v : Value} {l : List Nat} (x : Hp.ext h H) (n : Nn H t .u8 v h' l) : Res h v h' l := by
  refine ⟨x.trans n.ext, ?_⟩
  rcases n.2 with ⟨rfl, h0, rfl⟩ | ⟨b, c, f, hb, hc, rfl, rfl, hf⟩
  · left
    intro R
    obtain rfl := List.eq_nil_of_length_eq_zero h0
    exact rn_nil _ _
  · right
    refine ⟨b, _, x.none hb, Hp.set_same .., fun R e => ⟨by rw [nv_len]; omega, _, c, rfl, hc, .inr ⟨b, 0, rfl, fun i y ey => by rw [cell_row e, Nat.zero_add]; exact ey⟩⟩⟩
theorem Res.rn {h : Hp} {v : Value} {h' : Hp} {l : List Nat} (r : Res h v h' l) : Rn h' .u8 v l := by
  rcases r.2 with q | ⟨b, o, _, e, q⟩
  · exact q h'
  · exact q h' e
theorem Res.up {h0 h : Hp} {v : Value} {h' : Hp} {l : List Nat} (x : Hp.ext h0 h) (r : Res h v h' l) : Res h0 v h' l := by
  refine ⟨x.trans r.1, r.2.imp id fun ⟨b, o, hb, e, q⟩ => ⟨b, o, x.none hb, e, q⟩⟩
section
variable {h : Hp} {K : Value → Hp → Prop}
end
end Go.Proofs.YtlkhmddmdmlffaaGreatDoor
set_option linter.unusedSimpArgs false
set_option linter.unusedVariables false
set_option maxRecDepth 100000
namespace Go.Pure
/-- A crypt that has sealed more since. -/
def Later (c c' : Cr) : Prop :=
  match c, c' with
  | .real, .real => True
  | .book _ bs, .book _ bs' => bs <+: bs'
  | _, _ => False
theorem Later.refl (c : Cr) : Later c c := by cases c <;> simp [Later]
theorem Later.trans {a b c : Cr} (x : Later a b) (y : Later b c) : Later a c := by
  cases a <;> cases b <;> cases c <;> simp only [Later] at * <;> first | trivial | exact x.elim | exact y.elim | exact x.trans y
end Go.Pure
set_option linter.unusedSimpArgs false
set_option linter.unusedVariables false
set_option maxRecDepth 100000
set_option maxHeartbeats 1000000
namespace Go.Proofs.YtlkhmddmdmlffaaGreatDoor
open Go Go.SL Go.Pure
def small17 (ctx layer : List Nat) (size : Int) : Prop := ctx.length ≤ 300 ∧ layer.length ≤ 1500 ∧ (size < 1 ∨ (layer.length : Int).tdiv size ≤ 60)
instance (ctx layer : List Nat) (size : Int) : Decidable (small17 ctx layer size) := by unfold small17; infer_instance
theorem q_eqlNilI {h : Hp} {K : Value → Prop} (x y : Operand) (t : Nat) (v : Value) : q P h (eqop .eql t_crypt_Crypt x y (.iface t v) .nilIface) K = K (.bool false) := q_of (by
  unfold eqop
  rw [peek_bind]
  have : peek P h (eqGuard .eql t_crypt_Crypt x y (.iface t v) .nilIface) = some () := by rfl
  rw [this, Option.bind_some]
  show peek P h (Sem.bind (Op.equal t_crypt_Crypt (.iface t v) .nilIface) _) = _
  rw [peek_bind]
  have : peek P h (Op.equal t_crypt_Crypt (.iface t v) .nilIface) = some false := by
    show peek P h (Sem.bind (underlying t_crypt_Crypt) _) = _
    rw [peek_bind, pk_und u_crypt_Crypt]
    rfl
  rw [this]
  rfl) K
section
variable {h : Hp} {K : Value → Hp → Prop}
end
end Go.Proofs.YtlkhmddmdmlffaaGreatDoor
set_option linter.unusedSimpArgs false
set_option linter.unusedVariables false
set_option maxRecDepth 100000
set_option maxHeartbeats 1000000
namespace Go.Proofs.YtlkhmddmdmlffaaGreatDoor
open Go Go.SL Go.Pure
section
variable {h : Hp} {K : Value → Hp → Prop}
theorem T_ref_Back {v : Value} {l : List Nat} (hv : Rn h .u8 v l) (bl : Bytes l) (ll : l.length ≤ 1099511627776) (k : ∀ r h', Nn h t_uint8 .u8 r h' l.reverse → K r h') : Cn P n_orlopref01_Back #[v] h K := by
  refine F_orlopref01_Back ?_
  unfold s_orlopref01_Back
  obtain ⟨a, c, rfl, hc⟩ := hv.shape
  simp (disch := omega) only [GL, RL, wi64]
  refine Lp_mk (fun m vs h' => ∃ (j : Nat) (vo : Value), j + m = l.length ∧ Nn h t_uint8 .u8 vo h' (l.reverse.take j) ∧ vs = [vo, .int .i64 ((l.length : Int) - 1 - (j : Int))]) l.length ⟨0, .slice none 0 0, by omega, Nn.nil .., by simp⟩ ?_
  rintro m vs h1 ⟨j, vo, hj, nO, rfl⟩
  have eg : decide ((0 : Int) ≤ (l.length : Int) - 1 - (j : Int)) = decide (j < l.length) := by rw [decide_eq_decide]; omega
  simp (disch := omega) only [GL, RL, eg]
  by_cases hlt : j < l.length
  · obtain ⟨b, o, rfl, hy⟩ := hv.pos (by omega)
    have ei : (l.length : Int) - 1 - (j : Int) = ((l.length - 1 - j : Nat) : Int) := by omega
    have cy : h1.cell ⟨b, o + (l.length - 1 - j), none⟩ = some (.int .u8 ((l.getD (l.length - 1 - j) 0 : Nat) : Int)) := nO.cle _ _ (hy _ (by omega))
    have es : ((l.length - 1 - j : Nat) : Int) - 1 = (l.length : Int) - 1 - ((j + 1 : Nat) : Int) := by omega
    simp (disch := omega) only [GL, RL, hlt, decide_true, if_true, ei, cy, wi64, es]
    refine aw_lit (ps := [(0, _)]) u_Sl_uint8 z_uint8 zr_uint8 rfl (by omega) (by intro p hp; rw [List.mem_singleton.1 hp]; exact ⟨rfl, by show _ < 1; omega⟩) fun w h2 n2 _ => ?_
    have n2' : Nn h1 t_uint8 .u8 w h2 [l.getD (l.length - 1 - j) 0] := n2
    refine aw_appendN u_Sl_uint8 u_Sl_uint8 nfo_uint8 rfl (by omega) nO n2' (nv_flat _ _) (by simp; omega) fun vo' h3 n3 => ?_
    rw [← nv_app] at n3
    refine ⟨h3, .refl _, m - 1, by omega, j + 1, vo', by omega, ?_, rfl⟩
    have e : l.reverse.take (j + 1) = l.reverse.take j ++ [l.getD (l.length - 1 - j) 0] := by
      rw [List.take_succ_eq_append_getElem (by rw [List.length_reverse]; exact hlt), List.getElem_reverse]
      simp [List.getD_eq_getElem?_getD, show l.length - 1 - j < l.length by omega]
    rw [e]
    unfold Nn
    rw [List.length_append]
    exact n3
  · simp only [hlt, decide_false, Bool.false_eq_true, if_false]
    rw [List.take_of_length_le (by rw [List.length_reverse]; omega)] at nO
    exact k _ _ nO
theorem T_ref_big12 (n : Nat) (hn : n < 9223372036854775808) (k : ∀ r h', Nn h t_uint8 .u8 r h' (bg 8 n) → K r h') : Cn P n_orlopref12_big #[.int .i64 (n : Int)] h K := by
  refine Cn_wk (F_orlopref12_big ?_)
  unfold s_orlopref12_big
  simp (disch := omega) only [GL, RL, wu64i]
  refine T_orlopref01_Little n 8 (by omega) (by omega) fun v h1 n1 => ?_
  refine T_ref_Back n1.rn (le_bytes 8 n) (by rw [le_len]; omega) fun r h2 n2 => ?_
  obtain ⟨h0, l0, n0⟩ := Nn.down n1.le n2
  exact ⟨h0, l0, k r h0 n0⟩
theorem T_ref_GetBig {v : Value} {l : List Nat} (n : Nat) (hn : n ≤ 8) (hv : Rn h .u8 v l) (bl : Bytes l) (hl : n ≤ l.length) (k : K (.int .u64 ((bval (l.take n) : Nat) : Int)) h) : Cn P n_orlopref01_GetBig #[v, .int .i64 (n : Int)] h K := by
  refine F_orlopref01_GetBig ?_
  unfold s_orlopref01_GetBig
  refine Lp_mk (fun m vs h' => ∃ i : Nat, i + m = n ∧ h' = h ∧ vs = [.int .u64 ((bval (l.take i) : Nat) : Int), .int .i64 (i : Int)]) n ⟨0, by omega, rfl, rfl⟩ ?_
  rintro m vs h1 ⟨i, hi, rfl, rfl⟩
  simp (disch := omega) only [GL, RL, lt_dec]
  by_cases hlt : i < n
  · simp only [hlt, decide_true, if_true]
    obtain ⟨a, c, rfl, hc⟩ := hv.shape
    obtain ⟨b, o, rfl, hy⟩ := hv.pos (by omega)
    have hil : i < l.length := by omega
    have h2 := bval_take_lt bl i
    have h3 := bl.getD i
    have h4 : 256 ^ (i + 1) ≤ 256 ^ 8 := Nat.pow_le_pow_right (by decide) (by omega)
    have h5 : bval (l.take i) * 256 + l.getD i 0 < 256 ^ (i + 1) := by rw [Nat.pow_succ]; omega
    have p8 : (256 : Nat) ^ 8 = 18446744073709551616 := rfl
    rw [p8] at h4
    have e1 : ((bval (l.take i) : Nat) : Int) * 256 = ((bval (l.take i) * 256 : Nat) : Int) := by omega
    have e2 : ((bval (l.take i) * 256 : Nat) : Int) + ((l.getD i 0 : Nat) : Int) = ((bval (l.take i) * 256 + l.getD i 0 : Nat) : Int) := by omega
    have e3 : ((i : Nat) : Int) + 1 = ((i + 1 : Nat) : Int) := by omega
    simp (disch := omega) only [GL, RL, wi64, wu64i, lt_dec, e1, hil, decide_true, if_true, hy i hil, e2, e3]
    exact ⟨_, .refl _, m - 1, by omega, i + 1, by omega, rfl, by rw [bval_take_succ l i hil]⟩
  · simp only [hlt, decide_false, Bool.false_eq_true, if_false]
    obtain rfl : i = n := by omega
    exact k
end
end Go.Proofs.YtlkhmddmdmlffaaGreatDoor
set_option linter.unusedSimpArgs false
set_option linter.unusedVariables false
set_option maxRecDepth 100000
set_option maxHeartbeats 4000000
namespace Go.Proofs.YtlkhmddmdmlffaaGreatDoor
open Go Go.SL Go.Pure
theorem pk_q3 {h : Hp} {m : Sem Value} {v : Value} (e : ∀ K : Value → Prop, q P h m K = K v) : peek P h m = some v := by
  obtain ⟨x, hx, e2⟩ := withVal_elim (K := fun x => x = v) ((e fun x => x = v).mpr rfl)
  rw [e2] at hx
  exact hx
theorem pk_ld32 {h : Hp} {a : Addr} {v : Value} (e : h.cell a = some v) : peek P h (Instr.loadAt t_uint32 (.pointer (some a))) = some v := pk_q3 fun K => (q_ld u_uint32 rfl a).trans (by rw [e]; rfl)
section
variable {h : Hp} {K : Value → Hp → Prop}
theorem T_ref_ror (x n : Nat) (hx : x < 4294967296) (hn : 0 < n) (hn2 : n < 32) (k : K (.int .u32 ((rotr x n : Nat) : Int)) h) : Cn P n_orlopref02_ror #[.int .u32 x, .int .i64 (n : Int)] h K := by
  refine F_orlopref02_ror ?_
  unfold s_orlopref02_ror
  have e32 : (32 : Int) - (n : Int) = ((32 - n : Nat) : Int) := by omega
  simp (disch := omega) only [GL, RL, wu64i, wi64, e32]
  have e1 : min (32 - n) IntKind.u32.bits = 32 - n := by simp only [IntKind.bits]; omega
  have e2 : min n IntKind.u32.bits = n := by simp only [IntKind.bits]; omega
  have h1 : x / 2 ^ n ≤ x := Nat.div_le_self _ _
  have h2 := m32 (x * 2 ^ (32 - n))
  have h3 := rotr_eq x n (by omega)
  rw [e1, e2, mulp, fdivp, wu32]
  generalize x / 2 ^ n = y at h1 h3 ⊢
  generalize x * 2 ^ (32 - n) % 4294967296 = z at h2 h3 ⊢
  rw [or32 (by omega) (by omega) (by omega) (by omega), Int.toNat_natCast, Int.toNat_natCast, h3]
  exact k
theorem T_ref_Words {vb : Value} {b : List Nat} {F : List Value → Hp → Prop} (hb : Rn h .u8 vb b) (bb : Bytes b) (lb : b.length = 64)
    (k : ∀ v h', Nn h t_uint32 .u32 v h' (schL b) → F [v, .int .i64 64] h') :
    Lp [(Value.slice none 0 0), (Value.int .i64 0)] h fun nx5 vs5 h =>
q P h (binOp .lss t_int (vs5.getD 1 undef) (Value.int .i64 16)) fun t24 => cnd t24 (q P h (binOp .mul t_int (Value.int .i64 4) (vs5.getD 1 undef)) fun t30 => q P h (Instr.sliceAt t_Sl_uint8 vb (some t30) none none) fun t31 => Cn P n_orlopref01_GetBig #[t31, (Value.int .i64 4)] h fun t32 h => q P h (convert t_uint64 t_uint32 t32) fun t33 => aw P (Instr.buildSlice t_Sl_uint32 1 #[(0, t33)]) (fun t34 h => aw P (Builtin.append_ #[t_Sl_uint32, t_Sl_uint32] t_Sl_uint32 #[(vs5.getD 0 undef), t34]) (fun t35 h => q P h (binOp .add t_int (vs5.getD 1 undef) (Value.int .i64 1)) fun t26 => nx5 [t35, t26] h) h) h) (
Lp [(vs5.getD 0 undef), (Value.int .i64 16)] h fun nx11 vs11 h =>
q P h (binOp .lss t_int (vs11.getD 1 undef) (Value.int .i64 64)) fun t37 => cnd t37 (q P emp (binOp .sub t_int (vs11.getD 1 undef) (Value.int .i64 15)) fun t42 => q P emp (Instr.indexAt t_Sl_uint32 (vs11.getD 0 undef) t42) fun t43 => q P h (Instr.loadAt t_uint32 t43) fun t44 => q P emp (binOp .sub t_int (vs11.getD 1 undef) (Value.int .i64 15)) fun t48 => q P emp (Instr.indexAt t_Sl_uint32 (vs11.getD 0 undef) t48) fun t49 => q P h (Instr.loadAt t_uint32 t49) fun t50 => q P emp (binOp .sub t_int (vs11.getD 1 undef) (Value.int .i64 15)) fun t55 => q P emp (Instr.indexAt t_Sl_uint32 (vs11.getD 0 undef) t55) fun t56 => q P h (Instr.loadAt t_uint32 t56) fun t57 => q P emp (binOp .shr t_uint32 t57 (Value.int .u64 3)) fun t58 => Cn P n_orlopref02_ror #[t44, (Value.int .i64 7)] h fun t45 h => peek P h (Instr.loadAt t_uint32 t56) = some t57 ∧ peek P h (Instr.loadAt t_uint32 t49) = some t50 ∧ Cn P n_orlopref02_ror #[t50, (Value.int .i64 18)] h fun t51 h => peek P h (Instr.loadAt t_uint32 t56) = some t57 ∧ q P emp (binOp .xor t_uint32 t45 t51) fun t52 => q P emp (binOp .xor t_uint32 t52 t58) fun t59 => q P emp (binOp .sub t_int (vs11.getD 1 undef) (Value.int .i64 2)) fun t62 => q P emp (Instr.indexAt t_Sl_uint32 (vs11.getD 0 undef) t62) fun t63 => q P h (Instr.loadAt t_uint32 t63) fun t64 => q P emp (binOp .sub t_int (vs11.getD 1 undef) (Value.int .i64 2)) fun t68 => q P emp (Instr.indexAt t_Sl_uint32 (vs11.getD 0 undef) t68) fun t69 => q P h (Instr.loadAt t_uint32 t69) fun t70 => q P emp (binOp .sub t_int (vs11.getD 1 undef) (Value.int .i64 2)) fun t75 => q P emp (Instr.indexAt t_Sl_uint32 (vs11.getD 0 undef) t75) fun t76 => q P h (Instr.loadAt t_uint32 t76) fun t77 => q P emp (binOp .shr t_uint32 t77 (Value.int .u64 10)) fun t78 => Cn P n_orlopref02_ror #[t64, (Value.int .i64 17)] h fun t65 h => peek P h (Instr.loadAt t_uint32 t76) = some t77 ∧ peek P h (Instr.loadAt t_uint32 t69) = some t70 ∧ Cn P n_orlopref02_ror #[t70, (Value.int .i64 19)] h fun t71 h => peek P h (Instr.loadAt t_uint32 t76) = some t77 ∧ q P emp (binOp .xor t_uint32 t65 t71) fun t72 => q P emp (binOp .xor t_uint32 t72 t78) fun t79 => q P emp (binOp .sub t_int (vs11.getD 1 undef) (Value.int .i64 16)) fun t83 => q P emp (Instr.indexAt t_Sl_uint32 (vs11.getD 0 undef) t83) fun t84 => q P h (Instr.loadAt t_uint32 t84) fun t85 => q P emp (binOp .add t_uint32 t85 t59) fun t87 => q P emp (binOp .sub t_int (vs11.getD 1 undef) (Value.int .i64 7)) fun t90 => q P emp (Instr.indexAt t_Sl_uint32 (vs11.getD 0 undef) t90) fun t91 => q P h (Instr.loadAt t_uint32 t91) fun t92 => q P emp (binOp .add t_uint32 t87 t92) fun t93 => q P emp (binOp .add t_uint32 t93 t79) fun t95 => aw P (Instr.buildSlice t_Sl_uint32 1 #[(0, t95)]) (fun t96 h => aw P (Builtin.append_ #[t_Sl_uint32, t_Sl_uint32] t_Sl_uint32 #[(vs11.getD 0 undef), t96]) (fun t97 h => q P h (binOp .add t_int (vs11.getD 1 undef) (Value.int .i64 1)) fun t39 => nx11 [t97, t39] h) h) h) (F vs11 h)) := by
  refine Lp_mk (fun m vs h' => ∃ (i : Nat) (vo : Value), i + m = 16 ∧ Nn h t_uint32 .u32 vo h' (bwords b i) ∧ vs = [vo, .int .i64 (i : Int)]) 16 ⟨0, _, rfl, Nn.nil .., rfl⟩ ?_
  rintro m vs h1 ⟨i, vo, hi, nO, rfl⟩
  have e16 : decide ((i : Int) < 16) = decide (i < 16) := lt_dec i 16
  have e4 : (4 * (i : Int)) = ((4 * i : Nat) : Int) := by push_cast; rfl
  have lw := bwords_len b i
  simp (disch := omega) only [GL, RL, wi64, e16, e4]
  by_cases hlt : i < 16
  · simp only [hlt, decide_true, if_true]
    refine q_slRn u_Sl_uint8 z_uint8 (hb.mono nO.cle) .i64 (4 * i) (by omega) fun w' hw' => ?_
    refine T_ref_GetBig 4 (by omega) hw' (bb.drop _) (by rw [List.length_drop]; omega) ?_
    have hx := bval4_lt bb (4 * i)
    simp (disch := omega) only [GL, RL, wu32i]
    refine aw_lit (ps := [(0, _)]) u_Sl_uint32 z_uint32 zr_uint32 rfl (by omega) (by intro p hp; rw [List.mem_singleton.1 hp]; exact ⟨rfl, by show _ < 1; omega⟩) fun w h2 n2 _ => ?_
    have n2' : Nn h1 t_uint32 .u32 w h2 [bval ((b.drop (4 * i)).take 4)] := n2
    refine aw_appendN u_Sl_uint32 u_Sl_uint32 nfo_uint32 rfl (by omega) nO n2' (nv_flat _ _) (by simp; omega) fun vo' h3 n3 => ?_
    rw [← nv_app] at n3
    refine ⟨h3, .refl _, m - 1, by omega, i + 1, vo', by omega, ?_, rfl⟩
    unfold Nn
    rw [bwords, List.length_append]
    exact n3
  obtain rfl : i = 16 := by omega
  simp only [hlt, decide_false, Bool.false_eq_true, if_false]
  have lw0 : (bwords b 16).length = 16 := bwords_len b 16
  have ww0 : W32 (bwords b 16) := bwords_w bb 16
  have hsch : schL b = schF (bwords b 16) 48 := rfl
  rw [hsch] at k
  clear hsch
  generalize bwords b 16 = w0 at lw0 ww0 k nO
  refine Lp_mk (fun m vs h' => ∃ (n : Nat) (vo : Value), n + m = 48 ∧ Nn h t_uint32 .u32 vo h' (schF w0 n) ∧ vs = [vo, .int .i64 ((16 + n : Nat) : Int)]) 48 ⟨0, _, rfl, nO, rfl⟩ ?_
  clear nO
  rintro m vs h2 ⟨n, vo, hn, nO, rfl⟩
  have ls : (schF w0 n).length = 16 + n := by rw [schF_len, lw0]
  have ws := schF_w ww0 n
  have e64 : decide ((((16 + n : Nat)) : Int) < 64) = decide (16 + n < 64) := lt_dec (16 + n) 64
  have e15 : ((16 + n : Nat) : Int) - 15 = ((n + 1 : Nat) : Int) := by omega
  have e2 : ((16 + n : Nat) : Int) - 2 = ((n + 14 : Nat) : Int) := by omega
  have e16' : ((16 + n : Nat) : Int) - 16 = ((n : Nat) : Int) := by omega
  have e7 : ((16 + n : Nat) : Int) - 7 = ((n + 9 : Nat) : Int) := by omega
  by_cases hlt2 : 16 + n < 64
  case neg =>
    simp (disch := omega) only [GL, RL, e64, hlt2, decide_false, Bool.false_eq_true, if_false]
    have hn48 : n = 48 := by omega
    subst hn48
    exact k _ _ nO
  obtain ⟨bo, co, fo, hbo, hco, hvo, hho, hfo⟩ := nO.form (by omega)
  subst hvo
  have row : h2 bo = some (.row t_uint32 (nv .u32 (schF w0 n)) (co * 1) (some fo)) := by rw [hho]; exact Hp.set_same ..
  have cell : ∀ j, j < 16 + n → h2.cell ⟨bo, j, none⟩ = some (.int .u32 (((schF w0 n).getD j 0 : Nat) : Int)) := fun j hj => by
    rw [cell_row row, nv_getD _ _ _ (by omega)]
  have hx := ws.getD (n + 1)
  have hy := ws.getD (n + 14)
  have es : schStep (schF w0 n) = ((((schF w0 n).getD n 0 + sgS0 ((schF w0 n).getD (n + 1) 0)) % 4294967296 + (schF w0 n).getD (n + 9) 0) % 4294967296 + sgS1 ((schF w0 n).getD (n + 14) 0)) % 4294967296 := by
    unfold schStep
    rw [ls, show 16 + n - 16 = n by omega, show 16 + n - 15 = n + 1 by omega, show 16 + n - 7 = n + 9 by omega, show 16 + n - 2 = n + 14 by omega]
  have cX := cell (n + 1) (by omega)
  have cY := cell (n + 14) (by omega)
  have c0 := cell n (by omega)
  have c9 := cell (n + 9) (by omega)
  have esucc : schF w0 (n + 1) = schF w0 n ++ [schStep (schF w0 n)] := rfl
  generalize hX : (schF w0 n).getD (n + 1) 0 = X at hx es cX
  generalize hY : (schF w0 n).getD (n + 14) 0 = Y at hy es cY
  have sh3 : ((X : Int).fdiv (2 ^ min (Int.toNat 3) IntKind.u32.bits)) = ((X / 2 ^ 3 : Nat) : Int) := fdivp X 3
  have sh10 : ((Y : Int).fdiv (2 ^ min (Int.toNat 10) IntKind.u32.bits)) = ((Y / 2 ^ 10 : Nat) : Int) := fdivp Y 10
  have gX : Nat → (schF w0 n).length = 16 + n := fun _ => ls
  simp (disch := omega) only [GL, RL, wi64, e64, hlt2, decide_true, if_true, ls, e15, e2, cX, sh3]
  refine T_ref_ror X 7 hx (by omega) (by omega) ⟨pk_ld32 cX, pk_ld32 cX, ?_⟩
  refine T_ref_ror X 18 hx (by omega) (by omega) ⟨pk_ld32 cX, ?_⟩
  simp (disch := omega) only [GL, RL, wi64, e2, cY, sh10]
  rw [xor32N (rotr_lt _ _ hx) (rotr_lt _ _ hx), xor32N (x32 (rotr_lt _ _ hx) (rotr_lt _ _ hx)) (Nat.lt_of_le_of_lt (Nat.div_le_self _ _) hx)]
  refine T_ref_ror Y 17 hy (by omega) (by omega) ⟨pk_ld32 cY, pk_ld32 cY, ?_⟩
  refine T_ref_ror Y 19 hy (by omega) (by omega) ⟨pk_ld32 cY, ?_⟩
  simp (disch := omega) only [GL, RL, wi64, e16', e7, c0, c9]
  rw [xor32N (rotr_lt _ _ hy) (rotr_lt _ _ hy), xor32N (x32 (rotr_lt _ _ hy) (rotr_lt _ _ hy)) (Nat.lt_of_le_of_lt (Nat.div_le_self _ _) hy)]
  simp only [add32]
  have eS : ((((schF w0 n).getD n 0 + (rotr X 7 ^^^ rotr X 18 ^^^ X / 2 ^ 3)) % 4294967296 + (schF w0 n).getD (n + 9) 0) % 4294967296 + (rotr Y 17 ^^^ rotr Y 19 ^^^ Y / 2 ^ 10)) % 4294967296 = schStep (schF w0 n) := by
    rw [es]; rfl
  rw [eS]
  refine aw_lit (ps := [(0, _)]) u_Sl_uint32 z_uint32 zr_uint32 rfl (by omega) (by intro p hp; rw [List.mem_singleton.1 hp]; exact ⟨rfl, by show _ < 1; omega⟩) fun w h3 n3 _ => ?_
  have n3' : Nn h2 t_uint32 .u32 w h3 [schStep (schF w0 n)] := n3
  have nO' : New h t_uint32 1 (.slice (some ⟨bo, 0, none⟩) (16 + n) co) h2 (nv .u32 (schF w0 n)) (16 + n) := by rw [← ls]; exact nO
  refine aw_appendN u_Sl_uint32 u_Sl_uint32 nfo_uint32 rfl (by omega) nO' n3' (nv_flat _ _) (by simp; omega) fun vo' h4 n4 => ?_
  rw [← nv_app] at n4
  refine ⟨h4, .refl _, m - 1, by omega, n + 1, vo', by omega, ?_, by rw [show ((16 + n : Nat) : Int) + 1 = ((16 + (n + 1) : Nat) : Int) by omega]⟩
  unfold Nn
  rw [esucc, List.length_append, ls]
  exact n4
end
end Go.Proofs.YtlkhmddmdmlffaaGreatDoor
set_option linter.unusedSimpArgs false
set_option linter.unusedVariables false
set_option maxRecDepth 100000
set_option maxHeartbeats 4000000
namespace Go.Proofs.YtlkhmddmdmlffaaGreatDoor
open Go Go.SL Go.Pure
section
variable {h : Hp} {K : Value → Hp → Prop}
theorem T_ref_K (k : ∀ v h', Nn h t_uint32 .u32 v h' shaK → K v h') : Cn P n_orlopref02_K #[] h K := by
  refine F_orlopref02_K ?_
  unfold s_orlopref02_K
  refine aw_lit u_Sl_uint32 z_uint32 zr_uint32 rfl (by omega) (by decide +kernel) fun v h' n _ => ?_
  exact k v h' n
theorem T_ref_H (k : ∀ v h', Nn h t_uint32 .u32 v h' shaH → K v h') : Cn P n_orlopref02_H #[] h K := by
  refine F_orlopref02_H ?_
  unfold s_orlopref02_H
  refine aw_lit u_Sl_uint32 z_uint32 zr_uint32 rfl (by omega) (by decide +kernel) fun v h' n _ => ?_
  exact k v h' n
theorem aw_lit8 (a b c d e f g z : Nat) (k : ∀ v h', Nn h t_uint32 .u32 v h' [a, b, c, d, e, f, g, z] → K v h') :
    aw P (Instr.buildSlice t_Sl_uint32 8 #[(0, .int .u32 (a : Int)), (1, .int .u32 (b : Int)), (2, .int .u32 (c : Int)), (3, .int .u32 (d : Int)), (4, .int .u32 (e : Int)), (5, .int .u32 (f : Int)), (6, .int .u32 (g : Int)), (7, .int .u32 (z : Int))]) K h := by
  refine aw_lit (ps := [(0, .int .u32 (a : Int)), (1, .int .u32 (b : Int)), (2, .int .u32 (c : Int)), (3, .int .u32 (d : Int)), (4, .int .u32 (e : Int)), (5, .int .u32 (f : Int)), (6, .int .u32 (g : Int)), (7, .int .u32 (z : Int))]) u_Sl_uint32 z_uint32 zr_uint32 rfl (by omega) ?_ fun v h' n _ => ?_
  · intro p hp
    simp only [List.mem_cons, List.not_mem_nil, or_false] at hp
    rcases hp with rfl | rfl | rfl | rfl | rfl | rfl | rfl | rfl <;> exact ⟨rfl, by simp⟩
  · exact k v h' n
theorem addS8 (s V : List Nat) : addS s V 8 = [(s.getD 0 0 + V.getD 0 0) % 4294967296, (s.getD 1 0 + V.getD 1 0) % 4294967296, (s.getD 2 0 + V.getD 2 0) % 4294967296, (s.getD 3 0 + V.getD 3 0) % 4294967296, (s.getD 4 0 + V.getD 4 0) % 4294967296, (s.getD 5 0 + V.getD 5 0) % 4294967296, (s.getD 6 0 + V.getD 6 0) % 4294967296, (s.getD 7 0 + V.getD 7 0) % 4294967296] := rfl
theorem list8 {l : List Nat} (h : l.length = 8) : ∃ a b c d e f g z, l = [a, b, c, d, e, f, g, z] := by
  match l, h with
  | [a, b, c, d, e, f, g, z], _ => exact ⟨a, b, c, d, e, f, g, z, rfl⟩
theorem T_ref_Work {vs vk vb : Value} {s b : List Nat} (hs : Rn h .u32 vs s) (hk : Rn h .u32 vk shaK) (hb : Rn h .u8 vb b) (ws : W32 s) (ls : s.length = 8) (bb : Bytes b) (lb : b.length = 64)
    (k : ∀ v h', Nn h t_uint32 .u32 v h' (workL shaK s b) → K v h') : Cn P n_orlopref02_Work #[vs, vk, vb] h K := by
  refine Cn_wk (F_orlopref02_Work ?_)
  unfold s_orlopref02_Work
  refine T_ref_Words hb bb lb fun vw h1 nW => ?_
  have lW := schL_len b
  have wW := schL_w bb
  unfold workL at k
  generalize schL b = W at lW wW k nW
  obtain ⟨bw, cw, fw, hbw, hcw, rfl, hhw, hfw⟩ := nW.form (by omega)
  have row : h1 bw = some (.row t_uint32 (nv .u32 W) (cw * 1) (some fw)) := by rw [hhw]; exact Hp.set_same ..
  obtain ⟨as0, cs, rfl, hcs⟩ := hs.shape
  obtain ⟨bs, os, rfl, cS⟩ := (hs.mono nW.cle).pos (by omega)
  obtain ⟨ak0, ck, rfl, hck⟩ := hk.shape
  obtain ⟨bk, ok, rfl, cK⟩ := (hk.mono nW.cle).pos (by rw [shaK_len]; omega)
  have cS0 := cS 0 (by omega)
  have cS1 := cS 1 (by omega)
  have cS2 := cS 2 (by omega)
  have cS3 := cS 3 (by omega)
  have cS4 := cS 4 (by omega)
  have cS5 := cS 5 (by omega)
  have cS6 := cS 6 (by omega)
  have cS7 := cS 7 (by omega)
  rw [Nat.add_zero] at cS0
  have n8 : ∀ j : Nat, j < 8 → ((j : Nat) : Int) < ((s.length : Nat) : Int) := fun j hj => by omega
  simp (disch := omega) only [GL, RL, Int.reduceToNat, Nat.add_zero, cS0, cS1, cS2, cS3, cS4, cS5, cS6, cS7]
  refine Lp_mk (fun m vs h' => ∃ (i : Nat), i + m = 64 ∧ h' = h1 ∧ vs = [.int .u32 (((rnds shaK W s i).getD 7 0 : Nat) : Int), .int .u32 (((rnds shaK W s i).getD 6 0 : Nat) : Int), .int .u32 (((rnds shaK W s i).getD 5 0 : Nat) : Int), .int .u32 (((rnds shaK W s i).getD 4 0 : Nat) : Int), .int .u32 (((rnds shaK W s i).getD 3 0 : Nat) : Int), .int .u32 (((rnds shaK W s i).getD 2 0 : Nat) : Int), .int .u32 (((rnds shaK W s i).getD 1 0 : Nat) : Int), .int .u32 (((rnds shaK W s i).getD 0 0 : Nat) : Int), .int .i64 (i : Int)]) 64 ⟨0, rfl, rfl, rfl⟩ ?_
  rintro m vs h2 ⟨i, hi, rfl, rfl⟩
  have wr := rnds_w (K := shaK) (w := W) ws i
  have lr := rnds_len (K := shaK) (w := W) ls i
  have ern : rnds shaK W s (i + 1) = rnd (shaK.getD i 0) (W.getD i 0) (rnds shaK W s i) := rfl
  have e64 : decide ((i : Int) < 64) = decide (i < 64) := lt_dec i 64
  by_cases hlt : i < 64
  · clear k
    generalize rnds shaK W s i = S at wr lr ern ⊢
    obtain ⟨a, b, c, d, e, f, g, z, rfl⟩ := list8 lr
    have ha : a < 4294967296 := wr.getD 0
    have hb : b < 4294967296 := wr.getD 1
    have hc : c < 4294967296 := wr.getD 2
    have hd : d < 4294967296 := wr.getD 3
    have he : e < 4294967296 := wr.getD 4
    have hf : f < 4294967296 := wr.getD 5
    have hg : g < 4294967296 := wr.getD 6
    have hz : z < 4294967296 := wr.getD 7
    have hwi := wW.getD i
    have hki := shaK_w.getD i
    have cw' : h2.cell ⟨bw, i, none⟩ = some (.int .u32 ((W.getD i 0 : Nat) : Int)) := by rw [cell_row row, nv_getD _ _ _ (by omega)]
    have ck' := cK i (by rw [shaK_len]; exact hlt)
    have lk64 : shaK.length = 64 := shaK_len
    generalize W.getD i 0 = wq at hwi cw' ern
    generalize shaK.getD i 0 = kq at hki ck' ern
    have ernd : rnd kq wq [a, b, c, d, e, f, g, z] = [(t1S kq wq e f g z + t2S a b c) % 4294967296, a, b, c, (d + t1S kq wq e f g z) % 4294967296, e, f, g] := rfl
    rw [ernd] at ern
    simp (disch := omega) only [GL, RL, e64, hlt, decide_true, if_true, q_xorU, ck', cw', List.getD_cons_zero, List.getD_cons_succ]
    refine T_ref_ror e 6 he (by omega) (by omega) ⟨pk_ld32 cw', pk_ld32 ck', ?_⟩
    refine T_ref_ror e 11 he (by omega) (by omega) ⟨pk_ld32 cw', pk_ld32 ck', ?_⟩
    simp (disch := omega) only [GL, RL]
    refine T_ref_ror e 25 he (by omega) (by omega) ⟨pk_ld32 cw', pk_ld32 ck', ?_⟩
    simp (disch := omega) only [GL, RL]
    rw [xor32N (rotr_lt e 6 he) (rotr_lt e 11 he), xor32N (x32 (rotr_lt e 6 he) (rotr_lt e 11 he)) (rotr_lt e 25 he), and32N he hf, xor32N (by decide) he, and32N (x32 (by decide) he) hg, xor32N (a32 he) (a32 (x32 (by decide) he))]
    simp only [add32]
    have e1 : ((((z + (rotr e 6 ^^^ rotr e 11 ^^^ rotr e 25)) % 4294967296 + (e &&& f ^^^ (4294967295 ^^^ e) &&& g)) % 4294967296 + kq) % 4294967296 + wq) % 4294967296 = t1S kq wq e f g z := rfl
    rw [e1]
    have ht : t1S kq wq e f g z < 4294967296 := m32 _
    generalize t1S kq wq e f g z = T at ht ern ⊢
    refine T_ref_ror a 2 ha (by omega) (by omega) ?_
    refine T_ref_ror a 13 ha (by omega) (by omega) ?_
    simp (disch := omega) only [GL, RL]
    refine T_ref_ror a 22 ha (by omega) (by omega) ?_
    simp (disch := omega) only [GL, RL]
    rw [xor32N (rotr_lt a 2 ha) (rotr_lt a 13 ha), xor32N (x32 (rotr_lt a 2 ha) (rotr_lt a 13 ha)) (rotr_lt a 22 ha), and32N ha hb, and32N ha hc, and32N hb hc, xor32N (a32 ha) (a32 ha), xor32N (x32 (a32 ha) (a32 ha)) (a32 hb)]
    simp only [add32]
    have e2 : ((rotr a 2 ^^^ rotr a 13 ^^^ rotr a 22) + (a &&& b ^^^ a &&& c ^^^ b &&& c)) % 4294967296 = t2S a b c := rfl
    rw [e2, wi64 (by omega) (by omega)]
    generalize t2S a b c = U at ern ⊢
    refine ⟨h2, .refl _, m - 1, by omega, i + 1, by omega, rfl, ?_⟩
    rw [ern]
    simp only [List.getD_cons_zero, List.getD_cons_succ]
    rw [inc]
  obtain rfl : i = 64 := by omega
  simp (disch := omega) only [GL, RL, e64, hlt, decide_false, Bool.false_eq_true, if_false, Int.reduceToNat, Nat.add_zero, cS0, cS1, cS2, cS3, cS4, cS5, cS6, cS7, add32]
  generalize rnds shaK W s 64 = V at wr lr k ⊢
  rw [addS8] at k
  refine aw_lit8 _ _ _ _ _ _ _ _ fun v h' n => ?_
  obtain ⟨h0, l0, n0⟩ := Nn.down nW.le n
  exact ⟨h0, l0, k _ _ n0⟩
theorem T_ref_Pad {v : Value} {b : List Nat} (hv : Rn h .u8 v b) (lb : b.length ≤ 1099511627776) (k : ∀ r h', Nn h t_uint8 .u8 r h' (padS b) → K r h') : Cn P n_orlopref02_Pad #[v] h K := by
  refine F_orlopref02_Pad ?_
  unfold s_orlopref02_Pad
  refine aw_lit (ps := []) (n := 0) u_Sl_uint8 z_uint8 zr_uint8 rfl (by omega) (by intro p hp; cases hp) fun v4 h1 n1 _ => ?_
  refine aw_append u_Sl_uint8 u_Sl_uint8 nfo_uint8 rfl (by omega) n1 (hv.mono n1.cle) (nv_flat _ _) (by omega) (.refl _) fun v6 h2 n2 => ?_
  have n2' : Nn h t_uint8 .u8 v6 h2 b := by unfold Nn; simpa [fillL] using n2
  refine aw_lit (ps := [(0, _)]) u_Sl_uint8 z_uint8 zr_uint8 rfl (by omega) (by intro p hp; rw [List.mem_singleton.1 hp]; exact ⟨rfl, by show _ < 1; omega⟩) fun v7 h3 n3 _ => ?_
  have n3' : Nn h2 t_uint8 .u8 v7 h3 [128] := n3
  refine aw_appendN u_Sl_uint8 u_Sl_uint8 nfo_uint8 rfl (by omega) n2' n3' (nv_flat _ _) (by simp; omega) fun v8 h4 n4 => ?_
  rw [← nv_app] at n4
  have n4' : Nn h t_uint8 .u8 v8 h4 (b ++ ([128] ++ List.replicate 0 0)) := by unfold Nn; rw [List.length_append]; exact n4
  obtain ⟨np, hnp⟩ : ∃ np, (119 - b.length % 64) % 64 = np := ⟨_, rfl⟩
  refine Lp_mk (fun m vs h' => ∃ (i : Nat) (vo : Value), i + m = np ∧ Nn h t_uint8 .u8 vo h' (b ++ ([128] ++ List.replicate i 0)) ∧ vs = [vo]) np ⟨0, _, by omega, n4', rfl⟩ ?_
  rintro m vs h5 ⟨i, vo, hi, nO, rfl⟩
  have hnp64 : np < 64 := by rw [← hnp]; exact Nat.mod_lt _ (by decide)
  obtain ⟨ao, co, eo, hco⟩ := nO.rn.shape
  have lO : (b ++ ([128] ++ List.replicate i 0)).length = b.length + 1 + i := by simp; omega
  have lno : ∀ {h : Hp} {K : Value → Prop}, q P h (Builtin.len_ #[t_Sl_uint8] t_int #[vo]) K = K (.int .i64 ((b.length + 1 + i : Nat) : Int)) := fun {h K} => by rw [eo, lO]; exact q_lenS u_Sl_uint8 _ _ _
  obtain ⟨av, cv, ev, hcv⟩ := hv.shape
  have lnv : ∀ {h : Hp} {K : Value → Prop}, q P h (Builtin.len_ #[t_Sl_uint8] t_int #[v]) K = K (.int .i64 ((b.length : Nat) : Int)) := fun {h K} => by rw [ev]; exact q_lenS u_Sl_uint8 _ _ _
  have em : ((b.length + 1 + i : Nat) : Int).tmod 64 = (((b.length + 1 + i) % 64 : Nat) : Int) := by rw [Int.tmod_eq_emod_of_nonneg (by omega)]; exact (Int.natCast_emod _ 64).symm
  have e56 : ((((b.length + 1 + i) % 64 : Nat) : Int) != 56) = decide (i < np) := by
    have h1 : ((((b.length + 1 + i) % 64 : Nat) : Int) != 56) = decide ((b.length + 1 + i) % 64 ≠ 56) := ne_dec _ 56
    rw [h1, decide_eq_decide]; omega
  simp (disch := omega) only [GL, RL, lno, lnv, em, e56]
  by_cases hlt : i < np
  · simp only [hlt, decide_true, if_true]
    refine aw_lit (ps := [(0, _)]) u_Sl_uint8 z_uint8 zr_uint8 rfl (by omega) (by intro p hp; rw [List.mem_singleton.1 hp]; exact ⟨rfl, by show _ < 1; omega⟩) fun w h6 n6 _ => ?_
    have n6' : Nn h5 t_uint8 .u8 w h6 [0] := n6
    refine aw_appendN u_Sl_uint8 u_Sl_uint8 nfo_uint8 rfl (by omega) nO n6' (nv_flat _ _) (by rw [lO]; simp; omega) fun vo' h7 n7 => ?_
    rw [← nv_app] at n7
    refine ⟨h7, .refl _, m - 1, by omega, i + 1, vo', by omega, ?_, rfl⟩
    have e : b ++ ([128] ++ List.replicate (i + 1) 0) = (b ++ ([128] ++ List.replicate i 0)) ++ [0] := by
      rw [List.replicate_succ', List.append_assoc, List.append_assoc]
    rw [e]
    unfold Nn
    rw [List.length_append]
    exact n7
  simp only [hlt, decide_false, Bool.false_eq_true, if_false]
  obtain rfl : i = np := by omega
  have e8 : (8 : Int) * (b.length : Int) = ((8 * b.length : Nat) : Int) := by omega
  simp (disch := omega) only [GL, RL, wu64i, e8]
  refine T_orlopref01_Little (8 * b.length) 8 (by omega) (by omega) fun v21 h6 n6 => ?_
  refine T_ref_Back n6.rn (le_bytes 8 _) (by rw [le_len]; omega) fun v22 h7 n7 => ?_
  have n7' : Nn h6 t_uint8 .u8 v22 h7 (bg 8 (8 * b.length)) := n7
  obtain ⟨b6, c6, f6, hb6, _, _, hh6, _⟩ := n6.form (by rw [le_len]; omega)
  obtain ⟨b7, c7, f7, hb7, _, _, hh7, _⟩ := n7'.form (by rw [bg_len]; omega)
  have nA := New.add nO hb6 (.row t_uint8 (nv .u8 (le 8 (8 * b.length))) (c6 * 1) (some f6))
  rw [← hh6] at nA
  have nB := New.add nA hb7 (.row t_uint8 (nv .u8 (bg 8 (8 * b.length))) (c7 * 1) (some f7))
  rw [← hh7] at nB
  refine aw_append u_Sl_uint8 u_Sl_uint8 nfo_uint8 rfl (by omega) nB n7'.rn (nv_flat _ _) (by rw [lO, bg_len]; omega) ((le_fresh (nO.ext.none hb6)).trans (le_fresh (nA.ext.none hb7))) fun vo' h9 n9 => ?_
  refine k _ _ ?_
  rw [← nv_app] at n9
  unfold Nn padS padE
  rw [hnp, List.length_append]
  exact n9
end
end Go.Proofs.YtlkhmddmdmlffaaGreatDoor
set_option linter.unusedSimpArgs false
set_option linter.unusedVariables false
set_option maxRecDepth 100000
set_option maxHeartbeats 4000000
namespace Go.Proofs.YtlkhmddmdmlffaaGreatDoor
open Go Go.SL Go.Pure
theorem del_cle (h : Hp) (p : Nat) (X : AObj) : Hp.cle (h.del p) (h.set p X) := fun a v e => by
  unfold Hp.cell at e ⊢
  by_cases q : a.block = p
  · rw [q, Hp.del_same] at e
    split at e
    · cases e
    · cases e
  · rw [Hp.del_ne _ q] at e
    rw [Hp.set_ne _ _ q]
    exact e
theorem row_rn {h : Hp} {p : Nat} {st wt : List Nat} {many all : Nat} (ls : st.length = 8) (lw : wt.length = 64) (e : HashRow h p st wt many all) : Rn h .u8 (.slice (some ⟨p, 72, none⟩) 64 64) wt :=
  ⟨by rw [nv_len]; omega, _, 64, by rw [lw], by omega, .inr ⟨p, 72, rfl, fun j x ex => by
    have hj : j < wt.length := by have := (List.getElem?_eq_some_iff.1 ex).1; rwa [nv_len] at this
    rw [nv_getD _ _ _ hj] at ex
    rw [cell_row e, hashC_wt ls lw j (by omega)]
    exact ex⟩⟩
section
variable {h : Hp} {K : Value → Hp → Prop}
theorem T_shaNew (k : ∀ p, h p = none → K (.pointer (some ⟨p, 0, none⟩)) (h.set p (.row t_sha_Hash (hashC shaH (List.replicate 64 0) 0 0) 138 (some (0, 0))))) : Cn P n_sha_New #[] h K := by
  refine F_sha_New ?_
  unfold s_sha_New
  refine T_beginning ?_
  refine T_constants ?_
  rw [bldNew]
  refine aw_box fun p hp => ?_
  have e : (Value.agg (hashC shaH (List.replicate 64 0) 0 0).toArray).cells.size = 138 := by
    show (hashC shaH (List.replicate 64 0) 0 0).toArray.size = 138
    rw [List.size_toArray, hashC_len rfl (by rw [List.length_replicate])]
  rw [e]
  exact k p hp
theorem T_shaAdd {p : Nat} {v : Value} {st wt M b : List Nat} {many all : Nat} (hb : HashRow h p st wt many all) (hs : Hst M st wt many) (bw : Bytes wt) (hv : Rn (h.del p) .u8 v b) (bb : Bytes b) (lb : b.length ≤ 1099511627776) (la : all < 18446744073709551616)
    (k : ∀ st' wt' many', Hst (M ++ b) st' wt' many' → Bytes wt' → K (.tuple #[]) (h.set p (.row t_sha_Hash (hashC st' wt' many' ((all + b.length) % 18446744073709551616)) 138 (some (0, 0))))) :
    Cn P n_sha_Hash_Add #[.pointer (some ⟨p, 0, none⟩), v] h K := by
  refine F_sha_Hash_Add ?_
  unfold s_sha_Hash_Add
  have ls := hs.len
  have lw := hs.2.2.1
  obtain ⟨a0, c0, rfl, hc0⟩ := hv.shape
  have c137 : h.cell ⟨p, 137, none⟩ = some (.int .u64 (all : Int)) := by rw [cell_row hb]; exact hashC_137 ls lw
  have ea : ((all : Int) + (b.length : Int)) = ((all + b.length : Nat) : Int) := by omega
  simp (disch := omega) only [GL, RL, ht4, c137, wu64i, ea, wu64]
  refine aw_store z_uint64 rfl (put_row hb (by rw [hashC_len ls lw]; omega) (by simp) _) ?_
  rw [hashC_set137 ls lw]
  generalize (all + b.length) % 18446744073709551616 = all' at k ⊢
  refine Lp_mk (fun m vs h' => ∃ (i : Nat) (st wt : List Nat) (many : Nat) (v' : Value), m = b.length - i ∧ i ≤ b.length ∧ h' = h.set p (.row t_sha_Hash (hashC st wt many all') 138 (some (0, 0))) ∧ Hst (M ++ b.take i) st wt many ∧ Bytes wt ∧ Rn (h.del p) .u8 v' (b.drop i) ∧ vs = [v']) b.length
    ⟨0, st, wt, many, _, rfl, by omega, rfl, by simpa using hs, bw, by simpa using hv, rfl⟩ ?_
  clear hs bw ls lw c137 hb
  rintro m vs h' ⟨i, st, wt, many, v', rfl, hi, rfl, hs, bw, hr, rfl⟩
  have ls := hs.len
  have ws := hs.w
  have lw := hs.2.2.1
  have hm := hs.many_lt
  obtain ⟨a1, c1, rfl, hc1⟩ := hr.shape
  have ld : (b.drop i).length = b.length - i := List.length_drop ..
  have e0 : decide ((0 : Int) < (((b.drop i).length : Nat) : Int)) = decide (i < b.length) := by rw [decide_eq_decide, ld]; omega
  simp (disch := omega) only [GL, RL, e0]
  by_cases hlt : i < b.length
  case neg =>
    simp only [hlt, decide_false, Bool.false_eq_true, if_false]
    rw [List.take_of_length_le (by omega)] at hs
    exact k _ _ _ hs bw
  simp only [hlt, decide_true, if_true]
  have q136 : ∀ st wt many, st.length = 8 → wt.length = 64 → (h.set p (.row t_sha_Hash (hashC st wt many all') 138 (some (0, 0)))).cell ⟨p, 136, none⟩ = some (.int .i64 (many : Int)) := fun st wt many ls lw => by
    rw [cell_row (Hp.set_same ..)]; exact hashC_136 ls lw
  have q1 := q136 st wt many ls lw
  simp (disch := omega) only [GL, RL, ht2, ht3, q1]
  rw [q_slArrLo (n := 64) (s := 1) u_64_uint8 z_uint8 _ _ many (by omega), if_neg (by omega)]
  simp only [add_off, Nat.mul_one]
  obtain ⟨c, hcc⟩ : ∃ c, (b.drop i).take (64 - many) = c := ⟨_, rfl⟩
  have lc : c.length = min (64 - many) (b.length - i) := by rw [← hcc, List.length_take, ld]
  have hr' := hr.mono (del_cle h p (.row t_sha_Hash (hashC st wt many all') 138 (some (0, 0))))
  refine aw_copyMinG (xs := hashC st wt many all') (f := (0, 0)) (n := (b.drop i).length) (ys := nv .u8 (b.drop i)) u_Sl_uint8 z_uint8 (Hp.set_same ..) hr' (nv_flat _ _) (by rw [hashC_len ls lw]; omega) (fun j _ => by simp) ?_
  rw [nv_take, hcc, hashC_put ls lw (by omega), Hp.set_set]
  have en : Nat.min (b.drop i).length (64 - many) = c.length := by rw [lc, ld]; exact Nat.min_comm _ _
  rw [en]
  obtain ⟨wt', hwt'⟩ : ∃ wt', wt.take many ++ c ++ wt.drop (many + c.length) = wt' := ⟨_, rfl⟩
  have bc : Bytes c := by rw [← hcc]; exact (bb.drop _).take _
  have bw' : Bytes wt' := by rw [← hwt']; exact ((bw.take _).append bc).append (bw.drop _)
  have lw' : wt'.length = 64 := by rw [← hwt', List.length_append, List.length_append, List.length_take, List.length_drop]; omega
  have etk : b.take (i + c.length) = b.take i ++ c := by
    have h1 := List.take_append_drop i b
    have h2 : c = (b.drop i).take c.length := by
      rcases Nat.le_total (64 - many) (b.drop i).length with q | q
      · rw [show c.length = 64 - many by omega]; exact hcc.symm
      · rw [show c.length = (b.drop i).length by omega, List.take_length, ← hcc, List.take_of_length_le q]
    conv => lhs; rw [← h1]
    have l1 : (b.take i).length = i := by rw [List.length_take]; omega
    rw [List.take_append, List.take_of_length_le (by omega), l1, Nat.add_sub_cancel_left, ← h2]
  have q2 := q136 st wt' many ls lw'
  have es : ((many : Int) + (c.length : Int)) = ((many + c.length : Nat) : Int) := by omega
  rw [hwt']
  simp (disch := omega) only [GL, RL, ht3, q2, es, wi64]
  refine aw_store z_int rfl (put_row (Hp.set_same ..) (by rw [hashC_len ls lw']; omega) (by simp) _) ?_
  rw [Hp.set_set, hashC_set136 ls lw']
  rw [q_slLo (lo := c.length) u_Sl_uint8 z_uint8 a1 (b.drop i).length c1 .i64 (by omega) (by omega)]
  have hr2 : Rn (h.del p) .u8 (.slice (SL.cut a1 c1 c.length 1) ((b.drop i).length - c.length) (c1 - c.length)) (b.drop (i + c.length)) := by
    have := hr.cut c.length (b.drop i).length (by omega) (Nat.le_refl _)
    rwa [List.take_length, List.drop_drop] at this
  have q3 := q136 st wt' (many + c.length) ls lw'
  have e64 : ((((many + c.length : Nat) : Int)) == 64) = decide (many + c.length = 64) := by rw [Bool.eq_iff_iff, beq_iff_eq, decide_eq_true_eq]; omega
  simp (disch := omega) only [GL, RL, ht3, q3, e64]
  have c0' : 0 < c.length := by omega
  by_cases hf : many + c.length = 64
  · simp (disch := omega) only [hf, decide_true, if_true, GL, RL, ht2, s64]
    have hR : HashRow (h.set p (.row t_sha_Hash (hashC st wt' 64 all') 138 (some (0, 0)))) p st wt' 64 all' := Hp.set_same ..
    refine T_shaBlock hR ws ls lw' (row_rn ls lw' hR) bw' lw' ?_
    have lwk := workL_len shaK st wt'
    refine aw_store z_int rfl (put_row (Hp.set_same ..) (by rw [hashC_len lwk lw']; omega) (by simp) _) ?_
    have e136 := hashC_set136 (many := 64) (all := all') lwk lw' 0
    rw [Hp.set_set, Hp.set_set]
    refine ⟨_, .refl _, b.length - (i + c.length), by omega, i + c.length, workL shaK st wt', wt', 0, _, rfl, by omega, by rw [← e136]; rfl, ?_, bw', hr2, rfl⟩
    have := hs.full c hf
    rw [hwt', List.append_assoc, ← etk] at this
    exact this
  · simp (disch := omega) only [hf, decide_false, Bool.false_eq_true, if_false]
    refine ⟨_, .refl _, b.length - (i + c.length), by omega, i + c.length, st, wt', many + c.length, _, rfl, by omega, rfl, ?_, bw', hr2, rfl⟩
    have := hs.part c (by omega)
    rw [hwt', List.append_assoc, ← etk] at this
    exact this
theorem T_shaSum {p : Nat} {st wt M : List Nat} {many : Nat} (hb : HashRow h p st wt many M.length) (hs : Hst M st wt many) (bw : Bytes wt) (lM : M.length ≤ 1099511627776)
    (k : ∀ r h', Nn h t_uint8 .u8 r h' (shaL M) → K r h') : Cn P n_sha_Hash_Sum #[.pointer (some ⟨p, 0, none⟩)] h K := by
  refine Cn_wk (F_sha_Hash_Sum ?_)
  unfold s_sha_Hash_Sum
  have ls := hs.len
  have lw := hs.2.2.1
  have hm := hs.many_lt
  have lC := hashC_len (many := many) (all := M.length) ls lw
  refine (q_nil _).mpr ?_
  rw [q_ldRow (ys := hashC st wt many M.length) u_sha_Hash rfl (by rw [lC]; exact sz_hash) hb]
  refine aw_allocL zHash zr_hash rfl fun r3 hr3 => ?_
  have flC : ∀ y ∈ hashC st wt many M.length, flat y = true := by
    intro y hy
    rcases List.mem_append.1 hy with q | q
    · exact nv_flat _ _ y q
    rcases List.mem_append.1 q with q | q
    · exact nv_flat _ _ y q
    rcases List.mem_append.1 q with q | q
    · exact nv_flat _ _ y q
    · simp only [List.mem_cons, List.not_mem_nil, or_false] at q
      rcases q with rfl | rfl <;> rfl
  refine aw_storeRow (ys := hashC st wt many M.length) (by rw [lC]; exact sz_hash) (Hp.set_same ..) (by rw [lC, zHash_len]) flC (fun i _ => by simp) ?_
  rw [Hp.set_set, zHash_len]
  have n3 : p ≠ r3 := by rintro rfl; rw [HashRow, hr3] at hb; cases hb
  have hb3 : HashRow (h.set r3 (.row t_sha_Hash (hashC st wt many M.length) 138 (some (0, 0)))) p st wt many M.length := by rw [HashRow, Hp.set_ne _ _ n3]; exact hb
  have c136 : (h.set r3 (.row t_sha_Hash (hashC st wt many M.length) 138 (some (0, 0)))).cell ⟨p, 136, none⟩ = some (.int .i64 (many : Int)) := by rw [cell_row hb3]; exact hashC_136 ls lw
  have e119 : (119 : Int) - (many : Int) = ((119 - many : Nat) : Int) := by omega
  have em : ((119 - many : Nat) : Int).tmod 64 = (((119 - many) % 64 : Nat) : Int) := by rw [Int.tmod_eq_emod_of_nonneg (by omega)]; exact (Int.natCast_emod _ 64).symm
  have e1 : (1 : Int) + (((119 - many) % 64 : Nat) : Int) = ((1 + (119 - many) % 64 : Nat) : Int) := by omega
  have hlt64 : (119 - many) % 64 < 64 := Nat.mod_lt _ (by omega)
  simp (disch := omega) only [GL, RL, ht3, c136, e119, wi64, em, e1]
  obtain ⟨np, hnp⟩ : ∃ np, (119 - many) % 64 = np := ⟨_, rfl⟩
  rw [hnp] at hlt64 ⊢
  refine aw_make (n := 1 + np) (c := 1 + np) u_Sl_uint8 nfo_uint8 rfl (Nat.le_refl _) (by omega) (by omega) fun t18 h4 n4 => ?_
  obtain ⟨bb, cb, fb, hbb, _, rfl, _, _⟩ := n4.form (by omega)
  rw [replicate_nv] at n4
  simp (disch := omega) only [GL, RL, Int.toNat_zero]
  refine aw_storeN (i := 0) z_uint8 n4 (by omega) rfl fun h5 n5 => ?_
  have epad : (List.replicate (1 + np) 0).set 0 128 = padE M.length := by
    rw [Nat.add_comm, List.replicate_succ, List.set_cons_zero]
    unfold padE
    rw [← hs.2.1]
    have : (119 - many) % 64 = np := hnp
    have e : (119 - M.length % 64) % 64 = np := by rw [← hs.2.1]; exact this
    rw [← hnp]; rfl
  have h128 : (128 : Int) = ((128 : Nat) : Int) := rfl
  rw [h128, nv_set, epad] at n5
  have lpad : (padE M.length).length = 1 + np := by
    rw [← epad, List.length_set, List.length_replicate]
  have n5' : Nn (h.set r3 (.row t_sha_Hash (hashC st wt many M.length) 138 (some (0, 0)))) t_uint8 .u8 (.slice (some ⟨bb, 0, none⟩) (1 + np) cb) h5 (padE M.length) := by unfold Nn; rw [lpad]; exact n5
  have x5 := n5'.ext
  have nb3 : bb ≠ r3 := by rintro rfl; rw [Hp.set_same] at hbb; cases hbb
  have hb5 : HashRow h5 r3 st wt many M.length := x5 _ _ (Hp.set_same ..)
  have hp5 : HashRow h5 p st wt many M.length := x5 _ _ hb3
  have rn5 : Rn (h5.del r3) .u8 (.slice (some ⟨bb, 0, none⟩) (1 + np) cb) (padE M.length) := by
    obtain ⟨e1, a, c, e2, e3, e4⟩ := n5'.rn
    refine ⟨e1, a, c, e2, e3, ?_⟩
    rcases e4 with e4 | ⟨b', o', ea, e4⟩
    · exact .inl e4
    · refine .inr ⟨b', o', ea, fun j x ex => ?_⟩
      have := e4 j x ex
      simp only [Value.slice.injEq] at e2
      rw [← e2.1] at ea
      simp only [Option.some.injEq, Addr.mk.injEq] at ea
      unfold Hp.cell at this ⊢
      rw [Hp.del_ne _ (by show b' ≠ r3; rw [← ea.1]; exact nb3)]
      exact this
  refine T_shaAdd hb5 hs bw rn5 (padE_bytes _) (by omega) (by omega) fun st1 wt1 many1 hs1 bw1 => ?_
  have c137 : (h5.set r3 (.row t_sha_Hash (hashC st1 wt1 many1 ((M.length + (padE M.length).length) % 18446744073709551616)) 138 (some (0, 0)))).cell ⟨p, 137, none⟩ = some (.int .u64 ((M.length : Nat) : Int)) := by
    unfold Hp.cell
    rw [Hp.set_ne _ _ n3, hp5]
    exact hashC_137 ls lw
  have e8 : (8 : Int) * (M.length : Int) = ((8 * M.length : Nat) : Int) := by omega
  simp (disch := omega) only [GL, RL, ht4, c137, e8, wu64i]
  have lh5 : Hp.le h h5 := (le_fresh hr3).trans x5.le
  have le5 : ∀ X, Hp.le h (h5.set r3 X) := fun X b o e => by
    have : b ≠ r3 := by rintro rfl; rw [hr3] at e; cases e
    rw [Hp.set_ne _ _ this]
    exact lh5 b o e
  obtain ⟨all1, hall1⟩ : ∃ a, (M.length + (padE M.length).length) % 18446744073709551616 = a := ⟨_, rfl⟩
  have hal : all1 < 18446744073709551616 := by rw [← hall1]; exact Nat.mod_lt _ (by decide)
  rw [hall1]
  have hb6 : HashRow (h5.set r3 (.row t_sha_Hash (hashC st1 wt1 many1 all1) 138 (some (0, 0)))) r3 st1 wt1 many1 all1 := Hp.set_same ..
  have le6 := le5 (.row t_sha_Hash (hashC st1 wt1 many1 all1) 138 (some (0, 0)))
  have none6 : (h5.set r3 (.row t_sha_Hash (hashC st1 wt1 many1 all1) 138 (some (0, 0)))) r3 ≠ none := by rw [Hp.set_same]; simp
  generalize h5.set r3 (.row t_sha_Hash (hashC st1 wt1 many1 all1) 138 (some (0, 0))) = h6 at hb6 le6 none6 ⊢
  refine T_word_Big64 (8 * M.length) (by omega) fun t28 h7 n7 => ?_
  have hb7 : HashRow h7 r3 st1 wt1 many1 all1 := n7.ext _ _ hb6
  obtain ⟨b7, c7, f7, hb7n, _, e7, hh7, _⟩ := n7.form (by rw [bg_len]; omega)
  have nb7 : b7 ≠ r3 := by rintro rfl; exact none6 hb7n
  have rn7 : Rn (h7.del r3) .u8 t28 (bg 8 (8 * M.length)) := by
    obtain ⟨e1, a, c, e2, e3, e4⟩ := n7.rn
    refine ⟨e1, a, c, e2, e3, ?_⟩
    rcases e4 with e4 | ⟨b', o', ea, e4⟩
    · exact .inl e4
    · refine .inr ⟨b', o', ea, fun j x ex => ?_⟩
      have := e4 j x ex
      rw [e2] at e7
      simp only [Value.slice.injEq] at e7
      rw [ea] at e7
      simp only [Option.some.injEq, Addr.mk.injEq] at e7
      unfold Hp.cell at this ⊢
      rw [Hp.del_ne _ (by show b' ≠ r3; rw [e7.1.1]; exact nb7)]
      exact this
  refine T_shaAdd hb7 hs1 bw1 rn7 (bg_bytes _ _) (by rw [bg_len]; omega) hal fun st2 wt2 many2 hs2 bw2 => ?_
  have le7 : Hp.le h (h7.set r3 (.row t_sha_Hash (hashC st2 wt2 many2 ((all1 + (bg 8 (8 * M.length)).length) % 18446744073709551616)) 138 (some (0, 0)))) := fun b o e => by
    have : b ≠ r3 := by rintro rfl; rw [hr3] at e; cases e
    rw [Hp.set_ne _ _ this]
    exact (le6.trans n7.ext.le) b o e
  have hrow : HashRow (h7.set r3 (.row t_sha_Hash (hashC st2 wt2 many2 ((all1 + (bg 8 (8 * M.length)).length) % 18446744073709551616)) 138 (some (0, 0)))) r3 st2 wt2 many2 ((all1 + (bg 8 (8 * M.length)).length) % 18446744073709551616) := Hp.set_same ..
  generalize h7.set r3 (.row t_sha_Hash (hashC st2 wt2 many2 ((all1 + (bg 8 (8 * M.length)).length) % 18446744073709551616)) 138 (some (0, 0))) = h8 at le7 hrow ⊢
  have ls2 := hs2.len
  have ws2 := hs2.w
  have lnS : (nv .u32 st2).length = 8 := by rw [nv_len, ls2]
  have hsha : shaL M = outS st2 8 := by
    have e : st2 = foldB shaK shaH (padS M) ((padS M).length / 64) := by
      have := hs2.1
      unfold padS
      exact this
    rw [e]; rfl
  rw [hsha] at k
  simp (disch := omega) only [GL, RL, ht0]
  rw [q_ldAgg (ys := nv .u32 st2) u_8_uint32 rfl (by rw [lnS]; exact z_8_uint32) fun j x e => by
    rw [cell_row hrow, Nat.zero_add, hashC, List.getElem?_append_left (List.getElem?_eq_some_iff.1 e).1]; exact e]
  refine Lp_mk (fun m vs h' => ∃ (i : Nat) (vo : Value), i + m = 8 ∧ Nn h8 t_uint8 .u8 vo h' (outS st2 i) ∧ vs = [vo, .int .i64 (i : Int)]) 8 ⟨0, .slice none 0 0, rfl, Nn.nil .., rfl⟩ ?_
  rintro m vs h9 ⟨i, vo, hi, nO, rfl⟩
  have e8' : decide ((i : Int) < 8) = decide (i < 8) := lt_dec i 8
  simp (disch := omega) only [GL, RL, e8']
  by_cases hlt : i < 8
  · simp only [hlt, decide_true, if_true]
    have idx : ∀ {H : Hp} {K : Value → Prop}, q P H (Instr.index t_8_uint32 (.agg (nv .u32 st2).toArray) (.int .i64 (i : Int))) K = K (.int .u32 ((st2.getD i 0 : Nat) : Int)) := fun {H K} => by
      match st2, ls2, i, hlt with
      | [a, b, c, d, e, f, g, z], _, i, hlt =>
        have : i = 0 ∨ i = 1 ∨ i = 2 ∨ i = 3 ∨ i = 4 ∨ i = 5 ∨ i = 6 ∨ i = 7 := by omega
        rcases this with rfl | rfl | rfl | rfl | rfl | rfl | rfl | rfl <;> exact q_of (by kernel_rfl) K
    rw [idx]
    have hw := ws2.getD i
    refine T_word_Big32 _ hw fun r hA nA => ?_
    have lo := outS_len st2 i
    refine aw_appendN u_Sl_uint8 u_Sl_uint8 nfo_uint8 rfl (by omega) nO nA (nv_flat _ _) (by rw [lo, bg_len]; omega) fun vo' hB nB => ?_
    simp (disch := omega) only [GL, RL, wi64]
    refine ⟨hB, .refl _, m - 1, by omega, i + 1, vo', by omega, ?_, rfl⟩
    rw [← nv_app] at nB
    unfold Nn
    rw [outS, List.length_append]
    exact nB
  simp only [hlt, decide_false, Bool.false_eq_true, if_false]
  obtain rfl : i = 8 := by omega
  obtain ⟨h0, l0, n0⟩ := Nn.down le7 nO
  exact ⟨h0, l0, k _ _ n0⟩
theorem T_shaOf {v : Value} {b : List Nat} (hv : Rn h .u8 v b) (bb : Bytes b) (lb : b.length ≤ 1099511627776) (k : ∀ r h', Nn h t_uint8 .u8 r h' (shaL b) → K r h') : Cn P n_sha_Of #[v] h K := by
  refine Cn_wk (F_sha_Of ?_)
  unfold s_sha_Of
  refine T_shaNew fun p hp => ?_
  have hR : HashRow (h.set p (.row t_sha_Hash (hashC shaH (List.replicate 64 0) 0 0) 138 (some (0, 0)))) p shaH (List.replicate 64 0) 0 0 := Hp.set_same ..
  have hd : Hp.cle h ((h.set p (.row t_sha_Hash (hashC shaH (List.replicate 64 0) 0 0) 138 (some (0, 0)))).del p) := fun a x e => by
    unfold Hp.cell at e ⊢
    by_cases q : a.block = p
    · rw [q, hp] at e
      split at e <;> cases e
    · rw [Hp.del_ne _ q, Hp.set_ne _ _ q]; exact e
  refine T_shaAdd hR Hst.nil (by intro x hx; rw [(List.mem_replicate.1 hx).2]; decide) (hv.mono hd) bb lb (by decide) fun st wt many hs bw => ?_
  rw [Hp.set_set, List.nil_append] at *
  have e0 : (0 + b.length) % 18446744073709551616 = b.length := by omega
  rw [e0]
  refine T_shaSum (M := b) (Hp.set_same ..) hs bw lb fun r h' n => ?_
  obtain ⟨h0, l0, n0⟩ := Nn.down (le_fresh hp) n
  exact ⟨h0, l0, k _ _ n0⟩
end
end Go.Proofs.YtlkhmddmdmlffaaGreatDoor
set_option linter.unusedSimpArgs false
set_option linter.unusedVariables false
set_option maxRecDepth 100000
set_option maxHeartbeats 4000000
namespace Go.Proofs.YtlkhmddmdmlffaaGreatDoor
open Go Go.SL Go.Pure
section
variable {h : Hp} {K : Value → Hp → Prop}
theorem T_ref_shaOf {v : Value} {b : List Nat} (hv : Rn h .u8 v b) (bb : Bytes b) (lb : b.length ≤ 1099511627776) (k : ∀ r h', Nn h t_uint8 .u8 r h' (shaL b) → K r h') : Cn P n_orlopref02_Of #[v] h K := by
  refine Cn_wk (F_orlopref02_Of ?_)
  unfold s_orlopref02_Of
  refine T_ref_Pad hv lb fun v10 h1 n1 => ?_
  refine T_ref_H fun v11 h2 n2 => ?_
  refine T_ref_K fun v12 h3 n3 => ?_
  have lp := padS_len b
  have bp := padS_bytes bb
  have lp2 : (padS b).length ≤ b.length + 200 := by
    unfold padS padE
    rw [List.length_append, List.length_append, List.length_append, List.length_replicate, bg_len, List.length_singleton]
    have := Nat.mod_lt (119 - b.length % 64) (show 64 > 0 by omega)
    omega
  unfold shaL at k
  generalize padS b = p at n1 lp bp lp2 k
  have r10 : Rn h3 .u8 v10 p := n1.rn.mono (n2.cle.trans n3.cle)
  have r12 : Rn h3 .u32 v12 shaK := n3.rn
  have le03 : Hp.le h h3 := (n1.le.trans n2.le).trans n3.le
  refine Lp_mk (fun m vs h' => ∃ (n : Nat) (w : Value), n + m = p.length / 64 ∧ Hp.ext h3 h' ∧ Rn h' .u32 w (foldB shaK shaH p n) ∧ vs = [w, .int .i64 ((64 * n : Nat) : Int)]) (p.length / 64) ⟨0, v11, by omega, .refl _, n2.rn.mono n3.cle, rfl⟩ ?_
  rintro m vs h4 ⟨n, w, hn, x4, rw4, rfl⟩
  obtain ⟨a10, c10, rfl, hc10⟩ := r10.shape
  have ell : decide (((64 * n : Nat) : Int) < ((p.length : Nat) : Int)) = decide (n < p.length / 64) := by rw [decide_eq_decide]; omega
  have e64 : ((64 * n : Nat) : Int) + 64 = ((64 * n + 64 : Nat) : Int) := by omega
  simp (disch := omega) only [GL, RL, ell, wi64, e64]
  by_cases hlt : n < p.length / 64
  · simp only [hlt, decide_true, if_true]
    refine q_slRnLH u_Sl_uint8 z_uint8 (r10.mono x4.cle) .i64 .i64 (64 * n) (64 * n + 64) (by omega) (by omega) fun w' hw' => ?_
    have ebl : (p.take (64 * n + 64)).drop (64 * n) = (p.drop (64 * n)).take 64 := by rw [List.drop_take, show 64 * n + 64 - 64 * n = 64 by omega]
    rw [ebl] at hw'
    have ef : foldB shaK shaH p (n + 1) = workL shaK (foldB shaK shaH p n) ((p.drop (64 * n)).take 64) := rfl
    have wf := foldB_w (K := shaK) (b := p) shaH_w n
    have lf := foldB_len (K := shaK) (b := p) shaH_len n
    refine T_ref_Work rw4 (r12.mono x4.cle) hw' wf lf ((bp.drop _).take _) (by rw [List.length_take, List.length_drop]; omega) fun w5 h5 n5 => ?_
    rw [← ef] at n5
    exact ⟨h5, .refl _, m - 1, by omega, n + 1, w5, by omega, x4.trans n5.ext, n5.rn, by rw [show 64 * (n + 1) = 64 * n + 64 by omega]⟩
  simp only [hlt, decide_false, Bool.false_eq_true, if_false]
  obtain rfl : n = p.length / 64 := by omega
  have ls2 := foldB_len (K := shaK) (b := p) shaH_len (p.length / 64)
  have ws2 := foldB_w (K := shaK) (b := p) shaH_w (p.length / 64)
  generalize foldB shaK shaH p (p.length / 64) = st at rw4 k ls2 ws2
  obtain ⟨aw0, cw, rfl, hcw⟩ := rw4.shape
  obtain ⟨bw, ow, rfl, cW⟩ := rw4.pos (by omega)
  refine Lp_mk (fun m vs h' => ∃ (i : Nat) (vo : Value), i + m = 8 ∧ Nn h4 t_uint8 .u8 vo h' (outS st i) ∧ vs = [vo, .int .i64 (i : Int)]) 8 ⟨0, .slice none 0 0, rfl, Nn.nil .., rfl⟩ ?_
  rintro m vs h9 ⟨i, vo, hi, nO, rfl⟩
  have e8' : decide ((i : Int) < 8) = decide (i < 8) := lt_dec i 8
  by_cases hlt8 : i < 8
  · have cI := nO.cle _ _ (cW i (by omega))
    have hw := ws2.getD i
    simp (disch := omega) only [GL, RL, e8', hlt8, decide_true, if_true, cI, wu64i]
    refine T_orlopref01_Little (st.getD i 0) 4 (by omega) (by omega) fun v37 hA nA => ?_
    refine T_ref_Back nA.rn (le_bytes 4 _) (by rw [le_len]; omega) fun v38 hB nB => ?_
    have nB' : Nn hA t_uint8 .u8 v38 hB (bg 4 (st.getD i 0)) := nB
    obtain ⟨bA, cA, fA, hbA, _, _, hhA, _⟩ := nA.form (by rw [le_len]; omega)
    obtain ⟨bB, cB, fB, hbB, _, _, hhB, _⟩ := nB'.form (by rw [bg_len]; omega)
    have oA := New.add nO hbA (.row t_uint8 (nv .u8 (le 4 (st.getD i 0))) (cA * 1) (some fA))
    rw [← hhA] at oA
    have oB := New.add oA hbB (.row t_uint8 (nv .u8 (bg 4 (st.getD i 0))) (cB * 1) (some fB))
    rw [← hhB] at oB
    have lo := outS_len st i
    refine aw_append u_Sl_uint8 u_Sl_uint8 nfo_uint8 rfl (by omega) oB nB'.rn (nv_flat _ _) (by rw [lo, bg_len]; omega) ((le_fresh (nO.ext.none hbA)).trans (le_fresh (oA.ext.none hbB))) fun vo' hC nC => ?_
    rw [wi64 (by omega) (by omega)]
    refine ⟨hC, .refl _, m - 1, by omega, i + 1, vo', by omega, ?_, rfl⟩
    rw [← nv_app] at nC
    unfold Nn
    rw [outS, List.length_append]
    exact nC
  simp (disch := omega) only [GL, RL, e8', hlt8, decide_false, Bool.false_eq_true, if_false]
  obtain rfl : i = 8 := by omega
  obtain ⟨h0, l0, n0⟩ := Nn.down (le03.trans x4.le) nO
  exact ⟨h0, l0, k _ _ n0⟩
end
end Go.Proofs.YtlkhmddmdmlffaaGreatDoor
set_option linter.unusedSimpArgs false
set_option linter.unusedVariables false
set_option maxRecDepth 100000
set_option maxHeartbeats 2000000
namespace Go.Proofs.YtlkhmddmdmlffaaGreatDoor
open Go Go.SL Go.Pure
theorem leval_set (l : List Nat) (i x : Nat) (hi : i < l.length) : leval (l.set i x) + 256 ^ i * l.getD i 0 = leval l + 256 ^ i * x := by
  induction l generalizing i with
  | nil => simp at hi
  | cons y l ih =>
    cases i with
    | zero => simp [leval]; omega
    | succ i =>
      have := ih i (by simpa using hi)
      simp only [List.set_cons_succ, leval, List.getD_cons_succ, Nat.pow_succ]
      have e1 : 256 ^ i * 256 * l.getD i 0 = 256 * (256 ^ i * l.getD i 0) := by rw [Nat.mul_comm (256 ^ i) 256, Nat.mul_assoc]
      have e2 : 256 ^ i * 256 * x = 256 * (256 ^ i * x) := by rw [Nat.mul_comm (256 ^ i) 256, Nat.mul_assoc]
      rw [e1, e2]
      omega
/-- What is carried along in a product. -/
def Mul (a b : List Nat) (i k c : Nat) (o : List Nat) : Prop :=
  o.length = 36 ∧ Bytes o ∧ c < 256 ∧ leval o + 256 ^ (i + k) * c = leval (a.take i) * leval b + 256 ^ i * (a.getD i 0 * leval (b.take k))
theorem Mul.step {a b o : List Nat} {i k c : Nat} (m : Mul a b i k c o) (ha : Bytes a) (hb : Bytes b) (hk : i + k < 36) (v : Nat) (hv : v = o.getD (i + k) 0 + c + a.getD i 0 * b.getD k 0) : Mul a b i (k + 1) (v / 256) (o.set (i + k) (v % 256)) := by
  obtain ⟨lo, bo, hc, e⟩ := m
  have h1 := bo.getD (i + k)
  have h2 := ha.getD i
  have h3 := hb.getD k
  have h4 : a.getD i 0 * b.getD k 0 ≤ 255 * 255 := Nat.mul_le_mul (by omega) (by omega)
  refine ⟨by rw [List.length_set]; exact lo, bo.set _ (Nat.mod_lt _ (by decide)), by omega, ?_⟩
  have hs := leval_set o (i + k) (v % 256) (by omega)
  have ht := leval_take_succ b k
  rw [ht]
  have p1 : 256 ^ (i + (k + 1)) = 256 ^ (i + k) * 256 := by rw [← Nat.add_assoc, Nat.pow_succ]
  have p2 : 256 ^ i * (a.getD i 0 * (leval (b.take k) + 256 ^ k * b.getD k 0)) = 256 ^ i * (a.getD i 0 * leval (b.take k)) + 256 ^ (i + k) * (a.getD i 0 * b.getD k 0) := by
    rw [Nat.mul_add, Nat.mul_add, Nat.pow_add]
    congr 1
    rw [Nat.mul_left_comm (a.getD i 0), ← Nat.mul_assoc]
  rw [p1, p2, Nat.mul_assoc]
  have p3 : 256 ^ (i + k) * (256 * (v / 256)) + 256 ^ (i + k) * (v % 256) = 256 ^ (i + k) * v := by rw [← Nat.mul_add, Nat.div_add_mod]
  have p4 : 256 ^ (i + k) * v = 256 ^ (i + k) * o.getD (i + k) 0 + 256 ^ (i + k) * c + 256 ^ (i + k) * (a.getD i 0 * b.getD k 0) := by rw [hv, Nat.mul_add, Nat.mul_add]
  omega
end Go.Proofs.YtlkhmddmdmlffaaGreatDoor
set_option linter.unusedSimpArgs false
set_option linter.unusedVariables false
namespace Go.Pure
abbrev PP : Nat := 1361129467683753853853498429727072845819
/-- What is less by a multiple. -/
def Red (a b : Nat) : Prop := ∃ q, a = b + PP * q
theorem Red.refl (a : Nat) : Red a a := ⟨0, rfl⟩
theorem Red.of {a b : Nat} (e : a = b) : Red a b := ⟨0, e⟩
theorem Red.trans {a b c : Nat} (x : Red a b) (y : Red b c) : Red a c := by
  obtain ⟨q, rfl⟩ := x
  obtain ⟨r, rfl⟩ := y
  exact ⟨r + q, by rw [Nat.mul_add]; omega⟩
theorem Red.add {a b : Nat} (x : Red a b) (c : Nat) : Red (a + c) (b + c) := by
  obtain ⟨q, rfl⟩ := x
  exact ⟨q, by omega⟩
theorem Red.addL {a b : Nat} (c : Nat) (x : Red a b) : Red (c + a) (c + b) := by
  obtain ⟨q, rfl⟩ := x
  exact ⟨q, by omega⟩
theorem getD_setI (l : List Nat) (i j x : Nat) (hi : i < l.length) : (l.set i x).getD j 0 = if j = i then x else l.getD j 0 := by
  simp only [List.getD_eq_getElem?_getD, List.getElem?_set]
  by_cases e : i = j
  · subst e; simp [hi]
  · simp [e, Ne.symm e]
/-- Limbs below a bound. -/
def Lim (B : Nat) (l : List Nat) : Prop := ∀ i, l.getD i 0 < B
theorem Lim.mono {B B' : Nat} {l : List Nat} (h : Lim B l) (hb : B ≤ B') : Lim B' l := fun i => Nat.lt_of_lt_of_le (h i) hb
theorem Lim.set {B : Nat} {l : List Nat} (h : Lim B l) (i : Nat) {x : Nat} (hx : x < B) : Lim B (l.set i x) := by
  intro j
  rcases Nat.lt_or_ge i l.length with hi | hi
  · rw [getD_setI l i j x hi]
    split
    · exact hx
    · exact h j
  · rw [List.set_eq_of_length_le hi]; exact h j
/-! ### Sums -/
/-! ### Carrying -/
end Go.Pure
set_option linter.unusedSimpArgs false
set_option linter.unusedVariables false
set_option maxRecDepth 100000
set_option maxHeartbeats 1000000
namespace Go.Proofs.YtlkhmddmdmlffaaGreatDoor
open Go Go.SL Go.Pure
theorem rf0 {h : Hp} {K : Value → Prop} (r : Nat) : q P h (Instr.fieldAt t_orlopref12_Crypt (.pointer (some ⟨r, 0, none⟩)) 0) K = K (.pointer (some ⟨r, 0, none⟩)) := q_of (by kernel_rfl) K
/-- The cells of the reference's boxes. -/
def RefBoxes (R : Hp) (xs : List Value) (bs : List Box) : Prop :=
  xs.length = bs.length * 5 ∧ ∀ (i : Nat) (b : Box), bs[i]? = some b → ∃ vk vn vb vt vx, (∀ (j : Nat) (y : Value), [vk, vn, vb, vt, vx][j]? = some y → xs[i * 5 + j]? = some y) ∧
    Rn R .u8 vk b.key ∧ Rn R .u8 vn b.nonce ∧ Rn R .u8 vb b.beside ∧ Rn R .u8 vt b.text ∧ Rn R .u8 vx (boxB i (b.text.length + 16))
theorem RefBoxes.mono {R R' : Hp} {xs : List Value} {bs : List Box} (a : RefBoxes R xs bs) (c : Hp.cle R R') : RefBoxes R' xs bs :=
  ⟨a.1, fun i b e => let ⟨vk, vn, vb, vt, vx, h0, h1, h2, h3, h4, h5⟩ := a.2 i b e; ⟨vk, vn, vb, vt, vx, h0, h1.mono c, h2.mono c, h3.mono c, h4.mono c, h5.mono c⟩⟩
section
variable {h : Hp} {K : Value → Hp → Prop}
end
end Go.Proofs.YtlkhmddmdmlffaaGreatDoor
set_option linter.unusedSimpArgs false
set_option linter.unusedVariables false
set_option maxRecDepth 100000
set_option maxHeartbeats 8000000
namespace Go.Proofs.YtlkhmddmdmlffaaGreatDoor
open Go Go.SL Go.Pure
/-- What was made since is to be read, too. -/
def sin (R h H : Hp) : Hp := fun b => (R b).or (if (h b).isNone then H b else none)
theorem sin_stp {R h H : Hp} {S : List Nat} (w : Own R h S) (x : Hp.ext h H) : Stp R h (sin R h H) H S S := by
  refine ⟨fun b o e => by unfold sin; rw [e]; rfl, fun b o _ e => x b o e, fun b o n e => n, fun b o n e r => ?_, ⟨fun b o e => ?_, fun b hb => ?_, fun b hb => ?_⟩⟩
  · unfold sin; rw [r, e]; rfl
  · unfold sin at e
    cases hR : R b with
    | some o' =>
      rw [hR] at e
      have : o' = o := by simpa using e
      subst this
      exact x _ _ (w.sub _ _ hR)
    | none =>
      rw [hR, Option.none_or] at e
      split at e
      · exact e
      · cases e
  · obtain ⟨o, e⟩ := w.kn b hb
    unfold sin; rw [w.dis b hb, e]; rfl
  · obtain ⟨o, e⟩ := w.kn b hb
    exact ⟨o, x _ _ e⟩
theorem sin_ext {R h H H' : Hp} (x : Hp.ext H H') : Hp.ext (sin R h H) (sin R h H') := fun b o e => by
  unfold sin at e ⊢
  cases hR : R b with
  | some o' => rw [hR] at e; simpa using e
  | none =>
    rw [hR] at e
    rw [Option.none_or] at e ⊢
    split at e
    · rename_i q; rw [if_pos q]; exact x _ _ e
    · cases e
theorem sin_new {R h H H' : Hp} {S : List Nat} {v : Value} {l : List Nat} (w : Own R h S) (x : Hp.ext h H) (n : Nn H t_uint8 .u8 v H' l) : Rn (sin R h H') .u8 v l := by
  rcases n.2 with ⟨rfl, e, rfl⟩ | ⟨b, c, f, hb, hc, rfl, rfl, hf⟩
  · have : l = [] := List.eq_nil_of_length_eq_zero e
    subst this
    exact rn_nil _ _
  · have hb0 := x.none hb
    have hr : sin R h (H.set b (.row t_uint8 (nv .u8 l) (c * 1) (some f))) b = some (.row t_uint8 (nv .u8 l) (c * 1) (some f)) := by
      unfold sin
      rw [w.sub.none hb0, hb0]
      simp
    exact ⟨by rw [nv_len]; omega, _, c, rfl, hc, .inr ⟨b, 0, rfl, fun i y e => by rw [cell_row hr, Nat.zero_add]; exact e⟩⟩
/-- What is at hand, of what was made since. -/
def Got (R h H : Hp) (L : List (Value × List Nat)) : Prop := Hp.ext h H ∧ ∀ q, q ∈ L → Rn (sin R h H) .u8 q.1 q.2
theorem got_app {R h H : Hp} {S : List Nat} {L : List (Value × List Nat)} {y : Value} {l : List Nat} {r : Nat} {F : Value → Hp → Prop} (G : Got R h H L) (w : Own R h S) (ry : Rn R .u8 y l) (hl : l.length ≤ 1099511627776)
    (k : ∀ v H', Got R h H' ((v, l) :: L) → F v H') : aw P (Builtin.append_ #[t_Sl_uint8, t_Sl_uint8] t_Sl_uint8 #[.slice (some ⟨r, 0, none⟩) 0 0, y]) F H := by
  have rH : Rn H .u8 y l := ry.mono (w.sub.cle.trans G.1.cle)
  refine aw_append0 u_Sl_uint8 u_Sl_uint8 nfo_uint8 rfl (by omega) rH (by omega) (fun h0 => ?_) fun v H' nw => ?_
  · have : l = [] := List.eq_nil_of_length_eq_zero h0
    subst this
    refine k _ H ⟨G.1, fun q hq => ?_⟩
    rcases List.mem_cons.1 hq with rfl | hq
    · exact ⟨rfl, _, 0, rfl, Nat.le_refl _, .inl rfl⟩
    · exact G.2 q hq
  · have n' : Nn H t_uint8 .u8 v H' l := nw
    refine k v H' ⟨G.1.trans n'.ext, fun q hq => ?_⟩
    rcases List.mem_cons.1 hq with rfl | hq
    · exact sin_new w G.1 n'
    · exact (G.2 q hq).mono (sin_ext n'.ext).cle
theorem got_nil {H : Hp} {F : Value → Hp → Prop} (k : ∀ r, F (.slice (some ⟨r, 0, none⟩) 0 0) H) : aw P (Instr.buildSlice t_Sl_uint8 0 #[]) F H := aw_nil0 u_Sl_uint8 z_uint8 zr_uint8 rfl k
section
variable {h : Hp} {K : Value → Hp → Prop}
end
end Go.Proofs.YtlkhmddmdmlffaaGreatDoor
set_option linter.unusedSimpArgs false
set_option linter.unusedVariables false
set_option maxRecDepth 100000
set_option maxHeartbeats 1000000
namespace Go.Proofs.YtlkhmddmdmlffaaGreatDoor
open Go Go.SL Go.Pure
/-- Values that are rows of bytes. -/
def PsV (R : Hp) (ws : List Value) (ps : List (List Nat)) : Prop := ws.length = ps.length ∧ ∀ (j : Nat) (p : List Nat), ps[j]? = some p → ∃ y, ws[j]? = some y ∧ Rn R .u8 y p
theorem PsV.mono {R R' : Hp} {ws : List Value} {ps : List (List Nat)} (a : PsV R ws ps) (c : Hp.cle R R') : PsV R' ws ps := ⟨a.1, fun j p e => let ⟨y, h1, h2⟩ := a.2 j p e; ⟨y, h1, h2.mono c⟩⟩
theorem PsV.nil (R : Hp) : PsV R [] [] := ⟨rfl, fun j p e => by simp at e⟩
theorem PsV.one {R : Hp} {y : Value} {p : List Nat} (r : Rn R .u8 y p) : PsV R [y] [p] := ⟨rfl, fun j q e => by
  match j, e with
  | 0, e => simp only [List.getElem?_cons_zero, Option.some.injEq] at e; subst e; exact ⟨y, rfl, r⟩
  | j + 1, e => simp at e⟩
theorem PsV.app {R : Hp} {ws xs : List Value} {ps qs : List (List Nat)} (a : PsV R ws ps) (b : PsV R xs qs) : PsV R (ws ++ xs) (ps ++ qs) := ⟨by rw [List.length_append, List.length_append, a.1, b.1], fun j p e => by
  by_cases hj : j < ps.length
  · rw [List.getElem?_append_left hj] at e
    rw [List.getElem?_append_left (by rw [a.1]; exact hj)]
    exact a.2 j p e
  · rw [List.getElem?_append_right (by omega)] at e
    rw [List.getElem?_append_right (by rw [a.1]; omega), a.1]
    exact b.2 _ p e⟩
theorem PsV.take {R : Hp} {ws : List Value} {ps : List (List Nat)} (a : PsV R ws ps) (i : Nat) : PsV R (ws.take i) (ps.take i) := ⟨by rw [List.length_take, List.length_take, a.1], fun j p e => by
  rw [List.getElem?_take] at e
  split at e
  · rename_i hj
    rw [List.getElem?_take, if_pos hj]
    exact a.2 j p e
  · cases e⟩
theorem PsV.drop {R : Hp} {ws : List Value} {ps : List (List Nat)} (a : PsV R ws ps) (i : Nat) : PsV R (ws.drop i) (ps.drop i) := ⟨by rw [List.length_drop, List.length_drop, a.1], fun j p e => by
  rw [List.getElem?_drop] at e ⊢
  exact a.2 _ p e⟩
theorem PsV.set {R : Hp} {ws : List Value} {ps : List (List Nat)} {y : Value} {p : List Nat} (a : PsV R ws ps) (i : Nat) (r : Rn R .u8 y p) : PsV R (ws.set i y) (ps.set i p) := ⟨by rw [List.length_set, List.length_set, a.1], fun j q e => by
  rw [List.getElem?_set] at e ⊢
  by_cases hij : i = j
  · subst hij
    rw [if_pos rfl] at e ⊢
    split at e
    · rename_i hi
      rw [if_pos (by rw [a.1]; exact hi)]
      cases e
      exact ⟨y, rfl, r⟩
    · cases e
  · rw [if_neg hij] at e ⊢
    exact a.2 j q e⟩
theorem PsV.flat {R : Hp} {ws : List Value} {ps : List (List Nat)} (a : PsV R ws ps) : ∀ y ∈ ws, SL.flat y = true := by
  intro y hy
  obtain ⟨j, hj, rfl⟩ := List.getElem_of_mem hy
  obtain ⟨z, h1, h2⟩ := a.2 j _ (List.getElem?_eq_getElem (by rw [← a.1]; exact hj))
  rw [List.getElem?_eq_getElem hj, Option.some.injEq] at h1
  rw [h1]
  exact rn_flat h2
/-- A row of rows of bytes, to read. -/
def Ps (R : Hp) (v : Value) (ps : List (List Nat)) : Prop := ∃ ws, Rds R 1 v ws ps.length ∧ PsV R ws ps
theorem Ps.mono {R R' : Hp} {v : Value} {ps : List (List Nat)} (a : Ps R v ps) (c : Hp.cle R R') : Ps R' v ps := let ⟨ws, h1, h2⟩ := a; ⟨ws, h1.mono c, h2.mono c⟩
section
variable {h : Hp} {K : Value → Hp → Prop}
end
end Go.Proofs.YtlkhmddmdmlffaaGreatDoor
set_option linter.unusedSimpArgs false
set_option linter.unusedVariables false
set_option maxRecDepth 100000
set_option maxHeartbeats 4000000
namespace Go.Proofs.YtlkhmddmdmlffaaGreatDoor
open Go Go.SL Go.Pure
def cr0 (ideal : Bool) : Cr := if ideal then .book [] [] else .real
theorem bldRC {h : Hp} {K : Value → Prop} (ideal : Bool) : q P h (Instr.build t_orlopref12_Crypt #[(0, .bool ideal)]) K = K (.agg #[.bool ideal, .slice none 0 0, .slice none 0 0]) := by
  cases ideal
  · exact q_of (by kernel_rfl) K
  · exact q_of (by kernel_rfl) K
theorem aw_refBox {h : Hp} {F : Value → Hp → Prop} (ideal : Bool) (k : ∀ r, h r = none → F (.pointer (some ⟨r, 0, none⟩)) (h.set r (.row t_orlopref12_Crypt [.bool ideal, .slice none 0 0, .slice none 0 0] 3 (some (0, 0))))) :
    q P h (Instr.build t_orlopref12_Crypt #[(0, .bool ideal)]) fun t => aw P (Instr.box t_orlopref12_Crypt t) F h := by
  rw [bldRC]
  exact aw_box k
section
variable {h : Hp} {K : Value → Hp → Prop}
end
end Go.Proofs.YtlkhmddmdmlffaaGreatDoor
