/- tarLoose_holds tarLoose proved lifted over: part 1 of its proof; each part's own remarks stand with its declarations. Conditions: each lemma names its own. -/
import Derived.Test.YtflfhbnflcfmgaaGreatDoorTarLoose0
set_option linter.unusedSimpArgs false
set_option linter.unusedVariables false
set_option linter.unusedVariables false
set_option maxRecDepth 100000
namespace Go.Proofs.YtflfhbnflcfmgaaGreatDoor
open Go Go.SL
/-- function 21: (*orlop.tar.reader).entry -/
def s_tar_reader_entry_15 (K : Value → Hp → Prop) (h : Hp) (t4 : Value) : Prop := K t4 h
def s_tar_reader_entry_14 (K : Value → Hp → Prop) (h : Hp) (t0 t4 t16 : Value) : Prop := q P h (Instr.loadAt 37 t16) fun t149 => Cn P 48 #[t149] h fun t150 h => gd t150 true (q P h (nilCk t0) fun t153 => q P h (Instr.fieldAt 45 t153 4) fun t154 => q P h (Instr.loadAt 22 t154) fun t155 => q P h (Builtin.len_ #[22] 3 #[t155]) fun t156 => q P h (binOp .leq 3 t156 (Value.int .i64 256)) fun t157 => s_tar_reader_entry_15 K h t157) (s_tar_reader_entry_15 K h (Value.bool false))
def s_tar_reader_entry_13 (K : Value → Hp → Prop) (h : Hp) (t0 t4 t16 : Value) : Prop := q P emp (nilCk t0) fun t141 => q P h (Instr.fieldAt 45 t141 4) fun t142 => q P h (Instr.loadAt 22 t142) fun t143 => q P h (Instr.loadAt 37 t16) fun t144 => aw P (Instr.buildSlice 22 1 #[(0, t144)]) (fun t145 h => peek P h (Instr.loadAt 22 t142) = some t143 ∧ peek P h (Instr.fieldAt 45 t141 4) = some t142 ∧ aw P (Builtin.append_ #[22, 22] 22 #[t143, t145]) (fun t146 h => q P emp (nilCk t0) fun t147 => q P h (Instr.fieldAt 45 t147 4) fun t148 => aw P (Instr.storeAt 22 t148 t146) (fun _ h => s_tar_reader_entry_14 K h t0 t4 t16) h) h) h
def s_tar_reader_entry_12 (K : Value → Hp → Prop) (h : Hp) (t0 t4 t16 : Value) : Prop := q P h (nilCk t0) fun t133 => q P h (Instr.fieldAt 45 t133 1) fun t134 => aw P (Instr.storeAt 9 t134 (Value.string ⟨#[]⟩)) (fun _ h => q P h (nilCk t0) fun t135 => q P h (Instr.fieldAt 45 t135 2) fun t136 => aw P (Instr.storeAt 9 t136 (Value.string ⟨#[]⟩)) (fun _ h => q P h (nilCk t0) fun t137 => q P h (Instr.fieldAt 45 t137 3) fun t138 => aw P (Instr.storeAt 4 t138 (Value.bool false)) (fun _ h => s_tar_reader_entry_13 K h t0 t4 t16) h) h) h
def s_tar_reader_entry_11 (K : Value → Hp → Prop) (h : Hp) (t0 t4 t16 : Value) : Prop := q P h (nilCk t0) fun t121 => q P h (Instr.fieldAt 45 t121 2) fun t122 => q P h (Instr.loadAt 9 t122) fun t123 => q P h (eqop .neq 9 (.tmp 123) (.const (Value.string ⟨#[]⟩)) t123 (Value.string ⟨#[]⟩)) fun t124 => cnd t124 (q P h (nilCk t0) fun t126 => q P h (Instr.fieldAt 45 t126 2) fun t127 => q P h (Instr.loadAt 9 t127) fun t128 => q P h (Instr.fieldAt 37 t16 3) fun t129 => aw P (Instr.storeAt 9 t129 t128) (fun _ h => s_tar_reader_entry_12 K h t0 t4 t16) h) (s_tar_reader_entry_12 K h t0 t4 t16)
def s_tar_reader_entry_10 (K : Value → Hp → Prop) (h : Hp) (t0 t4 t16 : Value) : Prop := q P h (nilCk t0) fun t111 => q P h (Instr.fieldAt 45 t111 1) fun t112 => q P h (Instr.loadAt 9 t112) fun t113 => q P h (eqop .neq 9 (.tmp 113) (.const (Value.string ⟨#[]⟩)) t113 (Value.string ⟨#[]⟩)) fun t114 => cnd t114 (q P h (nilCk t0) fun t116 => q P h (Instr.fieldAt 45 t116 1) fun t117 => q P h (Instr.loadAt 9 t117) fun t118 => q P h (Instr.fieldAt 37 t16 0) fun t119 => aw P (Instr.storeAt 9 t119 t118) (fun _ h => s_tar_reader_entry_11 K h t0 t4 t16) h) (s_tar_reader_entry_11 K h t0 t4 t16)
def s_tar_reader_entry_9 (K : Value → Hp → Prop) (h : Hp) (t0 t1 t4 t14 t16 : Value) : Prop := q P h (Instr.indexAt 26 t1 (Value.int .i64 156)) fun t82 => q P h (Instr.loadAt 5 t82) fun t83 => q P h (eqop .eql 5 (.tmp 83) (.const (Value.int .u8 120)) t83 (Value.int .u8 120)) fun t85 => cnd t85 (q P h (nilCk t0) fun t87 => q P h (Instr.fieldAt 45 t87 3) fun t88 => q P h (Instr.loadAt 4 t88) fun t89 => q P h (Op.unary .not t89) fun t90 => q P h (nilCk t0) fun t92 => q P h (Instr.fieldAt 45 t92 3) fun t93 => aw P (Instr.storeAt 4 t93 (Value.bool true)) (fun _ h => gd t90 true (Cn P 47 #[t0, t14] h fun t98 h => K t98 h) (K (Value.bool false) h)) h) (
let J16 : Value → Hp → Prop := fun t100 h => cnd t100 (q P h (Instr.fieldAt 37 t16 1) fun t103 => aw P (Instr.storeAt 3 t103 (Value.int .i64 1)) (fun _ h => s_tar_reader_entry_10 K h t0 t4 t16) h) (q P h (eqop .eql 5 (.tmp 83) (.const (Value.int .u8 53)) t83 (Value.int .u8 53)) fun t105 => cnd t105 (q P h (Instr.fieldAt 37 t16 1) fun t106 => aw P (Instr.storeAt 3 t106 (Value.int .i64 2)) (fun _ h => s_tar_reader_entry_10 K h t0 t4 t16) h) (q P h (eqop .eql 5 (.tmp 83) (.const (Value.int .u8 50)) t83 (Value.int .u8 50)) fun t108 => cnd t108 (q P h (Instr.fieldAt 37 t16 1) fun t109 => aw P (Instr.storeAt 3 t109 (Value.int .i64 3)) (fun _ h => s_tar_reader_entry_10 K h t0 t4 t16) h) (K (Value.bool false) h)));
q P h (eqop .eql 5 (.tmp 83) (.const (Value.int .u8 48)) t83 (Value.int .u8 48)) fun t101 => cnd t101 (J16 t101 h) (q P h (eqop .eql 5 (.tmp 83) (.const (Value.int .u8 0)) t83 (Value.int .u8 0)) fun t102 => J16 t102 h))
def s_tar_reader_entry_8 (K : Value → Hp → Prop) (h : Hp) (t0 t1 t4 t5 t6 t8 t14 : Value) : Prop := q P h (Instr.build 37 #[(0, t5), (2, t8), (3, t6), (4, t14)]) fun t80 => aw P (Instr.alloc 37 true (.tuple #[])) (fun t16 h => aw P (Instr.storeAt 37 t16 t80) (fun _ h => s_tar_reader_entry_9 K h t0 t1 t4 t14 t16) h) h
def s_tar_reader_entry_7 (K : Value → Hp → Prop) (h : Hp) (t0 t1 t4 t5 t6 t8 t14 t15 : Value) : Prop := q P h (Op.unary .not t15) fun t75 => cnd t75 (K (Value.bool false) h) (s_tar_reader_entry_8 K h t0 t1 t4 t5 t6 t8 t14)
def s_tar_reader_entry_6 (K : Value → Hp → Prop) (h : Hp) (t0 t1 t4 t5 t6 t8 t10 : Value) : Prop := Cn P 19 #[t0, t10] h fun t71 h => q P h (Instr.extract t71 0) fun t72 => q P h (Instr.extract t71 1) fun t73 => s_tar_reader_entry_7 K h t0 t1 t4 t5 t6 t8 t72 t73
def s_tar_reader_entry_5 (K : Value → Hp → Prop) (h : Hp) (t0 t1 t4 t5 t6 t7 t8 t9 t10 t11 t12 t13 : Value) : Prop := q P h (Op.unary .not t7) fun t43 => gd t43 false (q P h (Op.unary .not t9) fun t46 => gd t46 false (q P h (Op.unary .not t11) fun t50 => gd t50 false (q P h (Op.unary .not t13) fun t54 => gd t54 false (Cn P 46 #[t1] h fun t59 h => q P h (eqop .neq 3 (.tmp 57) (.tmp 59) t12 t59) fun t60 => gd t60 false (q P h (Instr.sliceAt 26 t1 (some (Value.int .i64 257)) (some (Value.int .i64 265)) none) fun t64 => q P h (convert 26 9 t64) fun t65 => q P h (eqop .neq 9 (.tmp 65) (.const (Value.string ⟨#[117, 115, 116, 97, 114, 0, 48, 48]⟩)) t65 (Value.string ⟨#[117, 115, 116, 97, 114, 0, 48, 48]⟩)) fun t66 => cnd t66 (K (Value.bool false) h) (s_tar_reader_entry_6 K h t0 t1 t4 t5 t6 t8 t10)) (cnd (Value.bool true) (K (Value.bool false) h) (s_tar_reader_entry_6 K h t0 t1 t4 t5 t6 t8 t10))) (cnd (Value.bool true) (K (Value.bool false) h) (s_tar_reader_entry_6 K h t0 t1 t4 t5 t6 t8 t10))) (cnd (Value.bool true) (K (Value.bool false) h) (s_tar_reader_entry_6 K h t0 t1 t4 t5 t6 t8 t10))) (cnd (Value.bool true) (K (Value.bool false) h) (s_tar_reader_entry_6 K h t0 t1 t4 t5 t6 t8 t10))) (cnd (Value.bool true) (K (Value.bool false) h) (s_tar_reader_entry_6 K h t0 t1 t4 t5 t6 t8 t10))
def s_tar_reader_entry_4 (K : Value → Hp → Prop) (h : Hp) (t0 t1 t4 t5 t6 t7 t8 t9 t10 t11 : Value) : Prop := q P h (Instr.sliceAt 26 t1 (some (Value.int .i64 148)) (some (Value.int .i64 156)) none) fun t38 => Cn P 45 #[t38] h fun t39 h => q P h (Instr.extract t39 0) fun t40 => q P h (Instr.extract t39 1) fun t41 => s_tar_reader_entry_5 K h t0 t1 t4 t5 t6 t7 t8 t9 t10 t11 t40 t41
def s_tar_reader_entry_3 (K : Value → Hp → Prop) (h : Hp) (t0 t1 t4 t5 t6 t7 t8 t9 : Value) : Prop := q P h (Instr.sliceAt 26 t1 (some (Value.int .i64 124)) (some (Value.int .i64 136)) none) fun t32 => Cn P 45 #[t32] h fun t33 h => q P h (Instr.extract t33 0) fun t34 => q P h (Instr.extract t33 1) fun t35 => s_tar_reader_entry_4 K h t0 t1 t4 t5 t6 t7 t8 t9 t34 t35
def s_tar_reader_entry_2 (K : Value → Hp → Prop) (h : Hp) (t0 t1 t4 t5 t6 t7 : Value) : Prop := q P h (Instr.sliceAt 26 t1 (some (Value.int .i64 100)) (some (Value.int .i64 108)) none) fun t26 => Cn P 45 #[t26] h fun t27 h => q P h (Instr.extract t27 0) fun t28 => q P h (Instr.extract t27 1) fun t29 => s_tar_reader_entry_3 K h t0 t1 t4 t5 t6 t7 t28 t29
def s_tar_reader_entry_1 (K : Value → Hp → Prop) (h : Hp) (t0 t1 t4 : Value) : Prop := Cn P 44 #[t1] h fun t20 h => q P h (Instr.extract t20 0) fun t21 => q P h (Instr.extract t20 1) fun t22 => q P h (Instr.extract t20 2) fun t23 => s_tar_reader_entry_2 K h t0 t1 t4 t21 t22 t23
def s_tar_reader_entry (K : Value → Hp → Prop) (h : Hp) (t0 t1 : Value) : Prop := s_tar_reader_entry_1 K h t0 t1 (Value.bool false)
theorem c_tar_reader_entry_15 {K : Value → Hp → Prop} {h : Hp} {t4 : Value} (s : s_tar_reader_entry_15 K h t4) : SV P Tryz.f21.ntmps (seqR (seqR (seqR (seqR (seqR (seqR (seqR (seqR (seqR (seqR (seqR (seqR (seqR (seqR (seqR (Tryz.f21.body.getD .skip)))))))))))))))) (retP P Tryz.f21.results.toList K) (headOf [4] [t4]) h :=
  SV_of mixed (by kernel_rfl) s
theorem c_tar_reader_entry_14 {K : Value → Hp → Prop} {h : Hp} {t0 t4 t16 : Value} (s : s_tar_reader_entry_14 K h t0 t4 t16) : SV P Tryz.f21.ntmps (seqR (seqR (seqR (seqR (seqR (seqR (seqR (seqR (seqR (seqR (seqR (seqR (seqR (seqR (Tryz.f21.body.getD .skip))))))))))))))) (retP P Tryz.f21.results.toList K) (headOf [0, 4, 16] [t0, t4, t16]) h :=
  cut_at mixed (by kernel_rfl) [4] (fun vs h => s_tar_reader_entry_15 K h (vs.getD 0 undef)) (fun vs h _ x => Eq.mp (by kernel_rfl) (c_tar_reader_entry_15 x)) (by kernel_rfl) s
theorem c_tar_reader_entry_13 {K : Value → Hp → Prop} {h : Hp} {t0 t4 t16 : Value} (s : s_tar_reader_entry_13 K h t0 t4 t16) : SV P Tryz.f21.ntmps (seqR (seqR (seqR (seqR (seqR (seqR (seqR (seqR (seqR (seqR (seqR (seqR (seqR (Tryz.f21.body.getD .skip)))))))))))))) (retP P Tryz.f21.results.toList K) (headOf [0, 4, 16] [t0, t4, t16]) h :=
  cut_at mixed (by kernel_rfl) [0, 4, 16] (fun vs h => s_tar_reader_entry_14 K h (vs.getD 0 undef) (vs.getD 1 undef) (vs.getD 2 undef)) (fun vs h _ x => Eq.mp (by kernel_rfl) (c_tar_reader_entry_14 x)) (by kernel_rfl) s
theorem c_tar_reader_entry_12 {K : Value → Hp → Prop} {h : Hp} {t0 t4 t16 : Value} (s : s_tar_reader_entry_12 K h t0 t4 t16) : SV P Tryz.f21.ntmps (seqR (seqR (seqR (seqR (seqR (seqR (seqR (seqR (seqR (seqR (seqR (seqR (Tryz.f21.body.getD .skip))))))))))))) (retP P Tryz.f21.results.toList K) (headOf [0, 4, 16] [t0, t4, t16]) h :=
  cut_at mixed (by kernel_rfl) [0, 4, 16] (fun vs h => s_tar_reader_entry_13 K h (vs.getD 0 undef) (vs.getD 1 undef) (vs.getD 2 undef)) (fun vs h _ x => Eq.mp (by kernel_rfl) (c_tar_reader_entry_13 x)) (by kernel_rfl) s
theorem c_tar_reader_entry_11 {K : Value → Hp → Prop} {h : Hp} {t0 t4 t16 : Value} (s : s_tar_reader_entry_11 K h t0 t4 t16) : SV P Tryz.f21.ntmps (seqR (seqR (seqR (seqR (seqR (seqR (seqR (seqR (seqR (seqR (seqR (Tryz.f21.body.getD .skip)))))))))))) (retP P Tryz.f21.results.toList K) (headOf [0, 4, 16] [t0, t4, t16]) h :=
  cut_at mixed (by kernel_rfl) [0, 4, 16] (fun vs h => s_tar_reader_entry_12 K h (vs.getD 0 undef) (vs.getD 1 undef) (vs.getD 2 undef)) (fun vs h _ x => Eq.mp (by kernel_rfl) (c_tar_reader_entry_12 x)) (by kernel_rfl) s
theorem c_tar_reader_entry_10 {K : Value → Hp → Prop} {h : Hp} {t0 t4 t16 : Value} (s : s_tar_reader_entry_10 K h t0 t4 t16) : SV P Tryz.f21.ntmps (seqR (seqR (seqR (seqR (seqR (seqR (seqR (seqR (seqR (seqR (Tryz.f21.body.getD .skip))))))))))) (retP P Tryz.f21.results.toList K) (headOf [0, 4, 16] [t0, t4, t16]) h :=
  cut_at mixed (by kernel_rfl) [0, 4, 16] (fun vs h => s_tar_reader_entry_11 K h (vs.getD 0 undef) (vs.getD 1 undef) (vs.getD 2 undef)) (fun vs h _ x => Eq.mp (by kernel_rfl) (c_tar_reader_entry_11 x)) (by kernel_rfl) s
theorem c_tar_reader_entry_9 {K : Value → Hp → Prop} {h : Hp} {t0 t1 t4 t14 t16 : Value} (s : s_tar_reader_entry_9 K h t0 t1 t4 t14 t16) : SV P Tryz.f21.ntmps (seqR (seqR (seqR (seqR (seqR (seqR (seqR (seqR (seqR (Tryz.f21.body.getD .skip)))))))))) (retP P Tryz.f21.results.toList K) (headOf [0, 1, 4, 14, 16] [t0, t1, t4, t14, t16]) h :=
  cut_at mixed (by kernel_rfl) [0, 4, 16] (fun vs h => s_tar_reader_entry_10 K h (vs.getD 0 undef) (vs.getD 1 undef) (vs.getD 2 undef)) (fun vs h _ x => Eq.mp (by kernel_rfl) (c_tar_reader_entry_10 x)) (by kernel_rfl) s
theorem c_tar_reader_entry_8 {K : Value → Hp → Prop} {h : Hp} {t0 t1 t4 t5 t6 t8 t14 : Value} (s : s_tar_reader_entry_8 K h t0 t1 t4 t5 t6 t8 t14) : SV P Tryz.f21.ntmps (seqR (seqR (seqR (seqR (seqR (seqR (seqR (seqR (Tryz.f21.body.getD .skip))))))))) (retP P Tryz.f21.results.toList K) (headOf [0, 1, 4, 5, 6, 8, 14] [t0, t1, t4, t5, t6, t8, t14]) h :=
  cut_at mixed (by kernel_rfl) [0, 1, 4, 14, 16] (fun vs h => s_tar_reader_entry_9 K h (vs.getD 0 undef) (vs.getD 1 undef) (vs.getD 2 undef) (vs.getD 3 undef) (vs.getD 4 undef)) (fun vs h _ x => Eq.mp (by kernel_rfl) (c_tar_reader_entry_9 x)) (by kernel_rfl) s
theorem c_tar_reader_entry_7 {K : Value → Hp → Prop} {h : Hp} {t0 t1 t4 t5 t6 t8 t14 t15 : Value} (s : s_tar_reader_entry_7 K h t0 t1 t4 t5 t6 t8 t14 t15) : SV P Tryz.f21.ntmps (seqR (seqR (seqR (seqR (seqR (seqR (seqR (Tryz.f21.body.getD .skip)))))))) (retP P Tryz.f21.results.toList K) (headOf [0, 1, 4, 5, 6, 8, 14, 15] [t0, t1, t4, t5, t6, t8, t14, t15]) h :=
  cut_at mixed (by kernel_rfl) [0, 1, 4, 5, 6, 8, 14] (fun vs h => s_tar_reader_entry_8 K h (vs.getD 0 undef) (vs.getD 1 undef) (vs.getD 2 undef) (vs.getD 3 undef) (vs.getD 4 undef) (vs.getD 5 undef) (vs.getD 6 undef)) (fun vs h _ x => Eq.mp (by kernel_rfl) (c_tar_reader_entry_8 x)) (by kernel_rfl) s
theorem c_tar_reader_entry_6 {K : Value → Hp → Prop} {h : Hp} {t0 t1 t4 t5 t6 t8 t10 : Value} (s : s_tar_reader_entry_6 K h t0 t1 t4 t5 t6 t8 t10) : SV P Tryz.f21.ntmps (seqR (seqR (seqR (seqR (seqR (seqR (Tryz.f21.body.getD .skip))))))) (retP P Tryz.f21.results.toList K) (headOf [0, 1, 4, 5, 6, 8, 10] [t0, t1, t4, t5, t6, t8, t10]) h :=
  cut_at mixed (by kernel_rfl) [0, 1, 4, 5, 6, 8, 14, 15] (fun vs h => s_tar_reader_entry_7 K h (vs.getD 0 undef) (vs.getD 1 undef) (vs.getD 2 undef) (vs.getD 3 undef) (vs.getD 4 undef) (vs.getD 5 undef) (vs.getD 6 undef) (vs.getD 7 undef)) (fun vs h _ x => Eq.mp (by kernel_rfl) (c_tar_reader_entry_7 x)) (by kernel_rfl) s
theorem c_tar_reader_entry_5 {K : Value → Hp → Prop} {h : Hp} {t0 t1 t4 t5 t6 t7 t8 t9 t10 t11 t12 t13 : Value} (s : s_tar_reader_entry_5 K h t0 t1 t4 t5 t6 t7 t8 t9 t10 t11 t12 t13) : SV P Tryz.f21.ntmps (seqR (seqR (seqR (seqR (seqR (Tryz.f21.body.getD .skip)))))) (retP P Tryz.f21.results.toList K) (headOf [0, 1, 4, 5, 6, 7, 8, 9, 10, 11, 12, 13] [t0, t1, t4, t5, t6, t7, t8, t9, t10, t11, t12, t13]) h :=
  cut_at mixed (by kernel_rfl) [0, 1, 4, 5, 6, 8, 10] (fun vs h => s_tar_reader_entry_6 K h (vs.getD 0 undef) (vs.getD 1 undef) (vs.getD 2 undef) (vs.getD 3 undef) (vs.getD 4 undef) (vs.getD 5 undef) (vs.getD 6 undef)) (fun vs h _ x => Eq.mp (by kernel_rfl) (c_tar_reader_entry_6 x)) (by kernel_rfl) s
theorem c_tar_reader_entry_4 {K : Value → Hp → Prop} {h : Hp} {t0 t1 t4 t5 t6 t7 t8 t9 t10 t11 : Value} (s : s_tar_reader_entry_4 K h t0 t1 t4 t5 t6 t7 t8 t9 t10 t11) : SV P Tryz.f21.ntmps (seqR (seqR (seqR (seqR (Tryz.f21.body.getD .skip))))) (retP P Tryz.f21.results.toList K) (headOf [0, 1, 4, 5, 6, 7, 8, 9, 10, 11] [t0, t1, t4, t5, t6, t7, t8, t9, t10, t11]) h :=
  cut_at mixed (by kernel_rfl) [0, 1, 4, 5, 6, 7, 8, 9, 10, 11, 12, 13] (fun vs h => s_tar_reader_entry_5 K h (vs.getD 0 undef) (vs.getD 1 undef) (vs.getD 2 undef) (vs.getD 3 undef) (vs.getD 4 undef) (vs.getD 5 undef) (vs.getD 6 undef) (vs.getD 7 undef) (vs.getD 8 undef) (vs.getD 9 undef) (vs.getD 10 undef) (vs.getD 11 undef)) (fun vs h _ x => Eq.mp (by kernel_rfl) (c_tar_reader_entry_5 x)) (by kernel_rfl) s
theorem c_tar_reader_entry_3 {K : Value → Hp → Prop} {h : Hp} {t0 t1 t4 t5 t6 t7 t8 t9 : Value} (s : s_tar_reader_entry_3 K h t0 t1 t4 t5 t6 t7 t8 t9) : SV P Tryz.f21.ntmps (seqR (seqR (seqR (Tryz.f21.body.getD .skip)))) (retP P Tryz.f21.results.toList K) (headOf [0, 1, 4, 5, 6, 7, 8, 9] [t0, t1, t4, t5, t6, t7, t8, t9]) h :=
  cut_at mixed (by kernel_rfl) [0, 1, 4, 5, 6, 7, 8, 9, 10, 11] (fun vs h => s_tar_reader_entry_4 K h (vs.getD 0 undef) (vs.getD 1 undef) (vs.getD 2 undef) (vs.getD 3 undef) (vs.getD 4 undef) (vs.getD 5 undef) (vs.getD 6 undef) (vs.getD 7 undef) (vs.getD 8 undef) (vs.getD 9 undef)) (fun vs h _ x => Eq.mp (by kernel_rfl) (c_tar_reader_entry_4 x)) (by kernel_rfl) s
theorem c_tar_reader_entry_2 {K : Value → Hp → Prop} {h : Hp} {t0 t1 t4 t5 t6 t7 : Value} (s : s_tar_reader_entry_2 K h t0 t1 t4 t5 t6 t7) : SV P Tryz.f21.ntmps (seqR (seqR (Tryz.f21.body.getD .skip))) (retP P Tryz.f21.results.toList K) (headOf [0, 1, 4, 5, 6, 7] [t0, t1, t4, t5, t6, t7]) h :=
  cut_at mixed (by kernel_rfl) [0, 1, 4, 5, 6, 7, 8, 9] (fun vs h => s_tar_reader_entry_3 K h (vs.getD 0 undef) (vs.getD 1 undef) (vs.getD 2 undef) (vs.getD 3 undef) (vs.getD 4 undef) (vs.getD 5 undef) (vs.getD 6 undef) (vs.getD 7 undef)) (fun vs h _ x => Eq.mp (by kernel_rfl) (c_tar_reader_entry_3 x)) (by kernel_rfl) s
theorem c_tar_reader_entry_1 {K : Value → Hp → Prop} {h : Hp} {t0 t1 t4 : Value} (s : s_tar_reader_entry_1 K h t0 t1 t4) : SV P Tryz.f21.ntmps (seqR (Tryz.f21.body.getD .skip)) (retP P Tryz.f21.results.toList K) (headOf [0, 1, 4] [t0, t1, t4]) h :=
  cut_at mixed (by kernel_rfl) [0, 1, 4, 5, 6, 7] (fun vs h => s_tar_reader_entry_2 K h (vs.getD 0 undef) (vs.getD 1 undef) (vs.getD 2 undef) (vs.getD 3 undef) (vs.getD 4 undef) (vs.getD 5 undef)) (fun vs h _ x => Eq.mp (by kernel_rfl) (c_tar_reader_entry_2 x)) (by kernel_rfl) s
theorem c_tar_reader_entry_0 {K : Value → Hp → Prop} {h : Hp} {t0 t1 : Value} (s : s_tar_reader_entry K h t0 t1) : SV P Tryz.f21.ntmps (Tryz.f21.body.getD .skip) (retP P Tryz.f21.results.toList K) (env0 [t0, t1]) h :=
  cut_at mixed (by kernel_rfl) [0, 1, 4] (fun vs h => s_tar_reader_entry_1 K h (vs.getD 0 undef) (vs.getD 1 undef) (vs.getD 2 undef)) (fun vs h _ x => Eq.mp (by kernel_rfl) (c_tar_reader_entry_1 x)) (by kernel_rfl) s
theorem F_tar_reader_entry {K : Value → Hp → Prop} {h : Hp} {t0 t1 : Value} (s : s_tar_reader_entry K h t0 t1) : Cn P 21 #[t0, t1] h K :=
  Cn_sv Tryz.func21 (by kernel_rfl) (args := [t0, t1]) (c_tar_reader_entry_0 s)
end Go.Proofs.YtflfhbnflcfmgaaGreatDoor
set_option linter.unusedVariables false
set_option maxRecDepth 100000
namespace Go.Proofs.YtflfhbnflcfmgaaGreatDoor
open Go Go.SL
/-- function 22: orlop.orlopref01.Equal -/
def s_orlopref01_Equal (K : Value → Hp → Prop) (h : Hp) (t0 t1 : Value) : Prop := q P h (Builtin.len_ #[26] 3 #[t0]) fun t7 => q P h (Builtin.len_ #[26] 3 #[t1]) fun t9 => q P h (eqop .neq 3 (.tmp 7) (.tmp 9) t7 t9) fun t10 => cnd t10 (K (Value.bool false) h) (
Lp [(Value.bool false), (Value.int .i64 0)] h fun nx7 vs7 h =>
q P h (Builtin.len_ #[26] 3 #[t0]) fun t13 => q P h (binOp .lss 3 (vs7.getD 1 undef) t13) fun t14 => cnd t14 (q P emp (Instr.indexAt 26 t0 (vs7.getD 1 undef)) fun t19 => q P h (Instr.loadAt 5 t19) fun t20 => q P emp (Instr.indexAt 26 t1 (vs7.getD 1 undef)) fun t23 => q P h (Instr.loadAt 5 t23) fun t24 => q P h (eqop .neq 5 (.tmp 20) (.tmp 24) t20 t24) fun t25 => cnd t25 (K (Value.bool false) h) (q P h (binOp .add 3 (vs7.getD 1 undef) (Value.int .i64 1)) fun t16 => nx7 [(vs7.getD 0 undef), t16] h)) (K (Value.bool true) h))
theorem F_orlopref01_Equal {K : Value → Hp → Prop} {h : Hp} {t0 t1 : Value} (s : s_orlopref01_Equal K h t0 t1) : Cn P 22 #[t0, t1] h K :=
  Cn_ofs mixed Tryz.func22 (by kernel_rfl) (args := [t0, t1]) (by kernel_rfl) s
/-- function 23: orlop.tar.May -/
def s_tar_May (K : Value → Hp → Prop) (h : Hp) (t0 : Value) : Prop := q P h (Builtin.len_ #[22] 3 #[t0]) fun t4 => q P h (binOp .leq 3 t4 (Value.int .i64 256)) fun t5 => gd t5 true (Cn P 49 #[t0, (Value.func (.func 50) #[] #[])] h fun t8 h => q P h (Op.unary .not t8) fun t9 => K t9 h) (K (Value.bool false) h)
theorem F_tar_May {K : Value → Hp → Prop} {h : Hp} {t0 : Value} (s : s_tar_May K h t0) : Cn P 23 #[t0] h K :=
  Cn_ofs mixed Tryz.func23 (by kernel_rfl) (args := [t0]) (by kernel_rfl) s
/-- function 24: orlop.tar.more -/
def s_tar_more (K : Value → Hp → Prop) (h : Hp) (t0 : Value) : Prop := aw P (Instr.box 37 t0) (fun t1 h => 
let J3 : Value → Hp → Prop := fun t3 h => q P h (Instr.fieldAt 37 t1 3) fun t13 => q P h (Instr.loadAt 9 t13) fun t14 => q P h (Builtin.len_ #[9] 3 #[t14]) fun t15 => q P h (binOp .gtr 3 t15 (Value.int .i64 100)) fun t16 => cnd t16 (q P h (Instr.fieldAt 37 t1 3) fun t18 => q P h (Instr.loadAt 9 t18) fun t19 => Cn P 51 #[(Value.string ⟨#[108, 105, 110, 107, 112, 97, 116, 104]⟩), t19] h fun t20 h => q P h (binOp .add 9 t3 t20) fun t21 => K t21 h) (K t3 h);
q P h (Instr.fieldAt 37 t1 0) fun t4 => q P h (Instr.loadAt 9 t4) fun t5 => q P h (Builtin.len_ #[9] 3 #[t5]) fun t6 => q P h (binOp .gtr 3 t6 (Value.int .i64 100)) fun t7 => cnd t7 (q P h (Instr.fieldAt 37 t1 0) fun t9 => q P h (Instr.loadAt 9 t9) fun t10 => Cn P 51 #[(Value.string ⟨#[112, 97, 116, 104]⟩), t10] h fun t11 h => q P h (binOp .add 9 (Value.string ⟨#[]⟩) t11) fun t12 => J3 t12 h) (J3 (Value.string ⟨#[]⟩) h)) h
theorem F_tar_more {K : Value → Hp → Prop} {h : Hp} {t0 : Value} (s : s_tar_more K h t0) : Cn P 24 #[t0] h K :=
  Cn_ofs mixed Tryz.func24 (by kernel_rfl) (args := [t0]) (by kernel_rfl) s
/-- function 25: slices.Concat[[]byte,byte] -/
def s_slices_Concat_byte_byte (K : Value → Hp → Prop) (h : Hp) (t0 : Value) : Prop := q P h (Builtin.len_ #[73] 3 #[t0]) fun t10 => 
Lp [(Value.int .i64 0), (Value.int .i64 0)] h fun nx5 vs5 h =>
q P h (binOp .lss 3 (vs5.getD 1 undef) t10) fun t12 => cnd t12 (q P h (Instr.indexAt 73 t0 (vs5.getD 1 undef)) fun t13 => q P h (Instr.loadAt 26 t13) fun t14 => q P h (Builtin.len_ #[26] 3 #[t14]) fun t17 => q P h (binOp .add 3 (vs5.getD 0 undef) t17) fun t18 => q P h (binOp .lss 3 t18 (Value.int .i64 0)) fun t20 => cnd t20 (q P h (Instr.makeInterface 9 (Value.string ⟨#[108, 101, 110, 32, 111, 117, 116, 32, 111, 102, 32, 114, 97, 110, 103, 101]⟩)) fun t21 => False) (q P h (binOp .add 3 (vs5.getD 1 undef) (Value.int .i64 1)) fun t22 => nx5 [t18, t22] h)) (Cn P 52 #[(Value.slice none 0 0), (vs5.getD 0 undef)] h fun t24 h => q P h (Builtin.len_ #[73] 3 #[t0]) fun t26 => 
Lp [t24, (Value.int .i64 0)] h fun nx15 vs15 h =>
q P h (binOp .lss 3 (vs15.getD 1 undef) t26) fun t28 => cnd t28 (q P h (Instr.indexAt 73 t0 (vs15.getD 1 undef)) fun t29 => q P h (Instr.loadAt 26 t29) fun t30 => aw P (Builtin.append_ #[26, 26] 26 #[(vs15.getD 0 undef), t30]) (fun t33 h => q P h (binOp .add 3 (vs15.getD 1 undef) (Value.int .i64 1)) fun t34 => nx15 [t33, t34] h) h) (K (vs15.getD 0 undef) h))
theorem F_slices_Concat_byte_byte {K : Value → Hp → Prop} {h : Hp} {t0 : Value} (s : s_slices_Concat_byte_byte K h t0) : Cn P 25 #[t0] h K :=
  Cn_ofs mixed Tryz.func25 (by kernel_rfl) (args := [t0]) (by kernel_rfl) s
/-- function 26: orlop.tar.head -/
def s_tar_head (K : Value → Hp → Prop) (h : Hp) (t0 t1 t2 t3 t4 : Value) : Prop := aw P (Instr.makeSlice 26 (Value.int .i64 512) (Value.int .i64 512)) (fun t12 h => q P h (Builtin.len_ #[9] 3 #[t0]) fun t16 => q P h (Builtin.min_ #[3, 3] 3 #[t16, (Value.int .i64 100)]) fun t17 => q P h (Instr.sliceAt 9 t0 none (some t17) none) fun t18 => aw P (Builtin.copy_ #[26, 9] 3 #[t12, t18]) (fun t19 h => q P h (Instr.sliceAt 26 t12 (some (Value.int .i64 100)) none none) fun t21 => Cn P 53 #[t1, (Value.int .i64 7)] h fun t23 h => peek P h (Instr.sliceAt 26 t12 (some (Value.int .i64 100)) none none) = some t21 ∧ aw P (Builtin.copy_ #[26, 9] 3 #[t21, t23]) (fun t24 h => q P h (Instr.sliceAt 26 t12 (some (Value.int .i64 108)) none none) fun t26 => aw P (Builtin.copy_ #[26, 9] 3 #[t26, (Value.string ⟨#[48, 48, 48, 48, 48, 48, 48]⟩)]) (fun t27 h => q P h (Instr.sliceAt 26 t12 (some (Value.int .i64 116)) none none) fun t29 => aw P (Builtin.copy_ #[26, 9] 3 #[t29, (Value.string ⟨#[48, 48, 48, 48, 48, 48, 48]⟩)]) (fun t30 h => q P h (Instr.sliceAt 26 t12 (some (Value.int .i64 124)) none none) fun t32 => Cn P 53 #[t2, (Value.int .i64 11)] h fun t34 h => peek P h (Instr.sliceAt 26 t12 (some (Value.int .i64 124)) none none) = some t32 ∧ aw P (Builtin.copy_ #[26, 9] 3 #[t32, t34]) (fun t35 h => q P h (Instr.sliceAt 26 t12 (some (Value.int .i64 136)) none none) fun t37 => aw P (Builtin.copy_ #[26, 9] 3 #[t37, (Value.string ⟨#[48, 48, 48, 48, 48, 48, 48, 48, 48, 48, 48]⟩)]) (fun t38 h => q P h (Instr.indexAt 26 t12 (Value.int .i64 156)) fun t41 => aw P (Instr.storeAt 5 t41 t3) (fun _ h => q P h (Instr.sliceAt 26 t12 (some (Value.int .i64 157)) none none) fun t43 => q P h (Builtin.len_ #[9] 3 #[t4]) fun t46 => q P h (Builtin.min_ #[3, 3] 3 #[t46, (Value.int .i64 100)]) fun t47 => q P h (Instr.sliceAt 9 t4 none (some t47) none) fun t48 => aw P (Builtin.copy_ #[26, 9] 3 #[t43, t48]) (fun t49 h => q P h (Instr.sliceAt 26 t12 (some (Value.int .i64 257)) none none) fun t51 => aw P (Builtin.copy_ #[26, 9] 3 #[t51, (Value.string ⟨#[117, 115, 116, 97, 114, 0, 48, 48]⟩)]) (fun t52 h => q P h (Instr.sliceAt 26 t12 (some (Value.int .i64 148)) none none) fun t54 => Cn P 46 #[t12] h fun t56 h => peek P h (Instr.sliceAt 26 t12 (some (Value.int .i64 148)) none none) = some t54 ∧ Cn P 53 #[t56, (Value.int .i64 6)] h fun t57 h => peek P h (Instr.sliceAt 26 t12 (some (Value.int .i64 148)) none none) = some t54 ∧ q P emp (binOp .add 9 t57 (Value.string ⟨#[0, 32]⟩)) fun t58 => aw P (Builtin.copy_ #[26, 9] 3 #[t54, t58]) (fun t59 h => K t12 h) h) h) h) h) h) h) h) h) h) h) h
theorem F_tar_head {K : Value → Hp → Prop} {h : Hp} {t0 t1 t2 t3 t4 : Value} (s : s_tar_head K h t0 t1 t2 t3 t4) : Cn P 26 #[t0, t1, t2, t3, t4] h K :=
  Cn_ofs mixed Tryz.func26 (by kernel_rfl) (args := [t0, t1, t2, t3, t4]) (by kernel_rfl) s
/-- function 27: orlop.tar.filled -/
def s_tar_filled (K : Value → Hp → Prop) (h : Hp) (t0 : Value) : Prop := Cn P 54 #[t0] h fun t4 h => q P h (Builtin.len_ #[26] 3 #[t0]) fun t6 => q P h (binOp .rem 3 t6 (Value.int .i64 512)) fun t7 => q P h (binOp .sub 3 (Value.int .i64 512) t7) fun t8 => q P h (binOp .rem 3 t8 (Value.int .i64 512)) fun t9 => aw P (Builtin.append_ #[26, 3] 26 #[t4, t9]) (fun t10 h => K t10 h) h
theorem F_tar_filled {K : Value → Hp → Prop} {h : Hp} {t0 : Value} (s : s_tar_filled K h t0) : Cn P 27 #[t0] h K :=
  Cn_ofs mixed Tryz.func27 (by kernel_rfl) (args := [t0]) (by kernel_rfl) s
/-- function 28: orlop.tar.kind -/
def s_tar_kind (K : Value → Hp → Prop) (h : Hp) (t0 : Value) : Prop := aw P (Instr.box 37 t0) (fun t1 h => q P h (Instr.fieldAt 37 t1 1) fun t3 => q P h (Instr.loadAt 3 t3) fun t4 => q P h (eqop .eql 3 (.tmp 4) (.const (Value.int .i64 2)) t4 (Value.int .i64 2)) fun t6 => cnd t6 (K (Value.int .u8 53) h) (q P h (eqop .eql 3 (.tmp 4) (.const (Value.int .i64 3)) t4 (Value.int .i64 3)) fun t8 => cnd t8 (K (Value.int .u8 50) h) (K (Value.int .u8 48) h))) h
theorem F_tar_kind {K : Value → Hp → Prop} {h : Hp} {t0 : Value} (s : s_tar_kind K h t0) : Cn P 28 #[t0] h K :=
  Cn_ofs mixed Tryz.func28 (by kernel_rfl) (args := [t0]) (by kernel_rfl) s
/-- function 31: orlop.orlopref19.text -/
def s_orlopref19_text (K : Value → Hp → Prop) (h : Hp) (t0 : Value) : Prop := 
Lp [(Value.bool false), (Value.int .i64 0)] h fun nx4 vs4 h =>
q P h (Builtin.len_ #[9] 3 #[t0]) fun t6 => q P h (binOp .lss 3 (vs4.getD 1 undef) t6) fun t7 => cnd t7 (q P h (Instr.index 9 t0 (vs4.getD 1 undef)) fun t12 => q P h (eqop .eql 5 (.tmp 12) (.const (Value.int .u8 0)) t12 (Value.int .u8 0)) fun t13 => cnd t13 (K (Value.bool false) h) (q P h (binOp .add 3 (vs4.getD 1 undef) (Value.int .i64 1)) fun t9 => nx4 [(vs4.getD 0 undef), t9] h)) (q P h (Builtin.len_ #[9] 3 #[t0]) fun t15 => q P h (binOp .leq 3 t15 (Value.int .i64 1000)) fun t16 => K t16 h)
theorem F_orlopref19_text {K : Value → Hp → Prop} {h : Hp} {t0 : Value} (s : s_orlopref19_text K h t0) : Cn P 31 #[t0] h K :=
  Cn_ofs mixed Tryz.func31 (by kernel_rfl) (args := [t0]) (by kernel_rfl) s
/-- function 32: orlop.orlopref19.digits -/
def s_orlopref19_digits (K : Value → Hp → Prop) (h : Hp) (t0 : Value) : Prop := 
Lp [(Value.string ⟨#[]⟩), t0] h fun nx4 vs4 h =>
q P h (binOp .gtr 3 (vs4.getD 1 undef) (Value.int .i64 0)) fun t5 => cnd t5 (q P h (binOp .rem 3 (vs4.getD 1 undef) (Value.int .i64 10)) fun t7 => q P h (binOp .add 3 (Value.int .i64 48) t7) fun t8 => q P h (convert 3 5 t8) fun t9 => aw P (Instr.buildSlice 26 1 #[(0, t9)]) (fun t10 h => q P h (convert 26 9 t10) fun t11 => q P h (binOp .add 9 t11 (vs4.getD 0 undef)) fun t13 => q P h (binOp .quo 3 (vs4.getD 1 undef) (Value.int .i64 10)) fun t15 => nx4 [t13, t15] h) h) (K (vs4.getD 0 undef) h)
theorem F_orlopref19_digits {K : Value → Hp → Prop} {h : Hp} {t0 : Value} (s : s_orlopref19_digits K h t0) : Cn P 32 #[t0] h K :=
  Cn_ofs mixed Tryz.func32 (by kernel_rfl) (args := [t0]) (by kernel_rfl) s
/-- function 33: orlop.orlopref19.put -/
def s_orlopref19_put (K : Value → Hp → Prop) (h : Hp) (t0 t1 t2 : Value) : Prop := 
Lp [(Value.int .i64 0)] h fun nx2 vs2 h =>
q P h (Builtin.len_ #[9] 3 #[t2]) fun t9 => q P h (binOp .lss 3 (vs2.getD 0 undef) t9) fun t10 => cnd t10 (q P h (binOp .add 3 t1 (vs2.getD 0 undef)) fun t16 => q P h (Instr.index 9 t2 (vs2.getD 0 undef)) fun t19 => q P h (Instr.indexAt 26 t0 t16) fun t20 => aw P (Instr.storeAt 5 t20 t19) (fun _ h => q P h (binOp .add 3 (vs2.getD 0 undef) (Value.int .i64 1)) fun t12 => nx2 [t12] h) h) (K (Value.tuple #[]) h)
theorem F_orlopref19_put {K : Value → Hp → Prop} {h : Hp} {t0 t1 t2 : Value} (s : s_orlopref19_put K h t0 t1 t2) : Cn P 33 #[t0, t1, t2] h K :=
  Cn_ofs mixed Tryz.func33 (by kernel_rfl) (args := [t0, t1, t2]) (by kernel_rfl) s
/-- function 34: orlop.orlopref19.first -/
def s_orlopref19_first (K : Value → Hp → Prop) (h : Hp) (t0 : Value) : Prop := q P h (Builtin.len_ #[9] 3 #[t0]) fun t4 => q P h (binOp .gtr 3 t4 (Value.int .i64 100)) fun t5 => cnd t5 (q P h (Instr.sliceAt 9 t0 none (some (Value.int .i64 100)) none) fun t7 => K t7 h) (K t0 h)
theorem F_orlopref19_first {K : Value → Hp → Prop} {h : Hp} {t0 : Value} (s : s_orlopref19_first K h t0) : Cn P 34 #[t0] h K :=
  Cn_ofs mixed Tryz.func34 (by kernel_rfl) (args := [t0]) (by kernel_rfl) s
/-- function 35: orlop.orlopref19.octal -/
def s_orlopref19_octal (K : Value → Hp → Prop) (h : Hp) (t0 t1 : Value) : Prop := 
Lp [(Value.string ⟨#[]⟩), t0, (Value.int .i64 0)] h fun nx5 vs5 h =>
q P h (binOp .lss 3 (vs5.getD 2 undef) t1) fun t9 => cnd t9 (q P h (binOp .rem 3 (vs5.getD 1 undef) (Value.int .i64 8)) fun t13 => q P h (binOp .add 3 (Value.int .i64 48) t13) fun t14 => q P h (convert 3 5 t14) fun t15 => aw P (Instr.buildSlice 26 1 #[(0, t15)]) (fun t16 h => q P h (convert 26 9 t16) fun t17 => q P h (binOp .add 9 t17 (vs5.getD 0 undef)) fun t19 => q P h (binOp .quo 3 (vs5.getD 1 undef) (Value.int .i64 8)) fun t21 => q P h (binOp .add 3 (vs5.getD 2 undef) (Value.int .i64 1)) fun t11 => nx5 [t19, t21, t11] h) h) (K (vs5.getD 0 undef) h)
theorem F_orlopref19_octal {K : Value → Hp → Prop} {h : Hp} {t0 t1 : Value} (s : s_orlopref19_octal K h t0 t1) : Cn P 35 #[t0, t1] h K :=
  Cn_ofs mixed Tryz.func35 (by kernel_rfl) (args := [t0, t1]) (by kernel_rfl) s
end Go.Proofs.YtflfhbnflcfmgaaGreatDoor
set_option linter.unusedVariables false
set_option maxRecDepth 100000
namespace Go.Proofs.YtflfhbnflcfmgaaGreatDoor
open Go Go.SL
/-- function 36: bytes.Clone -/
def s_bytes_Clone (K : Value → Hp → Prop) (h : Hp) (t0 : Value) : Prop := q P h (eqop .eql 26 (.tmp 3) (.const (Value.slice none 0 0)) t0 (Value.slice none 0 0)) fun t4 => cnd t4 (K (Value.slice none 0 0) h) (aw P (Instr.buildSlice 26 0 #[]) (fun t5 h => aw P (Builtin.append_ #[26, 26] 26 #[t5, t0]) (fun t7 h => K t7 h) h) h)
theorem F_bytes_Clone {K : Value → Hp → Prop} {h : Hp} {t0 : Value} (s : s_bytes_Clone K h t0) : Cn P 36 #[t0] h K :=
  Cn_ofs mixed Tryz.func36 (by kernel_rfl) (args := [t0]) (by kernel_rfl) s
/-- function 37: bytes.trimLeftByte -/
def s_bytes_trimLeftByte (K : Value → Hp → Prop) (h : Hp) (t0 t1 : Value) : Prop := 
let J2 : Value → Hp → Prop := fun t0 h => q P h (Builtin.len_ #[26] 3 #[t0]) fun t18 => q P h (eqop .eql 3 (.tmp 18) (.const (Value.int .i64 0)) t18 (Value.int .i64 0)) fun t19 => cnd t19 (K (Value.slice none 0 0) h) (K t0 h);

Lp [t0] h fun nx3 vs3 h =>
q P h (Builtin.len_ #[26] 3 #[(vs3.getD 0 undef)]) fun t6 => q P h (binOp .gtr 3 t6 (Value.int .i64 0)) fun t7 => gd t7 true (q P h (Instr.indexAt 26 (vs3.getD 0 undef) (Value.int .i64 0)) fun t10 => q P h (Instr.loadAt 5 t10) fun t11 => q P h (eqop .eql 5 (.tmp 11) (.tmp 12) t11 t1) fun t13 => cnd t13 (q P h (Instr.sliceAt 26 (vs3.getD 0 undef) (some (Value.int .i64 1)) none none) fun t16 => nx3 [t16] h) (J2 (vs3.getD 0 undef) h)) (cnd (Value.bool false) (q P h (Instr.sliceAt 26 (vs3.getD 0 undef) (some (Value.int .i64 1)) none none) fun t16 => nx3 [t16] h) (J2 (vs3.getD 0 undef) h))
theorem F_bytes_trimLeftByte {K : Value → Hp → Prop} {h : Hp} {t0 t1 : Value} (s : s_bytes_trimLeftByte K h t0 t1) : Cn P 37 #[t0, t1] h K :=
  Cn_ofs mixed Tryz.func37 (by kernel_rfl) (args := [t0, t1]) (by kernel_rfl) s
/-- function 38: bytes.trimRightByte -/
def s_bytes_trimRightByte (K : Value → Hp → Prop) (h : Hp) (t0 t1 : Value) : Prop := 
Lp [t0] h fun nx3 vs3 h =>

let J4 : Hp → Prop := fun h => q P h (Builtin.len_ #[26] 3 #[(vs3.getD 0 undef)]) fun t20 => q P h (binOp .sub 3 t20 (Value.int .i64 1)) fun t21 => q P h (Instr.sliceAt 26 (vs3.getD 0 undef) none (some t21) none) fun t22 => nx3 [t22] h;
q P h (Builtin.len_ #[26] 3 #[(vs3.getD 0 undef)]) fun t6 => q P h (binOp .gtr 3 t6 (Value.int .i64 0)) fun t7 => gd t7 true (q P h (Builtin.len_ #[26] 3 #[(vs3.getD 0 undef)]) fun t11 => q P h (binOp .sub 3 t11 (Value.int .i64 1)) fun t12 => q P h (Instr.indexAt 26 (vs3.getD 0 undef) t12) fun t13 => q P h (Instr.loadAt 5 t13) fun t14 => q P h (eqop .eql 5 (.tmp 14) (.tmp 15) t14 t1) fun t16 => cnd t16 (J4 h) (K (vs3.getD 0 undef) h)) (cnd (Value.bool false) (J4 h) (K (vs3.getD 0 undef) h))
theorem F_bytes_trimRightByte {K : Value → Hp → Prop} {h : Hp} {t0 t1 : Value} (s : s_bytes_trimRightByte K h t0 t1) : Cn P 38 #[t0, t1] h K :=
  Cn_ofs mixed Tryz.func38 (by kernel_rfl) (args := [t0, t1]) (by kernel_rfl) s
/-- function 44: orlop.tar.names -/
def s_tar_names (K : Value → Hp → Prop) (h : Hp) (t0 : Value) : Prop := q P h (Instr.sliceAt 26 t0 none (some (Value.int .i64 100)) (some (Value.int .i64 100))) fun t13 => Cn P 60 #[t13] h fun t14 h => q P h (Instr.extract t14 0) fun t15 => q P h (Instr.extract t14 1) fun t16 => q P h (Instr.sliceAt 26 t0 (some (Value.int .i64 157)) (some (Value.int .i64 257)) none) fun t19 => Cn P 60 #[t19] h fun t20 h => q P h (Instr.extract t20 0) fun t21 => q P h (Instr.extract t20 1) fun t22 => q P h (Instr.sliceAt 26 t0 (some (Value.int .i64 345)) (some (Value.int .i64 500)) none) fun t25 => Cn P 60 #[t25] h fun t26 h => q P h (Instr.extract t26 0) fun t27 => q P h (Instr.extract t26 1) fun t28 => 
let J5 : Value → Hp → Prop := fun t5 h => gd t16 true (gd t22 true (K (Value.tuple #[t5, t21, t28]) h) (K (Value.tuple #[t5, t21, (Value.bool false)]) h)) (K (Value.tuple #[t5, t21, (Value.bool false)]) h);
q P h (eqop .neq 9 (.tmp 29) (.const (Value.string ⟨#[]⟩)) t27 (Value.string ⟨#[]⟩)) fun t30 => cnd t30 (q P h (binOp .add 9 t27 (Value.string ⟨#[47]⟩)) fun t32 => q P h (binOp .add 9 t32 t15) fun t34 => J5 t34 h) (J5 t15 h)
theorem F_tar_names {K : Value → Hp → Prop} {h : Hp} {t0 : Value} (s : s_tar_names K h t0) : Cn P 44 #[t0] h K :=
  Cn_ofs mixed Tryz.func44 (by kernel_rfl) (args := [t0]) (by kernel_rfl) s
/-- function 45: orlop.tar.number -/
def s_tar_number (K : Value → Hp → Prop) (h : Hp) (t0 : Value) : Prop := q P h (convert 26 9 t0) fun t8 => Cn P 61 #[t8, (Value.string ⟨#[0, 32]⟩)] h fun t9 h => 
let J3 : Hp → Prop := fun h => Cn P 63 #[t9, (Value.int .i64 8), (Value.int .i64 64)] h fun t24 h => q P h (Instr.extract t24 0) fun t25 => q P h (Instr.extract t24 1) fun t26 => q P h (eqop .eql 82 (.tmp 28) (.const Value.nilIface) t26 Value.nilIface) fun t29 => K (Value.tuple #[t25, t29]) h;
q P h (eqop .eql 9 (.tmp 10) (.const (Value.string ⟨#[]⟩)) t9 (Value.string ⟨#[]⟩)) fun t11 => gd t11 false (q P h (Builtin.len_ #[9] 3 #[t9]) fun t14 => q P h (binOp .gtr 3 t14 (Value.int .i64 11)) fun t15 => gd t15 false (Cn P 62 #[t9, (Value.string ⟨#[48, 49, 50, 51, 52, 53, 54, 55]⟩)] h fun t19 h => q P h (eqop .neq 9 (.tmp 19) (.const (Value.string ⟨#[]⟩)) t19 (Value.string ⟨#[]⟩)) fun t20 => cnd t20 (K (Value.tuple #[(Value.int .i64 0), (Value.bool false)]) h) (J3 h)) (cnd (Value.bool true) (K (Value.tuple #[(Value.int .i64 0), (Value.bool false)]) h) (J3 h))) (cnd (Value.bool true) (K (Value.tuple #[(Value.int .i64 0), (Value.bool false)]) h) (J3 h))
theorem F_tar_number {K : Value → Hp → Prop} {h : Hp} {t0 : Value} (s : s_tar_number K h t0) : Cn P 45 #[t0] h K :=
  Cn_ofs mixed Tryz.func45 (by kernel_rfl) (args := [t0]) (by kernel_rfl) s
/-- function 46: orlop.tar.sum -/
def s_tar_sum (K : Value → Hp → Prop) (h : Hp) (t0 : Value) : Prop := q P h (Builtin.len_ #[26] 3 #[t0]) fun t7 => 
Lp [(Value.int .i64 0), (Value.int .i64 0)] h fun nx5 vs5 h =>
q P h (binOp .lss 3 (vs5.getD 1 undef) t7) fun t9 => cnd t9 (q P h (Instr.indexAt 26 t0 (vs5.getD 1 undef)) fun t11 => q P h (Instr.loadAt 5 t11) fun t12 => q P h (binOp .geq 3 (vs5.getD 1 undef) (Value.int .i64 148)) fun t14 => gd t14 true (q P h (binOp .lss 3 (vs5.getD 1 undef) (Value.int .i64 156)) fun t17 => cnd t17 (q P h (convert 5 3 (Value.int .u8 32)) fun t21 => q P h (binOp .add 3 (vs5.getD 0 undef) t21) fun t22 => q P h (binOp .add 3 (vs5.getD 1 undef) (Value.int .i64 1)) fun t23 => nx5 [t22, t23] h) (q P h (convert 5 3 t12) fun t21 => q P h (binOp .add 3 (vs5.getD 0 undef) t21) fun t22 => q P h (binOp .add 3 (vs5.getD 1 undef) (Value.int .i64 1)) fun t23 => nx5 [t22, t23] h)) (cnd (Value.bool false) (q P h (convert 5 3 (Value.int .u8 32)) fun t21 => q P h (binOp .add 3 (vs5.getD 0 undef) t21) fun t22 => q P h (binOp .add 3 (vs5.getD 1 undef) (Value.int .i64 1)) fun t23 => nx5 [t22, t23] h) (q P h (convert 5 3 t12) fun t21 => q P h (binOp .add 3 (vs5.getD 0 undef) t21) fun t22 => q P h (binOp .add 3 (vs5.getD 1 undef) (Value.int .i64 1)) fun t23 => nx5 [t22, t23] h))) (K (vs5.getD 0 undef) h)
theorem F_tar_sum {K : Value → Hp → Prop} {h : Hp} {t0 : Value} (s : s_tar_sum K h t0) : Cn P 46 #[t0] h K :=
  Cn_ofs mixed Tryz.func46 (by kernel_rfl) (args := [t0]) (by kernel_rfl) s
/-- function 47: (*orlop.tar.reader).records -/
def s_tar_reader_records (K : Value → Hp → Prop) (h : Hp) (t0 t1 : Value) : Prop := q P h (convert 26 9 t1) fun t15 => 
Lp [(Value.bool false), t15] h fun nx4 vs4 h =>
q P h (eqop .neq 9 (.tmp 16) (.const (Value.string ⟨#[]⟩)) (vs4.getD 1 undef) (Value.string ⟨#[]⟩)) fun t17 => cnd t17 (Cn P 64 #[(vs4.getD 1 undef), (Value.string ⟨#[32]⟩)] h fun t20 h => q P h (Instr.extract t20 0) fun t21 => q P h (Instr.extract t20 1) fun t22 => q P h (Instr.extract t20 2) fun t23 => Cn P 65 #[t21] h fun t26 h => q P h (Instr.extract t26 0) fun t27 => q P h (Instr.extract t26 1) fun t28 => 
let J9 : Value → Hp → Prop := fun t4 h => q P h (Builtin.len_ #[9] 3 #[t21]) fun t60 => q P h (binOp .add 3 t60 (Value.int .i64 1)) fun t61 => q P h (binOp .sub 3 t27 (Value.int .i64 1)) fun t63 => q P h (Instr.sliceAt 9 (vs4.getD 1 undef) (some t61) (some t63) none) fun t64 => Cn P 64 #[t64, (Value.string ⟨#[61]⟩)] h fun t65 h => q P h (Instr.extract t65 0) fun t66 => q P h (Instr.extract t65 1) fun t67 => q P h (Instr.extract t65 2) fun t68 => q P h (Op.unary .not t68) fun t70 => cnd t70 (K (Value.bool false) h) (q P h (eqop .eql 9 (.tmp 71) (.const (Value.string ⟨#[112, 97, 116, 104]⟩)) t66 (Value.string ⟨#[112, 97, 116, 104]⟩)) fun t73 => cnd t73 (q P h (nilCk t0) fun t76 => q P h (Instr.fieldAt 45 t76 1) fun t77 => aw P (Instr.storeAt 9 t77 t67) (fun _ h => q P h (Instr.sliceAt 9 (vs4.getD 1 undef) (some t27) none none) fun t86 => nx4 [t4, t86] h) h) (q P h (eqop .eql 9 (.tmp 71) (.const (Value.string ⟨#[108, 105, 110, 107, 112, 97, 116, 104]⟩)) t66 (Value.string ⟨#[108, 105, 110, 107, 112, 97, 116, 104]⟩)) fun t79 => cnd t79 (q P h (nilCk t0) fun t82 => q P h (Instr.fieldAt 45 t82 2) fun t83 => aw P (Instr.storeAt 9 t83 t67) (fun _ h => q P h (Instr.sliceAt 9 (vs4.getD 1 undef) (some t27) none none) fun t86 => nx4 [t4, t86] h) h) (q P h (Instr.sliceAt 9 (vs4.getD 1 undef) (some t27) none none) fun t86 => nx4 [t4, t86] h)));
q P h (eqop .neq 82 (.tmp 29) (.const Value.nilIface) t28 Value.nilIface) fun t30 => gd t30 false (Cn P 66 #[t27] h fun t33 h => q P h (eqop .neq 9 (.tmp 33) (.tmp 34) t33 t21) fun t35 => gd t35 false (q P h (Builtin.len_ #[9] 3 #[(vs4.getD 1 undef)]) fun t40 => q P h (binOp .gtr 3 t27 t40) fun t41 => gd t41 false (q P h (Builtin.len_ #[9] 3 #[t21]) fun t46 => q P h (binOp .add 3 t46 (Value.int .i64 2)) fun t47 => q P h (binOp .lss 3 t27 t47) fun t48 => gd t48 false (q P h (binOp .sub 3 t27 (Value.int .i64 1)) fun t53 => q P h (Instr.index 9 (vs4.getD 1 undef) t53) fun t54 => q P h (eqop .neq 5 (.tmp 54) (.const (Value.int .u8 10)) t54 (Value.int .u8 10)) fun t55 => cnd t55 (K (Value.bool false) h) (J9 (vs4.getD 0 undef) h)) (cnd (Value.bool true) (K (Value.bool false) h) (J9 (vs4.getD 0 undef) h))) (cnd (Value.bool true) (K (Value.bool false) h) (J9 (vs4.getD 0 undef) h))) (cnd (Value.bool true) (K (Value.bool false) h) (J9 (vs4.getD 0 undef) h))) (cnd (Value.bool true) (K (Value.bool false) h) (J9 (vs4.getD 0 undef) h))) (K (Value.bool true) h)
theorem F_tar_reader_records {K : Value → Hp → Prop} {h : Hp} {t0 t1 : Value} (s : s_tar_reader_records K h t0 t1) : Cn P 47 #[t0, t1] h K :=
  Cn_ofs mixed Tryz.func47 (by kernel_rfl) (args := [t0, t1]) (by kernel_rfl) s
/-- function 48: orlop.tar.may -/
def s_tar_may (K : Value → Hp → Prop) (h : Hp) (t0 : Value) : Prop := aw P (Instr.box 37 t0) (fun t1 h => 
let J2 : Hp → Prop := fun h => q P h (Instr.fieldAt 37 t1 1) fun t28 => q P h (Instr.loadAt 3 t28) fun t29 => 
let J12 : Hp → Prop := fun h => q P h (Instr.fieldAt 37 t1 3) fun t49 => q P h (Instr.loadAt 9 t49) fun t50 => q P h (eqop .eql 9 (.tmp 50) (.const (Value.string ⟨#[]⟩)) t50 (Value.string ⟨#[]⟩)) fun t51 => K t51 h;
q P h (eqop .eql 3 (.tmp 29) (.const (Value.int .i64 3)) t29 (Value.int .i64 3)) fun t31 => cnd t31 (q P h (Instr.fieldAt 37 t1 3) fun t36 => q P h (Instr.loadAt 9 t36) fun t37 => q P h (eqop .neq 9 (.tmp 37) (.const (Value.string ⟨#[]⟩)) t37 (Value.string ⟨#[]⟩)) fun t38 => gd t38 true (q P h (Instr.fieldAt 37 t1 4) fun t40 => q P h (Instr.loadAt 26 t40) fun t41 => q P h (Builtin.len_ #[26] 3 #[t41]) fun t42 => q P h (eqop .eql 3 (.tmp 42) (.const (Value.int .i64 0)) t42 (Value.int .i64 0)) fun t43 => K t43 h) (K (Value.bool false) h)) (q P h (eqop .eql 3 (.tmp 29) (.const (Value.int .i64 2)) t29 (Value.int .i64 2)) fun t33 => cnd t33 (q P h (Instr.fieldAt 37 t1 4) fun t45 => q P h (Instr.loadAt 26 t45) fun t46 => q P h (Builtin.len_ #[26] 3 #[t46]) fun t47 => q P h (binOp .gtr 3 t47 (Value.int .i64 0)) fun t48 => cnd t48 (K (Value.bool false) h) (J12 h)) (q P h (eqop .eql 3 (.tmp 29) (.const (Value.int .i64 1)) t29 (Value.int .i64 1)) fun t35 => cnd t35 (J12 h) (K (Value.bool false) h)));
q P h (Instr.fieldAt 37 t1 0) fun t3 => q P h (Instr.loadAt 9 t3) fun t4 => Cn P 67 #[t4] h fun t5 h => q P h (Op.unary .not t5) fun t6 => gd t6 false (q P h (Instr.fieldAt 37 t1 3) fun t8 => q P h (Instr.loadAt 9 t8) fun t9 => Cn P 67 #[t9] h fun t10 h => q P h (Op.unary .not t10) fun t11 => gd t11 false (q P h (Instr.fieldAt 37 t1 0) fun t14 => q P h (Instr.loadAt 9 t14) fun t15 => q P h (eqop .eql 9 (.tmp 15) (.const (Value.string ⟨#[]⟩)) t15 (Value.string ⟨#[]⟩)) fun t16 => gd t16 false (q P h (Instr.fieldAt 37 t1 2) fun t19 => q P h (Instr.loadAt 3 t19) fun t20 => q P h (binOp .lss 3 t20 (Value.int .i64 0)) fun t21 => gd t21 false (q P h (Instr.fieldAt 37 t1 2) fun t24 => q P h (Instr.loadAt 3 t24) fun t25 => q P h (binOp .gtr 3 t25 (Value.int .i64 4095)) fun t26 => cnd t26 (K (Value.bool false) h) (J2 h)) (cnd (Value.bool true) (K (Value.bool false) h) (J2 h))) (cnd (Value.bool true) (K (Value.bool false) h) (J2 h))) (cnd (Value.bool true) (K (Value.bool false) h) (J2 h))) (cnd (Value.bool true) (K (Value.bool false) h) (J2 h))) h
theorem F_tar_may {K : Value → Hp → Prop} {h : Hp} {t0 : Value} (s : s_tar_may K h t0) : Cn P 48 #[t0] h K :=
  Cn_ofs mixed Tryz.func48 (by kernel_rfl) (args := [t0]) (by kernel_rfl) s
/-- function 49: slices.ContainsFunc[[]orlop.api.Entry,orlop.api.Entry] -/
def s_slices_ContainsFunc_api_Entry_api_Entry (K : Value → Hp → Prop) (h : Hp) (t0 t1 : Value) : Prop := Cn P 68 #[t0, t1] h fun t7 h => q P h (binOp .geq 3 t7 (Value.int .i64 0)) fun t8 => K t8 h
theorem F_slices_ContainsFunc_api_Entry_api_Entry {K : Value → Hp → Prop} {h : Hp} {t0 t1 : Value} (s : s_slices_ContainsFunc_api_Entry_api_Entry K h t0 t1) : Cn P 49 #[t0, t1] h K :=
  Cn_ofs mixed Tryz.func49 (by kernel_rfl) (args := [t0, t1]) (by kernel_rfl) s
/-- function 50: orlop.tar.May$1 -/
def s_tar_May_1 (K : Value → Hp → Prop) (h : Hp) (t0 : Value) : Prop := aw P (Instr.box 37 t0) (fun t1 h => q P h (Instr.loadAt 37 t1) fun t3 => Cn P 48 #[t3] h fun t4 h => q P h (Op.unary .not t4) fun t5 => K t5 h) h
theorem F_tar_May_1 {K : Value → Hp → Prop} {h : Hp} {t0 : Value} (s : s_tar_May_1 K h t0) : Cn P 50 #[t0] h K :=
  Cn_ofs mixed Tryz.func50 (by kernel_rfl) (args := [t0]) (by kernel_rfl) s
/-- function 51: orlop.tar.record -/
def s_tar_record (K : Value → Hp → Prop) (h : Hp) (t0 t1 : Value) : Prop := q P h (binOp .add 9 (Value.string ⟨#[32]⟩) t0) fun t8 => q P h (binOp .add 9 t8 (Value.string ⟨#[61]⟩)) fun t9 => q P h (binOp .add 9 t9 t1) fun t11 => q P h (binOp .add 9 t11 (Value.string ⟨#[10]⟩)) fun t12 => q P h (Builtin.len_ #[9] 3 #[t12]) fun t14 => q P h (binOp .add 3 t14 (Value.int .i64 1)) fun t15 => 
Lp [t15] h fun nx5 vs5 h =>
Cn P 66 #[(vs5.getD 0 undef)] h fun t17 h => q P h (Builtin.len_ #[9] 3 #[t17]) fun t18 => q P h (Builtin.len_ #[9] 3 #[t12]) fun t20 => q P h (binOp .add 3 t18 t20) fun t21 => q P h (eqop .neq 3 (.tmp 21) (.tmp 22) t21 (vs5.getD 0 undef)) fun t23 => cnd t23 (q P h (binOp .add 3 (vs5.getD 0 undef) (Value.int .i64 1)) fun t25 => nx5 [t25] h) (Cn P 66 #[(vs5.getD 0 undef)] h fun t27 h => q P h (binOp .add 9 t27 t12) fun t29 => K t29 h)
theorem F_tar_record {K : Value → Hp → Prop} {h : Hp} {t0 t1 : Value} (s : s_tar_record K h t0 t1) : Cn P 51 #[t0, t1] h K :=
  Cn_ofs mixed Tryz.func51 (by kernel_rfl) (args := [t0, t1]) (by kernel_rfl) s
end Go.Proofs.YtflfhbnflcfmgaaGreatDoor
set_option linter.unusedVariables false
set_option maxRecDepth 100000
namespace Go.Proofs.YtflfhbnflcfmgaaGreatDoor
open Go Go.SL
/-- function 52: slices.Grow[[]byte,byte] -/
def s_slices_Grow_byte_byte (K : Value → Hp → Prop) (h : Hp) (t0 t1 : Value) : Prop := q P h (binOp .lss 3 t1 (Value.int .i64 0)) fun t6 => cnd t6 (q P h (Instr.makeInterface 9 (Value.string ⟨#[99, 97, 110, 110, 111, 116, 32, 98, 101, 32, 110, 101, 103, 97, 116, 105, 118, 101]⟩)) fun t7 => False) (q P h (Builtin.cap_ #[26] 3 #[t0]) fun t10 => q P h (Builtin.len_ #[26] 3 #[t0]) fun t12 => q P h (binOp .sub 3 t10 t12) fun t13 => q P h (binOp .sub 3 t1 t13) fun t14 => q P h (binOp .gtr 3 t14 (Value.int .i64 0)) fun t16 => cnd t16 (q P h (Builtin.cap_ #[26] 3 #[t0]) fun t19 => q P h (Instr.sliceAt 26 t0 none (some t19) none) fun t20 => aw P (Builtin.append_ #[26, 3] 26 #[t20, t14]) (fun t22 h => q P h (Builtin.len_ #[26] 3 #[t0]) fun t24 => q P h (Instr.sliceAt 26 t22 none (some t24) none) fun t25 => K t25 h) h) (K t0 h))
theorem F_slices_Grow_byte_byte {K : Value → Hp → Prop} {h : Hp} {t0 t1 : Value} (s : s_slices_Grow_byte_byte K h t0 t1) : Cn P 52 #[t0, t1] h K :=
  Cn_ofs mixed Tryz.func52 (by kernel_rfl) (args := [t0, t1]) (by kernel_rfl) s
/-- function 53: orlop.tar.octal -/
def s_tar_octal (K : Value → Hp → Prop) (h : Hp) (t0 t1 : Value) : Prop := Cn P 69 #[(Value.string ⟨#[48]⟩), t1] h fun t7 h => Cn P 70 #[t0, (Value.int .i64 8)] h fun t9 h => q P h (binOp .add 9 t7 t9) fun t10 => q P h (Builtin.len_ #[9] 3 #[t10]) fun t13 => q P h (binOp .sub 3 t13 t1) fun t15 => q P h (Instr.sliceAt 9 t10 (some t15) none none) fun t16 => K t16 h
theorem F_tar_octal {K : Value → Hp → Prop} {h : Hp} {t0 t1 : Value} (s : s_tar_octal K h t0 t1) : Cn P 53 #[t0, t1] h K :=
  Cn_ofs mixed Tryz.func53 (by kernel_rfl) (args := [t0, t1]) (by kernel_rfl) s
/-- function 54: slices.Clone[[]byte,byte] -/
def s_slices_Clone_byte_byte (K : Value → Hp → Prop) (h : Hp) (t0 : Value) : Prop := q P h (eqop .eql 26 (.tmp 3) (.const (Value.slice none 0 0)) t0 (Value.slice none 0 0)) fun t4 => cnd t4 (K (Value.slice none 0 0) h) (aw P (Instr.buildSlice 26 0 #[]) (fun t5 h => aw P (Builtin.append_ #[26, 26] 26 #[t5, t0]) (fun t7 h => K t7 h) h) h)
theorem F_slices_Clone_byte_byte {K : Value → Hp → Prop} {h : Hp} {t0 : Value} (s : s_slices_Clone_byte_byte K h t0) : Cn P 54 #[t0] h K :=
  Cn_ofs mixed Tryz.func54 (by kernel_rfl) (args := [t0]) (by kernel_rfl) s
/-- function 60: orlop.tar.field -/
def s_tar_field (K : Value → Hp → Prop) (h : Hp) (t0 : Value) : Prop := q P h (convert 26 9 t0) fun t6 => Cn P 61 #[t6, (Value.string ⟨#[0]⟩)] h fun t7 h => Cn P 73 #[t7, (Value.int .u8 0)] h fun t10 h => q P h (binOp .lss 3 t10 (Value.int .i64 0)) fun t11 => K (Value.tuple #[t7, t11]) h
theorem F_tar_field {K : Value → Hp → Prop} {h : Hp} {t0 : Value} (s : s_tar_field K h t0) : Cn P 60 #[t0] h K :=
  Cn_ofs mixed Tryz.func60 (by kernel_rfl) (args := [t0]) (by kernel_rfl) s
/-- function 61: strings.TrimRight -/
def s_strings_TrimRight (K : Value → Hp → Prop) (h : Hp) (t0 t1 : Value) : Prop := 
let J2 : Hp → Prop := fun h => 
let J7 : Hp → Prop := fun h => Cn P 75 #[t1] h fun t28 h => q P h (Instr.extract t28 0) fun t29 => q P h (Instr.extract t28 1) fun t30 => aw P (Instr.alloc 93 true (.tuple #[])) (fun t5 h => aw P (Instr.storeAt 93 t5 t29) (fun _ h => cnd t30 (Cn P 76 #[t0, t5] h fun t33 h => K t33 h) (Cn P 77 #[t0, t1] h fun t36 h => K t36 h)) h) h;
q P h (Builtin.len_ #[9] 3 #[t1]) fun t15 => q P h (eqop .eql 3 (.tmp 15) (.const (Value.int .i64 1)) t15 (Value.int .i64 1)) fun t16 => gd t16 true (q P h (Instr.index 9 t1 (Value.int .i64 0)) fun t19 => q P h (binOp .lss 5 t19 (Value.int .u8 128)) fun t20 => cnd t20 (q P h (Instr.index 9 t1 (Value.int .i64 0)) fun t24 => Cn P 74 #[t0, t24] h fun t25 h => K t25 h) (J7 h)) (cnd (Value.bool false) (q P h (Instr.index 9 t1 (Value.int .i64 0)) fun t24 => Cn P 74 #[t0, t24] h fun t25 h => K t25 h) (J7 h));
q P h (eqop .eql 9 (.tmp 7) (.const (Value.string ⟨#[]⟩)) t0 (Value.string ⟨#[]⟩)) fun t8 => gd t8 false (q P h (eqop .eql 9 (.tmp 10) (.const (Value.string ⟨#[]⟩)) t1 (Value.string ⟨#[]⟩)) fun t11 => cnd t11 (K t0 h) (J2 h)) (cnd (Value.bool true) (K t0 h) (J2 h))
theorem F_strings_TrimRight {K : Value → Hp → Prop} {h : Hp} {t0 t1 : Value} (s : s_strings_TrimRight K h t0 t1) : Cn P 61 #[t0, t1] h K :=
  Cn_ofs mixed Tryz.func61 (by kernel_rfl) (args := [t0, t1]) (by kernel_rfl) s
/-- function 62: strings.Trim -/
def s_strings_Trim (K : Value → Hp → Prop) (h : Hp) (t0 t1 : Value) : Prop := 
let J2 : Hp → Prop := fun h => 
let J8 : Value → Hp → Prop := fun t21 h => cnd t21 (q P emp (Instr.index 9 t1 (Value.int .i64 0)) fun t24 => q P emp (Instr.index 9 t1 (Value.int .i64 0)) fun t27 => Cn P 74 #[t0, t24] h fun t25 h => Cn P 78 #[t25, t27] h fun t28 h => K t28 h) (Cn P 75 #[t1] h fun t31 h => q P h (Instr.extract t31 0) fun t32 => q P h (Instr.extract t31 1) fun t33 => aw P (Instr.alloc 93 true (.tuple #[])) (fun t5 h => aw P (Instr.storeAt 93 t5 t32) (fun _ h => cnd t33 (Cn P 76 #[t0, t5] h fun t36 h => Cn P 79 #[t36, t5] h fun t37 h => K t37 h) (Cn P 77 #[t0, t1] h fun t40 h => Cn P 80 #[t40, t1] h fun t42 h => K t42 h)) h) h);
q P h (Builtin.len_ #[9] 3 #[t1]) fun t15 => q P h (eqop .eql 3 (.tmp 15) (.const (Value.int .i64 1)) t15 (Value.int .i64 1)) fun t16 => gd t16 true (q P h (Instr.index 9 t1 (Value.int .i64 0)) fun t19 => q P h (binOp .lss 5 t19 (Value.int .u8 128)) fun t20 => J8 t20 h) (J8 (Value.bool false) h);
q P h (eqop .eql 9 (.tmp 7) (.const (Value.string ⟨#[]⟩)) t0 (Value.string ⟨#[]⟩)) fun t8 => gd t8 false (q P h (eqop .eql 9 (.tmp 10) (.const (Value.string ⟨#[]⟩)) t1 (Value.string ⟨#[]⟩)) fun t11 => cnd t11 (K t0 h) (J2 h)) (cnd (Value.bool true) (K t0 h) (J2 h))
theorem F_strings_Trim {K : Value → Hp → Prop} {h : Hp} {t0 t1 : Value} (s : s_strings_Trim K h t0 t1) : Cn P 62 #[t0, t1] h K :=
  Cn_ofs mixed Tryz.func62 (by kernel_rfl) (args := [t0, t1]) (by kernel_rfl) s
/-- function 63: strconv.ParseInt -/
def s_strconv_ParseInt_63 (K : Value → Hp → Prop) (h : Hp) (t0 t1 t2 : Value) : Prop := Cn P 81 #[t0, t1, t2] h fun t13 h => q P h (Instr.extract t13 0) fun t14 => q P h (Instr.extract t13 1) fun t15 => q P h (eqop .neq 82 (.tmp 16) (.const Value.nilIface) t15 Value.nilIface) fun t17 => cnd t17 (Cn P 82 #[(Value.string ⟨#[80, 97, 114, 115, 101, 73, 110, 116]⟩), t0, t1, t2, t15] h fun t23 h => K (Value.tuple #[t14, t23]) h) (K (Value.tuple #[t14, Value.nilIface]) h)
theorem F_strconv_ParseInt_63 {K : Value → Hp → Prop} {h : Hp} {t0 t1 t2 : Value} (s : s_strconv_ParseInt_63 K h t0 t1 t2) : Cn P 63 #[t0, t1, t2] h K :=
  Cn_ofs mixed Tryz.func63 (by kernel_rfl) (args := [t0, t1, t2]) (by kernel_rfl) s
/-- function 64: strings.Cut -/
def s_strings_Cut (K : Value → Hp → Prop) (h : Hp) (t0 t1 : Value) : Prop := Cn P 83 #[t0, t1] h fun t9 h => q P h (Instr.extract t9 0) fun t10 => q P h (Instr.extract t9 1) fun t11 => q P h (Instr.extract t9 2) fun t12 => K (Value.tuple #[t10, t11, t12]) h
theorem F_strings_Cut {K : Value → Hp → Prop} {h : Hp} {t0 t1 : Value} (s : s_strings_Cut K h t0 t1) : Cn P 64 #[t0, t1] h K :=
  Cn_ofs mixed Tryz.func64 (by kernel_rfl) (args := [t0, t1]) (by kernel_rfl) s
/-- function 65: strconv.Atoi -/
def s_strconv_Atoi_65 (K : Value → Hp → Prop) (h : Hp) (t0 : Value) : Prop := Cn P 84 #[t0] h fun t8 h => q P h (Instr.extract t8 0) fun t9 => q P h (Instr.extract t8 1) fun t10 => q P h (eqop .neq 82 (.tmp 11) (.const Value.nilIface) t10 Value.nilIface) fun t12 => cnd t12 (Cn P 82 #[(Value.string ⟨#[65, 116, 111, 105]⟩), t0, (Value.int .i64 0), (Value.int .i64 0), t10] h fun t16 h => K (Value.tuple #[t9, t16]) h) (K (Value.tuple #[t9, Value.nilIface]) h)
theorem F_strconv_Atoi_65 {K : Value → Hp → Prop} {h : Hp} {t0 : Value} (s : s_strconv_Atoi_65 K h t0) : Cn P 65 #[t0] h K :=
  Cn_ofs mixed Tryz.func65 (by kernel_rfl) (args := [t0]) (by kernel_rfl) s
/-- function 66: strconv.Itoa -/
def s_strconv_Itoa_66 (K : Value → Hp → Prop) (h : Hp) (t0 : Value) : Prop := Cn P 85 #[t0] h fun t4 h => K t4 h
theorem F_strconv_Itoa_66 {K : Value → Hp → Prop} {h : Hp} {t0 : Value} (s : s_strconv_Itoa_66 K h t0) : Cn P 66 #[t0] h K :=
  Cn_ofs mixed Tryz.func66 (by kernel_rfl) (args := [t0]) (by kernel_rfl) s
/-- function 67: orlop.tar.mayText -/
def s_tar_mayText (K : Value → Hp → Prop) (h : Hp) (t0 : Value) : Prop := q P h (Builtin.len_ #[9] 3 #[t0]) fun t4 => q P h (binOp .leq 3 t4 (Value.int .i64 1000)) fun t5 => gd t5 true (Cn P 73 #[t0, (Value.int .u8 0)] h fun t8 h => q P h (binOp .lss 3 t8 (Value.int .i64 0)) fun t9 => K t9 h) (K (Value.bool false) h)
theorem F_tar_mayText {K : Value → Hp → Prop} {h : Hp} {t0 : Value} (s : s_tar_mayText K h t0) : Cn P 67 #[t0] h K :=
  Cn_ofs mixed Tryz.func67 (by kernel_rfl) (args := [t0]) (by kernel_rfl) s
/-- function 68: slices.IndexFunc[[]orlop.api.Entry,orlop.api.Entry] -/
def s_slices_IndexFunc_api_Entry_api_Entry (K : Value → Hp → Prop) (h : Hp) (t0 t1 : Value) : Prop := q P h (Builtin.len_ #[22] 3 #[t0]) fun t7 => 
Lp [(Value.int .i64 0), (Value.int .i64 0)] h fun nx4 vs4 h =>
q P h (binOp .lss 3 (vs4.getD 1 undef) t7) fun t9 => cnd t9 (q P h (Instr.indexAt 22 t0 (vs4.getD 1 undef)) fun t14 => q P h (Instr.loadAt 37 t14) fun t15 => callP P t1 [t15] h fun t16 h => cnd t16 (K (vs4.getD 1 undef) h) (q P h (binOp .add 3 (vs4.getD 1 undef) (Value.int .i64 1)) fun t18 => nx4 [(vs4.getD 0 undef), t18] h)) (K (Value.int .i64 (-1)) h)
theorem F_slices_IndexFunc_api_Entry_api_Entry {K : Value → Hp → Prop} {h : Hp} {t0 t1 : Value} (s : s_slices_IndexFunc_api_Entry_api_Entry K h t0 t1) : Cn P 68 #[t0, t1] h K :=
  Cn_ofs mixed Tryz.func68 (by kernel_rfl) (args := [t0, t1]) (by kernel_rfl) s
end Go.Proofs.YtflfhbnflcfmgaaGreatDoor
set_option linter.unusedVariables false
set_option maxRecDepth 100000
namespace Go.Proofs.YtflfhbnflcfmgaaGreatDoor
open Go Go.SL
/-- function 69: strings.Repeat -/
def s_strings_Repeat_15 (K : Value → Hp → Prop) (h : Hp) (t4 : Value) : Prop := K t4 h
def s_strings_Repeat_14 (K : Value → Hp → Prop) (h : Hp) (t4 t9 : Value) : Prop := Cn P 91 #[t9] h fun t124 h => s_strings_Repeat_15 K h t124
def s_strings_Repeat_13 (K : Value → Hp → Prop) (h : Hp) (t4 t7 t8 t9 : Value) : Prop := 
Lp [] h fun nx31 vs31 h =>
Cn P 90 #[t9] h fun t111 h => q P h (binOp .lss 3 t111 t7) fun t113 => cnd t113 (Cn P 90 #[t9] h fun t115 h => q P h (binOp .sub 3 t7 t115) fun t116 => Cn P 90 #[t9] h fun t117 h => q P h (Builtin.min_ #[3, 3, 3] 3 #[t116, t117, t8]) fun t119 => Cn P 91 #[t9] h fun t120 h => q P h (Instr.sliceAt 9 t120 none (some t119) none) fun t122 => Cn P 89 #[t9, t122] h fun t123 h => nx31 [] h) (s_strings_Repeat_14 K h t4 t9)
def s_strings_Repeat_12 (K : Value → Hp → Prop) (h : Hp) (t0 t4 t7 t8 t9 : Value) : Prop := Cn P 89 #[t9, t0] h fun t110 h => s_strings_Repeat_13 K h t4 t7 t8 t9
def s_strings_Repeat_11 (K : Value → Hp → Prop) (h : Hp) (t0 t4 t7 t8 t9 : Value) : Prop := Cn P 88 #[t9, t7] h fun t108 h => s_strings_Repeat_12 K h t0 t4 t7 t8 t9
def s_strings_Repeat_10 (K : Value → Hp → Prop) (h : Hp) (t0 t4 t7 t8 : Value) : Prop := aw P (Instr.alloc 105 true (.tuple #[])) (fun t9 h => s_strings_Repeat_11 K h t0 t4 t7 t8 t9) h
def s_strings_Repeat_9 (K : Value → Hp → Prop) (h : Hp) (t0 t4 t7 t8 : Value) : Prop := q P h (binOp .gtr 3 t7 (Value.int .i64 8192)) fun t96 => cnd t96 (q P h (Builtin.len_ #[9] 3 #[t0]) fun t98 => q P h (binOp .quo 3 (Value.int .i64 8192) t98) fun t99 => q P h (Builtin.len_ #[9] 3 #[t0]) fun t101 => q P h (binOp .mul 3 t99 t101) fun t102 => q P h (eqop .eql 3 (.tmp 103) (.const (Value.int .i64 0)) t102 (Value.int .i64 0)) fun t104 => cnd t104 (q P h (Builtin.len_ #[9] 3 #[t0]) fun t106 => s_strings_Repeat_10 K h t0 t4 t7 t106) (s_strings_Repeat_10 K h t0 t4 t7 t102)) (s_strings_Repeat_10 K h t0 t4 t7 t8)
def s_strings_Repeat_8 (K : Value → Hp → Prop) (h : Hp) (t0 t4 t7 : Value) : Prop := s_strings_Repeat_9 K h t0 t4 t7 t7
def s_strings_Repeat_7 (K : Value → Hp → Prop) (h : Hp) (t0 t4 t7 : Value) : Prop := q P h (Instr.index 9 t0 (Value.int .i64 0)) fun t42 => 
let J11 : Value → Hp → Prop := fun t43 h => cnd t43 (
let J16 : Value → Hp → Prop := fun t49 h => cnd t49 (q P h (Instr.sliceAt 9 (Value.string tx_29165f) none (some t7) none) fun t57 => K t57 h) (
let J18 : Value → Hp → Prop := fun t58 h => cnd t58 (q P h (Instr.sliceAt 9 (Value.string tx_07da90) none (some t7) none) fun t66 => K t66 h) (
let J20 : Value → Hp → Prop := fun t67 h => cnd t67 (q P h (Instr.sliceAt 9 (Value.string tx_211e66) none (some t7) none) fun t75 => K t75 h) (
let J22 : Value → Hp → Prop := fun t76 h => cnd t76 (q P h (Instr.sliceAt 9 (Value.string tx_b9bce8) none (some t7) none) fun t84 => K t84 h) (q P h (binOp .leq 3 t7 (Value.int .i64 64)) fun t87 => gd t87 true (Cn P 87 #[(Value.string tx_56a682), t0] h fun t90 h => cnd t90 (q P h (Instr.sliceAt 9 (Value.string tx_56a682) none (some t7) none) fun t93 => K t93 h) (s_strings_Repeat_8 K h t0 t4 t7)) (cnd (Value.bool false) (q P h (Instr.sliceAt 9 (Value.string tx_56a682) none (some t7) none) fun t93 => K t93 h) (s_strings_Repeat_8 K h t0 t4 t7)));
q P h (binOp .leq 3 t7 (Value.int .i64 128)) fun t78 => gd t78 true (Cn P 87 #[(Value.string tx_b9bce8), t0] h fun t81 h => J22 t81 h) (J22 (Value.bool false) h));
q P h (binOp .leq 3 t7 (Value.int .i64 64)) fun t69 => gd t69 true (Cn P 87 #[(Value.string tx_211e66), t0] h fun t72 h => J20 t72 h) (J20 (Value.bool false) h));
q P h (binOp .leq 3 t7 (Value.int .i64 128)) fun t60 => gd t60 true (Cn P 87 #[(Value.string tx_07da90), t0] h fun t63 h => J18 t63 h) (J18 (Value.bool false) h));
q P h (binOp .leq 3 t7 (Value.int .i64 128)) fun t51 => gd t51 true (Cn P 87 #[(Value.string tx_29165f), t0] h fun t54 h => J16 t54 h) (J16 (Value.bool false) h)) (s_strings_Repeat_8 K h t0 t4 t7);
q P h (eqop .eql 5 (.tmp 42) (.const (Value.int .u8 32)) t42 (Value.int .u8 32)) fun t44 => cnd t44 (J11 t44 h) (q P h (eqop .eql 5 (.tmp 42) (.const (Value.int .u8 45)) t42 (Value.int .u8 45)) fun t45 => cnd t45 (J11 t45 h) (q P h (eqop .eql 5 (.tmp 42) (.const (Value.int .u8 48)) t42 (Value.int .u8 48)) fun t46 => cnd t46 (J11 t46 h) (q P h (eqop .eql 5 (.tmp 42) (.const (Value.int .u8 61)) t42 (Value.int .u8 61)) fun t47 => cnd t47 (J11 t47 h) (q P h (eqop .eql 5 (.tmp 42) (.const (Value.int .u8 9)) t42 (Value.int .u8 9)) fun t48 => J11 t48 h))))
def s_strings_Repeat_6 (K : Value → Hp → Prop) (h : Hp) (t0 t4 t7 : Value) : Prop := q P h (Builtin.len_ #[9] 3 #[t0]) fun t39 => q P h (eqop .eql 3 (.tmp 39) (.const (Value.int .i64 0)) t39 (Value.int .i64 0)) fun t40 => cnd t40 (K (Value.string ⟨#[]⟩) h) (s_strings_Repeat_7 K h t0 t4 t7)
def s_strings_Repeat_5 (K : Value → Hp → Prop) (h : Hp) (t0 t4 t6 : Value) : Prop := q P h (convert 99 3 t6) fun t37 => s_strings_Repeat_6 K h t0 t4 t37
def s_strings_Repeat_4 (K : Value → Hp → Prop) (h : Hp) (t0 t4 t5 t6 : Value) : Prop := q P h (binOp .gtr 99 t5 (Value.int .u64 0)) fun t30 => gd t30 false (q P h (binOp .gtr 99 t6 (Value.int .u64 9223372036854775807)) fun t33 => cnd t33 (q P h (Instr.makeInterface 9 (Value.string tx_1635a9)) fun t35 => False) (s_strings_Repeat_5 K h t0 t4 t6)) (cnd (Value.bool true) (q P h (Instr.makeInterface 9 (Value.string tx_1635a9)) fun t35 => False) (s_strings_Repeat_5 K h t0 t4 t6))
def s_strings_Repeat_3 (K : Value → Hp → Prop) (h : Hp) (t0 t1 t4 : Value) : Prop := q P h (Builtin.len_ #[9] 3 #[t0]) fun t22 => q P h (convert 3 99 t22) fun t23 => q P h (convert 3 99 t1) fun t25 => Cn P 86 #[t23, t25] h fun t26 h => q P h (Instr.extract t26 0) fun t27 => q P h (Instr.extract t26 1) fun t28 => s_strings_Repeat_4 K h t0 t4 t27 t28
def s_strings_Repeat_2 (K : Value → Hp → Prop) (h : Hp) (t0 t1 t4 : Value) : Prop := q P h (binOp .lss 3 t1 (Value.int .i64 0)) fun t18 => cnd t18 (q P h (Instr.makeInterface 9 (Value.string tx_75e87c)) fun t19 => False) (s_strings_Repeat_3 K h t0 t1 t4)
def s_strings_Repeat_1 (K : Value → Hp → Prop) (h : Hp) (t0 t1 t4 : Value) : Prop := q P h (eqop .eql 3 (.tmp 11) (.const (Value.int .i64 0)) t1 (Value.int .i64 0)) fun t13 => cnd t13 (K (Value.string ⟨#[]⟩) h) (q P h (eqop .eql 3 (.tmp 11) (.const (Value.int .i64 1)) t1 (Value.int .i64 1)) fun t15 => cnd t15 (K t0 h) (s_strings_Repeat_2 K h t0 t1 t4))
def s_strings_Repeat (K : Value → Hp → Prop) (h : Hp) (t0 t1 : Value) : Prop := s_strings_Repeat_1 K h t0 t1 (Value.string ⟨#[]⟩)
theorem c_strings_Repeat_15 {K : Value → Hp → Prop} {h : Hp} {t4 : Value} (s : s_strings_Repeat_15 K h t4) : SV P Tryz.f69.ntmps (seqR (seqR (seqR (seqR (seqR (seqR (seqR (seqR (seqR (seqR (seqR (seqR (seqR (seqR (seqR (Tryz.f69.body.getD .skip)))))))))))))))) (retP P Tryz.f69.results.toList K) (headOf [4] [t4]) h :=
  SV_of mixed (by kernel_rfl) s
theorem c_strings_Repeat_14 {K : Value → Hp → Prop} {h : Hp} {t4 t9 : Value} (s : s_strings_Repeat_14 K h t4 t9) : SV P Tryz.f69.ntmps (seqR (seqR (seqR (seqR (seqR (seqR (seqR (seqR (seqR (seqR (seqR (seqR (seqR (seqR (Tryz.f69.body.getD .skip))))))))))))))) (retP P Tryz.f69.results.toList K) (headOf [4, 9] [t4, t9]) h :=
  cut_at mixed (by kernel_rfl) [4] (fun vs h => s_strings_Repeat_15 K h (vs.getD 0 undef)) (fun vs h _ x => Eq.mp (by kernel_rfl) (c_strings_Repeat_15 x)) (by kernel_rfl) s
theorem c_strings_Repeat_13 {K : Value → Hp → Prop} {h : Hp} {t4 t7 t8 t9 : Value} (s : s_strings_Repeat_13 K h t4 t7 t8 t9) : SV P Tryz.f69.ntmps (seqR (seqR (seqR (seqR (seqR (seqR (seqR (seqR (seqR (seqR (seqR (seqR (seqR (Tryz.f69.body.getD .skip)))))))))))))) (retP P Tryz.f69.results.toList K) (headOf [4, 7, 8, 9] [t4, t7, t8, t9]) h :=
  cut_at mixed (by kernel_rfl) [4, 9] (fun vs h => s_strings_Repeat_14 K h (vs.getD 0 undef) (vs.getD 1 undef)) (fun vs h _ x => Eq.mp (by kernel_rfl) (c_strings_Repeat_14 x)) (by kernel_rfl) s
theorem c_strings_Repeat_12 {K : Value → Hp → Prop} {h : Hp} {t0 t4 t7 t8 t9 : Value} (s : s_strings_Repeat_12 K h t0 t4 t7 t8 t9) : SV P Tryz.f69.ntmps (seqR (seqR (seqR (seqR (seqR (seqR (seqR (seqR (seqR (seqR (seqR (seqR (Tryz.f69.body.getD .skip))))))))))))) (retP P Tryz.f69.results.toList K) (headOf [0, 4, 7, 8, 9] [t0, t4, t7, t8, t9]) h :=
  cut_at mixed (by kernel_rfl) [4, 7, 8, 9] (fun vs h => s_strings_Repeat_13 K h (vs.getD 0 undef) (vs.getD 1 undef) (vs.getD 2 undef) (vs.getD 3 undef)) (fun vs h _ x => Eq.mp (by kernel_rfl) (c_strings_Repeat_13 x)) (by kernel_rfl) s
theorem c_strings_Repeat_11 {K : Value → Hp → Prop} {h : Hp} {t0 t4 t7 t8 t9 : Value} (s : s_strings_Repeat_11 K h t0 t4 t7 t8 t9) : SV P Tryz.f69.ntmps (seqR (seqR (seqR (seqR (seqR (seqR (seqR (seqR (seqR (seqR (seqR (Tryz.f69.body.getD .skip)))))))))))) (retP P Tryz.f69.results.toList K) (headOf [0, 4, 7, 8, 9] [t0, t4, t7, t8, t9]) h :=
  cut_at mixed (by kernel_rfl) [0, 4, 7, 8, 9] (fun vs h => s_strings_Repeat_12 K h (vs.getD 0 undef) (vs.getD 1 undef) (vs.getD 2 undef) (vs.getD 3 undef) (vs.getD 4 undef)) (fun vs h _ x => Eq.mp (by kernel_rfl) (c_strings_Repeat_12 x)) (by kernel_rfl) s
theorem c_strings_Repeat_10 {K : Value → Hp → Prop} {h : Hp} {t0 t4 t7 t8 : Value} (s : s_strings_Repeat_10 K h t0 t4 t7 t8) : SV P Tryz.f69.ntmps (seqR (seqR (seqR (seqR (seqR (seqR (seqR (seqR (seqR (seqR (Tryz.f69.body.getD .skip))))))))))) (retP P Tryz.f69.results.toList K) (headOf [0, 4, 7, 8] [t0, t4, t7, t8]) h :=
  cut_at mixed (by kernel_rfl) [0, 4, 7, 8, 9] (fun vs h => s_strings_Repeat_11 K h (vs.getD 0 undef) (vs.getD 1 undef) (vs.getD 2 undef) (vs.getD 3 undef) (vs.getD 4 undef)) (fun vs h _ x => Eq.mp (by kernel_rfl) (c_strings_Repeat_11 x)) (by kernel_rfl) s
theorem c_strings_Repeat_9 {K : Value → Hp → Prop} {h : Hp} {t0 t4 t7 t8 : Value} (s : s_strings_Repeat_9 K h t0 t4 t7 t8) : SV P Tryz.f69.ntmps (seqR (seqR (seqR (seqR (seqR (seqR (seqR (seqR (seqR (Tryz.f69.body.getD .skip)))))))))) (retP P Tryz.f69.results.toList K) (headOf [0, 4, 7, 8] [t0, t4, t7, t8]) h :=
  cut_at mixed (by kernel_rfl) [0, 4, 7, 8] (fun vs h => s_strings_Repeat_10 K h (vs.getD 0 undef) (vs.getD 1 undef) (vs.getD 2 undef) (vs.getD 3 undef)) (fun vs h _ x => Eq.mp (by kernel_rfl) (c_strings_Repeat_10 x)) (by kernel_rfl) s
theorem c_strings_Repeat_8 {K : Value → Hp → Prop} {h : Hp} {t0 t4 t7 : Value} (s : s_strings_Repeat_8 K h t0 t4 t7) : SV P Tryz.f69.ntmps (seqR (seqR (seqR (seqR (seqR (seqR (seqR (seqR (Tryz.f69.body.getD .skip))))))))) (retP P Tryz.f69.results.toList K) (headOf [0, 4, 7] [t0, t4, t7]) h :=
  cut_at mixed (by kernel_rfl) [0, 4, 7, 8] (fun vs h => s_strings_Repeat_9 K h (vs.getD 0 undef) (vs.getD 1 undef) (vs.getD 2 undef) (vs.getD 3 undef)) (fun vs h _ x => Eq.mp (by kernel_rfl) (c_strings_Repeat_9 x)) (by kernel_rfl) s
theorem c_strings_Repeat_7 {K : Value → Hp → Prop} {h : Hp} {t0 t4 t7 : Value} (s : s_strings_Repeat_7 K h t0 t4 t7) : SV P Tryz.f69.ntmps (seqR (seqR (seqR (seqR (seqR (seqR (seqR (Tryz.f69.body.getD .skip)))))))) (retP P Tryz.f69.results.toList K) (headOf [0, 4, 7] [t0, t4, t7]) h :=
  cut_at mixed (by kernel_rfl) [0, 4, 7] (fun vs h => s_strings_Repeat_8 K h (vs.getD 0 undef) (vs.getD 1 undef) (vs.getD 2 undef)) (fun vs h _ x => Eq.mp (by kernel_rfl) (c_strings_Repeat_8 x)) (by kernel_rfl) s
theorem c_strings_Repeat_6 {K : Value → Hp → Prop} {h : Hp} {t0 t4 t7 : Value} (s : s_strings_Repeat_6 K h t0 t4 t7) : SV P Tryz.f69.ntmps (seqR (seqR (seqR (seqR (seqR (seqR (Tryz.f69.body.getD .skip))))))) (retP P Tryz.f69.results.toList K) (headOf [0, 4, 7] [t0, t4, t7]) h :=
  cut_at mixed (by kernel_rfl) [0, 4, 7] (fun vs h => s_strings_Repeat_7 K h (vs.getD 0 undef) (vs.getD 1 undef) (vs.getD 2 undef)) (fun vs h _ x => Eq.mp (by kernel_rfl) (c_strings_Repeat_7 x)) (by kernel_rfl) s
theorem c_strings_Repeat_5 {K : Value → Hp → Prop} {h : Hp} {t0 t4 t6 : Value} (s : s_strings_Repeat_5 K h t0 t4 t6) : SV P Tryz.f69.ntmps (seqR (seqR (seqR (seqR (seqR (Tryz.f69.body.getD .skip)))))) (retP P Tryz.f69.results.toList K) (headOf [0, 4, 6] [t0, t4, t6]) h :=
  cut_at mixed (by kernel_rfl) [0, 4, 7] (fun vs h => s_strings_Repeat_6 K h (vs.getD 0 undef) (vs.getD 1 undef) (vs.getD 2 undef)) (fun vs h _ x => Eq.mp (by kernel_rfl) (c_strings_Repeat_6 x)) (by kernel_rfl) s
theorem c_strings_Repeat_4 {K : Value → Hp → Prop} {h : Hp} {t0 t4 t5 t6 : Value} (s : s_strings_Repeat_4 K h t0 t4 t5 t6) : SV P Tryz.f69.ntmps (seqR (seqR (seqR (seqR (Tryz.f69.body.getD .skip))))) (retP P Tryz.f69.results.toList K) (headOf [0, 4, 5, 6] [t0, t4, t5, t6]) h :=
  cut_at mixed (by kernel_rfl) [0, 4, 6] (fun vs h => s_strings_Repeat_5 K h (vs.getD 0 undef) (vs.getD 1 undef) (vs.getD 2 undef)) (fun vs h _ x => Eq.mp (by kernel_rfl) (c_strings_Repeat_5 x)) (by kernel_rfl) s
theorem c_strings_Repeat_3 {K : Value → Hp → Prop} {h : Hp} {t0 t1 t4 : Value} (s : s_strings_Repeat_3 K h t0 t1 t4) : SV P Tryz.f69.ntmps (seqR (seqR (seqR (Tryz.f69.body.getD .skip)))) (retP P Tryz.f69.results.toList K) (headOf [0, 1, 4] [t0, t1, t4]) h :=
  cut_at mixed (by kernel_rfl) [0, 4, 5, 6] (fun vs h => s_strings_Repeat_4 K h (vs.getD 0 undef) (vs.getD 1 undef) (vs.getD 2 undef) (vs.getD 3 undef)) (fun vs h _ x => Eq.mp (by kernel_rfl) (c_strings_Repeat_4 x)) (by kernel_rfl) s
theorem c_strings_Repeat_2 {K : Value → Hp → Prop} {h : Hp} {t0 t1 t4 : Value} (s : s_strings_Repeat_2 K h t0 t1 t4) : SV P Tryz.f69.ntmps (seqR (seqR (Tryz.f69.body.getD .skip))) (retP P Tryz.f69.results.toList K) (headOf [0, 1, 4] [t0, t1, t4]) h :=
  cut_at mixed (by kernel_rfl) [0, 1, 4] (fun vs h => s_strings_Repeat_3 K h (vs.getD 0 undef) (vs.getD 1 undef) (vs.getD 2 undef)) (fun vs h _ x => Eq.mp (by kernel_rfl) (c_strings_Repeat_3 x)) (by kernel_rfl) s
theorem c_strings_Repeat_1 {K : Value → Hp → Prop} {h : Hp} {t0 t1 t4 : Value} (s : s_strings_Repeat_1 K h t0 t1 t4) : SV P Tryz.f69.ntmps (seqR (Tryz.f69.body.getD .skip)) (retP P Tryz.f69.results.toList K) (headOf [0, 1, 4] [t0, t1, t4]) h :=
  cut_at mixed (by kernel_rfl) [0, 1, 4] (fun vs h => s_strings_Repeat_2 K h (vs.getD 0 undef) (vs.getD 1 undef) (vs.getD 2 undef)) (fun vs h _ x => Eq.mp (by kernel_rfl) (c_strings_Repeat_2 x)) (by kernel_rfl) s
theorem c_strings_Repeat_0 {K : Value → Hp → Prop} {h : Hp} {t0 t1 : Value} (s : s_strings_Repeat K h t0 t1) : SV P Tryz.f69.ntmps (Tryz.f69.body.getD .skip) (retP P Tryz.f69.results.toList K) (env0 [t0, t1]) h :=
  cut_at mixed (by kernel_rfl) [0, 1, 4] (fun vs h => s_strings_Repeat_1 K h (vs.getD 0 undef) (vs.getD 1 undef) (vs.getD 2 undef)) (fun vs h _ x => Eq.mp (by kernel_rfl) (c_strings_Repeat_1 x)) (by kernel_rfl) s
theorem F_strings_Repeat {K : Value → Hp → Prop} {h : Hp} {t0 t1 : Value} (s : s_strings_Repeat K h t0 t1) : Cn P 69 #[t0, t1] h K :=
  Cn_sv Tryz.func69 (by kernel_rfl) (args := [t0, t1]) (c_strings_Repeat_0 s)
/-- function 70: strconv.FormatInt -/
def s_strconv_FormatInt_70 (K : Value → Hp → Prop) (h : Hp) (t0 t1 : Value) : Prop := Cn P 92 #[t0, t1] h fun t7 h => K t7 h
theorem F_strconv_FormatInt_70 {K : Value → Hp → Prop} {h : Hp} {t0 t1 : Value} (s : s_strconv_FormatInt_70 K h t0 t1) : Cn P 70 #[t0, t1] h K :=
  Cn_ofs mixed Tryz.func70 (by kernel_rfl) (args := [t0, t1]) (by kernel_rfl) s
/-- function 73: strings.IndexByte -/
def s_strings_IndexByte (K : Value → Hp → Prop) (h : Hp) (t0 t1 : Value) : Prop := Cn P 93 #[t0, t1] h fun t7 h => K t7 h
theorem F_strings_IndexByte {K : Value → Hp → Prop} {h : Hp} {t0 t1 : Value} (s : s_strings_IndexByte K h t0 t1) : Cn P 73 #[t0, t1] h K :=
  Cn_ofs mixed Tryz.func73 (by kernel_rfl) (args := [t0, t1]) (by kernel_rfl) s
end Go.Proofs.YtflfhbnflcfmgaaGreatDoor
set_option linter.unusedVariables false
set_option maxRecDepth 100000
namespace Go.Proofs.YtflfhbnflcfmgaaGreatDoor
open Go Go.SL
/-- function 74: strings.trimRightByte -/
def s_strings_trimRightByte (K : Value → Hp → Prop) (h : Hp) (t0 t1 : Value) : Prop := 
Lp [t0] h fun nx3 vs3 h =>

let J4 : Hp → Prop := fun h => q P h (Builtin.len_ #[9] 3 #[(vs3.getD 0 undef)]) fun t19 => q P h (binOp .sub 3 t19 (Value.int .i64 1)) fun t20 => q P h (Instr.sliceAt 9 (vs3.getD 0 undef) none (some t20) none) fun t21 => nx3 [t21] h;
q P h (Builtin.len_ #[9] 3 #[(vs3.getD 0 undef)]) fun t6 => q P h (binOp .gtr 3 t6 (Value.int .i64 0)) fun t7 => gd t7 true (q P h (Builtin.len_ #[9] 3 #[(vs3.getD 0 undef)]) fun t11 => q P h (binOp .sub 3 t11 (Value.int .i64 1)) fun t12 => q P h (Instr.index 9 (vs3.getD 0 undef) t12) fun t13 => q P h (eqop .eql 5 (.tmp 13) (.tmp 14) t13 t1) fun t15 => cnd t15 (J4 h) (K (vs3.getD 0 undef) h)) (cnd (Value.bool false) (J4 h) (K (vs3.getD 0 undef) h))
theorem F_strings_trimRightByte {K : Value → Hp → Prop} {h : Hp} {t0 t1 : Value} (s : s_strings_trimRightByte K h t0 t1) : Cn P 74 #[t0, t1] h K :=
  Cn_ofs mixed Tryz.func74 (by kernel_rfl) (args := [t0, t1]) (by kernel_rfl) s
/-- function 75: strings.makeASCIISet -/
def s_strings_makeASCIISet (K : Value → Hp → Prop) (h : Hp) (t0 : Value) : Prop := aw P (Instr.alloc 93 true (.tuple #[])) (fun t2 h => 
Lp [(Value.bool false), (Value.int .i64 0)] h fun nx4 vs4 h =>
q P h (Builtin.len_ #[9] 3 #[t0]) fun t8 => q P h (binOp .lss 3 (vs4.getD 1 undef) t8) fun t9 => cnd t9 (q P h (Instr.index 9 t0 (vs4.getD 1 undef)) fun t14 => q P h (binOp .geq 5 t14 (Value.int .u8 128)) fun t16 => cnd t16 (q P h (Instr.loadAt 93 t2) fun t17 => aw P (Instr.storeAt 93 t2 t17) (fun _ h => q P h ((asAddr t2).bind (loadVar 93)) fun r0 => K (Value.tuple #[r0, (Value.bool false)]) h) h) (q P h (Instr.indexAt 93 t2 t14) fun t19 => aw P (Instr.storeAt 4 t19 (Value.bool true)) (fun _ h => q P h (binOp .add 3 (vs4.getD 1 undef) (Value.int .i64 1)) fun t11 => nx4 [(vs4.getD 0 undef), t11] h) h)) (q P h (Instr.loadAt 93 t2) fun t20 => aw P (Instr.storeAt 93 t2 t20) (fun _ h => q P h ((asAddr t2).bind (loadVar 93)) fun r0 => K (Value.tuple #[r0, (Value.bool true)]) h) h)) h
theorem F_strings_makeASCIISet {K : Value → Hp → Prop} {h : Hp} {t0 : Value} (s : s_strings_makeASCIISet K h t0) : Cn P 75 #[t0] h K :=
  Cn_ofs mixed Tryz.func75 (by kernel_rfl) (args := [t0]) (by kernel_rfl) s
/-- function 76: strings.trimRightASCII -/
def s_strings_trimRightASCII (K : Value → Hp → Prop) (h : Hp) (t0 t1 : Value) : Prop := 
Lp [t0] h fun nx3 vs3 h =>
q P h (Builtin.len_ #[9] 3 #[(vs3.getD 0 undef)]) fun t6 => q P h (binOp .gtr 3 t6 (Value.int .i64 0)) fun t7 => cnd t7 (q P h (Builtin.len_ #[9] 3 #[(vs3.getD 0 undef)]) fun t11 => q P h (binOp .sub 3 t11 (Value.int .i64 1)) fun t12 => q P h (Instr.index 9 (vs3.getD 0 undef) t12) fun t13 => Cn P 94 #[t1, t13] h fun t14 h => q P h (Op.unary .not t14) fun t15 => cnd t15 (K (vs3.getD 0 undef) h) (q P h (Builtin.len_ #[9] 3 #[(vs3.getD 0 undef)]) fun t18 => q P h (binOp .sub 3 t18 (Value.int .i64 1)) fun t19 => q P h (Instr.sliceAt 9 (vs3.getD 0 undef) none (some t19) none) fun t20 => nx3 [t20] h)) (K (vs3.getD 0 undef) h)
theorem F_strings_trimRightASCII {K : Value → Hp → Prop} {h : Hp} {t0 t1 : Value} (s : s_strings_trimRightASCII K h t0 t1) : Cn P 76 #[t0, t1] h K :=
  Cn_ofs mixed Tryz.func76 (by kernel_rfl) (args := [t0, t1]) (by kernel_rfl) s
/-- function 79: strings.trimLeftASCII -/
def s_strings_trimLeftASCII (K : Value → Hp → Prop) (h : Hp) (t0 t1 : Value) : Prop := 
Lp [t0] h fun nx3 vs3 h =>
q P h (Builtin.len_ #[9] 3 #[(vs3.getD 0 undef)]) fun t6 => q P h (binOp .gtr 3 t6 (Value.int .i64 0)) fun t7 => cnd t7 (q P h (Instr.index 9 (vs3.getD 0 undef) (Value.int .i64 0)) fun t10 => Cn P 94 #[t1, t10] h fun t11 h => q P h (Op.unary .not t11) fun t12 => cnd t12 (K (vs3.getD 0 undef) h) (q P h (Instr.sliceAt 9 (vs3.getD 0 undef) (some (Value.int .i64 1)) none none) fun t14 => nx3 [t14] h)) (K (vs3.getD 0 undef) h)
theorem F_strings_trimLeftASCII {K : Value → Hp → Prop} {h : Hp} {t0 t1 : Value} (s : s_strings_trimLeftASCII K h t0 t1) : Cn P 79 #[t0, t1] h K :=
  Cn_ofs mixed Tryz.func79 (by kernel_rfl) (args := [t0, t1]) (by kernel_rfl) s
/-- function 81: internal.strconv.ParseInt -/
def s_strconv_ParseInt_81 (K : Value → Hp → Prop) (h : Hp) (t0 t1 t2 : Value) : Prop := q P h (eqop .eql 9 (.tmp 12) (.const (Value.string ⟨#[]⟩)) t0 (Value.string ⟨#[]⟩)) fun t13 => cnd t13 (q P h (Instr.makeInterface 114 (Value.int .i64 2)) fun t14 => K (Value.tuple #[(Value.int .i64 0), t14]) h) (
let J6 : Value → Value → Hp → Prop := fun t0n6 t8 h => Cn P 98 #[t0n6, t1, t2] h fun t29 h => q P h (Instr.extract t29 0) fun t30 => q P h (Instr.extract t29 1) fun t31 => 
let J13 : Hp → Prop := fun h => 
let J18 : Value → Hp → Prop := fun t2n18 h => q P h (binOp .sub 3 t2n18 (Value.int .i64 1)) fun t43 => q P h (convert 3 99 t43) fun t44 => q P h (binOp .shl 115 (Value.int .u64 1) t44) fun t45 => 
let J22 : Value → Hp → Prop := fun t52 h => cnd t52 (q P h (binOp .sub 115 t45 (Value.int .u64 1)) fun t54 => q P h (convert 115 2 t54) fun t55 => q P h (Instr.makeInterface 114 (Value.int .i64 1)) fun t56 => K (Value.tuple #[t55, t56]) h) (
let J25 : Value → Hp → Prop := fun t62 h => cnd t62 (q P h (convert 115 2 t45) fun t64 => q P h (Op.unary .neg t64) fun t65 => q P h (Instr.makeInterface 114 (Value.int .i64 1)) fun t66 => K (Value.tuple #[t65, t66]) h) (q P h (convert 115 2 t30) fun t68 => cnd t8 (q P h (Op.unary .neg t68) fun t71 => K (Value.tuple #[t71, Value.nilIface]) h) (K (Value.tuple #[t68, Value.nilIface]) h));
gd t8 true (q P h (binOp .gtr 115 t30 t45) fun t61 => J25 t61 h) (J25 (Value.bool false) h));
q P h (Op.unary .not t8) fun t47 => gd t47 true (q P h (binOp .geq 115 t30 t45) fun t51 => J22 t51 h) (J22 (Value.bool false) h);
q P h (eqop .eql 3 (.tmp 40) (.const (Value.int .i64 0)) t2 (Value.int .i64 0)) fun t41 => cnd t41 (J18 (Value.int .i64 64) h) (J18 t2 h);
q P h (eqop .neq 82 (.tmp 32) (.const Value.nilIface) t31 Value.nilIface) fun t33 => gd t33 true (q P h (Instr.makeInterface 114 (Value.int .i64 1)) fun t36 => q P h (eqop .neq 82 (.tmp 35) (.tmp 36) t31 t36) fun t37 => cnd t37 (K (Value.tuple #[(Value.int .i64 0), t31]) h) (J13 h)) (cnd (Value.bool false) (K (Value.tuple #[(Value.int .i64 0), t31]) h) (J13 h));
q P h (Instr.index 9 t0 (Value.int .i64 0)) fun t16 => q P h (eqop .eql 5 (.tmp 16) (.const (Value.int .u8 43)) t16 (Value.int .u8 43)) fun t18 => cnd t18 (q P h (Instr.sliceAt 9 t0 (some (Value.int .i64 1)) none none) fun t20 => J6 t20 (Value.bool false) h) (q P h (eqop .eql 5 (.tmp 16) (.const (Value.int .u8 45)) t16 (Value.int .u8 45)) fun t22 => cnd t22 (q P h (Instr.sliceAt 9 t0 (some (Value.int .i64 1)) none none) fun t24 => J6 t24 (Value.bool true) h) (J6 t0 (Value.bool false) h)))
theorem F_strconv_ParseInt_81 {K : Value → Hp → Prop} {h : Hp} {t0 t1 t2 : Value} (s : s_strconv_ParseInt_81 K h t0 t1 t2) : Cn P 81 #[t0, t1, t2] h K :=
  Cn_ofs mixed Tryz.func81 (by kernel_rfl) (args := [t0, t1, t2]) (by kernel_rfl) s
/-- function 83: internal.stringslite.Cut -/
def s_stringslite_Cut (K : Value → Hp → Prop) (h : Hp) (t0 t1 : Value) : Prop := Cn P 103 #[t0, t1] h fun t10 h => q P h (binOp .geq 3 t10 (Value.int .i64 0)) fun t12 => cnd t12 (q P h (Instr.sliceAt 9 t0 none (some t10) none) fun t15 => q P h (Builtin.len_ #[9] 3 #[t1]) fun t19 => q P emp (binOp .add 3 t10 t19) fun t20 => q P h (Instr.sliceAt 9 t0 (some t20) none none) fun t21 => K (Value.tuple #[t15, t21, (Value.bool true)]) h) (K (Value.tuple #[t0, (Value.string ⟨#[]⟩), (Value.bool false)]) h)
theorem F_stringslite_Cut {K : Value → Hp → Prop} {h : Hp} {t0 t1 : Value} (s : s_stringslite_Cut K h t0 t1) : Cn P 83 #[t0, t1] h K :=
  Cn_ofs mixed Tryz.func83 (by kernel_rfl) (args := [t0, t1]) (by kernel_rfl) s
/-- function 84: internal.strconv.Atoi -/
def s_strconv_Atoi_84 (K : Value → Hp → Prop) (h : Hp) (t0 : Value) : Prop := q P h (Builtin.len_ #[9] 3 #[t0]) fun t12 => 
let J4 : Value → Hp → Prop := fun t30 h => cnd t30 (
let J6 : Value → Hp → Prop := fun t0n6 h => aw P (convert 9 26 t0n6) (fun t47 h => q P h (Builtin.len_ #[26] 3 #[t47]) fun t48 => 
Lp [(Value.int .i64 0), Value.nilIface, (Value.int .i64 0), (Value.int .i64 0)] h fun nx14 vs14 h =>
q P h (binOp .lss 3 (vs14.getD 3 undef) t48) fun t50 => cnd t50 (q P h (Instr.indexAt 26 t47 (vs14.getD 3 undef)) fun t51 => q P h (Instr.loadAt 5 t51) fun t52 => q P h (binOp .sub 5 t52 (Value.int .u8 48)) fun t54 => q P h (binOp .gtr 5 t54 (Value.int .u8 9)) fun t56 => cnd t56 (q P h (Instr.makeInterface 114 (Value.int .i64 2)) fun t57 => K (Value.tuple #[(Value.int .i64 0), t57]) h) (q P h (binOp .mul 3 (vs14.getD 2 undef) (Value.int .i64 10)) fun t59 => q P h (convert 5 3 t54) fun t61 => q P h (binOp .add 3 t59 t61) fun t62 => q P h (binOp .add 3 (vs14.getD 3 undef) (Value.int .i64 1)) fun t63 => nx14 [(vs14.getD 0 undef), (vs14.getD 1 undef), t62, t63] h)) (q P h (Instr.index 9 t0 (Value.int .i64 0)) fun t65 => q P h (eqop .eql 5 (.tmp 65) (.const (Value.int .u8 45)) t65 (Value.int .u8 45)) fun t66 => cnd t66 (q P h (Op.unary .neg (vs14.getD 2 undef)) fun t68 => K (Value.tuple #[t68, Value.nilIface]) h) (K (Value.tuple #[(vs14.getD 2 undef), Value.nilIface]) h))) h;

let J7 : Value → Hp → Prop := fun t39 h => cnd t39 (q P h (Instr.sliceAt 9 t0 (some (Value.int .i64 1)) none none) fun t41 => q P h (Builtin.len_ #[9] 3 #[t41]) fun t43 => q P h (binOp .lss 3 t43 (Value.int .i64 1)) fun t44 => cnd t44 (q P h (Instr.makeInterface 114 (Value.int .i64 2)) fun t45 => K (Value.tuple #[(Value.int .i64 0), t45]) h) (J6 t41 h)) (J6 t0 h);
q P h (Instr.index 9 t0 (Value.int .i64 0)) fun t33 => q P h (eqop .eql 5 (.tmp 33) (.const (Value.int .u8 45)) t33 (Value.int .u8 45)) fun t34 => gd t34 false (q P h (Instr.index 9 t0 (Value.int .i64 0)) fun t37 => q P h (eqop .eql 5 (.tmp 37) (.const (Value.int .u8 43)) t37 (Value.int .u8 43)) fun t38 => J7 t38 h) (J7 (Value.bool true) h)) (Cn P 81 #[t0, (Value.int .i64 10), (Value.int .i64 0)] h fun t72 h => q P h (Instr.extract t72 0) fun t73 => q P h (Instr.extract t72 1) fun t74 => K (Value.tuple #[t73, t74]) h);
q P h (binOp .lss 3 (Value.int .i64 0) t12) fun t24 => gd t24 true (q P h (binOp .lss 3 t12 (Value.int .i64 19)) fun t27 => J4 t27 h) (J4 (Value.bool false) h)
theorem F_strconv_Atoi_84 {K : Value → Hp → Prop} {h : Hp} {t0 : Value} (s : s_strconv_Atoi_84 K h t0) : Cn P 84 #[t0] h K :=
  Cn_ofs mixed Tryz.func84 (by kernel_rfl) (args := [t0]) (by kernel_rfl) s
/-- function 85: internal.strconv.Itoa -/
def s_strconv_Itoa_85 (K : Value → Hp → Prop) (h : Hp) (t0 : Value) : Prop := Cn P 92 #[t0, (Value.int .i64 10)] h fun t4 h => K t4 h
theorem F_strconv_Itoa_85 {K : Value → Hp → Prop} {h : Hp} {t0 : Value} (s : s_strconv_Itoa_85 K h t0) : Cn P 85 #[t0] h K :=
  Cn_ofs mixed Tryz.func85 (by kernel_rfl) (args := [t0]) (by kernel_rfl) s
/-- function 86: math.bits.Mul -/
def s_bits_Mul (K : Value → Hp → Prop) (h : Hp) (t0 t1 : Value) : Prop := cnd (Value.bool false) (q P h (convert 99 122 t0) fun t12 => q P h (convert 99 122 t1) fun t14 => Cn P 104 #[t12, t14] h fun t15 h => q P h (Instr.extract t15 0) fun t16 => q P h (Instr.extract t15 1) fun t17 => q P h (convert 122 99 t16) fun t19 => q P h (convert 122 99 t17) fun t21 => K (Value.tuple #[t19, t21]) h) (Cn P 105 #[t0, t1] h fun t25 h => q P h (Instr.extract t25 0) fun t26 => q P h (Instr.extract t25 1) fun t27 => K (Value.tuple #[t26, t27]) h)
theorem F_bits_Mul {K : Value → Hp → Prop} {h : Hp} {t0 t1 : Value} (s : s_bits_Mul K h t0 t1) : Cn P 86 #[t0, t1] h K :=
  Cn_ofs mixed Tryz.func86 (by kernel_rfl) (args := [t0, t1]) (by kernel_rfl) s
/-- function 87: strings.HasPrefix -/
def s_strings_HasPrefix (K : Value → Hp → Prop) (h : Hp) (t0 t1 : Value) : Prop := Cn P 106 #[t0, t1] h fun t7 h => K t7 h
theorem F_strings_HasPrefix {K : Value → Hp → Prop} {h : Hp} {t0 t1 : Value} (s : s_strings_HasPrefix K h t0 t1) : Cn P 87 #[t0, t1] h K :=
  Cn_ofs mixed Tryz.func87 (by kernel_rfl) (args := [t0, t1]) (by kernel_rfl) s
end Go.Proofs.YtflfhbnflcfmgaaGreatDoor
set_option linter.unusedVariables false
set_option maxRecDepth 100000
namespace Go.Proofs.YtflfhbnflcfmgaaGreatDoor
open Go Go.SL
/-- function 92: internal.strconv.FormatInt -/
def s_strconv_FormatInt_92 (K : Value → Hp → Prop) (h : Hp) (t0 t1 : Value) : Prop := q P h (eqop .eql 3 (.tmp 10) (.const (Value.int .i64 10)) t1 (Value.int .i64 10)) fun t11 => cnd t11 (
let J4 : Hp → Prop := fun h => aw P (Instr.alloc 128 true (.tuple #[])) (fun t5 h => q P h (convert 2 115 t0) fun t21 => 
let J11 : Value → Hp → Prop := fun t6 h => Cn P 110 #[t6] h fun t27 h => q P h (binOp .add 3 (Value.int .i64 1) t27) fun t29 => q P h (Instr.sliceAt 128 t5 (some (Value.int .i64 1)) (some t29) none) fun t30 => Cn P 111 #[t30, t6] h fun t32 h => q P h (binOp .lss 2 t0 (Value.int .i64 0)) fun t34 => cnd t34 (q P h (Instr.indexAt 128 t5 (Value.int .i64 0)) fun t35 => aw P (Instr.storeAt 5 t35 (Value.int .u8 45)) (fun _ h => q P h (binOp .add 3 (Value.int .i64 1) t27) fun t37 => q P h (Instr.sliceAt 128 t5 none (some t37) none) fun t38 => q P h (convert 26 9 t38) fun t39 => K t39 h) h) (q P h (binOp .add 3 (Value.int .i64 1) t27) fun t41 => q P h (Instr.sliceAt 128 t5 (some (Value.int .i64 1)) (some t41) none) fun t42 => q P h (convert 26 9 t42) fun t43 => K t43 h);
q P h (binOp .lss 2 t0 (Value.int .i64 0)) fun t23 => cnd t23 (q P h (Op.unary .neg t21) fun t25 => J11 t25 h) (J11 t21 h)) h;
q P h (binOp .leq 2 (Value.int .i64 0) t0) fun t13 => gd t13 true (q P h (binOp .lss 2 t0 (Value.int .i64 100)) fun t16 => cnd t16 (Cn P 109 #[t0] h fun t19 h => K t19 h) (J4 h)) (cnd (Value.bool false) (Cn P 109 #[t0] h fun t19 h => K t19 h) (J4 h))) (q P h (convert 2 115 t0) fun t46 => q P h (binOp .lss 2 t0 (Value.int .i64 0)) fun t49 => Cn P 112 #[(Value.slice none 0 0), t46, t1, t49, (Value.bool false)] h fun t50 h => q P h (Instr.extract t50 0) fun t51 => q P h (Instr.extract t50 1) fun t52 => K t52 h)
theorem F_strconv_FormatInt_92 {K : Value → Hp → Prop} {h : Hp} {t0 t1 : Value} (s : s_strconv_FormatInt_92 K h t0 t1) : Cn P 92 #[t0, t1] h K :=
  Cn_ofs mixed Tryz.func92 (by kernel_rfl) (args := [t0, t1]) (by kernel_rfl) s
/-- function 93: internal.stringslite.IndexByte -/
def s_stringslite_IndexByte (K : Value → Hp → Prop) (h : Hp) (t0 t1 : Value) : Prop := exP P 113 #[t0, t1] h fun t7 h => K t7 h
theorem F_stringslite_IndexByte {K : Value → Hp → Prop} {h : Hp} {t0 t1 : Value} (s : s_stringslite_IndexByte K h t0 t1) : Cn P 93 #[t0, t1] h K :=
  Cn_ofs mixed Tryz.func93 (by kernel_rfl) (args := [t0, t1]) (by kernel_rfl) s
/-- function 94: (*strings.asciiSet).contains -/
def s_strings_asciiSet_contains (K : Value → Hp → Prop) (h : Hp) (t0 t1 : Value) : Prop := q P h (nilCk t0) fun t7 => q P h (Instr.indexAt 93 t7 t1) fun t8 => q P h (Instr.loadAt 4 t8) fun t9 => K t9 h
theorem F_strings_asciiSet_contains {K : Value → Hp → Prop} {h : Hp} {t0 t1 : Value} (s : s_strings_asciiSet_contains K h t0 t1) : Cn P 94 #[t0, t1] h K :=
  Cn_ofs mixed Tryz.func94 (by kernel_rfl) (args := [t0, t1]) (by kernel_rfl) s
end Go.Proofs.YtflfhbnflcfmgaaGreatDoor
set_option linter.unusedVariables false
set_option maxRecDepth 100000
namespace Go.Proofs.YtflfhbnflcfmgaaGreatDoor
open Go Go.SL
/-- function 98: internal.strconv.ParseUint -/
def s_strconv_ParseUint_14 (K : Value → Hp → Prop) (h : Hp) (t6 t7 : Value) : Prop := K (Value.tuple #[t6, t7]) h
def s_strconv_ParseUint_13 (K : Value → Hp → Prop) (h : Hp) (t6 t7 t13 : Value) : Prop := s_strconv_ParseUint_14 K h t13 (Value.nilIface)
def s_strconv_ParseUint_12 (K : Value → Hp → Prop) (h : Hp) (t6 t7 t9 t12 t13 : Value) : Prop := gd t12 true (Cn P 117 #[t9] h fun t167 h => q P h (Op.unary .not t167) fun t168 => cnd t168 (q P h (Instr.makeInterface 114 (Value.int .i64 2)) fun t170 => K (Value.tuple #[(Value.int .u64 0), t170]) h) (s_strconv_ParseUint_13 K h t6 t7 t13)) (cnd (Value.bool false) (q P h (Instr.makeInterface 114 (Value.int .i64 2)) fun t170 => K (Value.tuple #[(Value.int .u64 0), t170]) h) (s_strconv_ParseUint_13 K h t6 t7 t13))
def s_strconv_ParseUint_11 (K : Value → Hp → Prop) (h : Hp) (t0 t1 t6 t7 t8 t9 t10 t11 t12 t13 : Value) : Prop := aw P (convert 9 26 t0) (fun t99 h => q P h (Builtin.len_ #[26] 3 #[t99]) fun t100 => 
Lp [t12, t6, t7, t13, (Value.int .i64 0)] h fun nx24 vs24 h =>
q P h (binOp .lss 3 (vs24.getD 4 undef) t100) fun t102 => cnd t102 (q P h (Instr.indexAt 26 t99 (vs24.getD 4 undef)) fun t103 => q P h (Instr.loadAt 5 t103) fun t104 => 
let J30 : Value → Value → Value → Value → Hp → Prop := fun t6 t7 t12 t16 h => q P h (convert 3 5 t1) fun t136 => q P h (binOp .geq 5 t16 t136) fun t137 => cnd t137 (q P h (Instr.makeInterface 114 (Value.int .i64 2)) fun t138 => K (Value.tuple #[(Value.int .u64 0), t138]) h) (q P h (binOp .geq 115 (vs24.getD 3 undef) t10) fun t141 => cnd t141 (q P h (Instr.makeInterface 114 (Value.int .i64 1)) fun t143 => K (Value.tuple #[t11, t143]) h) (q P h (convert 3 115 t1) fun t146 => q P h (binOp .mul 115 (vs24.getD 3 undef) t146) fun t147 => q P h (convert 5 115 t16) fun t150 => q P h (binOp .add 115 t147 t150) fun t151 => q P h (binOp .lss 115 t151 t147) fun t154 => gd t154 false (q P h (binOp .gtr 115 t151 t11) fun t158 => cnd t158 (q P h (Instr.makeInterface 114 (Value.int .i64 1)) fun t161 => K (Value.tuple #[t11, t161]) h) (q P h (binOp .add 3 (vs24.getD 4 undef) (Value.int .i64 1)) fun t163 => nx24 [t12, t6, t7, t151, t163] h)) (cnd (Value.bool true) (q P h (Instr.makeInterface 114 (Value.int .i64 1)) fun t161 => K (Value.tuple #[t11, t161]) h) (q P h (binOp .add 3 (vs24.getD 4 undef) (Value.int .i64 1)) fun t163 => nx24 [t12, t6, t7, t151, t163] h))));

let J31 : Value → Hp → Prop := fun t106 h => cnd t106 (q P h (binOp .add 3 (vs24.getD 4 undef) (Value.int .i64 1)) fun t163 => nx24 [(Value.bool true), (vs24.getD 1 undef), (vs24.getD 2 undef), (vs24.getD 3 undef), t163] h) (
let J33 : Value → Hp → Prop := fun t112 h => cnd t112 (q P h (binOp .sub 5 t104 (Value.int .u8 48)) fun t120 => J30 (vs24.getD 1 undef) (vs24.getD 2 undef) (vs24.getD 0 undef) t120 h) (
let J34 : Value → Hp → Prop := fun t121 h => cnd t121 (Cn P 116 #[t104] h fun t131 h => q P h (binOp .sub 5 t131 (Value.int .u8 97)) fun t132 => q P h (binOp .add 5 t132 (Value.int .u8 10)) fun t133 => J30 (vs24.getD 1 undef) (vs24.getD 2 undef) (vs24.getD 0 undef) t133 h) (q P h (Instr.makeInterface 114 (Value.int .i64 2)) fun t105 => K (Value.tuple #[(Value.int .u64 0), t105]) h);
Cn P 116 #[t104] h fun t123 h => q P h (binOp .leq 5 (Value.int .u8 97) t123) fun t124 => gd t124 true (Cn P 116 #[t104] h fun t127 h => q P h (binOp .leq 5 t127 (Value.int .u8 122)) fun t128 => J34 t128 h) (J34 (Value.bool false) h));
q P h (binOp .leq 5 (Value.int .u8 48) t104) fun t114 => gd t114 true (q P h (binOp .leq 5 t104 (Value.int .u8 57)) fun t117 => J33 t117 h) (J33 (Value.bool false) h));
q P h (eqop .eql 5 (.tmp 107) (.const (Value.int .u8 95)) t104 (Value.int .u8 95)) fun t108 => gd t108 true (J31 t8 h) (J31 (Value.bool false) h)) (s_strconv_ParseUint_12 K h (vs24.getD 1 undef) (vs24.getD 2 undef) t9 (vs24.getD 0 undef) (vs24.getD 3 undef))) h
def s_strconv_ParseUint_10 (K : Value → Hp → Prop) (h : Hp) (t0 t1 t6 t7 t8 t9 t10 t11 t12 : Value) : Prop := s_strconv_ParseUint_11 K h t0 t1 t6 t7 t8 t9 t10 t11 t12 (Value.int .u64 0)
def s_strconv_ParseUint_9 (K : Value → Hp → Prop) (h : Hp) (t0 t1 t6 t7 t8 t9 t10 t11 : Value) : Prop := s_strconv_ParseUint_10 K h t0 t1 t6 t7 t8 t9 t10 t11 (Value.bool false)
def s_strconv_ParseUint_8 (K : Value → Hp → Prop) (h : Hp) (t0 t1 t2 t6 t7 t8 t9 t10 : Value) : Prop := q P h (convert 3 99 t2) fun t95 => q P h (binOp .shl 115 (Value.int .u64 1) t95) fun t96 => q P h (binOp .sub 115 t96 (Value.int .u64 1)) fun t97 => s_strconv_ParseUint_9 K h t0 t1 t6 t7 t8 t9 t10 t97
def s_strconv_ParseUint_7 (K : Value → Hp → Prop) (h : Hp) (t0 t1 t2 t6 t7 t8 t9 t10 : Value) : Prop := q P h (eqop .eql 3 (.tmp 85) (.const (Value.int .i64 10)) t1 (Value.int .i64 10)) fun t91 => cnd t91 (s_strconv_ParseUint_8 K h t0 t1 t2 t6 t7 t8 t9 (Value.int .u64 1844674407370955162)) (q P h (eqop .eql 3 (.tmp 85) (.const (Value.int .i64 16)) t1 (Value.int .i64 16)) fun t93 => cnd t93 (s_strconv_ParseUint_8 K h t0 t1 t2 t6 t7 t8 t9 (Value.int .u64 1152921504606846976)) (q P h (convert 3 115 t1) fun t87 => q P h (binOp .quo 115 (Value.int .u64 18446744073709551615) t87) fun t88 => q P h (binOp .add 115 t88 (Value.int .u64 1)) fun t89 => s_strconv_ParseUint_8 K h t0 t1 t2 t6 t7 t8 t9 t89))
def s_strconv_ParseUint_6 (K : Value → Hp → Prop) (h : Hp) (t0 t1 t2 t6 t7 t8 t9 : Value) : Prop := s_strconv_ParseUint_7 K h t0 t1 t2 t6 t7 t8 t9 (Value.int .u64 0)
def s_strconv_ParseUint_5 (K : Value → Hp → Prop) (h : Hp) (t0 t1 t2 t6 t7 t8 t9 : Value) : Prop := q P h (eqop .eql 3 (.tmp 76) (.const (Value.int .i64 0)) t2 (Value.int .i64 0)) fun t77 => cnd t77 (s_strconv_ParseUint_6 K h t0 t1 (Value.int .i64 64) t6 t7 t8 t9) (q P h (binOp .lss 3 t2 (Value.int .i64 0)) fun t79 => gd t79 false (q P h (binOp .gtr 3 t2 (Value.int .i64 64)) fun t82 => cnd t82 (q P h (Instr.makeInterface 114 (Value.int .i64 4)) fun t84 => K (Value.tuple #[(Value.int .u64 0), t84]) h) (s_strconv_ParseUint_6 K h t0 t1 t2 t6 t7 t8 t9)) (cnd (Value.bool true) (q P h (Instr.makeInterface 114 (Value.int .i64 4)) fun t84 => K (Value.tuple #[(Value.int .u64 0), t84]) h) (s_strconv_ParseUint_6 K h t0 t1 t2 t6 t7 t8 t9)))
def s_strconv_ParseUint_4 (K : Value → Hp → Prop) (h : Hp) (t0 t1 t2 t6 t7 t8 t9 : Value) : Prop := 
let J3 : Value → Hp → Prop := fun t25 h => cnd t25 (s_strconv_ParseUint_5 K h t0 t1 t2 t6 t7 t8 t9) (q P h (eqop .eql 3 (.tmp 33) (.const (Value.int .i64 0)) t1 (Value.int .i64 0)) fun t34 => cnd t34 (q P h (Instr.index 9 t0 (Value.int .i64 0)) fun t36 => q P h (eqop .eql 5 (.tmp 36) (.const (Value.int .u8 48)) t36 (Value.int .u8 48)) fun t37 => cnd t37 (
let J7 : Value → Hp → Prop := fun t40 h => cnd t40 (q P h (Instr.sliceAt 9 t0 (some (Value.int .i64 2)) none none) fun t51 => s_strconv_ParseUint_5 K h t51 (Value.int .i64 2) t2 t6 t7 t8 t9) (
let J9 : Value → Hp → Prop := fun t52 h => cnd t52 (q P h (Instr.sliceAt 9 t0 (some (Value.int .i64 2)) none none) fun t63 => s_strconv_ParseUint_5 K h t63 (Value.int .i64 8) t2 t6 t7 t8 t9) (
let J11 : Value → Hp → Prop := fun t64 h => cnd t64 (q P h (Instr.sliceAt 9 t0 (some (Value.int .i64 2)) none none) fun t75 => s_strconv_ParseUint_5 K h t75 (Value.int .i64 16) t2 t6 t7 t8 t9) (q P h (Instr.sliceAt 9 t0 (some (Value.int .i64 1)) none none) fun t39 => s_strconv_ParseUint_5 K h t39 (Value.int .i64 8) t2 t6 t7 t8 t9);
q P h (Builtin.len_ #[9] 3 #[t0]) fun t66 => q P h (binOp .geq 3 t66 (Value.int .i64 3)) fun t67 => gd t67 true (q P h (Instr.index 9 t0 (Value.int .i64 1)) fun t70 => Cn P 116 #[t70] h fun t71 h => q P h (eqop .eql 5 (.tmp 71) (.const (Value.int .u8 120)) t71 (Value.int .u8 120)) fun t72 => J11 t72 h) (J11 (Value.bool false) h));
q P h (Builtin.len_ #[9] 3 #[t0]) fun t54 => q P h (binOp .geq 3 t54 (Value.int .i64 3)) fun t55 => gd t55 true (q P h (Instr.index 9 t0 (Value.int .i64 1)) fun t58 => Cn P 116 #[t58] h fun t59 h => q P h (eqop .eql 5 (.tmp 59) (.const (Value.int .u8 111)) t59 (Value.int .u8 111)) fun t60 => J9 t60 h) (J9 (Value.bool false) h));
q P h (Builtin.len_ #[9] 3 #[t0]) fun t42 => q P h (binOp .geq 3 t42 (Value.int .i64 3)) fun t43 => gd t43 true (q P h (Instr.index 9 t0 (Value.int .i64 1)) fun t46 => Cn P 116 #[t46] h fun t47 h => q P h (eqop .eql 5 (.tmp 47) (.const (Value.int .u8 98)) t47 (Value.int .u8 98)) fun t48 => J7 t48 h) (J7 (Value.bool false) h)) (s_strconv_ParseUint_5 K h t0 (Value.int .i64 10) t2 t6 t7 t8 t9)) (q P h (Instr.makeInterface 114 (Value.int .i64 3)) fun t24 => K (Value.tuple #[(Value.int .u64 0), t24]) h));
q P h (binOp .leq 3 (Value.int .i64 2) t1) fun t27 => gd t27 true (q P h (binOp .leq 3 t1 (Value.int .i64 36)) fun t30 => J3 t30 h) (J3 (Value.bool false) h)
def s_strconv_ParseUint_3 (K : Value → Hp → Prop) (h : Hp) (t0 t1 t2 t6 t7 t8 : Value) : Prop := s_strconv_ParseUint_4 K h t0 t1 t2 t6 t7 t8 t0
def s_strconv_ParseUint_2 (K : Value → Hp → Prop) (h : Hp) (t0 t1 t2 t6 t7 : Value) : Prop := q P h (eqop .eql 3 (.tmp 21) (.const (Value.int .i64 0)) t1 (Value.int .i64 0)) fun t22 => s_strconv_ParseUint_3 K h t0 t1 t2 t6 t7 t22
def s_strconv_ParseUint_1 (K : Value → Hp → Prop) (h : Hp) (t0 t1 t2 t6 t7 : Value) : Prop := q P h (eqop .eql 9 (.tmp 18) (.const (Value.string ⟨#[]⟩)) t0 (Value.string ⟨#[]⟩)) fun t19 => cnd t19 (q P h (Instr.makeInterface 114 (Value.int .i64 2)) fun t20 => K (Value.tuple #[(Value.int .u64 0), t20]) h) (s_strconv_ParseUint_2 K h t0 t1 t2 t6 t7)
def s_strconv_ParseUint (K : Value → Hp → Prop) (h : Hp) (t0 t1 t2 : Value) : Prop := s_strconv_ParseUint_1 K h t0 t1 t2 (Value.int .u64 0) (Value.nilIface)
theorem c_strconv_ParseUint_14 {K : Value → Hp → Prop} {h : Hp} {t6 t7 : Value} (s : s_strconv_ParseUint_14 K h t6 t7) : SV P Tryz.f98.ntmps (seqR (seqR (seqR (seqR (seqR (seqR (seqR (seqR (seqR (seqR (seqR (seqR (seqR (seqR (Tryz.f98.body.getD .skip))))))))))))))) (retP P Tryz.f98.results.toList K) (headOf [6, 7] [t6, t7]) h :=
  SV_of mixed (by kernel_rfl) s
theorem c_strconv_ParseUint_13 {K : Value → Hp → Prop} {h : Hp} {t6 t7 t13 : Value} (s : s_strconv_ParseUint_13 K h t6 t7 t13) : SV P Tryz.f98.ntmps (seqR (seqR (seqR (seqR (seqR (seqR (seqR (seqR (seqR (seqR (seqR (seqR (seqR (Tryz.f98.body.getD .skip)))))))))))))) (retP P Tryz.f98.results.toList K) (headOf [6, 7, 13] [t6, t7, t13]) h :=
  cut_at mixed (by kernel_rfl) [6, 7] (fun vs h => s_strconv_ParseUint_14 K h (vs.getD 0 undef) (vs.getD 1 undef)) (fun vs h _ x => Eq.mp (by kernel_rfl) (c_strconv_ParseUint_14 x)) (by kernel_rfl) s
theorem c_strconv_ParseUint_12 {K : Value → Hp → Prop} {h : Hp} {t6 t7 t9 t12 t13 : Value} (s : s_strconv_ParseUint_12 K h t6 t7 t9 t12 t13) : SV P Tryz.f98.ntmps (seqR (seqR (seqR (seqR (seqR (seqR (seqR (seqR (seqR (seqR (seqR (seqR (Tryz.f98.body.getD .skip))))))))))))) (retP P Tryz.f98.results.toList K) (headOf [6, 7, 9, 12, 13] [t6, t7, t9, t12, t13]) h :=
  cut_at mixed (by kernel_rfl) [6, 7, 13] (fun vs h => s_strconv_ParseUint_13 K h (vs.getD 0 undef) (vs.getD 1 undef) (vs.getD 2 undef)) (fun vs h _ x => Eq.mp (by kernel_rfl) (c_strconv_ParseUint_13 x)) (by kernel_rfl) s
theorem c_strconv_ParseUint_11 {K : Value → Hp → Prop} {h : Hp} {t0 t1 t6 t7 t8 t9 t10 t11 t12 t13 : Value} (s : s_strconv_ParseUint_11 K h t0 t1 t6 t7 t8 t9 t10 t11 t12 t13) : SV P Tryz.f98.ntmps (seqR (seqR (seqR (seqR (seqR (seqR (seqR (seqR (seqR (seqR (seqR (Tryz.f98.body.getD .skip)))))))))))) (retP P Tryz.f98.results.toList K) (headOf [0, 1, 6, 7, 8, 9, 10, 11, 12, 13] [t0, t1, t6, t7, t8, t9, t10, t11, t12, t13]) h :=
  cut_at mixed (by kernel_rfl) [6, 7, 9, 12, 13] (fun vs h => s_strconv_ParseUint_12 K h (vs.getD 0 undef) (vs.getD 1 undef) (vs.getD 2 undef) (vs.getD 3 undef) (vs.getD 4 undef)) (fun vs h _ x => Eq.mp (by kernel_rfl) (c_strconv_ParseUint_12 x)) (by kernel_rfl) s
theorem c_strconv_ParseUint_10 {K : Value → Hp → Prop} {h : Hp} {t0 t1 t6 t7 t8 t9 t10 t11 t12 : Value} (s : s_strconv_ParseUint_10 K h t0 t1 t6 t7 t8 t9 t10 t11 t12) : SV P Tryz.f98.ntmps (seqR (seqR (seqR (seqR (seqR (seqR (seqR (seqR (seqR (seqR (Tryz.f98.body.getD .skip))))))))))) (retP P Tryz.f98.results.toList K) (headOf [0, 1, 6, 7, 8, 9, 10, 11, 12] [t0, t1, t6, t7, t8, t9, t10, t11, t12]) h :=
  cut_at mixed (by kernel_rfl) [0, 1, 6, 7, 8, 9, 10, 11, 12, 13] (fun vs h => s_strconv_ParseUint_11 K h (vs.getD 0 undef) (vs.getD 1 undef) (vs.getD 2 undef) (vs.getD 3 undef) (vs.getD 4 undef) (vs.getD 5 undef) (vs.getD 6 undef) (vs.getD 7 undef) (vs.getD 8 undef) (vs.getD 9 undef)) (fun vs h _ x => Eq.mp (by kernel_rfl) (c_strconv_ParseUint_11 x)) (by kernel_rfl) s
theorem c_strconv_ParseUint_9 {K : Value → Hp → Prop} {h : Hp} {t0 t1 t6 t7 t8 t9 t10 t11 : Value} (s : s_strconv_ParseUint_9 K h t0 t1 t6 t7 t8 t9 t10 t11) : SV P Tryz.f98.ntmps (seqR (seqR (seqR (seqR (seqR (seqR (seqR (seqR (seqR (Tryz.f98.body.getD .skip)))))))))) (retP P Tryz.f98.results.toList K) (headOf [0, 1, 6, 7, 8, 9, 10, 11] [t0, t1, t6, t7, t8, t9, t10, t11]) h :=
  cut_at mixed (by kernel_rfl) [0, 1, 6, 7, 8, 9, 10, 11, 12] (fun vs h => s_strconv_ParseUint_10 K h (vs.getD 0 undef) (vs.getD 1 undef) (vs.getD 2 undef) (vs.getD 3 undef) (vs.getD 4 undef) (vs.getD 5 undef) (vs.getD 6 undef) (vs.getD 7 undef) (vs.getD 8 undef)) (fun vs h _ x => Eq.mp (by kernel_rfl) (c_strconv_ParseUint_10 x)) (by kernel_rfl) s
theorem c_strconv_ParseUint_8 {K : Value → Hp → Prop} {h : Hp} {t0 t1 t2 t6 t7 t8 t9 t10 : Value} (s : s_strconv_ParseUint_8 K h t0 t1 t2 t6 t7 t8 t9 t10) : SV P Tryz.f98.ntmps (seqR (seqR (seqR (seqR (seqR (seqR (seqR (seqR (Tryz.f98.body.getD .skip))))))))) (retP P Tryz.f98.results.toList K) (headOf [0, 1, 2, 6, 7, 8, 9, 10] [t0, t1, t2, t6, t7, t8, t9, t10]) h :=
  cut_at mixed (by kernel_rfl) [0, 1, 6, 7, 8, 9, 10, 11] (fun vs h => s_strconv_ParseUint_9 K h (vs.getD 0 undef) (vs.getD 1 undef) (vs.getD 2 undef) (vs.getD 3 undef) (vs.getD 4 undef) (vs.getD 5 undef) (vs.getD 6 undef) (vs.getD 7 undef)) (fun vs h _ x => Eq.mp (by kernel_rfl) (c_strconv_ParseUint_9 x)) (by kernel_rfl) s
theorem c_strconv_ParseUint_7 {K : Value → Hp → Prop} {h : Hp} {t0 t1 t2 t6 t7 t8 t9 t10 : Value} (s : s_strconv_ParseUint_7 K h t0 t1 t2 t6 t7 t8 t9 t10) : SV P Tryz.f98.ntmps (seqR (seqR (seqR (seqR (seqR (seqR (seqR (Tryz.f98.body.getD .skip)))))))) (retP P Tryz.f98.results.toList K) (headOf [0, 1, 2, 6, 7, 8, 9, 10] [t0, t1, t2, t6, t7, t8, t9, t10]) h :=
  cut_at mixed (by kernel_rfl) [0, 1, 2, 6, 7, 8, 9, 10] (fun vs h => s_strconv_ParseUint_8 K h (vs.getD 0 undef) (vs.getD 1 undef) (vs.getD 2 undef) (vs.getD 3 undef) (vs.getD 4 undef) (vs.getD 5 undef) (vs.getD 6 undef) (vs.getD 7 undef)) (fun vs h _ x => Eq.mp (by kernel_rfl) (c_strconv_ParseUint_8 x)) (by kernel_rfl) s
theorem c_strconv_ParseUint_6 {K : Value → Hp → Prop} {h : Hp} {t0 t1 t2 t6 t7 t8 t9 : Value} (s : s_strconv_ParseUint_6 K h t0 t1 t2 t6 t7 t8 t9) : SV P Tryz.f98.ntmps (seqR (seqR (seqR (seqR (seqR (seqR (Tryz.f98.body.getD .skip))))))) (retP P Tryz.f98.results.toList K) (headOf [0, 1, 2, 6, 7, 8, 9] [t0, t1, t2, t6, t7, t8, t9]) h :=
  cut_at mixed (by kernel_rfl) [0, 1, 2, 6, 7, 8, 9, 10] (fun vs h => s_strconv_ParseUint_7 K h (vs.getD 0 undef) (vs.getD 1 undef) (vs.getD 2 undef) (vs.getD 3 undef) (vs.getD 4 undef) (vs.getD 5 undef) (vs.getD 6 undef) (vs.getD 7 undef)) (fun vs h _ x => Eq.mp (by kernel_rfl) (c_strconv_ParseUint_7 x)) (by kernel_rfl) s
theorem c_strconv_ParseUint_5 {K : Value → Hp → Prop} {h : Hp} {t0 t1 t2 t6 t7 t8 t9 : Value} (s : s_strconv_ParseUint_5 K h t0 t1 t2 t6 t7 t8 t9) : SV P Tryz.f98.ntmps (seqR (seqR (seqR (seqR (seqR (Tryz.f98.body.getD .skip)))))) (retP P Tryz.f98.results.toList K) (headOf [0, 1, 2, 6, 7, 8, 9] [t0, t1, t2, t6, t7, t8, t9]) h :=
  cut_at mixed (by kernel_rfl) [0, 1, 2, 6, 7, 8, 9] (fun vs h => s_strconv_ParseUint_6 K h (vs.getD 0 undef) (vs.getD 1 undef) (vs.getD 2 undef) (vs.getD 3 undef) (vs.getD 4 undef) (vs.getD 5 undef) (vs.getD 6 undef)) (fun vs h _ x => Eq.mp (by kernel_rfl) (c_strconv_ParseUint_6 x)) (by kernel_rfl) s
theorem c_strconv_ParseUint_4 {K : Value → Hp → Prop} {h : Hp} {t0 t1 t2 t6 t7 t8 t9 : Value} (s : s_strconv_ParseUint_4 K h t0 t1 t2 t6 t7 t8 t9) : SV P Tryz.f98.ntmps (seqR (seqR (seqR (seqR (Tryz.f98.body.getD .skip))))) (retP P Tryz.f98.results.toList K) (headOf [0, 1, 2, 6, 7, 8, 9] [t0, t1, t2, t6, t7, t8, t9]) h :=
  cut_at mixed (by kernel_rfl) [0, 1, 2, 6, 7, 8, 9] (fun vs h => s_strconv_ParseUint_5 K h (vs.getD 0 undef) (vs.getD 1 undef) (vs.getD 2 undef) (vs.getD 3 undef) (vs.getD 4 undef) (vs.getD 5 undef) (vs.getD 6 undef)) (fun vs h _ x => Eq.mp (by kernel_rfl) (c_strconv_ParseUint_5 x)) (by kernel_rfl) s
theorem c_strconv_ParseUint_3 {K : Value → Hp → Prop} {h : Hp} {t0 t1 t2 t6 t7 t8 : Value} (s : s_strconv_ParseUint_3 K h t0 t1 t2 t6 t7 t8) : SV P Tryz.f98.ntmps (seqR (seqR (seqR (Tryz.f98.body.getD .skip)))) (retP P Tryz.f98.results.toList K) (headOf [0, 1, 2, 6, 7, 8] [t0, t1, t2, t6, t7, t8]) h :=
  cut_at mixed (by kernel_rfl) [0, 1, 2, 6, 7, 8, 9] (fun vs h => s_strconv_ParseUint_4 K h (vs.getD 0 undef) (vs.getD 1 undef) (vs.getD 2 undef) (vs.getD 3 undef) (vs.getD 4 undef) (vs.getD 5 undef) (vs.getD 6 undef)) (fun vs h _ x => Eq.mp (by kernel_rfl) (c_strconv_ParseUint_4 x)) (by kernel_rfl) s
theorem c_strconv_ParseUint_2 {K : Value → Hp → Prop} {h : Hp} {t0 t1 t2 t6 t7 : Value} (s : s_strconv_ParseUint_2 K h t0 t1 t2 t6 t7) : SV P Tryz.f98.ntmps (seqR (seqR (Tryz.f98.body.getD .skip))) (retP P Tryz.f98.results.toList K) (headOf [0, 1, 2, 6, 7] [t0, t1, t2, t6, t7]) h :=
  cut_at mixed (by kernel_rfl) [0, 1, 2, 6, 7, 8] (fun vs h => s_strconv_ParseUint_3 K h (vs.getD 0 undef) (vs.getD 1 undef) (vs.getD 2 undef) (vs.getD 3 undef) (vs.getD 4 undef) (vs.getD 5 undef)) (fun vs h _ x => Eq.mp (by kernel_rfl) (c_strconv_ParseUint_3 x)) (by kernel_rfl) s
theorem c_strconv_ParseUint_1 {K : Value → Hp → Prop} {h : Hp} {t0 t1 t2 t6 t7 : Value} (s : s_strconv_ParseUint_1 K h t0 t1 t2 t6 t7) : SV P Tryz.f98.ntmps (seqR (Tryz.f98.body.getD .skip)) (retP P Tryz.f98.results.toList K) (headOf [0, 1, 2, 6, 7] [t0, t1, t2, t6, t7]) h :=
  cut_at mixed (by kernel_rfl) [0, 1, 2, 6, 7] (fun vs h => s_strconv_ParseUint_2 K h (vs.getD 0 undef) (vs.getD 1 undef) (vs.getD 2 undef) (vs.getD 3 undef) (vs.getD 4 undef)) (fun vs h _ x => Eq.mp (by kernel_rfl) (c_strconv_ParseUint_2 x)) (by kernel_rfl) s
theorem c_strconv_ParseUint_0 {K : Value → Hp → Prop} {h : Hp} {t0 t1 t2 : Value} (s : s_strconv_ParseUint K h t0 t1 t2) : SV P Tryz.f98.ntmps (Tryz.f98.body.getD .skip) (retP P Tryz.f98.results.toList K) (env0 [t0, t1, t2]) h :=
  cut_at mixed (by kernel_rfl) [0, 1, 2, 6, 7] (fun vs h => s_strconv_ParseUint_1 K h (vs.getD 0 undef) (vs.getD 1 undef) (vs.getD 2 undef) (vs.getD 3 undef) (vs.getD 4 undef)) (fun vs h _ x => Eq.mp (by kernel_rfl) (c_strconv_ParseUint_1 x)) (by kernel_rfl) s
theorem F_strconv_ParseUint {K : Value → Hp → Prop} {h : Hp} {t0 t1 t2 : Value} (s : s_strconv_ParseUint K h t0 t1 t2) : Cn P 98 #[t0, t1, t2] h K :=
  Cn_sv Tryz.func98 (by kernel_rfl) (args := [t0, t1, t2]) (c_strconv_ParseUint_0 s)
end Go.Proofs.YtflfhbnflcfmgaaGreatDoor
set_option linter.unusedVariables false
set_option maxRecDepth 100000
namespace Go.Proofs.YtflfhbnflcfmgaaGreatDoor
open Go Go.SL
/-- function 103: internal.stringslite.Index -/
def s_stringslite_Index (K : Value → Hp → Prop) (h : Hp) (t0 t1 : Value) : Prop := q P h (Builtin.len_ #[9] 3 #[t1]) fun t15 => 
let J3 : Hp → Prop := fun h => q P h (Instr.index 9 t1 (Value.int .i64 0)) fun t49 => q P h (Instr.index 9 t1 (Value.int .i64 1)) fun t51 => q P h (Builtin.len_ #[9] 3 #[t0]) fun t53 => q P h (binOp .sub 3 t53 t15) fun t55 => q P h (binOp .add 3 t55 (Value.int .i64 1)) fun t56 => 
Lp [(Value.int .i64 0), (Value.int .i64 0), (Value.int .i64 0)] h fun nx20 vs20 h =>
q P h (binOp .lss 3 (vs20.getD 1 undef) t56) fun t59 => cnd t59 (
let J23 : Value → Value → Hp → Prop := fun t4 t8 h => 
let J29 : Value → Hp → Prop := fun t4 h => q P h (binOp .add 3 t8 (Value.int .i64 1)) fun t96 => q P h (binOp .add 3 (vs20.getD 2 undef) (Value.int .i64 1)) fun t98 => 
let J36 : Value → Hp → Prop := fun t107 h => cnd t107 (q P h (Instr.sliceAt 9 t0 (some t96) none none) fun t110 => exP P 120 #[t110, t1] h fun t112 h => q P h (binOp .geq 3 t112 (Value.int .i64 0)) fun t114 => cnd t114 (q P h (binOp .add 3 t112 t96) fun t117 => K t117 h) (K (Value.int .i64 (-1)) h)) (
let J42 : Value → Hp → Prop := fun t132 h => cnd t132 (q P h (Instr.sliceAt 9 t0 (some t96) none none) fun t135 => Cn P 122 #[t135, t1] h fun t137 h => q P h (binOp .lss 3 t137 (Value.int .i64 0)) fun t139 => cnd t139 (K (Value.int .i64 (-1)) h) (q P h (binOp .add 3 t96 t137) fun t142 => K t142 h)) (nx20 [t4, t96, t98] h);
q P h (Instr.loadAt 3 (Value.pointer (some ⟨4, 0, none⟩))) fun t119 => q P h (binOp .gtr 3 t15 t119) fun t120 => gd t120 true (q P h (binOp .shr 3 t96 (Value.int .u64 4)) fun t124 => q P h (binOp .add 3 (Value.int .i64 4) t124) fun t125 => q P h (binOp .geq 3 t98 t125) fun t126 => gd t126 true (q P h (binOp .lss 3 t96 t56) fun t131 => J42 t131 h) (J42 (Value.bool false) h)) (J42 (Value.bool false) h));
q P h (Instr.loadAt 3 (Value.pointer (some ⟨4, 0, none⟩))) fun t100 => q P h (binOp .leq 3 t15 t100) fun t101 => gd t101 true (Cn P 121 #[t96] h fun t105 h => q P h (binOp .gtr 3 t98 t105) fun t106 => J36 t106 h) (J36 (Value.bool false) h);
q P h (binOp .add 3 t8 (Value.int .i64 1)) fun t80 => q P h (Instr.index 9 t0 t80) fun t81 => q P h (eqop .eql 5 (.tmp 81) (.tmp 82) t81 t51) fun t83 => gd t83 true (q P h (binOp .add 3 t8 t15) fun t89 => q P h (Instr.sliceAt 9 t0 (some t8) (some t89) none) fun t90 => q P h (eqop .eql 9 (.tmp 90) (.tmp 91) t90 t1) fun t92 => cnd t92 (K t8 h) (J29 t4 h)) (cnd (Value.bool false) (K t8 h) (J29 t4 h));
q P h (Instr.index 9 t0 (vs20.getD 1 undef)) fun t62 => q P h (eqop .neq 5 (.tmp 62) (.tmp 63) t62 t49) fun t64 => cnd t64 (q P h (binOp .add 3 (vs20.getD 1 undef) (Value.int .i64 1)) fun t67 => q P h (Instr.sliceAt 9 t0 (some t67) (some t56) none) fun t69 => Cn P 93 #[t69, t49] h fun t71 h => q P h (binOp .lss 3 t71 (Value.int .i64 0)) fun t73 => cnd t73 (K (Value.int .i64 (-1)) h) (q P h (binOp .add 3 t71 (Value.int .i64 1)) fun t76 => q P h (binOp .add 3 (vs20.getD 1 undef) t76) fun t77 => J23 (vs20.getD 0 undef) t77 h)) (J23 (vs20.getD 0 undef) (vs20.getD 1 undef) h)) (K (Value.int .i64 (-1)) h);

let J4 : Value → Hp → Prop := fun t16 h => cnd t16 (K (Value.int .i64 0) h) (q P h (eqop .eql 3 (.tmp 25) (.const (Value.int .i64 1)) t15 (Value.int .i64 1)) fun t26 => cnd t26 (q P h (Instr.index 9 t1 (Value.int .i64 0)) fun t29 => Cn P 93 #[t0, t29] h fun t30 h => K t30 h) (q P h (Builtin.len_ #[9] 3 #[t0]) fun t34 => q P h (binOp .geq 3 t15 t34) fun t35 => cnd t35 (K (Value.int .i64 (-1)) h) (q P h (Instr.loadAt 3 (Value.pointer (some ⟨4, 0, none⟩))) fun t38 => q P h (binOp .leq 3 t15 t38) fun t39 => gd t39 true (q P h (Builtin.len_ #[9] 3 #[t0]) fun t42 => q P h (binOp .leq 3 t42 (Value.int .i64 64)) fun t43 => cnd t43 (exP P 120 #[t0, t1] h fun t47 h => K t47 h) (J3 h)) (cnd (Value.bool false) (exP P 120 #[t0, t1] h fun t47 h => K t47 h) (J3 h)))));
q P h (eqop .eql 3 (.tmp 17) (.const (Value.int .i64 0)) t15 (Value.int .i64 0)) fun t18 => gd t18 false (q P h (eqop .eql 9 (.tmp 20) (.tmp 21) t1 t0) fun t22 => J4 t22 h) (J4 (Value.bool true) h)
theorem F_stringslite_Index {K : Value → Hp → Prop} {h : Hp} {t0 t1 : Value} (s : s_stringslite_Index K h t0 t1) : Cn P 103 #[t0, t1] h K :=
  Cn_ofs mixed Tryz.func103 (by kernel_rfl) (args := [t0, t1]) (by kernel_rfl) s
/-- function 105: math.bits.Mul64 -/
def s_bits_Mul64 (K : Value → Hp → Prop) (h : Hp) (t0 t1 : Value) : Prop := q P h (binOp .and 115 t0 (Value.int .u64 4294967295)) fun t15 => q P h (binOp .shr 115 t0 (Value.int .u64 32)) fun t17 => q P h (binOp .and 115 t1 (Value.int .u64 4294967295)) fun t19 => q P h (binOp .shr 115 t1 (Value.int .u64 32)) fun t21 => q P h (binOp .mul 115 t15 t19) fun t24 => q P h (binOp .mul 115 t17 t19) fun t27 => q P h (binOp .shr 115 t24 (Value.int .u64 32)) fun t29 => q P h (binOp .add 115 t27 t29) fun t30 => q P h (binOp .and 115 t30 (Value.int .u64 4294967295)) fun t32 => q P h (binOp .shr 115 t30 (Value.int .u64 32)) fun t34 => q P h (binOp .mul 115 t15 t21) fun t38 => q P h (binOp .add 115 t32 t38) fun t39 => q P h (binOp .mul 115 t17 t21) fun t42 => q P h (binOp .add 115 t42 t34) fun t44 => q P h (binOp .shr 115 t39 (Value.int .u64 32)) fun t46 => q P h (binOp .add 115 t44 t46) fun t47 => q P h (binOp .mul 115 t0 t1) fun t50 => K (Value.tuple #[t47, t50]) h
theorem F_bits_Mul64 {K : Value → Hp → Prop} {h : Hp} {t0 t1 : Value} (s : s_bits_Mul64 K h t0 t1) : Cn P 105 #[t0, t1] h K :=
  Cn_ofs mixed Tryz.func105 (by kernel_rfl) (args := [t0, t1]) (by kernel_rfl) s
/-- function 106: internal.stringslite.HasPrefix -/
def s_stringslite_HasPrefix (K : Value → Hp → Prop) (h : Hp) (t0 t1 : Value) : Prop := q P h (Builtin.len_ #[9] 3 #[t0]) fun t6 => q P h (Builtin.len_ #[9] 3 #[t1]) fun t8 => q P h (binOp .geq 3 t6 t8) fun t9 => gd t9 true (q P h (Builtin.len_ #[9] 3 #[t1]) fun t13 => q P h (Instr.sliceAt 9 t0 none (some t13) none) fun t14 => q P h (eqop .eql 9 (.tmp 14) (.tmp 15) t14 t1) fun t16 => K t16 h) (K (Value.bool false) h)
theorem F_stringslite_HasPrefix {K : Value → Hp → Prop} {h : Hp} {t0 t1 : Value} (s : s_stringslite_HasPrefix K h t0 t1) : Cn P 106 #[t0, t1] h K :=
  Cn_ofs mixed Tryz.func106 (by kernel_rfl) (args := [t0, t1]) (by kernel_rfl) s
/-- function 109: internal.strconv.small -/
def s_strconv_small (K : Value → Hp → Prop) (h : Hp) (t0 : Value) : Prop := q P h (binOp .lss 3 t0 (Value.int .i64 10)) fun t4 => cnd t4 (q P h (binOp .add 3 t0 (Value.int .i64 1)) fun t7 => q P h (Instr.sliceAt 9 (Value.string tx_617ef5) (some t0) (some t7) none) fun t8 => K t8 h) (q P h (binOp .mul 3 t0 (Value.int .i64 2)) fun t10 => q P h (binOp .mul 3 t0 (Value.int .i64 2)) fun t12 => q P h (binOp .add 3 t12 (Value.int .i64 2)) fun t13 => q P h (Instr.sliceAt 9 (Value.string tx_0db94c) (some t10) (some t13) none) fun t14 => K t14 h)
theorem F_strconv_small {K : Value → Hp → Prop} {h : Hp} {t0 : Value} (s : s_strconv_small K h t0) : Cn P 109 #[t0] h K :=
  Cn_ofs mixed Tryz.func109 (by kernel_rfl) (args := [t0]) (by kernel_rfl) s
/-- function 110: internal.strconv.numDigits -/
def s_strconv_numDigits (K : Value → Hp → Prop) (h : Hp) (t0 : Value) : Prop := Cn P 126 #[t0] h fun t5 h => Cn P 125 #[t5] h fun t6 h => q P h (Instr.indexAt 143 (Value.pointer (some ⟨5, 0, none⟩)) t6) fun t10 => q P h (Instr.loadAt 115 t10) fun t11 => q P h (binOp .geq 115 t0 t11) fun t12 => Cn P 127 #[t12] h fun t13 h => q P h (binOp .add 3 t6 t13) fun t14 => K t14 h
theorem F_strconv_numDigits {K : Value → Hp → Prop} {h : Hp} {t0 : Value} (s : s_strconv_numDigits K h t0) : Cn P 110 #[t0] h K :=
  Cn_ofs mixed Tryz.func110 (by kernel_rfl) (args := [t0]) (by kernel_rfl) s
end Go.Proofs.YtflfhbnflcfmgaaGreatDoor
set_option linter.unusedVariables false
set_option maxRecDepth 100000
namespace Go.Proofs.YtflfhbnflcfmgaaGreatDoor
open Go Go.SL
/-- function 111: internal.strconv.formatBase10 -/
def s_strconv_formatBase10 (K : Value → Hp → Prop) (h : Hp) (t0 t1 : Value) : Prop := q P h (Builtin.len_ #[26] 3 #[t0]) fun t18 => 
Lp [t1, t18] h fun nx3 vs3 h =>
q P h (binOp .geq 3 (vs3.getD 1 undef) (Value.int .i64 8)) fun t20 => cnd t20 (q P h (binOp .rem 115 (vs3.getD 0 undef) (Value.int .u64 100000000)) fun t22 => q P h (convert 115 122 t22) fun t23 => q P h (binOp .quo 115 (vs3.getD 0 undef) (Value.int .u64 100000000)) fun t25 => q P h (binOp .quo 122 t23 (Value.int .u32 10000)) fun t27 => q P h (binOp .rem 122 t23 (Value.int .u32 10000)) fun t29 => q P h (binOp .quo 122 t29 (Value.int .u32 100)) fun t31 => q P h (binOp .mul 122 t31 (Value.int .u32 2)) fun t32 => q P h (binOp .rem 122 t29 (Value.int .u32 100)) fun t34 => q P h (binOp .mul 122 t34 (Value.int .u32 2)) fun t35 => q P h (binOp .quo 122 t27 (Value.int .u32 100)) fun t37 => q P h (binOp .mul 122 t37 (Value.int .u32 2)) fun t38 => q P h (binOp .rem 122 t27 (Value.int .u32 100)) fun t40 => q P h (binOp .mul 122 t40 (Value.int .u32 2)) fun t41 => q P emp (binOp .sub 3 (vs3.getD 1 undef) (Value.int .i64 1)) fun t44 => q P emp (binOp .sub 3 (vs3.getD 1 undef) (Value.int .i64 2)) fun t47 => q P emp (binOp .add 122 t35 (Value.int .u32 1)) fun t49 => q P emp (Instr.index 9 (Value.string tx_0db94c) t49) fun t50 => q P emp (Instr.index 9 (Value.string tx_0db94c) t35) fun t52 => q P emp (Instr.indexAt 26 t0 t44) fun t53 => aw P (Instr.storeAt 5 t53 t50) (fun _ h => q P emp (Instr.indexAt 26 t0 t47) fun t54 => aw P (Instr.storeAt 5 t54 t52) (fun _ h => q P emp (binOp .sub 3 (vs3.getD 1 undef) (Value.int .i64 3)) fun t57 => q P emp (binOp .sub 3 (vs3.getD 1 undef) (Value.int .i64 4)) fun t60 => q P emp (binOp .add 122 t32 (Value.int .u32 1)) fun t62 => q P emp (Instr.index 9 (Value.string tx_0db94c) t62) fun t63 => q P emp (Instr.index 9 (Value.string tx_0db94c) t32) fun t65 => q P emp (Instr.indexAt 26 t0 t57) fun t66 => aw P (Instr.storeAt 5 t66 t63) (fun _ h => q P emp (Instr.indexAt 26 t0 t60) fun t67 => aw P (Instr.storeAt 5 t67 t65) (fun _ h => q P emp (binOp .sub 3 (vs3.getD 1 undef) (Value.int .i64 5)) fun t70 => q P emp (binOp .sub 3 (vs3.getD 1 undef) (Value.int .i64 6)) fun t73 => q P emp (binOp .add 122 t41 (Value.int .u32 1)) fun t75 => q P emp (Instr.index 9 (Value.string tx_0db94c) t75) fun t76 => q P emp (Instr.index 9 (Value.string tx_0db94c) t41) fun t78 => q P emp (Instr.indexAt 26 t0 t70) fun t79 => aw P (Instr.storeAt 5 t79 t76) (fun _ h => q P emp (Instr.indexAt 26 t0 t73) fun t80 => aw P (Instr.storeAt 5 t80 t78) (fun _ h => q P emp (binOp .sub 3 (vs3.getD 1 undef) (Value.int .i64 7)) fun t83 => q P emp (binOp .sub 3 (vs3.getD 1 undef) (Value.int .i64 8)) fun t86 => q P emp (binOp .add 122 t38 (Value.int .u32 1)) fun t88 => q P emp (Instr.index 9 (Value.string tx_0db94c) t88) fun t89 => q P emp (Instr.index 9 (Value.string tx_0db94c) t38) fun t91 => q P emp (Instr.indexAt 26 t0 t83) fun t92 => aw P (Instr.storeAt 5 t92 t89) (fun _ h => q P emp (Instr.indexAt 26 t0 t86) fun t93 => aw P (Instr.storeAt 5 t93 t91) (fun _ h => q P h (binOp .sub 3 (vs3.getD 1 undef) (Value.int .i64 8)) fun t95 => nx3 [t25, t95] h) h) h) h) h) h) h) h) h) (q P h (convert 115 122 (vs3.getD 0 undef)) fun t97 => 
let J16 : Value → Value → Hp → Prop := fun t4 t12 h => 
let J23 : Value → Value → Hp → Prop := fun t4 t12 h => q P h (binOp .gtr 3 t4 (Value.int .i64 0)) fun t161 => cnd t161 (q P h (binOp .add 122 (Value.int .u32 48) t12) fun t164 => q P h (convert 122 5 t164) fun t165 => q P h (Instr.indexAt 26 t0 (Value.int .i64 0)) fun t166 => aw P (Instr.storeAt 5 t166 t165) (fun _ h => K (Value.tuple #[]) h) h) (K (Value.tuple #[]) h);
q P h (binOp .geq 3 t4 (Value.int .i64 2)) fun t139 => cnd t139 (q P h (binOp .rem 122 t12 (Value.int .u32 100)) fun t141 => q P h (binOp .mul 122 t141 (Value.int .u32 2)) fun t142 => q P h (binOp .quo 122 t12 (Value.int .u32 100)) fun t144 => q P emp (binOp .sub 3 t4 (Value.int .i64 1)) fun t147 => q P emp (binOp .sub 3 t4 (Value.int .i64 2)) fun t150 => q P emp (binOp .add 122 t142 (Value.int .u32 1)) fun t152 => q P emp (Instr.index 9 (Value.string tx_0db94c) t152) fun t153 => q P emp (Instr.index 9 (Value.string tx_0db94c) t142) fun t155 => q P emp (Instr.indexAt 26 t0 t147) fun t156 => aw P (Instr.storeAt 5 t156 t153) (fun _ h => q P emp (Instr.indexAt 26 t0 t150) fun t157 => aw P (Instr.storeAt 5 t157 t155) (fun _ h => q P h (binOp .sub 3 t4 (Value.int .i64 2)) fun t159 => J23 t159 t144 h) h) h) (J23 t4 t12 h);
q P h (binOp .geq 3 (vs3.getD 1 undef) (Value.int .i64 4)) fun t99 => cnd t99 (q P h (binOp .rem 122 t97 (Value.int .u32 10000)) fun t101 => q P h (binOp .quo 122 t97 (Value.int .u32 10000)) fun t103 => q P h (binOp .quo 122 t101 (Value.int .u32 100)) fun t105 => q P h (binOp .mul 122 t105 (Value.int .u32 2)) fun t106 => q P h (binOp .rem 122 t101 (Value.int .u32 100)) fun t108 => q P h (binOp .mul 122 t108 (Value.int .u32 2)) fun t109 => q P emp (binOp .sub 3 (vs3.getD 1 undef) (Value.int .i64 1)) fun t112 => q P emp (binOp .sub 3 (vs3.getD 1 undef) (Value.int .i64 2)) fun t115 => q P emp (binOp .add 122 t109 (Value.int .u32 1)) fun t117 => q P emp (Instr.index 9 (Value.string tx_0db94c) t117) fun t118 => q P emp (Instr.index 9 (Value.string tx_0db94c) t109) fun t120 => q P emp (Instr.indexAt 26 t0 t112) fun t121 => aw P (Instr.storeAt 5 t121 t118) (fun _ h => q P emp (Instr.indexAt 26 t0 t115) fun t122 => aw P (Instr.storeAt 5 t122 t120) (fun _ h => q P emp (binOp .sub 3 (vs3.getD 1 undef) (Value.int .i64 3)) fun t125 => q P emp (binOp .sub 3 (vs3.getD 1 undef) (Value.int .i64 4)) fun t128 => q P emp (binOp .add 122 t106 (Value.int .u32 1)) fun t130 => q P emp (Instr.index 9 (Value.string tx_0db94c) t130) fun t131 => q P emp (Instr.index 9 (Value.string tx_0db94c) t106) fun t133 => q P emp (Instr.indexAt 26 t0 t125) fun t134 => aw P (Instr.storeAt 5 t134 t131) (fun _ h => q P emp (Instr.indexAt 26 t0 t128) fun t135 => aw P (Instr.storeAt 5 t135 t133) (fun _ h => q P h (binOp .sub 3 (vs3.getD 1 undef) (Value.int .i64 4)) fun t137 => J16 t137 t103 h) h) h) h) h) (J16 (vs3.getD 1 undef) t97 h))
theorem F_strconv_formatBase10 {K : Value → Hp → Prop} {h : Hp} {t0 t1 : Value} (s : s_strconv_formatBase10 K h t0 t1) : Cn P 111 #[t0, t1] h K :=
  Cn_ofs mixed Tryz.func111 (by kernel_rfl) (args := [t0, t1]) (by kernel_rfl) s
/-- function 112: internal.strconv.formatBits -/
def s_strconv_formatBits (K : Value → Hp → Prop) (h : Hp) (t0 t1 t2 t3 t4 : Value) : Prop := 
let J2 : Hp → Prop := fun h => aw P (Instr.alloc 144 true (.tuple #[])) (fun t12 h => 
let J6 : Value → Hp → Prop := fun t1 h => 
let J8 : Value → Hp → Prop := fun t13 h => 
let J29 : Value → Hp → Prop := fun t13 h => cnd t4 (q P h (Instr.sliceAt 144 t12 (some t13) none none) fun t97 => aw P (Builtin.append_ #[26, 26] 26 #[t0, t97]) (fun t98 h => K (Value.tuple #[t98, (Value.string ⟨#[]⟩)]) h) h) (q P h (Instr.sliceAt 144 t12 (some t13) none none) fun t100 => q P h (convert 26 9 t100) fun t101 => K (Value.tuple #[(Value.slice none 0 0), t101]) h);
cnd t3 (q P h (binOp .sub 3 t13 (Value.int .i64 1)) fun t91 => q P h (Instr.indexAt 144 t12 t91) fun t93 => aw P (Instr.storeAt 5 t93 (Value.int .u8 45)) (fun _ h => J29 t91 h) h) (J29 t13 h);
Cn P 128 #[t2] h fun t34 h => cnd t34 (q P h (convert 3 99 t2) fun t36 => Cn P 129 #[t36] h fun t37 h => q P h (convert 3 99 t37) fun t38 => q P h (convert 3 115 t2) fun t40 => q P h (convert 3 99 t2) fun t42 => q P h (binOp .sub 99 t42 (Value.int .u64 1)) fun t43 => 
Lp [(Value.int .i64 65), t1] h fun nx14 vs14 h =>
q P h (binOp .geq 115 (vs14.getD 1 undef) t40) fun t46 => cnd t46 (q P h (binOp .sub 3 (vs14.getD 0 undef) (Value.int .i64 1)) fun t48 => q P h (binOp .and 99 (vs14.getD 1 undef) t43) fun t52 => q P h (Instr.index 9 (Value.string tx_617ef5) t52) fun t53 => q P h (Instr.indexAt 144 t12 t48) fun t54 => aw P (Instr.storeAt 5 t54 t53) (fun _ h => q P h (binOp .shr 115 (vs14.getD 1 undef) t38) fun t57 => nx14 [t48, t57] h) h) (q P h (binOp .sub 3 (vs14.getD 0 undef) (Value.int .i64 1)) fun t59 => q P h (Instr.index 9 (Value.string tx_617ef5) (vs14.getD 1 undef)) fun t62 => q P h (Instr.indexAt 144 t12 t59) fun t63 => aw P (Instr.storeAt 5 t63 t62) (fun _ h => J8 t59 h) h)) (q P h (convert 3 115 t2) fun t65 => 
Lp [(Value.int .i64 65), t1] h fun nx22 vs22 h =>
q P h (binOp .geq 115 (vs22.getD 1 undef) t65) fun t68 => cnd t68 (q P h (binOp .sub 3 (vs22.getD 0 undef) (Value.int .i64 1)) fun t70 => q P h (binOp .quo 115 (vs22.getD 1 undef) t65) fun t73 => q P h (binOp .mul 115 t73 t65) fun t78 => q P h (binOp .sub 115 (vs22.getD 1 undef) t78) fun t79 => q P h (Instr.index 9 (Value.string tx_617ef5) t79) fun t80 => q P h (Instr.indexAt 144 t12 t70) fun t81 => aw P (Instr.storeAt 5 t81 t80) (fun _ h => nx22 [t70, t73] h) h) (q P h (binOp .sub 3 (vs22.getD 0 undef) (Value.int .i64 1)) fun t84 => q P h (Instr.index 9 (Value.string tx_617ef5) (vs22.getD 1 undef)) fun t87 => q P h (Instr.indexAt 144 t12 t84) fun t88 => aw P (Instr.storeAt 5 t88 t87) (fun _ h => J8 t84 h) h));
cnd t3 (q P h (Op.unary .neg t1) fun t32 => J6 t32 h) (J6 t1 h)) h;
q P h (binOp .lss 3 t2 (Value.int .i64 2)) fun t20 => gd t20 false (q P h (eqop .eql 3 (.tmp 22) (.const (Value.int .i64 10)) t2 (Value.int .i64 10)) fun t23 => gd t23 false (q P h (binOp .gtr 3 t2 (Value.int .i64 36)) fun t27 => cnd t27 (q P h (Instr.makeInterface 9 (Value.string tx_2beb23)) fun t29 => False) (J2 h)) (cnd (Value.bool true) (q P h (Instr.makeInterface 9 (Value.string tx_2beb23)) fun t29 => False) (J2 h))) (cnd (Value.bool true) (q P h (Instr.makeInterface 9 (Value.string tx_2beb23)) fun t29 => False) (J2 h))
theorem F_strconv_formatBits {K : Value → Hp → Prop} {h : Hp} {t0 t1 t2 t3 t4 : Value} (s : s_strconv_formatBits K h t0 t1 t2 t3 t4) : Cn P 112 #[t0, t1, t2, t3, t4] h K :=
  Cn_ofs mixed Tryz.func112 (by kernel_rfl) (args := [t0, t1, t2, t3, t4]) (by kernel_rfl) s
/-- function 125: internal.strconv.log10Pow2 -/
def s_strconv_log10Pow2 (K : Value → Hp → Prop) (h : Hp) (t0 : Value) : Prop := q P h (binOp .mul 3 t0 (Value.int .i64 78913)) fun t4 => q P h (binOp .shr 3 t4 (Value.int .u64 18)) fun t5 => K t5 h
theorem F_strconv_log10Pow2 {K : Value → Hp → Prop} {h : Hp} {t0 : Value} (s : s_strconv_log10Pow2 K h t0) : Cn P 125 #[t0] h K :=
  Cn_ofs mixed Tryz.func125 (by kernel_rfl) (args := [t0]) (by kernel_rfl) s
/-- function 126: math.bits.Len64 -/
def s_bits_Len64 (K : Value → Hp → Prop) (h : Hp) (t0 : Value) : Prop := 
let J2 : Value → Value → Hp → Prop := fun t0 t2 h => 
let J5 : Value → Value → Hp → Prop := fun t0 t2 h => 
let J8 : Value → Value → Hp → Prop := fun t0 t2 h => q P h (convert 115 5 t0) fun t21 => q P h (Instr.index 9 (Value.string tx_97c9fe) t21) fun t22 => q P h (convert 5 3 t22) fun t23 => q P h (binOp .add 3 t2 t23) fun t24 => K t24 h;
q P h (binOp .geq 115 t0 (Value.int .u64 256)) fun t14 => cnd t14 (q P h (binOp .shr 115 t0 (Value.int .u64 8)) fun t16 => q P h (binOp .add 3 t2 (Value.int .i64 8)) fun t18 => J8 t16 t18 h) (J8 t0 t2 h);
q P h (binOp .geq 115 t0 (Value.int .u64 65536)) fun t8 => cnd t8 (q P h (binOp .shr 115 t0 (Value.int .u64 16)) fun t10 => q P h (binOp .add 3 t2 (Value.int .i64 16)) fun t12 => J5 t10 t12 h) (J5 t0 t2 h);
q P h (binOp .geq 115 t0 (Value.int .u64 4294967296)) fun t4 => cnd t4 (q P h (binOp .shr 115 t0 (Value.int .u64 32)) fun t6 => J2 t6 (Value.int .i64 32) h) (J2 t0 (Value.int .i64 0) h)
theorem F_bits_Len64 {K : Value → Hp → Prop} {h : Hp} {t0 : Value} (s : s_bits_Len64 K h t0) : Cn P 126 #[t0] h K :=
  Cn_ofs mixed Tryz.func126 (by kernel_rfl) (args := [t0]) (by kernel_rfl) s
/-- function 127: internal.strconv.bool2[int] -/
def s_strconv_bool2_int (K : Value → Hp → Prop) (h : Hp) (t0 : Value) : Prop := cnd t0 (K (Value.int .i64 1) h) (K (Value.int .i64 0) h)
theorem F_strconv_bool2_int {K : Value → Hp → Prop} {h : Hp} {t0 : Value} (s : s_strconv_bool2_int K h t0) : Cn P 127 #[t0] h K :=
  Cn_ofs mixed Tryz.func127 (by kernel_rfl) (args := [t0]) (by kernel_rfl) s
/-- function 128: internal.strconv.isPowerOfTwo -/
def s_strconv_isPowerOfTwo (K : Value → Hp → Prop) (h : Hp) (t0 : Value) : Prop := q P h (binOp .sub 3 t0 (Value.int .i64 1)) fun t5 => q P h (binOp .and 3 t0 t5) fun t6 => q P h (eqop .eql 3 (.tmp 6) (.const (Value.int .i64 0)) t6 (Value.int .i64 0)) fun t7 => K t7 h
theorem F_strconv_isPowerOfTwo {K : Value → Hp → Prop} {h : Hp} {t0 : Value} (s : s_strconv_isPowerOfTwo K h t0) : Cn P 128 #[t0] h K :=
  Cn_ofs mixed Tryz.func128 (by kernel_rfl) (args := [t0]) (by kernel_rfl) s
/-- function 129: math.bits.TrailingZeros -/
def s_bits_TrailingZeros (K : Value → Hp → Prop) (h : Hp) (t0 : Value) : Prop := cnd (Value.bool false) (q P h (convert 99 122 t0) fun t4 => Cn P 132 #[t4] h fun t5 h => K t5 h) (Cn P 133 #[t0] h fun t7 h => K t7 h)
theorem F_bits_TrailingZeros {K : Value → Hp → Prop} {h : Hp} {t0 : Value} (s : s_bits_TrailingZeros K h t0) : Cn P 129 #[t0] h K :=
  Cn_ofs mixed Tryz.func129 (by kernel_rfl) (args := [t0]) (by kernel_rfl) s
/-- function 133: math.bits.TrailingZeros64 -/
def s_bits_TrailingZeros64 (K : Value → Hp → Prop) (h : Hp) (t0 : Value) : Prop := q P h (eqop .eql 115 (.tmp 3) (.const (Value.int .u64 0)) t0 (Value.int .u64 0)) fun t4 => cnd t4 (K (Value.int .i64 64) h) (q P h (Op.unary .neg t0) fun t7 => q P h (binOp .and 115 t0 t7) fun t8 => q P h (binOp .mul 115 t8 (Value.int .u64 285870213051353865)) fun t9 => q P h (binOp .shr 115 t9 (Value.int .u64 58)) fun t10 => q P h (Instr.indexAt 154 (Value.pointer (some ⟨7, 0, none⟩)) t10) fun t11 => q P h (Instr.loadAt 5 t11) fun t12 => q P h (convert 5 3 t12) fun t13 => K t13 h)
theorem F_bits_TrailingZeros64 {K : Value → Hp → Prop} {h : Hp} {t0 : Value} (s : s_bits_TrailingZeros64 K h t0) : Cn P 133 #[t0] h K :=
  Cn_ofs mixed Tryz.func133 (by kernel_rfl) (args := [t0]) (by kernel_rfl) s
end Go.Proofs.YtflfhbnflcfmgaaGreatDoor
namespace Go.Pure
def le : Nat → Nat → List Nat
  | 0, _ => []
  | n + 1, v => v % 256 :: le n (v / 256)
def Bytes (l : List Nat) : Prop := ∀ x ∈ l, x < 256
theorem Bytes.take {l : List Nat} (h : Bytes l) (n : Nat) : Bytes (l.take n) := fun x hx => h x (List.mem_of_mem_take hx)
theorem Bytes.drop {l : List Nat} (h : Bytes l) (n : Nat) : Bytes (l.drop n) := fun x hx => h x (List.mem_of_mem_drop hx)
theorem Bytes.append {a b : List Nat} (h : Bytes a) (g : Bytes b) : Bytes (a ++ b) := fun x hx => (List.mem_append.1 hx).elim (h x) (g x)
theorem Bytes.getD {l : List Nat} (h : Bytes l) (i : Nat) : l.getD i 0 < 256 := by
  rw [List.getD_eq_getElem?_getD]
  cases hg : l[i]? with
  | none => simp
  | some x => exact h x (List.mem_of_getElem? hg)
end Go.Pure
set_option linter.unusedSimpArgs false
set_option linter.unusedVariables false
namespace Go.SL
open Go
/-- All that is known stays known. -/
def Hp.ext (h h' : Hp) : Prop := ∀ b o, h b = some o → h' b = some o
theorem Hp.ext.refl (h : Hp) : Hp.ext h h := fun _ _ e => e
theorem Hp.ext.trans {a b c : Hp} (x : Hp.ext a b) (y : Hp.ext b c) : Hp.ext a c := fun i o e => y i o (x i o e)
theorem ext_set {h : Hp} {r : Nat} (o : AObj) (hr : h r = none) : Hp.ext h (h.set r o) := fun i x e => by
  have : i ≠ r := by rintro rfl; rw [hr] at e; cases e
  rw [Hp.set_ne _ _ this]; exact e
theorem Hp.ext.le {h h' : Hp} (x : Hp.ext h h') : Hp.le h h' := fun b o e => ⟨o, x b o e, .refl o⟩
theorem Hp.ext.cle {h h' : Hp} (x : Hp.ext h h') : Hp.cle h h' := fun a v e => by
  unfold Hp.cell at e ⊢
  split at e
  · cases e
  · rename_i hs
    rw [if_neg hs]
    cases hb : h a.block with
    | none => rw [hb] at e; cases e
    | some o => rw [x _ _ hb]; rw [hb] at e; exact e
theorem Hp.ext.none {h h' : Hp} (x : Hp.ext h h') {b : Nat} (e : h' b = none) : h b = none := by
  cases hb : h b with
  | none => rfl
  | some o => rw [x b o hb] at e; cases e
theorem New.ext {h : Hp} {e s : Nat} {v : Value} {h' : Hp} {xs : List Value} {n : Nat} (w : New h e s v h' xs n) : Hp.ext h h' := by
  rcases w.2 with ⟨_, _, rfl⟩ | ⟨b, c, f, hb, _, _, rfl, _⟩
  · exact .refl _
  · exact ext_set _ hb
theorem Nn.ext {h : Hp} {e : Nat} {k : IntKind} {v : Value} {h' : Hp} {l : List Nat} (w : Nn h e k v h' l) : Hp.ext h h' := New.ext w
theorem del_set (h : Hp) {b : Nat} {o : AObj} (e : h b = some o) : (h.del b).set b o = h := by
  funext i
  unfold Hp.set Hp.del
  by_cases hi : i = b
  · subst hi; simp [e]
  · simp [hi]
theorem del_at (h : Hp) (b : Nat) : (h.del b) b = none := by simp [Hp.del]
/-- A row of the call's own that stands somewhere, as a new one. -/
theorem New.at {h : Hp} {b : Nat} {e s n c : Nat} {xs : List Value} {f : Nat × Nat} (hb : h b = some (.row e xs (c * s) (some f))) (hl : xs.length = n * s) (hc : n ≤ c) (hf : ∀ i, i < c * s → ¬ (f.1 ≤ i ∧ i < f.2)) :
    New (h.del b) e s (.slice (some ⟨b, 0, none⟩) n c) h xs n := ⟨hl, .inr ⟨b, c, f, del_at h b, hc, rfl, (del_set h hb).symm, hf⟩⟩
section
variable {P : Program} {h : Hp}
/-! ### Methods -/
/-! ### Maps whose keys are strings -/
/-! ### Copies -/
def putL : List Value → Nat → List Value → List Value
  | xs, _, [] => xs
  | xs, j, y :: ys => putL (xs.set j y) (j + 1) ys
theorem putL_eq : ∀ (ys xs : List Value) (j : Nat), j + ys.length ≤ xs.length → putL xs j ys = xs.take j ++ ys ++ xs.drop (j + ys.length)
  | [], xs, j, _ => by simp [putL]
  | y :: ys, xs, j, h => by
    simp only [List.length_cons] at h
    rw [putL, putL_eq ys _ _ (by rw [List.length_set]; omega), List.take_succ_eq_append_getElem (by rw [List.length_set]; omega), List.getElem_set_self, List.take_set_of_le (Nat.le_refl _), List.drop_set_of_lt (by omega)]
    simp only [List.append_assoc, List.singleton_append, List.cons_append, List.nil_append, List.length_cons]
    rw [show j + 1 + ys.length = j + (ys.length + 1) by omega]
theorem awp_putCells {b e cap : Nat} {f : Nat × Nat} : ∀ (ys xs : List Value) (h : Hp) (K : Unit → Hp → Prop) (o i : Nat), h b = some (.row e xs cap (some f)) → (∀ y ∈ ys, flat y = true) → o + i + ys.length ≤ xs.length →
    (∀ i, i < xs.length → ¬ (f.1 ≤ i ∧ i < f.2)) → K () (h.set b (.row e (putL xs (o + i) ys) cap (some f))) → awp P (storeCells ⟨b, o, none⟩ ys i) K h := by
  intro ys
  induction ys with
  | nil =>
    intro xs h K o i hb _ hl _ k
    have : h.set b (.row e (putL xs (o + i) []) cap (some f)) = h := by
      funext j
      unfold Hp.set
      split
      · rename_i e1; subst e1; rw [hb]; rfl
      · rfl
    rw [this] at k
    exact k
  | cons y ys ih =>
    intro xs h K o i hb hfl hl hf k
    simp only [List.length_cons] at hl
    show awp P (Sem.bind (store ((⟨b, o, none⟩ : Addr).add i) y) fun _ => storeCells ⟨b, o, none⟩ ys (i + 1)) K h
    rw [awp_bind, add_off]
    refine ⟨hfl y (List.mem_cons_self ..), ?_⟩
    rw [put_row hb (by omega) (hf (o + i) (by omega))]
    refine ih (xs.set (o + i) y) _ K o (i + 1) (Hp.set_same ..) (fun z hz => hfl z (List.mem_cons_of_mem _ hz)) (by rw [List.length_set]; omega) (fun j hj => hf j (by rwa [List.length_set] at hj)) ?_
    rw [Hp.set_set]
    exact k
/-- A copy of a text. -/
theorem aw_copyS {t t2 T e b o dl dc : Nat} {cap : Nat} {f : Nat × Nat} {xs ys : List Value} {s : ByteArray} {K : Value → Hp → Prop} (ht : P.underlying t = some (.slice e)) (hs : sz P e = some 1) (hb : h b = some (.row e xs cap (some f)))
    (hy : (s.extract 0 s.size).data.map (fun b => Value.int .u8 b.toNat) = ys.toArray) (hfl : ∀ y ∈ ys, flat y = true) (hn : s.size ≤ dl) (hyl : ys.length = s.size) (hl : o + dl ≤ xs.length) (hf : ∀ i, i < xs.length → ¬ (f.1 ≤ i ∧ i < f.2))
    (k : K (.int .i64 s.size) (h.set b (.row e (putL xs o ys) cap (some f)))) : aw P (Builtin.copy_ #[t, t2] T #[.slice (some ⟨b, o, none⟩) dl dc, .string s]) K h := by
  refine aw_of ?_
  show awp P (Sem.bind (underlying t) _) _ h
  rw [awp_bind, peek_awp P _ _ _ (pk_und ht)]
  show awp P (Sem.bind (sizeOf e) _) _ h
  rw [awp_bind, peek_awp P _ _ _ (pk_size hs)]
  show awp P (Sem.bind (Builtin.firstCells 1 (Nat.min s.size dl) (.string s)) _) _ h
  have hmin : Nat.min s.size dl = s.size := Nat.min_eq_left hn
  rw [hmin, awp_bind]
  show awp P (Sem.bind (storeCells ⟨b, o, none⟩ ((s.extract 0 s.size).data.map (fun b => Value.int .u8 b.toNat)).toList 0) _) _ h
  rw [hy, awp_bind]
  exact awp_putCells ys xs h _ o 0 hb hfl (by omega) hf (by rw [Nat.add_zero]; exact k)
/-! ### Slices of structs -/
end
end Go.SL
set_option linter.unusedSimpArgs false
set_option linter.unusedVariables false
namespace Go.SL
open Go
section
variable {P : Program} {h : Hp}
/-- An array from a place on. -/
theorem q_slArrLo {t e s n : Nat} {K : Value → Prop} (ht : P.underlying t = some (.array n e)) (hs : sz P e = some s) (a : Addr) (k : IntKind) (lo : Nat) (h1 : lo ≤ n) :
    q P h (Instr.sliceAt t (.pointer (some a)) (some (.int k lo)) none none) K = K (.slice (some (if n = lo then a else a.add (lo * s))) (n - lo) (n - lo)) := q_of (by
  show peek P h (Sem.bind (underlying t) _) = _
  rw [peek_bind, pk_und ht, Option.bind_some]
  show peek P h (Sem.bind (Sem.bind (Instr.sliceBound (.int k (lo : Int)) n .sliceB) _) _) = _
  rw [peek_bind, peek_bind, pk_bound k lo n h1, Option.bind_some]
  show peek P h (Sem.bind (sizeOf e) _) = _
  rw [peek_bind, pk_size hs]
  rfl) K
end
end Go.SL
set_option linter.unusedSimpArgs false
set_option linter.unusedVariables false
namespace Go.SL
open Go
/-- Shapes: numbers, truths, texts, slices, structs (parts in a row), arrays. -/
inductive Ty where
  | int (k : IntKind)
  | bool
  | str
  | sl (e : Ty)
  | arr (n : Nat) (e : Ty)
  | rcd (fs : Ty)
  | nil
  | cons (a b : Ty)
def Ty.size : Ty → Nat
  | .int _ => 1
  | .bool => 1
  | .str => 1
  | .sl _ => 1
  | .arr n e => n * e.size
  | .rcd fs => fs.size
  | .nil => 0
  | .cons a b => a.size + b.size
/-- Rows of cells, one behind the other, behind a slice. -/
def SlAt (R : Hp) (s : Nat) (v : Value) (items : List (List Value)) : Prop :=
  ∃ a c, v = .slice a items.length c ∧ items.length ≤ c ∧ (items = [] ∨ ∃ b o, a = some ⟨b, o, none⟩ ∧ ∀ (i : Nat) (x : List Value), items[i]? = some x → ∀ (j : Nat) (y : Value), x[j]? = some y → R.cell ⟨b, o + i * s + j, none⟩ = some y)
theorem SlAt.mono {R R' : Hp} {s : Nat} {v : Value} {items : List (List Value)} (a : SlAt R s v items) (c : Hp.cle R R') : SlAt R' s v items := by
  obtain ⟨x, n, h1, h2, h3⟩ := a
  refine ⟨x, n, h1, h2, ?_⟩
  rcases h3 with h3 | ⟨b, o, h4, h5⟩
  · exact .inl h3
  · exact .inr ⟨b, o, h4, fun i x e j y ey => c _ _ (h5 i x e j y ey)⟩
theorem SlAt.shape {R : Hp} {s : Nat} {v : Value} {items : List (List Value)} (a : SlAt R s v items) : ∃ x c, v = .slice x items.length c ∧ items.length ≤ c := let ⟨x, c, e, hc, _⟩ := a; ⟨x, c, e, hc⟩
/-- Cells that are a thing of that shape. -/
def Ty.Rd (R : Hp) : Ty → List Value → Prop
  | .int k, vs => ∃ n, vs = [.int k n] ∧ (Lit.int k n).wf = true
  | .bool, vs => ∃ b, vs = [.bool b]
  | .str, vs => ∃ s : ByteArray, vs = [.string s] ∧ s.size ≤ 9223372036854775807
  | .sl e, vs => ∃ (v : Value) (items : List (List Value)), vs = [v] ∧ SlAt R e.size v items ∧ items.length ≤ 9223372036854775807 ∧ ∀ x ∈ items, x.length = e.size ∧ e.Rd R x
  | .arr n e, vs => ∃ items : List (List Value), vs = items.flatten ∧ items.length = n ∧ ∀ x ∈ items, x.length = e.size ∧ e.Rd R x
  | .rcd fs, vs => fs.Rd R vs
  | .nil, vs => vs = []
  | .cons a b, vs => ∃ x y, vs = x ++ y ∧ x.length = a.size ∧ a.Rd R x ∧ b.Rd R y
theorem Ty.Rd.mono {R R' : Hp} (c : Hp.cle R R') : ∀ {ty : Ty} {vs : List Value}, ty.Rd R vs → ty.Rd R' vs
  | .int _, _, h => h
  | .bool, _, h => h
  | .str, _, h => h
  | .sl _, _, ⟨v, items, e, a, hl, h⟩ => ⟨v, items, e, a.mono c, hl, fun x hx => ⟨(h x hx).1, Ty.Rd.mono c (h x hx).2⟩⟩
  | .arr _ _, _, ⟨items, e, l, h⟩ => ⟨items, e, l, fun x hx => ⟨(h x hx).1, Ty.Rd.mono c (h x hx).2⟩⟩
  | .rcd fs, _, h => Ty.Rd.mono (ty := fs) c h
  | .nil, _, h => h
  | .cons _ _, _, ⟨x, y, e, l, h1, h2⟩ => ⟨x, y, e, l, Ty.Rd.mono c h1, Ty.Rd.mono c h2⟩
theorem flatten_len {s : Nat} : ∀ {items : List (List Value)}, (∀ x ∈ items, x.length = s) → items.flatten.length = items.length * s
  | [], _ => by simp
  | x :: l, h => by
    rw [List.flatten_cons, List.length_append, flatten_len fun y hy => h y (List.mem_cons_of_mem _ hy), h x (by simp), List.length_cons, Nat.succ_mul, Nat.add_comm]
theorem Ty.Rd.len {R : Hp} : ∀ {ty : Ty} {vs : List Value}, ty.Rd R vs → vs.length = ty.size
  | .int _, _, ⟨_, e, _⟩ => by rw [e]; rfl
  | .bool, _, ⟨_, e⟩ => by rw [e]; rfl
  | .str, _, ⟨_, e, _⟩ => by rw [e]; rfl
  | .sl _, _, ⟨_, _, e, _⟩ => by rw [e]; rfl
  | .arr n e, _, ⟨items, h1, h2, h3⟩ => by rw [h1, flatten_len fun x hx => (h3 x hx).1, h2]; rfl
  | .rcd fs, _, h => Ty.Rd.len (ty := fs) h
  | .nil, _, h => by rw [show _ = [] from h]; rfl
  | .cons a b, _, ⟨x, y, e, l, _, h2⟩ => by rw [e, List.length_append, l, Ty.Rd.len h2]; rfl
theorem Ty.Rd.flat {R : Hp} : ∀ {ty : Ty} {vs : List Value}, ty.Rd R vs → ∀ y ∈ vs, SL.flat y = true
  | .int _, _, ⟨_, e, _⟩, y, hy => by rw [e, List.mem_singleton] at hy; rw [hy]; rfl
  | .bool, _, ⟨_, e⟩, y, hy => by rw [e, List.mem_singleton] at hy; rw [hy]; rfl
  | .str, _, ⟨_, e, _⟩, y, hy => by rw [e, List.mem_singleton] at hy; rw [hy]; rfl
  | .sl _, _, ⟨_, _, e, a, _⟩, y, hy => by obtain ⟨_, _, ev, _⟩ := a; rw [e, List.mem_singleton] at hy; rw [hy, ev]; rfl
  | .arr n e, _, ⟨items, h1, h2, h3⟩, y, hy => by
    rw [h1] at hy
    obtain ⟨x, hx, hy⟩ := List.mem_flatten.1 hy
    exact Ty.Rd.flat (h3 x hx).2 y hy
  | .rcd fs, _, h, y, hy => Ty.Rd.flat (ty := fs) h y hy
  | .nil, _, h, y, hy => by rw [show _ = [] from h] at hy; cases hy
  | .cons a b, _, ⟨x, z, e, l, h1, h2⟩, y, hy => by
    rw [e] at hy
    rcases List.mem_append.1 hy with q | q
    · exact Ty.Rd.flat h1 y q
    · exact Ty.Rd.flat h2 y q
/-- Does a type of the program have a shape? Of a struct's parts: from a place on. -/
def tyB (P : Program) : Ty → TypeId ⊕ (Nat × List Field) → Bool
  | .int k, .inl t => match P.underlying t with
    | some (.int k') => k' == k
    | _ => false
  | .bool, .inl t => match P.underlying t with
    | some .bool => true
    | _ => false
  | .str, .inl t => match P.underlying t with
    | some .string => true
    | _ => false
  | .sl e, .inl t => match P.underlying t with
    | some (.slice te) => P.cellsOf te == e.size && decide (0 < e.size) && tyB P e (.inl te)
    | _ => false
  | .arr n e, .inl t => match P.underlying t with
    | some (.array m te) => m == n && P.cellsOf te == e.size && P.cellsOf t == n * e.size && tyB P e (.inl te)
    | _ => false
  | .rcd fs, .inl t => match P.underlying t with
    | some (.struct fa) => P.cellsOf t == fs.size && tyB P fs (.inr (0, fa.toList))
    | _ => false
  | .nil, .inr (_, l) => l.isEmpty
  | .cons a b, .inr (o, l) => match l with
    | f :: l => f.offset == o && P.cellsOf f.type == a.size && tyB P a (.inl f.type) && tyB P b (.inr (o + a.size, l))
    | [] => false
  | _, _ => false
/-- Bytes. -/
abbrev Ty.bytes : Ty := .sl (.int .u8)
theorem wf_u8 {n : Int} (h : (Lit.int .u8 n).wf = true) : 0 ≤ n ∧ n < 256 := by
  simp [Lit.wf, IntKind.min, IntKind.max, IntKind.signed, IntKind.bits] at h
  omega
theorem Ty.Rd.asBytes {R : Hp} {vs : List Value} (h : Ty.bytes.Rd R vs) : ∃ (v : Value) (l : List Nat), vs = [v] ∧ Rn R .u8 v l ∧ (∀ x ∈ l, x < 256) ∧ l.length ≤ 9223372036854775807 := by
  obtain ⟨v, items, rfl, ⟨a, c, hv, hc, hcell⟩, hl, hi⟩ := h
  have hf : ∀ x ∈ items, ∃ n : Nat, n < 256 ∧ x = [.int .u8 (n : Int)] := fun x hx => by
    obtain ⟨_, n, rfl, hw⟩ := hi x hx
    have := wf_u8 hw
    exact ⟨n.toNat, by omega, by rw [Int.toNat_of_nonneg this.1]⟩
  obtain ⟨l, rfl, hb⟩ : ∃ l : List Nat, items = l.map (fun (n : Nat) => [Value.int .u8 (n : Int)]) ∧ ∀ x ∈ l, x < 256 := by
    clear hcell hc hv hl hi
    induction items with
    | nil => exact ⟨[], rfl, by simp⟩
    | cons x xs ih =>
      obtain ⟨l, e, hb⟩ := ih fun y hy => hf y (List.mem_cons_of_mem _ hy)
      obtain ⟨n, hn, ex⟩ := hf x (by simp)
      refine ⟨n :: l, by rw [e, ex]; rfl, fun y hy => ?_⟩
      rcases List.mem_cons.1 hy with rfl | hy
      · exact hn
      · exact hb y hy
  rw [List.length_map] at hv hc hl
  refine ⟨v, l, rfl, ⟨by rw [nv_len]; omega, a, c, hv, hc, ?_⟩, hb, hl⟩
  rcases hcell with h0 | ⟨b, o, ha, hcl⟩
  · left; simpa using h0
  · right
    refine ⟨b, o, ha, fun i x e => ?_⟩
    have hi : i < l.length := by have := (List.getElem?_eq_some_iff.1 e).1; rwa [nv_len] at this
    have := hcl i [.int .u8 ((l[i] : Nat) : Int)] (by rw [List.getElem?_map, List.getElem?_eq_getElem hi]; rfl) 0 _ rfl
    rw [nv_get _ _ _ hi] at e
    rw [← Option.some.inj e, ← this]
    show R.cell _ = R.cell _
    congr 2
    show o + i = o + i * 1 + 0
    omega
section
variable {P : Program} {h : Hp}
end
end Go.SL
set_option linter.unusedSimpArgs false
set_option linter.unusedVariables false
namespace Go.SL
open Go
section
variable {P : Program} {h : Hp}
theorem zeroCells1 (z : Value) (n : Nat) : (Builtin.zeroCells #[z] n).toList = List.replicate n z := by
  unfold Builtin.zeroCells
  apply List.ext_getElem
  · simp
  · intro i h1 h2
    simp [Nat.mod_one]
/-- Zeros are appended. -/
theorem aw_grow {h0 h h' : Hp} {t ti T e B n m : Nat} {v : Value} {xs : List Value} {z : Value} {K : Value → Hp → Prop}
    (ht : P.underlying t = some (.slice e)) (hti : P.underlying ti = some (.int .i64)) (hi : (P.info? e).map (fun i => (i.zero, i.size, i.bytes)) = some (some z, 1, B)) (hz : z.cells = #[z]) (hfz : flat z = true) (hB1 : 1 ≤ B) (hw : New h e 1 v h' xs n)
    (hB : (2 * (n + m) + 768) * B ≤ 2 ^ 48) (hle0 : Hp.le h0 h)
    (k : ∀ v' h'', New h0 e 1 v' h'' (xs ++ List.replicate m z) (n + m) → K v' h'') : aw P (Builtin.append_ #[t, ti] T #[v, .int .i64 m]) K h' := by
  obtain ⟨i, hi0, hi1⟩ := Option.map_eq_some_iff.1 hi
  simp only [Prod.mk.injEq] at hi1
  have hs : sz P e = some 1 := by simp [sz, hi0, hi1.2.1]
  have hzr : zr P e = some z := by simp [zr, hi0, hi1.1]
  have hinfo : peek P h' (typeInfo e) = some i := pk_info hi0
  have hbound : n + m ≤ 140737488355328 := by
    have : (2 * (n + m) + 768) * 1 ≤ (2 * (n + m) + 768) * B := Nat.mul_le_mul_left _ hB1
    omega
  have hmB : m * B ≤ (2 * (n + m) + 768) * B := Nat.mul_le_mul_right B (by omega)
  have hrv := hw.rds
  obtain ⟨hxl, hv⟩ := hw
  obtain ⟨a, c, rfl⟩ : ∃ a c, v = .slice a n c := by
    obtain ⟨_, a, c, e1, _⟩ := hrv
    exact ⟨a, c, e1⟩
  have w1 : IntKind.i64.wrap (m : Int) = m := by unfold IntKind.wrap; simp [IntKind.bits, IntKind.signed]; omega
  show awp P (Sem.bind (underlying t) _) _ h'
  rw [awp_bind, peek_awp P _ _ _ (pk_und ht)]
  show awp P (Sem.bind (sizeOf e) _) _ h'
  rw [awp_bind, peek_awp P _ _ _ (pk_size hs)]
  show awp P (Sem.bind (underlying ti) _) _ h'
  rw [awp_bind, peek_awp P _ _ _ (pk_und hti)]
  show awp P (if IntKind.i64.wrap (m : Int) < 0 then _ else _) _ h'
  rw [if_neg (by rw [w1]; omega)]
  show awp P (Sem.bind (typeInfo e) _) _ h'
  rw [awp_bind, peek_awp P _ _ _ hinfo]
  show awp P (if IntKind.i64.wrap (m : Int) * (i.bytes : Int) > 2 ^ 48 then _ else _) _ h'
  rw [if_neg (by
    rw [w1, hi1.2.2]
    have : ((m * B : Nat) : Int) ≤ 2 ^ 48 := by exact_mod_cast Nat.le_trans hmB hB
    push_cast at this; omega)]
  show awp P (if n + (IntKind.i64.wrap (m : Int)).toNat ≤ c then _ else _) _ h'
  rw [w1, Int.toNat_natCast]
  have zs : ∀ (K : Array Value → Hp → Prop), K (List.replicate m z).toArray h' → awp P (if m * 1 = 0 then (pure #[] : Sem (Array Value)) else (zeroValue e).bind fun z => .pure (Builtin.zeroCells z.cells m)) K h' := fun K q => by
    by_cases h0 : m * 1 = 0
    · rw [if_pos h0]
      obtain rfl : m = 0 := by omega
      exact q
    · rw [if_neg h0, awp_bind, peek_awp P _ _ _ (pk_zero hzr), hz]
      have e1 : Builtin.zeroCells #[z] m = (List.replicate m z).toArray := by rw [← zeroCells1]
      rw [e1]
      exact q
  have fz : ∀ y ∈ List.replicate m z, flat y = true := fun y hy => by rw [(List.mem_replicate.1 hy).2]; exact hfz
  split
  · rename_i hle
    show awp P (Sem.bind (if m * 1 = 0 then _ else _) _) _ h'
    rw [awp_bind]
    refine zs _ ?_
    rcases hv with ⟨hv, hn, hh⟩ | ⟨b, c', f, hb, hn, hv, hh, hf⟩
    · simp only [Value.slice.injEq] at hv
      obtain ⟨rfl, rfl, rfl⟩ := hv
      have hm0 : m = 0 := by omega
      subst hm0
      refine ⟨h0, by rw [hh]; exact hle0, k _ _ ⟨by simpa using hxl, .inl ⟨rfl, rfl, rfl⟩⟩⟩
    · simp only [Value.slice.injEq] at hv
      obtain ⟨rfl, _, rfl⟩ := hv
      show awp P (Sem.bind (storeCells ((⟨b, 0, none⟩ : Addr).add (n * 1)) (List.replicate m z).toArray.toList) _) _ h'
      rw [awp_bind, add_off]
      have hb' : h' b = some (.row e xs (c * 1) (some f)) := by rw [hh]; exact Hp.set_same ..
      refine awp_storeCells (List.replicate m z) xs h' _ hb' fz (by rw [hxl, List.length_replicate]; omega) hf 0 (0 + n * 1) (by omega) ?_
      refine ⟨h0.set b (.row e (xs ++ List.replicate m z) (c * 1) (some f)), ?_, k _ _ ⟨by rw [List.length_append, hxl, List.length_replicate]; omega, .inr ⟨b, c, f, le_none hle0 hb, hle, rfl, rfl, hf⟩⟩⟩
      have e1 : (if List.replicate m z = [] then h' else h'.set b (.row e (xs ++ List.replicate m z) (c * 1) (some f))) = h.set b (.row e (xs ++ List.replicate m z) (c * 1) (some f)) := by
        split
        · rename_i e0; rw [e0, List.append_nil]; exact hh
        · rw [hh, Hp.set_set]
      rw [e1]
      exact le_set hle0
  · rename_i hgt
    have hnc : Builtin.nextslicecap (n + m) c * B ≤ 2 ^ 48 := Nat.le_trans (Nat.mul_le_mul_right B (nextcap_le (n + m) c (by omega))) hB
    show awp P (Sem.bind (typeInfo e) _) _ h'
    rw [awp_bind, peek_awp P _ _ _ hinfo]
    show awp P (if ((n + m : Nat) : Int) > IntKind.i64.max ∧ (true = true ∨ i.bytes = 0) then _ else _) _ h'
    rw [if_neg (fun q => by have := q.1; simp [IntKind.max, IntKind.bits, IntKind.signed] at this; omega)]
    show awp P (Sem.bind (typeInfo e) _) _ h'
    rw [awp_bind, peek_awp P _ _ _ hinfo]
    show awp P (if Builtin.nextslicecap (n + m) c * i.bytes > 2 ^ 48 then _ else _) _ h'
    rw [if_neg (by rw [hi1.2.2]; omega)]
    show awp P (Sem.choose (.appendCap (n + m) c e) _) _ h'
    simp only [awp, Question.forced, Bool.false_eq_true, if_false]
    intro tp
    obtain ⟨nc, hncap, hge⟩ : ∃ nc, Question.cut (.appendCap (n + m) c e) tp = nc ∧ n + m ≤ nc := ⟨_, rfl, by simp [Question.cut]⟩
    rw [hncap]
    show awp P (Sem.bind (typeInfo e) _) _ h'
    rw [awp_bind, peek_awp P _ _ _ hinfo]
    show awp P (Sem.bind (askRoom (nc * i.bytes)) _) _ h'
    rw [awp_bind]
    have hroom : ∀ (x : Nat) (K : Unit → Hp → Prop), K () h' → awp P (askRoom x) K h' := by
      intro x K q
      unfold askRoom
      split <;> exact q
    refine hroom _ _ ?_
    show awp P (Sem.bind (Builtin.firstCells 1 n _) _) _ h'
    rw [awp_bind]
    refine awp_firstCells hrv ?_
    show awp P (Sem.bind (if m * 1 = 0 then _ else _) _) _ h'
    rw [awp_bind]
    refine zs _ ?_
    show awp P (Sem.bind (zeroValue e) _) _ h'
    rw [awp_bind, peek_awp P _ _ _ (pk_zero hzr)]
    intro r hrn
    obtain ⟨rest, hrest, hsz⟩ : ∃ rest : Array Value, Builtin.zeroCells z.cells (nc - (n + m)) = rest ∧ rest.size = (nc - (n + m)) * 1 := ⟨_, rfl, by rw [zeroCells_size, hz]; rfl⟩
    have hh0 : h r = none := by
      rcases hv with ⟨_, _, rfl⟩ | ⟨b, c', f, hb, _, _, rfl, _⟩
      · exact hrn
      · by_cases e1 : r = b
        · subst e1; rw [Hp.set_same] at hrn; cases hrn
        · rwa [Hp.set_ne _ _ e1] at hrn
    refine ⟨h0.set r (.row e (xs ++ List.replicate m z) (nc * 1) (some (0, 0))), Hp.le.trans (le_set hle0) fun b' o ho => ?_, k _ _ ⟨by rw [List.length_append, hxl, List.length_replicate]; omega, .inr ⟨r, nc, (0, 0), le_none hle0 hh0, hge, rfl, rfl, fun i _ => by simp⟩⟩⟩
    by_cases e1 : b' = r
    · subst e1
      rw [Hp.set_same] at ho
      cases ho
      refine ⟨_, Hp.set_same .., ?_⟩
      rw [hrest]
      refine ⟨rfl, ?_, ?_, .inl rfl⟩
      · simp only [Array.size_append, List.size_toArray, hxl, List.length_replicate, hsz]
        omega
      · simp only [Array.toList_append, List.append_assoc]
        exact ⟨rest.toList, by simp⟩
    · rw [Hp.set_ne _ _ e1] at ho ⊢
      rcases hv with ⟨_, _, rfl⟩ | ⟨b, c', f, hb, _, _, rfl, _⟩
      · exact ⟨o, ho, .refl _⟩
      · by_cases e2 : b' = b
        · subst e2; rw [hb] at ho; cases ho
        · rw [Hp.set_ne _ _ e2]; exact ⟨o, ho, .refl _⟩
end
end Go.SL
set_option linter.unusedSimpArgs false
set_option linter.unusedVariables false
set_option maxRecDepth 100000
set_option maxHeartbeats 1000000
namespace Go.SL
open Go
section
variable {P : Program}
theorem replicate_nv (k : IntKind) (n : Nat) : List.replicate n (Value.int k 0) = nv k (List.replicate n 0) := by simp [nv]
theorem lt_dec (i n : Nat) : decide ((i : Int) < (n : Int)) = decide (i < n) := by
  rw [decide_eq_decide]; omega
theorem rn_nil (h : Hp) (k : IntKind) : Rn h k (.slice none 0 0) [] := ⟨rfl, none, 0, rfl, Nat.le_refl _, .inl rfl⟩
theorem ext0 {h : Hp} {K : Value → Prop} (a b : Value) : q P h (Instr.extract (.tuple #[a, b]) 0) K = K a := q_ext #[a, b] 0 a rfl
theorem ext1 {h : Hp} {K : Value → Prop} (a b : Value) : q P h (Instr.extract (.tuple #[a, b]) 1) K = K b := q_ext #[a, b] 1 b rfl
def strL (l : List Nat) : ByteArray := l.foldl (fun s x => s.push (UInt8.ofNat x)) ByteArray.empty
theorem ne_dec (a n : Nat) : (((a : Nat) : Int) != ((n : Nat) : Int)) = decide (a ≠ n) := by
  rw [Bool.eq_iff_iff, bne_iff_ne, decide_eq_true_eq]; omega
theorem putL_nv (l : List Nat) (j : Nat) (ys : List Nat) (h : j + ys.length ≤ l.length) : putL (nv .u8 l) j (nv .u8 ys) = nv .u8 (l.take j ++ ys ++ l.drop (j + ys.length)) := by
  rw [putL_eq _ _ _ (by rw [nv_len, nv_len]; exact h), nv_len]
  unfold nv
  rw [List.map_append, List.map_append, List.map_take, List.map_drop]
/-- What is to be read (R) is known, what is owned (S) is known and not among it. -/
structure Own (R h : Hp) (S : List Nat) : Prop where
  sub : Hp.ext R h
  dis : ∀ b, b ∈ S → R b = none
  kn : ∀ b, b ∈ S → ∃ o, h b = some o
/-- A step: what is to be read (R) grows, what is owned (S) changes, all else that is known (h) stays. -/
structure Stp (R h R' h' : Hp) (S S' : List Nat) : Prop where
  ext : Hp.ext R R'
  keep : ∀ b o, b ∉ S → h b = some o → h' b = some o
  frS : ∀ b o, b ∉ S → h b = some o → b ∉ S'
  frR : ∀ b o, b ∉ S → h b = some o → R b = none → R' b = none
  own : Own R' h' S'
theorem Stp.refl {R h : Hp} {S : List Nat} (w : Own R h S) : Stp R h R h S S := ⟨.refl _, fun _ _ _ e => e, fun _ _ n _ => n, fun _ _ _ _ e => e, w⟩
theorem Stp.trans {R h R1 h1 R2 h2 : Hp} {S S1 S2 : List Nat} (a : Stp R h R1 h1 S S1) (b : Stp R1 h1 R2 h2 S1 S2) : Stp R h R2 h2 S S2 where
  ext := a.ext.trans b.ext
  own := b.own
  keep := fun x o n e => b.keep x o (a.frS x o n e) (a.keep x o n e)
  frS := fun x o n e => b.frS x o (a.frS x o n e) (a.keep x o n e)
  frR := fun x o n e r => b.frR x o (a.frS x o n e) (a.keep x o n e) (a.frR x o n e r)
/-- What is owned beside stays so. -/
theorem Stp.frame {R h R' h' : Hp} {S S' S2 : List Nat} (a : Stp R h R' h' S S') (w : Own R h S2) (n : ∀ b, b ∈ S2 → b ∉ S) : Own R' h' S2 ∧ (∀ b, b ∈ S2 → b ∉ S') ∧ ∀ b, b ∈ S2 → h' b = h b := by
  refine ⟨⟨a.own.sub, fun b hb => ?_, fun b hb => ?_⟩, fun b hb => ?_, fun b hb => ?_⟩ <;> obtain ⟨o, e⟩ := w.kn b hb
  · exact a.frR b o (n b hb) e (w.dis b hb)
  · exact ⟨o, a.keep b o (n b hb) e⟩
  · exact a.frS b o (n b hb) e
  · rw [e]; exact a.keep b o (n b hb) e
/-- A step, with what is owned beside. -/
theorem Stp.wide {R h R' h' : Hp} {S S' S2 : List Nat} (a : Stp R h R' h' S S') (w : Own R h S2) (n : ∀ b, b ∈ S2 → b ∉ S) : Stp R h R' h' (S ++ S2) (S' ++ S2) where
  ext := a.ext
  keep := fun b o hn e => a.keep b o (fun q => hn (List.mem_append_left _ q)) e
  frS := fun b o hn e q => (List.mem_append.1 q).elim (a.frS b o (fun q => hn (List.mem_append_left _ q)) e) (fun q => hn (List.mem_append_right _ q))
  frR := fun b o hn e r => a.frR b o (fun q => hn (List.mem_append_left _ q)) e r
  own := by
    obtain ⟨w2, _, _⟩ := a.frame w n
    exact ⟨w2.sub, fun b hb => (List.mem_append.1 hb).elim (a.own.dis b) (w2.dis b), fun b hb => (List.mem_append.1 hb).elim (a.own.kn b) (w2.kn b)⟩
theorem Own.nil {R h : Hp} {S : List Nat} (w : Own R h S) : Own R h [] := ⟨w.sub, fun b hb => (by cases hb), fun b hb => (by cases hb)⟩
/-- A step that only makes what is to be read: a block. -/
theorem Stp.block {R h : Hp} {S : List Nat} {r : Nat} (o : AObj) (w : Own R h S) (hr : h r = none) : Stp R h (R.set r o) (h.set r o) S S := by
  have hRb : R r = none := w.sub.none hr
  refine ⟨ext_set _ hRb, fun x o' hn e => ?_, fun x o' hn e => hn, fun x o' hn e r' => ?_, ⟨fun x o' e => ?_, fun x hx => ?_, fun x hx => ?_⟩⟩
  · rw [Hp.set_ne _ _ (by rintro rfl; rw [hr] at e; cases e)]; exact e
  · rw [Hp.set_ne _ _ (by rintro rfl; rw [hr] at e; cases e)]; exact r'
  · by_cases q : x = r
    · subst q; rw [Hp.set_same] at e ⊢; exact e
    · rw [Hp.set_ne _ _ q] at e ⊢; exact w.sub x o' e
  · rw [Hp.set_ne _ _ (by rintro rfl; obtain ⟨o2, e⟩ := w.kn x hx; rw [hr] at e; cases e)]; exact w.dis x hx
  · obtain ⟨o2, e⟩ := w.kn x hx
    exact ⟨o2, by rw [Hp.set_ne _ _ (by rintro rfl; rw [hr] at e; cases e)]; exact e⟩
/-- A new row, to be read. -/
theorem Stp.new {R h : Hp} {S : List Nat} {t s n : Nat} {v : Value} {h' : Hp} {xs : List Value} (w : Own R h S) (nw : New h t s v h' xs n) : ∃ R', Stp R h R' h' S S ∧ Rds R' s v xs n := by
  rcases nw.2 with ⟨rfl, rfl, rfl⟩ | ⟨b, c, f, hb, hc, rfl, rfl, hf⟩
  · exact ⟨R, .refl w, nw.1, none, 0, rfl, Nat.le_refl _, .inl rfl⟩
  · exact ⟨_, Stp.block _ w hb, nw.1, _, c, rfl, hc, .inr ⟨b, 0, rfl, fun i x e => by rw [cell_row (Hp.set_same ..), Nat.zero_add]; exact e⟩⟩
theorem Stp.newN {R h : Hp} {S : List Nat} {t : Nat} {v : Value} {h' : Hp} {k : IntKind} {l : List Nat} (w : Own R h S) (nw : Nn h t k v h' l) : ∃ R', Stp R h R' h' S S ∧ Rn R' k v l := Stp.new w nw
theorem Own.rn {R h : Hp} {S : List Nat} {k : IntKind} {v : Value} {l : List Nat} (w : Own R h S) (r : Rn R k v l) : Rn h k v l := r.mono w.sub.cle
theorem rn_flat {R : Hp} {k : IntKind} {v : Value} {l : List Nat} (r : Rn R k v l) : flat v = true := by
  obtain ⟨a, c, rfl, _⟩ := r.shape; rfl
/-- A row of the call's own that may be appended to, or nil; the block that it lies in. -/
def OutAt (t s : Nat) (h : Hp) (v : Value) (xs : List Value) (n : Nat) (So : List Nat) : Prop :=
  (v = .slice none 0 0 ∧ n = 0 ∧ xs = [] ∧ So = []) ∨
  ∃ b c f, h b = some (.row t xs (c * s) (some f)) ∧ v = .slice (some ⟨b, 0, none⟩) n c ∧ n ≤ c ∧ (∀ i, i < c * s → ¬ (f.1 ≤ i ∧ i < f.2)) ∧ So = [b] ∧ xs.length = n * s
theorem OutAt.of {t s : Nat} {h h' : Hp} {v : Value} {xs : List Value} {n : Nat} (w : New h t s v h' xs n) : ∃ So, OutAt t s h' v xs n So ∧ (∀ x, x ∈ So → h x = none) := by
  rcases w.2 with ⟨rfl, rfl, rfl⟩ | ⟨b, c, f, hb, hc, rfl, rfl, hf⟩
  · exact ⟨[], .inl ⟨rfl, rfl, List.eq_nil_of_length_eq_zero (by have := w.1; omega), rfl⟩, fun x hx => by cases hx⟩
  · exact ⟨[b], .inr ⟨b, c, f, Hp.set_same .., rfl, hc, hf, rfl, w.1⟩, fun x hx => by rw [List.mem_singleton.1 hx]; exact hb⟩
theorem OutAt.new {t s : Nat} {h : Hp} {v : Value} {xs : List Value} {n : Nat} {So : List Nat} (a : OutAt t s h v xs n So) : ∃ X, New X t s v h xs n ∧ (∀ x, x ∉ So → X x = h x) ∧ (∀ x, x ∈ So → X x = none) := by
  rcases a with ⟨rfl, rfl, rfl, rfl⟩ | ⟨b, c, f, hb, rfl, hc, hf, rfl, hl⟩
  · exact ⟨h, ⟨by simp, .inl ⟨rfl, rfl, rfl⟩⟩, fun _ _ => rfl, fun x hx => by cases hx⟩
  · refine ⟨h.del b, New.at hb hl hc hf, fun x hx => Hp.del_ne _ (by simpa using hx), fun x hx => by rw [List.mem_singleton.1 hx]; exact del_at _ _⟩
theorem OutAt.keep {t s : Nat} {h h' : Hp} {v : Value} {xs : List Value} {n : Nat} {So : List Nat} (a : OutAt t s h v xs n So) (k : ∀ x, x ∈ So → h' x = h x) : OutAt t s h' v xs n So := by
  rcases a with a | ⟨b, c, f, hb, hv, hc, hf, hS, hl⟩
  · exact .inl a
  · exact .inr ⟨b, c, f, by rw [k b (by simp [hS])]; exact hb, hv, hc, hf, hS, hl⟩
theorem OutAt.rds {t s : Nat} {h : Hp} {v : Value} {xs : List Value} {n : Nat} {So : List Nat} (a : OutAt t s h v xs n So) : Rds h s v xs n := by
  obtain ⟨X, w, _⟩ := a.new
  exact w.rds
theorem aw_appendO {t2 T ts e e2 s B n m : Nat} {h : Hp} {v w : Value} {xs ys : List Value} {z : Value} {So : List Nat} {K : Value → Hp → Prop}
    (ht : P.underlying ts = some (.slice e)) (ht2 : P.underlying t2 = some (.slice e2)) (hi : (P.info? e).map (fun i => (i.zero, i.size, i.bytes)) = some (some z, s, B)) (hzs : z.cells.size = s) (hB1 : 1 ≤ B) (ho : OutAt e s h v xs n So) (hr : Rds h s w ys m) (hfl : ∀ y ∈ ys, flat y = true)
    (hB : (2 * (n + m) + 768) * B ≤ 2 ^ 48)
    (k : ∀ v' h' So', OutAt e s h' v' (xs ++ ys) (n + m) So' → (∀ x o, x ∉ So → h x = some o → h' x = some o) → (∀ x o, x ∉ So → h x = some o → x ∉ So') → K v' h') : aw P (Builtin.append_ #[ts, t2] T #[v, w]) K h := by
  obtain ⟨X, nX, X1, X2⟩ := ho.new
  refine aw_append ht ht2 hi hzs hB1 nX hr hfl hB (.refl _) fun v' h' n' => ?_
  obtain ⟨So', o', f'⟩ := OutAt.of n'
  refine k v' h' So' o' (fun x o hx e => ?_) (fun x o hx e q => ?_)
  · exact n'.ext _ _ (by rw [X1 x hx]; exact e)
  · have := f' x q
    rw [X1 x hx, e] at this
    cases this
/-- A step that only makes blocks that nobody asks for. -/
theorem Stp.ext0 {R h : Hp} {S : List Nat} {h' : Hp} (w : Own R h S) (x : Hp.ext h h') : Stp R h R h' S S :=
  ⟨.refl _, fun y oy _ ey => x y oy ey, fun y oy n _ => n, fun y oy _ _ r => r, ⟨fun y oy ey => x y oy (w.sub y oy ey), w.dis, fun y hy => let ⟨oy, ey⟩ := w.kn y hy; ⟨oy, x y oy ey⟩⟩⟩
theorem Own.sub' {R h : Hp} {S T : List Nat} (w : Own R h S) (m : ∀ x, x ∈ T → x ∈ S) : Own R h T := ⟨w.sub, fun b hb => w.dis b (m b hb), fun b hb => w.kn b (m b hb)⟩
theorem Own.app {R h : Hp} {S T : List Nat} (w : Own R h S) (v : Own R h T) : Own R h (S ++ T) := ⟨w.sub, fun b hb => (List.mem_append.1 hb).elim (w.dis b) (v.dis b), fun b hb => (List.mem_append.1 hb).elim (w.kn b) (v.kn b)⟩
theorem Stp.perm {R h R' h' : Hp} {S S' T T' : List Nat} (a : Stp R h R' h' S S') (m : ∀ x, x ∈ S ↔ x ∈ T) (m' : ∀ x, x ∈ S' ↔ x ∈ T') : Stp R h R' h' T T' :=
  ⟨a.ext, fun b o n e => a.keep b o (fun q => n ((m b).1 q)) e, fun b o n e q => a.frS b o (fun q => n ((m b).1 q)) e ((m' b).2 q), fun b o n e r => a.frR b o (fun q => n ((m b).1 q)) e r, a.own.sub' fun x hx => (m' x).2 hx⟩
/-- Less is owned behind a step. -/
theorem Stp.drop {R h R' h' : Hp} {S S' T' : List Nat} (a : Stp R h R' h' S S') (m : ∀ x, x ∈ T' → x ∈ S') : Stp R h R' h' S T' :=
  ⟨a.ext, a.keep, fun b o n e q => a.frS b o n e (m b q), a.frR, a.own.sub' m⟩
/-- A row that was owned is to be read from now on. -/
theorem Stp.fix {R h R' h' : Hp} {S S' T' : List Nat} {b : Nat} {o : AObj} (a : Stp R h R' h' S S') (hb : b ∈ S') (e : h' b = some o) (m : ∀ x, x ∈ T' → x ∈ S' ∧ x ≠ b) : Stp R h (R'.set b o) h' S T' := by
  have hR := a.own.dis b hb
  refine ⟨a.ext.trans (ext_set _ hR), a.keep, fun x ox n e q => a.frS x ox n e (m x q).1, fun x ox n ex r => ?_, ⟨fun x ox ex => ?_, fun x hx => ?_, fun x hx => a.own.kn x (m x hx).1⟩⟩
  · have := a.frS x ox n ex
    rw [Hp.set_ne _ _ (by rintro rfl; exact this hb)]
    exact a.frR x ox n ex r
  · by_cases q : x = b
    · subst q; rw [Hp.set_same] at ex; rw [← ex]; exact e
    · rw [Hp.set_ne _ _ q] at ex; exact a.own.sub x ox ex
  · rw [Hp.set_ne _ _ (m x hx).2]; exact a.own.dis x (m x hx).1
/-- A row that grows is owned. -/
theorem OutAt.step {t s n' : Nat} {R h h' : Hp} {v' : Value} {xs' : List Value} {So So' : List Nat} (w : Own R h So) (o' : OutAt t s h' v' xs' n' So') (kp : ∀ x o, x ∉ So → h x = some o → h' x = some o) (fr : ∀ x o, x ∉ So → h x = some o → x ∉ So') :
    Stp R h R h' So So' := by
  refine ⟨.refl _, kp, fr, fun x o _ _ r => r, ⟨fun x o e => ?_, fun x hx => ?_, fun x hx => ?_⟩⟩
  · refine kp x o (fun hx => ?_) (w.sub x o e)
    rw [w.dis x hx] at e; cases e
  · cases e : R x with
    | none => rfl
    | some o =>
      refine absurd hx (fr x o (fun hx => ?_) (w.sub x o e))
      rw [w.dis x hx] at e; cases e
  · rcases o' with ⟨_, _, _, rfl⟩ | ⟨b, c, f, hb, _, _, _, rfl, _⟩
    · cases hx
    · rw [List.mem_singleton.1 hx]; exact ⟨_, hb⟩
/-- What was made since is owned, too. -/
theorem Stp.gain {R h R' h' : Hp} {S S' T : List Nat} (a : Stp R h R' h' S S') (w : Own R' h' T) (fr : ∀ x, x ∈ T → h x = none) : Stp R h R' h' S (S' ++ T) :=
  ⟨a.ext, a.keep, fun b o n e q => (List.mem_append.1 q).elim (a.frS b o n e) (fun q => by rw [fr b q] at e; cases e), a.frR, a.own.app w⟩
theorem Hp.set_id {h : Hp} {b : Nat} {o : AObj} (e : h b = some o) : h.set b o = h := by
  funext i
  by_cases q : i = b
  · subst q; rw [Hp.set_same, e]
  · rw [Hp.set_ne _ _ q]
end
end Go.SL
set_option linter.unusedSimpArgs false
set_option linter.unusedVariables false
set_option maxRecDepth 100000
namespace Go.Proofs.YtflfhbnflcfmgaaGreatDoor
open Go Go.SL Go.Pure
theorem T_orlopref01_Equal {h : Hp} {K : Value → Hp → Prop} {v w : Value} {l m : List Nat} (hv : Rn h .u8 v l) (hw : Rn h .u8 w m) (hl : l.length ≤ 9223372036854775807) (k : K (.bool (decide (l = m))) h) : Cn P n_orlopref01_Equal #[v, w] h K := by
  refine F_orlopref01_Equal ?_
  obtain ⟨a, c, rfl, hc⟩ := hv.shape
  obtain ⟨a', c', rfl, hc'⟩ := hw.shape
  unfold s_orlopref01_Equal
  simp (disch := omega) only [GL, RL]
  by_cases hlen : l.length = m.length
  · rw [if_neg (by simp [hlen])]
    refine Lp_mk (fun n vs h' => ∃ (i : Nat) (r : Value), i + n = l.length ∧ h' = h ∧ (∀ j, j < i → l.getD j 0 = m.getD j 0) ∧ vs = [r, .int .i64 (i : Int)]) l.length ⟨0, _, by omega, rfl, fun j hj => by omega, rfl⟩ ?_
    rintro n vs h2 ⟨i, r, hi, rfl, hs, rfl⟩
    simp (disch := omega) only [GL, RL]
    split
    · rename_i hlt
      simp only [decide_eq_true_eq, Int.ofNat_lt] at hlt
      obtain ⟨b, o, rfl, hy⟩ := hv.pos (by omega)
      obtain ⟨b', o', rfl, hy'⟩ := hw.pos (by omega)
      simp (disch := omega) only [GL, RL, hy i hlt, hy' i (by omega), wi64]
      split
      · rename_i hne
        have : l ≠ m := by rintro rfl; simp at hne
        simpa [this] using k
      · rename_i he
        refine ⟨_, .refl _, n - 1, by omega, i + 1, r, by omega, rfl, fun j hj => ?_, rfl⟩
        by_cases hji : j = i
        · subst hji
          simp only [bne_iff_ne, ne_eq, Decidable.not_not] at he
          omega
        · exact hs j (by omega)
    · rename_i hge
      simp only [decide_eq_true_eq, Int.ofNat_lt] at hge
      have : l = m := by
        apply List.ext_getElem hlen
        intro j h1 h2
        have := hs j (by omega)
        simpa [h1, h2] using this
      simpa [this] using k
  · rw [if_pos (by simp; omega)]
    have : l ≠ m := by rintro rfl; exact hlen rfl
    simpa [this] using k
end Go.Proofs.YtflfhbnflcfmgaaGreatDoor
set_option linter.unusedSimpArgs false
namespace Go.Pure
def W32 (l : List Nat) : Prop := ∀ x ∈ l, x < 4294967296
theorem W32.getD {l : List Nat} (h : W32 l) (i : Nat) : l.getD i 0 < 4294967296 := by
  rw [List.getD_eq_getElem?_getD]
  cases hg : l[i]? with
  | none => simp
  | some x => exact h x (List.mem_of_getElem? hg)
theorem W32.set {l : List Nat} (h : W32 l) (i : Nat) {x : Nat} (hx : x < 4294967296) : W32 (l.set i x) := by
  intro y hy
  rcases List.mem_or_eq_of_mem_set hy with q | rfl
  · exact h y q
  · exact hx
theorem W32.append {a b : List Nat} (h : W32 a) (g : W32 b) : W32 (a ++ b) := fun x hx => (List.mem_append.1 hx).elim (h x) (g x)
end Go.Pure
namespace Go.Pure
abbrev W : Nat := 18446744073709551616
def W64 (l : List Nat) : Prop := ∀ x ∈ l, x < 18446744073709551616
theorem W64.getD {l : List Nat} (h : W64 l) (i : Nat) : l.getD i 0 < 18446744073709551616 := by
  rw [List.getD_eq_getElem?_getD]
  cases hg : l[i]? with
  | none => simp
  | some x => exact h x (List.mem_of_getElem? hg)
theorem W64.set {l : List Nat} (h : W64 l) (i : Nat) {x : Nat} (hx : x < 18446744073709551616) : W64 (l.set i x) := fun y hy => by
  rcases List.mem_or_eq_of_mem_set hy with q | rfl
  · exact h y q
  · exact hx
theorem Bytes.set {l : List Nat} (h : Bytes l) (i : Nat) {x : Nat} (hx : x < 256) : Bytes (l.set i x) := fun y hy => by
  rcases List.mem_or_eq_of_mem_set hy with q | rfl
  · exact h y q
  · exact hx
end Go.Pure
set_option linter.unusedSimpArgs false
set_option linter.unusedVariables false
set_option maxRecDepth 100000
namespace Go.Proofs.YtflfhbnflcfmgaaGreatDoor
open Go Go.SL Go.Pure
section
variable {h : Hp} {K : Value → Hp → Prop}
/-- An empty row of bytes. -/
theorem aw_nilB (k : ∀ v h', Nn h t_uint8 .u8 v h' [] → K v h') : aw P (Instr.buildSlice t_Sl_uint8 0 #[]) K h :=
  aw_lit (ps := []) (n := 0) u_Sl_uint8 z_uint8 zr_uint8 rfl (by omega) (by intro p hp; cases hp) fun v h' n _ => k v h' n
/-- One of one byte. -/
theorem aw_lit1 (x : Nat) (k : ∀ v h', Nn h t_uint8 .u8 v h' [x] → K v h') : aw P (Instr.buildSlice t_Sl_uint8 1 #[(0, .int .u8 (x : Int))]) K h :=
  aw_lit (ps := [(0, _)]) u_Sl_uint8 z_uint8 zr_uint8 rfl (by omega) (by intro p hp; rw [List.mem_singleton.1 hp]; exact ⟨rfl, by omega⟩) fun v h' n _ => k v h' n
/-- Appended to. -/
theorem aw_appB {base : Hp} {v w : Value} {xs ys : List Nat} (n : Nn base t_uint8 .u8 v h xs) (r : Rn h .u8 w ys) (l : xs.length + ys.length ≤ 70368744177664) (k : ∀ v' h', Nn base t_uint8 .u8 v' h' (xs ++ ys) → K v' h') :
    aw P (Builtin.append_ #[t_Sl_uint8, t_Sl_uint8] t_Sl_uint8 #[v, w]) K h :=
  aw_append u_Sl_uint8 u_Sl_uint8 nfo_uint8 rfl (by omega) n r (nv_flat _ _) (by omega) (.refl _) fun v' h' n' => k v' h' (by
    show New base t_uint8 1 v' h' (nv .u8 (xs ++ ys)) (xs ++ ys).length
    rw [nv_app, List.length_append]
    exact n')
/-- Appended to: a row that was made just ahead, and is forgotten. -/
theorem aw_appF {base h1 : Hp} {v w : Value} {xs ys : List Nat} (n : Nn base t_uint8 .u8 v h1 xs) (r : Nn h1 t_uint8 .u8 w h ys) (l : xs.length + ys.length ≤ 70368744177664) (k : ∀ v' h', Nn base t_uint8 .u8 v' h' (xs ++ ys) → K v' h') :
    aw P (Builtin.append_ #[t_Sl_uint8, t_Sl_uint8] t_Sl_uint8 #[v, w]) K h :=
  aw_appendN u_Sl_uint8 u_Sl_uint8 nfo_uint8 rfl (by omega) n r (nv_flat _ _) (by omega) fun v' h' n' => k v' h' (by
    show New base t_uint8 1 v' h' (nv .u8 (xs ++ ys)) (xs ++ ys).length
    rw [nv_app, List.length_append]
    exact n')
/-- A row of bytes 0. -/
theorem aw_makeB {k1 k2 : IntKind} (m : Nat) (hm : m ≤ 70368744177664) (k : ∀ v h', Nn h t_uint8 .u8 v h' (List.replicate m 0) → K v h') : aw P (Instr.makeSlice t_Sl_uint8 (.int k1 (m : Int)) (.int k2 (m : Int))) K h :=
  aw_make u_Sl_uint8 nfo_uint8 rfl (Nat.le_refl m) (by omega) (by omega) fun v h' n => k v h' (by
    show New h t_uint8 1 v h' (nv .u8 (List.replicate m 0)) (List.replicate m 0).length
    rw [← replicate_nv, List.length_replicate]
    exact n)
/-- A base that stays, while a row beside it grows. -/
def Bs (base h : Hp) (S : List Nat) : Prop := Hp.ext base h ∧ ∀ b, b ∈ S → base b = none
theorem Bs.step {base h h' : Hp} {S S' : List Nat} (a : Bs base h S) (kp : ∀ b o, b ∉ S → h b = some o → h' b = some o) (fr : ∀ b o, b ∉ S → h b = some o → b ∉ S') : Bs base h' S' := by
  refine ⟨fun b o e => kp b o (fun hb => ?_) (a.1 _ _ e), fun b hb => ?_⟩
  · rw [a.2 b hb] at e; cases e
  · cases e : base b with
    | none => rfl
    | some o => exact absurd hb (fr b o (fun hs => by rw [a.2 b hs] at e; cases e) (a.1 _ _ e))
theorem Bs.ext {base h h' : Hp} {S : List Nat} (a : Bs base h S) (x : Hp.ext h h') : Bs base h' S := ⟨a.1.trans x, a.2⟩
end
end Go.Proofs.YtflfhbnflcfmgaaGreatDoor
set_option linter.unusedSimpArgs false
set_option linter.unusedVariables false
set_option maxRecDepth 100000
namespace Go.SL
open Go
theorem baToList (s : ByteArray) : s.toList = s.data.toList := by
  have key : ∀ (n i : Nat) (r : List UInt8), s.size - i = n → i ≤ s.size → ByteArray.toList.loop s i r = r.reverse ++ s.data.toList.drop i := by
    intro n
    induction n with
    | zero =>
      intro i r h h2
      rw [ByteArray.toList.loop.eq_def, if_neg (by omega), List.drop_of_length_le (by rw [Array.length_toList]; show s.size ≤ i; omega)]
      simp
    | succ n ih =>
      intro i r h h2
      have hlt : i < s.data.toList.length := by rw [Array.length_toList]; show i < s.size; omega
      rw [ByteArray.toList.loop.eq_def, if_pos (by omega), ih (i + 1) _ (by omega) (by omega), List.drop_eq_getElem_cons hlt]
      have : s.get! i = s.data.toList[i] := by
        show s.data[i]! = _
        rw [getElem!_pos s.data i (by show i < s.size; omega)]
        simp
      rw [this]
      simp
  have := key s.size 0 [] (by omega) (by omega)
  show ByteArray.toList.loop s 0 [] = _
  rw [this]
  simp
theorem strL_data (l : List Nat) : (strL l).data.toList = l.map UInt8.ofNat := by
  have key : ∀ (l : List Nat) (s : ByteArray), (l.foldl (fun s x => s.push (UInt8.ofNat x)) s).data.toList = s.data.toList ++ l.map UInt8.ofNat := by
    intro l
    induction l with
    | nil => intro s; simp
    | cons x l ih =>
      intro s
      rw [List.foldl_cons, ih]
      show (s.data.push (UInt8.ofNat x)).toList ++ _ = _
      simp
  have := key l ByteArray.empty
  simpa [strL] using this
theorem u8_inj {l m : List Nat} (hl : ∀ x ∈ l, x < 256) (hm : ∀ x ∈ m, x < 256) (e : l.map UInt8.ofNat = m.map UInt8.ofNat) : l = m := by
  induction l generalizing m with
  | nil => cases m with
    | nil => rfl
    | cons y m => cases e
  | cons x l ih => cases m with
    | nil => cases e
    | cons y m =>
      simp only [List.map_cons, List.cons.injEq] at e
      have hx := hl x (List.mem_cons_self ..)
      have hy := hm y (List.mem_cons_self ..)
      have : x = y := by
        have := congrArg UInt8.toNat e.1
        simpa [UInt8.toNat_ofNat', Nat.mod_eq_of_lt hx, Nat.mod_eq_of_lt hy] using this
      rw [this, ih (fun z hz => hl z (List.mem_cons_of_mem _ hz)) (fun z hz => hm z (List.mem_cons_of_mem _ hz)) e.2]
theorem strL_inj {l m : List Nat} (hl : ∀ x ∈ l, x < 256) (hm : ∀ x ∈ m, x < 256) (e : strL l = strL m) : l = m := by
  have := congrArg (fun s : ByteArray => s.data.toList) e
  simp only [strL_data] at this
  exact u8_inj hl hm this
theorem ba_listEq (a b : ByteArray) : (a.toList == b.toList) = decide (a = b) := by
  rw [baToList, baToList, Bool.eq_iff_iff, beq_iff_eq, decide_eq_true_eq]
  constructor
  · intro e
    cases a; cases b
    simp only [Array.toList_inj] at e
    rw [e]
  · intro e; rw [e]
section
variable {P : Program}
end
end Go.SL
set_option linter.unusedSimpArgs false
set_option linter.unusedVariables false
set_option maxRecDepth 100000
namespace Go.SL
open Go Go.Pure
/-- A text's bytes. -/
def sL (s : ByteArray) : List Nat := s.data.toList.map (·.toNat)
theorem ba_ext {a b : ByteArray} (h : a.data.toList = b.data.toList) : a = b := by
  cases a; cases b
  simp only [Array.toList_inj] at h
  rw [h]
theorem strL_size (l : List Nat) : (strL l).size = l.length := by
  show (strL l).data.size = _
  rw [← Array.length_toList, strL_data, List.length_map]
theorem strL_sL (s : ByteArray) : strL (sL s) = s := by
  refine ba_ext ?_
  rw [strL_data, sL, List.map_map]
  conv => rhs; rw [← List.map_id s.data.toList]
  refine List.map_congr_left fun x _ => ?_
  simp
theorem sL_bytes (s : ByteArray) : Bytes (sL s) := fun x hx => by
  obtain ⟨y, _, rfl⟩ := List.mem_map.1 hx
  exact y.toNat_lt
theorem sL_len (s : ByteArray) : (sL s).length = s.size := by
  rw [sL, List.length_map, Array.length_toList]; rfl
theorem strL_app (a b : List Nat) : strL a ++ strL b = strL (a ++ b) := by
  refine ba_ext ?_
  rw [ByteArray.data_append, Array.toList_append, strL_data, strL_data, strL_data, List.map_append]
theorem strL_cut (l : List Nat) (i j : Nat) : (strL l).extract i j = strL ((l.take j).drop i) := by
  refine ba_ext ?_
  rw [ByteArray.data_extract, Array.toList_extract, strL_data, strL_data, List.map_drop, List.map_take, List.drop_take]
section
variable {P : Program} {h : Hp} {K : Value → Prop}
theorem q_lenSt {t T : TypeId} (ht : P.underlying t = some .string) (l : List Nat) : q P h (Builtin.len_ #[t] T #[.string (strL l)]) K = K (.int .i64 (l.length : Nat)) := by
  rw [q_lenStr ht, strL_size]
theorem q_idxSt {t : TypeId} (ht : P.underlying t = some .string) {l : List Nat} (hb : Bytes l) {k : IntKind} {i : Nat} (hi : i < l.length) : q P h (Instr.index t (.string (strL l)) (.int k (i : Int))) K = K (.int .u8 ((l.getD i 0 : Nat) : Int)) := q_of (by
  show peek P h (Sem.bind (underlying t) _) = _
  rw [peek_bind, pk_und ht, Option.bind_some]
  dsimp only
  have hs : i < (strL l).size := by rw [strL_size]; exact hi
  have e : (if (0 : Int) ≤ (i : Int) then (strL l)[((i : Int)).toNat]? else none) = some (UInt8.ofNat (l.getD i 0)) := by
    rw [if_pos (by omega), Int.toNat_natCast, getElem?_pos (strL l) i hs]
    have : (strL l)[i] = (strL l).data[i]'hs := rfl
    rw [this]
    have e2 : (strL l).data[i]'hs = (strL l).data.toList[i]'(by rw [Array.length_toList]; exact hs) := by simp
    rw [e2]
    simp only [strL_data, List.getElem_map]
    rw [List.getD_eq_getElem?_getD, List.getElem?_eq_getElem hi, Option.getD_some]
  rw [e]
  have hx := hb.getD i
  show some (Value.int .u8 ((UInt8.ofNat (l.getD i 0)).toNat : Int)) = _
  rw [UInt8.toNat_ofNat', Nat.mod_eq_of_lt (show l.getD i 0 < 2 ^ 8 by omega)]) K
theorem pk_boundsF (n c : Nat) (k k' : IntKind) (lo hi : Nat) (h1 : lo ≤ hi) (h2 : hi ≤ c) : peek P h (Instr.sliceBounds false n c (some (.int k lo)) (some (.int k' hi)) none) = some (lo, hi, c) := by
  have e1 : peek P h (Instr.sliceBound (.int k' (hi : Int)) c .sliceAlen) = some hi := pk_bound k' hi c h2 _
  have e2 : peek P h (Instr.sliceBound (.int k (lo : Int)) hi .sliceB) = some lo := pk_bound k lo hi h1 _
  unfold Instr.sliceBounds
  simp only [Bool.false_eq_true, if_false, Option.isSome_none, pk_bind (pk_pure c), pk_bind e1, pk_bind e2]
  rfl
theorem pk_boundsFl (n c : Nat) (k : IntKind) (lo : Nat) (h1 : lo ≤ n) : peek P h (Instr.sliceBounds false n c (some (.int k lo)) none none) = some (lo, n, c) := by
  have e2 : peek P h (Instr.sliceBound (.int k (lo : Int)) n .sliceB) = some lo := pk_bound k lo n h1 _
  unfold Instr.sliceBounds
  simp only [Bool.false_eq_true, if_false, Option.isSome_none, pk_bind (pk_pure c), pk_bind (pk_pure n), pk_bind e2]
  rfl
theorem pk_boundsFh (n c : Nat) (k' : IntKind) (hi : Nat) (h2 : hi ≤ c) : peek P h (Instr.sliceBounds false n c none (some (.int k' hi)) none) = some (0, hi, c) := by
  have e1 : peek P h (Instr.sliceBound (.int k' (hi : Int)) c .sliceAlen) = some hi := pk_bound k' hi c h2 _
  unfold Instr.sliceBounds
  simp only [Bool.false_eq_true, if_false, Option.isSome_none, pk_bind (pk_pure c), pk_bind e1, pk_bind (pk_pure 0)]
  rfl
theorem q_slS0 {t : TypeId} (ht : P.underlying t = some .string) {s : ByteArray} {lo hi : Option Value} {i j m : Nat} (hb : peek P h (Instr.sliceBounds false s.size s.size lo hi none) = some (i, j, m)) : q P h (Instr.sliceAt t (.string s) lo hi none) K = K (.string (s.extract i j)) := q_of (by
  show peek P h (Sem.bind (underlying t) _) = _
  rw [peek_bind, pk_und ht, Option.bind_some]
  show peek P h (Sem.bind (underlying t) _) = _
  rw [peek_bind, pk_und ht, Option.bind_some]
  show peek P h (Sem.bind (Instr.sliceBounds false s.size s.size lo hi none) _) = _
  rw [peek_bind, hb, Option.bind_some]
  rfl) K
theorem q_slSt {t : TypeId} (ht : P.underlying t = some .string) (l : List Nat) {k1 k2 : IntKind} {i j : Nat} (h1 : i ≤ j) (h2 : j ≤ l.length) : q P h (Instr.sliceAt t (.string (strL l)) (some (.int k1 (i : Int))) (some (.int k2 (j : Int))) none) K = K (.string (strL ((l.take j).drop i))) := by
  rw [q_slS0 ht (pk_boundsF _ _ k1 k2 i j h1 (by rw [strL_size]; exact h2)), strL_cut]
theorem q_slStL {t : TypeId} (ht : P.underlying t = some .string) (l : List Nat) {k1 : IntKind} {i : Nat} (h1 : i ≤ l.length) : q P h (Instr.sliceAt t (.string (strL l)) (some (.int k1 (i : Int))) none none) K = K (.string (strL (l.drop i))) := by
  rw [q_slS0 ht (pk_boundsFl _ _ k1 i (by rw [strL_size]; exact h1)), strL_cut, strL_size, List.take_length]
theorem q_slStH {t : TypeId} (ht : P.underlying t = some .string) (l : List Nat) {k2 : IntKind} {j : Nat} (h2 : j ≤ l.length) : q P h (Instr.sliceAt t (.string (strL l)) none (some (.int k2 (j : Int))) none) K = K (.string (strL (l.take j))) := by
  rw [q_slS0 ht (pk_boundsFh _ _ k2 j (by rw [strL_size]; exact h2)), strL_cut, List.drop_zero]
theorem q_addSt {t : TypeId} (a b : List Nat) (hl : a.length + b.length ≤ 4611686018427387904) : q P h (binOp .add t (.string (strL a)) (.string (strL b))) K = K (.string (strL (a ++ b))) := q_of (by
  show peek P h (Op.stringOp .add (strL a) (strL b)) = _
  unfold Op.stringOp
  dsimp only
  rw [if_neg (by rw [strL_size, strL_size]; simp [IntKind.max, IntKind.signed, IntKind.bits]; omega), strL_app]
  rfl) K
theorem eqD {a b : List Nat} (ha : Bytes a) (hb : Bytes b) : ((strL a).toList == (strL b).toList) = decide (a = b) := by
  rw [ba_listEq, decide_eq_decide]
  exact ⟨strL_inj ha hb, fun e => by rw [e]⟩
theorem q_eqlSt {t : TypeId} (x y : Operand) {a b : List Nat} (ha : Bytes a) (hb : Bytes b) : q P h (eqop .eql t x y (.string (strL a)) (.string (strL b))) K = K (.bool (decide (a = b))) := q_of (by
  unfold eqop
  rw [peek_bind]
  have : peek P h (eqGuard .eql t x y (.string (strL a)) (.string (strL b))) = some () := by
    rfl
  rw [this, Option.bind_some, ← eqD ha hb]
  rfl) K
theorem q_neqSt {t : TypeId} (x y : Operand) {a b : List Nat} (ha : Bytes a) (hb : Bytes b) : q P h (eqop .neq t x y (.string (strL a)) (.string (strL b))) K = K (.bool (!decide (a = b))) := q_of (by
  unfold eqop
  rw [peek_bind]
  have : peek P h (eqGuard .neq t x y (.string (strL a)) (.string (strL b))) = some () := by
    rfl
  rw [this, Option.bind_some, ← eqD ha hb]
  rfl) K
/-- A text as a new row of bytes. -/
theorem aw_stB {src t e : TypeId} {KK : Value → Hp → Prop} (hs : P.underlying src = some .string) (ht : P.underlying t = some (.slice e)) (he : P.underlying e = some (.int .u8)) {l : List Nat} (hb : Bytes l)
    (k : ∀ v h', New h e 1 v h' (nv .u8 l) l.length → KK v h') : aw P (convert src t (.string (strL l))) KK h := by
  show awp P (Sem.bind (underlying src) _) _ h
  rw [awp_bind, peek_awp P _ _ _ (pk_und hs)]
  show awp P (Sem.bind (underlying t) _) _ h
  rw [awp_bind, peek_awp P _ _ _ (pk_und ht)]
  show awp P (Sem.bind (underlying e) _) _ h
  rw [awp_bind, peek_awp P _ _ _ (pk_und he)]
  show awp P (Conv.stringToBytes e (strL l)) _ h
  unfold Conv.stringToBytes
  show awp P (Sem.choose (.appendCap (strL l).size 0 e) _) _ h
  simp only [awp]
  rw [if_neg (by simp [Question.forced])]
  intro tt
  obtain ⟨c, hc, hcl⟩ : ∃ c, (Question.appendCap (strL l).size 0 e).cut tt = c ∧ l.length ≤ c := ⟨_, rfl, by simp only [Question.cut, strL_size]; omega⟩
  rw [hc]
  have e0 : ((strL l).data.map fun b => Value.int .u8 (b.toNat : Int)) = (nv .u8 l).toArray := by
    apply Array.ext'
    rw [Array.toList_map, strL_data, List.map_map]
    unfold nv
    refine List.map_congr_left fun x hx => ?_
    have := hb x hx
    simp [UInt8.toNat_ofNat', Nat.mod_eq_of_lt (show x < 2 ^ 8 by omega)]
  show awp P (Sem.new (.cells (((strL l).data.map fun b => Value.int .u8 (b.toNat : Int)) ++ Array.replicate (c - (strL l).size) (.int .u8 0)) e (0, 0)) _) _ h
  rw [e0, strL_size]
  simp only [awp]
  intro r hr
  have hz : ((nv .u8 l).toArray ++ Array.replicate (c - l.length) (Value.int .u8 0)).size = c := by
    rw [Array.size_append, List.size_toArray, nv_len, Array.size_replicate]; omega
  have hl : ((nv .u8 l).toArray ++ Array.replicate (c - l.length) (Value.int .u8 0)).toList = nv .u8 l ++ List.replicate (c - l.length) (.int .u8 0) := by simp
  have ha : absOf (.cells ((nv .u8 l).toArray ++ Array.replicate (c - l.length) (Value.int .u8 0)) e (0, 0)) = .row e (nv .u8 l ++ List.replicate (c - l.length) (.int .u8 0)) c (some (0, 0)) := by
    simp only [absOf, hz, hl]
  rw [ha]
  show awp P (Sem.bind (markStringish ⟨r, 0, none⟩) _) _ _
  unfold markStringish
  have hsh : peek P (h.set r (.row e (nv .u8 l ++ List.replicate (c - l.length) (.int .u8 0)) c (some (0, 0)))) (shape r) = some (some (e, c)) := by
    simp [peek, shape, Hp.shape]
  show awp P (Sem.bind (Sem.bind (shape r) _) _) _ _
  rw [awp_bind, awp_bind, peek_awp P _ _ _ hsh]
  show awp P (freeze ⟨r, c, none⟩ 1) _ _
  have hfz : (h.set r (.row e (nv .u8 l ++ List.replicate (c - l.length) (.int .u8 0)) c (some (0, 0)))).freeze ⟨r, c, none⟩ 1 = some (h.set r (.row e (nv .u8 l ++ List.replicate (c - l.length) (.int .u8 0)) c (some (c, c + 1)))) := by simp [Hp.freeze, Hp.set_set, frz]
  simp only [awp, freeze, hfz]
  refine ⟨h.set r (.row e (nv .u8 l) c (some (c, c + 1))), fun i o eo => ?_, ?_⟩
  · by_cases hi : i = r
    · subst hi
      rw [Hp.set_same] at eo
      cases eo
      exact ⟨_, Hp.set_same .., rfl, rfl, ⟨_, rfl⟩, .inl rfl⟩
    · rw [Hp.set_ne _ _ hi] at eo
      exact ⟨o, by rw [Hp.set_ne _ _ hi]; exact eo, .refl _⟩
  · exact k _ _ ⟨by rw [nv_len, Nat.mul_one], .inr ⟨r, c, (c, c + 1), hr, hcl, rfl, by rw [Nat.mul_one], fun i hi => by omega⟩⟩
end
end Go.SL
set_option linter.unusedSimpArgs false
set_option linter.unusedVariables false
set_option maxRecDepth 100000
namespace Go.Tar
open Go.Pure
/-- An entry. -/
structure Ent where
  name : List Nat
  kind : Int
  mode : Int
  link : List Nat
  data : List Nat
/-- May a text be? An entry? -/
def okText (s : List Nat) : Prop := s.length ≤ 1000 ∧ 0 ∉ s
instance (s : List Nat) : Decidable (okText s) := by unfold okText; infer_instance
def okEnt (e : Ent) : Prop := okText e.name ∧ okText e.link ∧ e.name ≠ [] ∧ 0 ≤ e.mode ∧ e.mode ≤ 4095 ∧ ((e.kind = 3 ∧ e.link ≠ [] ∧ e.data = []) ∨ (e.kind = 2 ∧ e.data = [] ∧ e.link = []) ∨ (e.kind = 1 ∧ e.link = []))
instance (e : Ent) : Decidable (okEnt e) := by unfold okEnt; infer_instance
/-- A number's digits, the highest first. -/
def digF (b : Nat) : Nat → Nat → List Nat
  | 0, n => [n]
  | f + 1, n => if n < b then [n] else digF b f (n / b) ++ [n % b]
def dig (b n : Nat) : List Nat := digF b n n
def valD (b : Nat) (l : List Nat) : Nat := l.foldl (fun v d => v * b + d) 0
theorem valD_app (b : Nat) (l m : List Nat) : valD b (l ++ m) = valD b l * b ^ m.length + valD b m := by
  unfold valD
  rw [List.foldl_append]
  have : ∀ (m : List Nat) (x : Nat), m.foldl (fun v d => v * b + d) x = x * b ^ m.length + m.foldl (fun v d => v * b + d) 0 := by
    intro m
    induction m with
    | nil => intro x; simp
    | cons y m ih =>
      intro x
      rw [List.foldl_cons, ih, List.foldl_cons, ih (0 * b + y), List.length_cons, Nat.pow_succ]
      rw [Nat.add_mul, Nat.zero_mul, Nat.zero_add, Nat.mul_assoc, Nat.mul_comm b, Nat.add_assoc]
  exact this m _
theorem digF_val {b : Nat} (hb : 2 ≤ b) : ∀ f n, n ≤ f → valD b (digF b f n) = n
  | 0, n, h => by simp [digF, valD]
  | f + 1, n, h => by
    rw [digF]
    split
    · simp [valD]
    · rename_i hn
      have : n / b < n := Nat.div_lt_self (by omega) hb
      rw [valD_app, digF_val hb f (n / b) (by omega)]
      show n / b * b ^ 1 + valD b [n % b] = n
      have e : valD b [n % b] = n % b := by simp [valD]
      rw [e, Nat.pow_one]
      exact Nat.div_add_mod' n b
theorem dig_val {b : Nat} (hb : 2 ≤ b) (n : Nat) : valD b (dig b n) = n := digF_val hb n n (Nat.le_refl n)
theorem digF_lt {b : Nat} (hb : 2 ≤ b) : ∀ f n, n ≤ f → ∀ x ∈ digF b f n, x < b
  | 0, n, h, x, hx => by
    simp [digF] at hx
    omega
  | f + 1, n, h, x, hx => by
    rw [digF] at hx
    split at hx
    · rename_i hn; simp at hx; omega
    · have : n / b < n := Nat.div_lt_self (by omega) hb
      rcases List.mem_append.1 hx with q | q
      · exact digF_lt hb f (n / b) (by omega) x q
      · rw [List.mem_singleton.1 q]; exact Nat.mod_lt _ (by omega)
theorem dig_lt {b : Nat} (hb : 2 ≤ b) (n : Nat) : ∀ x ∈ dig b n, x < b := digF_lt hb n n (Nat.le_refl n)
theorem digF_pos (b : Nat) : ∀ f n, 0 < (digF b f n).length
  | 0, n => by simp [digF]
  | f + 1, n => by
    rw [digF]
    split
    · simp
    · simp
/-- As many digits as are enough. -/
theorem digF_fuel {b : Nat} (hb : 2 ≤ b) : ∀ f g n, n ≤ f → n ≤ g → digF b f n = digF b g n
  | 0, 0, n, _, _ => rfl
  | 0, g + 1, n, h, _ => by
    have : n = 0 := by omega
    subst this
    rw [digF, digF, if_pos (by omega)]
  | f + 1, 0, n, _, h => by
    have : n = 0 := by omega
    subst this
    rw [digF, digF, if_pos (by omega)]
  | f + 1, g + 1, n, h1, h2 => by
    rw [digF, digF]
    split
    · rfl
    · rename_i hn
      have : n / b < n := Nat.div_lt_self (by omega) hb
      rw [digF_fuel hb f g (n / b) (by omega) (by omega)]
theorem dig_step {b n : Nat} (hb : 2 ≤ b) (h : b ≤ n) : dig b n = dig b (n / b) ++ [n % b] := by
  unfold dig
  have : n / b < n := Nat.div_lt_self (by omega) hb
  obtain ⟨m, rfl⟩ : ∃ m, n = m + 1 := ⟨n - 1, by omega⟩
  rw [digF, if_neg (by omega), digF_fuel hb m ((m + 1) / b) _ (by omega) (Nat.le_refl _)]
theorem dig_one {b n : Nat} (h : n < b) : dig b n = [n] := by
  unfold dig
  cases n with
  | zero => rfl
  | succ n => rw [digF, if_pos h]
def asc (l : List Nat) : List Nat := l.map (· + 48)
theorem asc_bytes {l : List Nat} (h : ∀ x ∈ l, x < 10) : Bytes (asc l) := fun x hx => by
  obtain ⟨y, hy, rfl⟩ := List.mem_map.1 hx
  have := h y hy
  omega
/-- So many digits of base eight. -/
def octD (v d : Nat) : List Nat := (List.replicate d 0 ++ dig 8 v).drop (dig 8 v).length
theorem octD_len (v d : Nat) : (octD v d).length = d := by
  rw [octD, List.length_drop, List.length_append, List.length_replicate]; omega
theorem octD_lt (v d : Nat) : ∀ x ∈ octD v d, x < 8 := fun x hx => by
  rcases List.mem_append.1 (List.mem_of_mem_drop hx) with q | q
  · rw [List.eq_of_mem_replicate q]; decide
  · exact dig_lt (by decide) v x q
theorem valD_lt {b : Nat} (hb : 0 < b) (l : List Nat) (h : ∀ x ∈ l, x < b) : valD b l < b ^ l.length := by
  have key : ∀ (l : List Nat) (x : Nat), (∀ y ∈ l, y < b) → l.foldl (fun v d => v * b + d) x < (x + 1) * b ^ l.length := by
    intro l
    induction l with
    | nil => intro x _; simp
    | cons y l ih =>
      intro x h
      rw [List.foldl_cons, List.length_cons, Nat.pow_succ]
      have h1 := ih (x * b + y) fun z hz => h z (by simp [hz])
      have hy := h y (by simp)
      have h2 : (x * b + y + 1) ≤ (x + 1) * b := by rw [Nat.add_mul, Nat.one_mul]; omega
      have h3 : (x * b + y + 1) * b ^ l.length ≤ (x + 1) * b * b ^ l.length := Nat.mul_le_mul_right _ h2
      have h4 : (x + 1) * (b ^ l.length * b) = (x + 1) * b * b ^ l.length := by rw [Nat.mul_assoc, Nat.mul_comm b]
      omega
  have := key l 0 h
  rw [Nat.zero_add, Nat.one_mul] at this
  exact this
theorem octD_val {v d : Nat} (h : v < 8 ^ d) : valD 8 (octD v d) = v := by
  have e : valD 8 (List.replicate d 0 ++ dig 8 v) = v := by
    have z : ∀ d, valD 8 (List.replicate d 0) = 0 := by
      intro d
      induction d with
      | zero => rfl
      | succ d ih => rw [List.replicate_succ', valD_app, ih]; rfl
    rw [valD_app, z, Nat.zero_mul, Nat.zero_add, dig_val (by decide)]
  have hl := octD_len v d
  rw [← List.take_append_drop (dig 8 v).length (List.replicate d 0 ++ dig 8 v), valD_app] at e
  have e2 : (List.replicate d 0 ++ dig 8 v).drop (dig 8 v).length = octD v d := rfl
  rw [e2, hl] at e
  have : valD 8 ((List.replicate d 0 ++ dig 8 v).take (dig 8 v).length) = 0 := by
    rcases Nat.eq_zero_or_pos (valD 8 ((List.replicate d 0 ++ dig 8 v).take (dig 8 v).length)) with q | q
    · exact q
    · have : 1 * 8 ^ d ≤ valD 8 ((List.replicate d 0 ++ dig 8 v).take (dig 8 v).length) * 8 ^ d := Nat.mul_le_mul_right _ q
      omega
  rw [this] at e
  omega
end Go.Tar
set_option linter.unusedSimpArgs false
set_option linter.unusedVariables false
set_option maxRecDepth 100000
namespace Go.Tar
open Go.Pure
/-- A part; a part changed. -/
def sub (b : List Nat) (i n : Nat) : List Nat := (b.drop i).take n
def put (b : List Nat) (i : Nat) (s : List Nat) : List Nat := b.take i ++ s ++ b.drop (i + s.length)
theorem put_len {b : List Nat} {i : Nat} {s : List Nat} (h : i + s.length ≤ b.length) : (put b i s).length = b.length := by
  rw [put, List.length_append, List.length_append, List.length_take, List.length_drop]; omega
theorem sub_put_lt {b : List Nat} {i : Nat} {s : List Nat} {j n : Nat} (h : j + n ≤ i) (hb : i ≤ b.length) : sub (put b i s) j n = sub b j n := by
  unfold sub put
  rw [List.append_assoc, List.drop_append_of_le_length (by rw [List.length_take]; omega), List.take_append_of_le_length (by rw [List.length_drop, List.length_take]; omega), List.drop_take, List.take_take, Nat.min_eq_left (by omega)]
theorem sub_put_gt {b : List Nat} {i : Nat} {s : List Nat} {j n : Nat} (h : i + s.length ≤ j) (hb : i ≤ b.length) : sub (put b i s) j n = sub b j n := by
  unfold sub put
  have e : (b.take i ++ s).length = i + s.length := by rw [List.length_append, List.length_take]; omega
  obtain ⟨k, rfl⟩ : ∃ k, j = i + s.length + k := ⟨j - (i + s.length), by omega⟩
  rw [List.drop_append, e, List.drop_of_length_le (by omega), List.nil_append, List.drop_drop, Nat.add_sub_cancel_left]
theorem sub_put_eq {b : List Nat} {i : Nat} {s : List Nat} (hb : i ≤ b.length) : sub (put b i s) i s.length = s := by
  unfold sub put
  rw [List.append_assoc, List.drop_append, List.length_take, Nat.min_eq_left hb, List.drop_of_length_le (by rw [List.length_take]; omega), List.nil_append, Nat.sub_self, List.drop_zero, List.take_left]
theorem sub_add (b : List Nat) (i n m : Nat) : sub b i (n + m) = sub b i n ++ sub b (i + n) m := by
  unfold sub
  rw [List.take_add, List.drop_drop]
theorem sub_zeros {k i n : Nat} (h : i + n ≤ k) : sub (List.replicate k 0) i n = List.replicate n 0 := by
  unfold sub
  rw [List.drop_replicate, List.take_replicate, Nat.min_eq_left (by omega)]
theorem put_bytes {b s : List Nat} (hb : Bytes b) (hs : Bytes s) (i : Nat) : Bytes (put b i s) := ((hb.take i).append hs).append (hb.drop _)
/-- Without what may stand at the end. -/
def trimR (p : Nat → Bool) (l : List Nat) : List Nat := (l.reverse.dropWhile p).reverse
theorem trimR_app {p : Nat → Bool} (l m : List Nat) (h : ∀ x ∈ m, p x = true) : trimR p (l ++ m) = trimR p l := by
  unfold trimR
  rw [List.reverse_append, List.dropWhile_append]
  have : (m.reverse.dropWhile p) = [] := by
    have key : ∀ m : List Nat, (∀ x ∈ m, p x = true) → m.dropWhile p = [] := by
      intro m
      induction m with
      | nil => intro _; rfl
      | cons x m ih =>
        intro h
        rw [List.dropWhile_cons, h x (by simp), if_pos rfl, ih fun y hy => h y (by simp [hy])]
    exact key _ fun x hx => h x (List.mem_reverse.1 hx)
  rw [this]
  rfl
theorem trimR_id {p : Nat → Bool} {l : List Nat} (h : ∀ x ∈ l, p x = false) : trimR p l = l := by
  unfold trimR
  have : l.reverse.dropWhile p = l.reverse := by
    cases e : l.reverse with
    | nil => rfl
    | cons x m =>
      have := h x (by rw [← List.mem_reverse, e]; simp)
      rw [List.dropWhile_cons, this]
      rfl
  rw [this, List.reverse_reverse]
theorem trimR_snoc (p : Nat → Bool) (l : List Nat) (x : Nat) : trimR p (l ++ [x]) = if p x = true then trimR p l else l ++ [x] := by
  unfold trimR
  rw [List.reverse_append]
  show (List.dropWhile p (x :: l.reverse)).reverse = _
  rw [List.dropWhile_cons]
  split
  · rfl
  · simp
theorem trimR_le (p : Nat → Bool) (l : List Nat) : (trimR p l).length ≤ l.length := by
  unfold trimR
  rw [List.length_reverse]
  have := (List.dropWhile_suffix p (l := l.reverse)).length_le
  rwa [List.length_reverse] at this
theorem trimR_mem {p : Nat → Bool} {l : List Nat} {x : Nat} (h : x ∈ trimR p l) : x ∈ l := by
  unfold trimR at h
  rw [List.mem_reverse] at h
  exact List.mem_reverse.1 ((List.dropWhile_sublist p).mem h)
/-- A text with bytes 0 behind it. -/
def isZ (x : Nat) : Bool := x == 0
def isB (x : Nat) : Bool := x == 0 || x == 32
def fieldP (b : List Nat) : List Nat := trimR isZ b
def is8 (x : Nat) : Bool := decide (48 ≤ x ∧ x ≤ 55)
def numP (b : List Nat) : Option Nat :=
  if trimR isB b = [] ∨ 11 < (trimR isB b).length ∨ (trimR isB b).all is8 = false then none else some (valD 8 ((trimR isB b).map (· - 48)))
def sumP (b : List Nat) : Nat := (b.take 148).sum + 256 + (b.drop 156).sum
def zerosP (b : List Nat) : Bool := b.all isZ
/-- A head. -/
def octS (v d : Nat) : List Nat := asc (octD v d)
def ustar : List Nat := [117, 115, 116, 97, 114, 0, 48, 48]
def zer7 : List Nat := List.replicate 7 48
def zer11 : List Nat := List.replicate 11 48
def head0 (name : List Nat) (mode size kind : Nat) (link : List Nat) : List Nat :=
  put (put (put (put (put (put (put (put (put (List.replicate 512 0) 0 (name.take 100)) 100 (octS mode 7)) 108 zer7) 116 zer7) 124 (octS size 11)) 136 zer11) 156 [kind]) 157 (link.take 100)) 257 ustar
def headP (name : List Nat) (mode size kind : Nat) (link : List Nat) : List Nat :=
  put (head0 name mode size kind link) 148 (octS (sumP (head0 name mode size kind link)) 6 ++ [0, 32])
def fillP (b : List Nat) : List Nat := b ++ List.replicate ((512 - b.length % 512) % 512) 0
/-- A record of pax: its own length ahead. -/
def recBody (name value : List Nat) : List Nat := [32] ++ name ++ [61] ++ value ++ [10]
def recN (k : Nat) : Nat → Nat → Nat
  | 0, n => n
  | f + 1, n => if (dig 10 n).length + k = n then n else recN k f (n + 1)
def recP (name value : List Nat) : List Nat := asc (dig 10 (recN (recBody name value).length 30 ((recBody name value).length + 1))) ++ recBody name value
def pathS : List Nat := [112, 97, 116, 104]
def linkS : List Nat := [108, 105, 110, 107, 112, 97, 116, 104]
def paxS : List Nat := [112, 97, 120]
def moreP (e : Ent) : List Nat := (if 100 < e.name.length then recP pathS e.name else []) ++ (if 100 < e.link.length then recP linkS e.link else [])
def kindP (e : Ent) : Nat := if e.kind = 2 then 53 else if e.kind = 3 then 50 else 48
def oneP (e : Ent) : List Nat :=
  (if moreP e ≠ [] then headP paxS 0 (moreP e).length 120 [] ++ fillP (moreP e) else []) ++ headP e.name e.mode.toNat e.data.length (kindP e) e.link ++ fillP e.data
def bodyP (l : List Ent) : List Nat := (l.map oneP).flatten
def writeP (l : List Ent) : List Nat := bodyP l ++ List.replicate 1024 0
/-- Whole blocks of so many bytes. -/
def takeP (b : List Nat) (n : Nat) : Option (List Nat × List Nat) :=
  if b.length < n ∨ b.length < (n + 511) / 512 * 512 ∨ zerosP ((b.take ((n + 511) / 512 * 512)).drop n) = false then none else some (b.take n, b.drop ((n + 511) / 512 * 512))
/-- What records tell. -/
def recOne (s : List Nat) : Option (Nat × List Nat × List Nat) :=
  let dg := s.takeWhile (· != 32)
  let n := valD 10 (dg.map (· - 48))
  let body := (s.take (n - 1)).drop (dg.length + 1)
  if dg = asc (dig 10 n) ∧ n ≤ s.length ∧ dg.length + 2 ≤ n ∧ s.getD (n - 1) 0 = 10 ∧ 61 ∈ body then some (n, body.takeWhile (· != 61), (body.dropWhile (· != 61)).drop 1) else none
def recsP : Nat → List Nat → List Nat → List Nat → Option (List Nat × List Nat)
  | 0, s, path, link => if s = [] then some (path, link) else none
  | f + 1, s, path, link => if s = [] then some (path, link) else match recOne s with
    | none => none
    | some (n, name, value) => recsP f (s.drop n) (if name = pathS then value else path) (if name = linkS then value else link)
/-- What a head tells: name, link, mode, size. -/
def namesP (b : List Nat) : Option (List Nat × List Nat) :=
  if 0 ∈ fieldP (sub b 0 100) ∨ 0 ∈ fieldP (sub b 157 100) ∨ 0 ∈ fieldP (sub b 345 155) then none
  else some ((if fieldP (sub b 345 155) = [] then fieldP (sub b 0 100) else fieldP (sub b 345 155) ++ [47] ++ fieldP (sub b 0 100)), fieldP (sub b 157 100))
structure Rd where
  b : List Nat
  path : List Nat
  link : List Nat
  told : Bool
  list : List Ent
def kindOfT (t : Nat) : Option Int := if t = 48 ∨ t = 0 then some 1 else if t = 53 then some 2 else if t = 50 then some 3 else none
def entryP (r : Rd) (b : List Nat) : Option Rd :=
  match namesP b, numP (sub b 100 8), numP (sub b 124 12), numP (sub b 148 8) with
  | some (name, link), some mode, some size, some check =>
    if check ≠ sumP b ∨ sub b 257 8 ≠ ustar then none else
    match takeP r.b size with
    | none => none
    | some (data, rest) =>
      if b.getD 156 0 = 120 then
        if r.told = true then none else
        match recsP data.length data r.path r.link with
        | none => none
        | some (p, l) => some { b := rest, path := p, link := l, told := true, list := r.list }
      else match kindOfT (b.getD 156 0) with
        | none => none
        | some k =>
          let e : Ent := { name := if r.path = [] then name else r.path, kind := k, mode := mode, link := if r.link = [] then link else r.link, data := data }
          if okEnt e ∧ r.list.length < 256 then some { b := rest, path := [], link := [], told := false, list := r.list ++ [e] } else none
  | _, _, _, _ => none
def readF : Nat → Rd → Option (List Ent)
  | 0, _ => none
  | f + 1, r => match takeP r.b 512 with
    | none => none
    | some (h, b) =>
      if zerosP h = true then (if r.told = true ∨ zerosP b = false then none else some r.list)
      else match entryP { r with b := b } h with
        | none => none
        | some r' => readF f r'
def readP (b : List Nat) : Option (List Ent) := readF (b.length / 512 + 1) { b := b, path := [], link := [], told := false, list := [] }
end Go.Tar
set_option linter.unusedSimpArgs false
set_option linter.unusedVariables false
set_option maxRecDepth 100000
namespace Go.Tar
open Go.Pure
theorem octS_len (v d : Nat) : (octS v d).length = d := by rw [octS, asc, List.length_map, octD_len]
theorem octS_is8 (v d : Nat) : ∀ x ∈ octS v d, 48 ≤ x ∧ x ≤ 55 := fun x hx => by
  obtain ⟨y, hy, rfl⟩ := List.mem_map.1 hx
  have := octD_lt v d y hy
  omega
theorem octS_back (v d : Nat) : (octS v d).map (· - 48) = octD v d := by
  rw [octS, asc, List.map_map]
  conv => rhs; rw [← List.map_id (octD v d)]
  refine List.map_congr_left fun x _ => ?_
  show x + 48 - 48 = x
  omega
/-- A number that is written is read. -/
theorem num_oct {v d : Nat} (h : v < 8 ^ d) (hd : 0 < d) (hd2 : d ≤ 11) (m : List Nat) (hm : ∀ x ∈ m, isB x = true) : numP (octS v d ++ m) = some v := by
  have ht : trimR isB (octS v d ++ m) = octS v d := by
    rw [trimR_app _ _ hm, trimR_id]
    intro x hx
    have := octS_is8 v d x hx
    simp [isB]; omega
  have hl := octS_len v d
  unfold numP
  rw [ht, if_neg, octS_back, octD_val h]
  rintro (q | q | q)
  · rw [q] at hl; simp at hl; omega
  · omega
  · have : (octS v d).all is8 = true := List.all_eq_true.2 fun x hx => by
      have := octS_is8 v d x hx
      simp [is8]; omega
    rw [this] at q; cases q
theorem field_pad {s : List Nat} (h : 0 ∉ s) (k : Nat) : fieldP (s ++ List.replicate k 0) = s := by
  unfold fieldP
  rw [trimR_app _ _ (fun x hx => by rw [List.eq_of_mem_replicate hx]; rfl), trimR_id]
  intro x hx
  show (x == 0) = false
  rw [beq_eq_false_iff_ne]
  rintro rfl
  exact h hx
theorem sum_put (b : List Nat) (s : List Nat) (hs : s.length = 8) (hb : 156 ≤ b.length) : sumP (put b 148 s) = sumP b := by
  have e1 : (put b 148 s).take 148 = b.take 148 := by
    have := sub_put_lt (b := b) (i := 148) (s := s) (j := 0) (n := 148) (by omega) (by omega)
    simpa [sub] using this
  have e2 : (put b 148 s).drop 156 = b.drop 156 := by
    unfold put
    rw [List.drop_append, List.length_append, List.length_take, hs, Nat.min_eq_left (by omega), List.drop_of_length_le (by rw [List.length_append, List.length_take]; omega)]
    rfl
  rw [sumP, sumP, e1, e2]
theorem sum_le {l : List Nat} (h : Bytes l) : l.sum ≤ 255 * l.length := by
  induction l with
  | nil => simp
  | cons x l ih =>
    have := ih fun y hy => h y (by simp [hy])
    have hx := h x (by simp)
    rw [List.sum_cons, List.length_cons]; omega
structure HeadR (H name : List Nat) (mode size kind : Nat) (link : List Nat) : Prop where
  len : H.length = 512
  nm : sub H 0 100 = name.take 100 ++ List.replicate (100 - (name.take 100).length) 0
  md : sub H 100 8 = octS mode 7 ++ [0]
  sz : sub H 124 12 = octS size 11 ++ [0]
  ck : sub H 148 8 = octS (sumP H) 6 ++ [0, 32]
  cv : sumP H < 8 ^ 6
  ty : H.getD 156 0 = kind
  lk : sub H 157 100 = link.take 100 ++ List.replicate (100 - (link.take 100).length) 0
  mg : sub H 257 8 = ustar
  fr : sub H 345 155 = List.replicate 155 0
theorem getD_sub (b : List Nat) (i : Nat) (h : i < b.length) : sub b i 1 = [b.getD i 0] := by
  unfold sub
  rw [List.drop_eq_getElem_cons h, List.take_succ_cons, List.take_zero, List.getD_eq_getElem?_getD, List.getElem?_eq_getElem h]
  rfl
theorem head_read {name link : List Nat} (mode size kind : Nat) (hn : Bytes name) (hl : Bytes link) (hk : kind < 256) : HeadR (headP name mode size kind link) name mode size kind link := by
  have ln : (name.take 100).length ≤ 100 := by rw [List.length_take]; omega
  have ll : (link.take 100).length ≤ 100 := by rw [List.length_take]; omega
  have bn := hn.take 100
  have bl := hl.take 100
  unfold headP head0
  have s1 := octS_len mode 7
  have s2 := octS_len size 11
  have z7 : zer7.length = 7 := rfl
  have z11 : zer11.length = 11 := rfl
  have zu : ustar.length = 8 := rfl
  have bz7 : Bytes zer7 := fun x hx => by rw [List.eq_of_mem_replicate hx]; decide
  have bz11 : Bytes zer11 := fun x hx => by rw [List.eq_of_mem_replicate hx]; decide
  have bu : Bytes ustar := by intro x hx; simp [ustar] at hx; omega
  have b032 : Bytes [0, 32] := by intro x hx; simp at hx; omega
  have bo : ∀ v d, Bytes (octS v d) := fun v d x hx => by have := octS_is8 v d x hx; omega
  generalize hN : name.take 100 = N at *
  generalize hL : link.take 100 = L at *
  have l0 : (List.replicate 512 0 : List Nat).length = 512 := List.length_replicate ..
  have B0 : Bytes (List.replicate 512 0) := fun x hx => by rw [List.eq_of_mem_replicate hx]; decide
  have Z : ∀ i n, i + n ≤ 512 → sub (List.replicate 512 0) i n = List.replicate n 0 := fun i n h => sub_zeros h
  generalize List.replicate 512 0 = h0 at *
  have step : ∀ (h : List Nat) (i : Nat) (s : List Nat), h.length = 512 → Bytes h → Bytes s → i + s.length ≤ 512 →
      (put h i s).length = 512 ∧ Bytes (put h i s) ∧ (∀ j n, j + n ≤ i ∨ i + s.length ≤ j → sub (put h i s) j n = sub h j n) ∧ sub (put h i s) i s.length = s := fun h i s lh bh bs hi =>
    ⟨by rw [put_len (by omega), lh], put_bytes bh bs i, fun j n q => by
      rcases q with q | q
      · exact sub_put_lt q (by omega)
      · exact sub_put_gt q (by omega), sub_put_eq (by omega)⟩
  obtain ⟨l1, B1, E1, V1⟩ := step h0 0 N l0 B0 bn (by omega)
  generalize put h0 0 N = h1 at *
  obtain ⟨l2, B2, E2, V2⟩ := step h1 100 (octS mode 7) l1 B1 (bo _ _) (by omega)
  rw [s1] at E2 V2
  generalize put h1 100 (octS mode 7) = h2 at *
  obtain ⟨l3, B3, E3, _⟩ := step h2 108 zer7 l2 B2 bz7 (by omega)
  rw [z7] at E3
  generalize put h2 108 zer7 = h3 at *
  obtain ⟨l4, B4, E4, _⟩ := step h3 116 zer7 l3 B3 bz7 (by omega)
  rw [z7] at E4
  generalize put h3 116 zer7 = h4 at *
  obtain ⟨l5, B5, E5, V5⟩ := step h4 124 (octS size 11) l4 B4 (bo _ _) (by omega)
  rw [s2] at E5 V5
  generalize put h4 124 (octS size 11) = h5 at *
  obtain ⟨l6, B6, E6, _⟩ := step h5 136 zer11 l5 B5 bz11 (by omega)
  rw [z11] at E6
  generalize put h5 136 zer11 = h6 at *
  obtain ⟨l7, B7, E7, V7⟩ := step h6 156 [kind] l6 B6 (fun x hx => by rw [List.mem_singleton.1 hx]; exact hk) (by simp)
  replace E7 : ∀ j n, j + n ≤ 156 ∨ 156 + 1 ≤ j → sub (put h6 156 [kind]) j n = sub h6 j n := E7
  replace V7 : sub (put h6 156 [kind]) 156 1 = [kind] := V7
  generalize put h6 156 [kind] = h7 at *
  obtain ⟨l8, B8, E8, V8⟩ := step h7 157 L l7 B7 bl (by omega)
  generalize put h7 157 L = h8 at *
  obtain ⟨l9, B9, E9, V9⟩ := step h8 257 ustar l8 B8 bu (by omega)
  rw [zu] at E9 V9
  generalize put h8 257 ustar = h9 at *
  have sl : sumP h9 < 8 ^ 6 := by
    have q1 := sum_le (B9.take 148)
    have q2 := sum_le (B9.drop 156)
    rw [List.length_take] at q1
    rw [List.length_drop] at q2
    unfold sumP
    omega
  have s6 : (octS (sumP h9) 6 ++ [0, 32]).length = 8 := by rw [List.length_append, octS_len]; rfl
  obtain ⟨l10, B10, E10, V10⟩ := step h9 148 (octS (sumP h9) 6 ++ [0, 32]) l9 B9 ((bo _ _).append b032) (by omega)
  have sp := sum_put h9 (octS (sumP h9) 6 ++ [0, 32]) s6 (by omega)
  rw [s6] at E10 V10
  generalize put h9 148 (octS (sumP h9) 6 ++ [0, 32]) = H at *
  rw [← sp] at V10 sl
  have A : ∀ j n, j + n ≤ 148 ∨ 156 ≤ j → sub H j n = sub h9 j n := E10
  refine ⟨l10, ?_, ?_, ?_, V10, sl, ?_, ?_, ?_, ?_⟩
  · rw [A _ _ (by omega), E9 _ _ (by omega), E8 _ _ (by omega), E7 _ _ (by omega), E6 _ _ (by omega), E5 _ _ (by omega), E4 _ _ (by omega), E3 _ _ (by omega), E2 _ _ (by omega)]
    rw [hN]
    obtain ⟨k, hk⟩ : ∃ k, 100 = N.length + k := ⟨100 - N.length, by omega⟩
    rw [show 100 - N.length = k by omega]
    have q : sub h1 0 100 = sub h1 0 (N.length + k) := by rw [← hk]
    rw [q, sub_add, V1, Nat.zero_add, E1 _ _ (by omega), Z _ _ (by omega)]
  · rw [A _ _ (by omega), E9 _ _ (by omega), E8 _ _ (by omega), E7 _ _ (by omega), E6 _ _ (by omega), E5 _ _ (by omega), E4 _ _ (by omega), E3 _ _ (by omega), show 8 = 7 + 1 from rfl, sub_add, V2, E2 _ _ (by omega), E1 _ _ (by omega), Z _ _ (by omega)]
    rfl
  · rw [A _ _ (by omega), E9 _ _ (by omega), E8 _ _ (by omega), E7 _ _ (by omega), E6 _ _ (by omega), show 12 = 11 + 1 from rfl, sub_add, V5, E5 _ _ (by omega), E4 _ _ (by omega), E3 _ _ (by omega), E2 _ _ (by omega), E1 _ _ (by omega), Z _ _ (by omega)]
    rfl
  · have q : sub H 156 1 = [kind] := by rw [A _ _ (by omega), E9 _ _ (by omega), E8 _ _ (by omega), V7]
    rw [getD_sub _ _ (by omega)] at q
    simpa using q
  · rw [A _ _ (by omega), E9 _ _ (by omega)]
    rw [hL]
    obtain ⟨k, hk⟩ : ∃ k, 100 = L.length + k := ⟨100 - L.length, by omega⟩
    rw [show 100 - L.length = k by omega]
    have q : sub h8 157 100 = sub h8 157 (L.length + k) := by rw [← hk]
    rw [q, sub_add, V8, E8 _ _ (by omega), E7 _ _ (by omega), E6 _ _ (by omega), E5 _ _ (by omega), E4 _ _ (by omega), E3 _ _ (by omega), E2 _ _ (by omega), E1 _ _ (by omega), Z _ _ (by omega)]
  · rw [A _ _ (by omega), V9]
  · rw [A _ _ (by omega), E9 _ _ (by omega), E8 _ _ (by omega), E7 _ _ (by omega), E6 _ _ (by omega), E5 _ _ (by omega), E4 _ _ (by omega), E3 _ _ (by omega), E2 _ _ (by omega), E1 _ _ (by omega), Z _ _ (by omega)]
/-- What a written head tells. -/
theorem head_tells {H name link : List Nat} {mode size kind : Nat} (r : HeadR H name mode size kind link) (zn : 0 ∉ name) (zl : 0 ∉ link) (hm : mode < 8 ^ 7) (hs : size < 8 ^ 11) :
    namesP H = some (name.take 100, link.take 100) ∧ numP (sub H 100 8) = some mode ∧ numP (sub H 124 12) = some size ∧ numP (sub H 148 8) = some (sumP H) ∧ zerosP H = false := by
  have b0 : ∀ x ∈ [0], isB x = true := fun x hx => by rw [List.mem_singleton.1 hx]; rfl
  have b2 : ∀ x ∈ [0, 32], isB x = true := fun x hx => by
    simp at hx
    rcases hx with rfl | rfl <;> rfl
  have n1 : 0 ∉ name.take 100 := fun q => zn (List.mem_of_mem_take q)
  have n2 : 0 ∉ link.take 100 := fun q => zl (List.mem_of_mem_take q)
  have f3 : fieldP (List.replicate 155 0) = [] := field_pad (s := []) (by simp) 155
  refine ⟨?_, ?_, ?_, ?_, ?_⟩
  · unfold namesP
    rw [r.nm, r.lk, r.fr, field_pad n1, field_pad n2, f3, if_neg (by simp [n1, n2]), if_pos rfl]
  · rw [r.md]; exact num_oct hm (by decide) (by decide) _ b0
  · rw [r.sz]; exact num_oct hs (by decide) (by decide) _ b0
  · rw [r.ck]; exact num_oct r.cv (by decide) (by decide) _ b2
  · cases q : zerosP H with
    | false => rfl
    | true =>
      have : (117 : Nat) ∈ H := by
        have h1 : (117 : Nat) ∈ sub H 257 8 := by rw [r.mg]; simp [ustar]
        exact List.mem_of_mem_drop (List.mem_of_mem_take h1)
      have := List.all_eq_true.1 q _ this
      cases this
theorem zeros_rep (k : Nat) : zerosP (List.replicate k 0) = true := List.all_eq_true.2 fun x hx => by rw [List.eq_of_mem_replicate hx]; rfl
theorem fill_len (d : List Nat) : (fillP d).length = (d.length + 511) / 512 * 512 := by
  rw [fillP, List.length_append, List.length_replicate]; omega
theorem take_fill (d rest : List Nat) : takeP (fillP d ++ rest) d.length = some (d, rest) := by
  have hl := fill_len d
  have hd : d.length ≤ (fillP d).length := by rw [hl]; omega
  unfold takeP
  rw [← hl]
  have e1 : (fillP d ++ rest).take d.length = d := by
    rw [List.take_append_of_le_length hd, fillP, List.take_left]
  have e2 : (fillP d ++ rest).drop (fillP d).length = rest := List.drop_left
  have e3 : ((fillP d ++ rest).take (fillP d).length).drop d.length = List.replicate ((512 - d.length % 512) % 512) 0 := by
    rw [List.take_left, fillP, List.drop_left]
  rw [if_neg, e1, e2]
  rintro (q | q | q)
  · rw [List.length_append] at q; omega
  · rw [List.length_append] at q; omega
  · rw [e3, zeros_rep] at q; cases q
theorem take_head {H rest : List Nat} (h : H.length = 512) : takeP (H ++ rest) 512 = some (H, rest) := by
  have := take_fill H rest
  have e : fillP H = H := by rw [fillP, h]; simp
  rw [e, h] at this
  exact this
theorem dig3 {n : Nat} (h1 : 100 ≤ n) (h2 : n < 1000) : (dig 10 n).length = 3 := by
  rw [dig_step (by decide) (by omega), dig_step (by decide) (by omega), dig_one (by omega)]
  rfl
theorem dig4 {n : Nat} (h1 : 1000 ≤ n) (h2 : n < 10000) : (dig 10 n).length = 4 := by
  rw [dig_step (by decide) (by omega), List.length_append, dig3 (by omega) (by omega)]
  rfl
theorem recN_spec {k : Nat} (h1 : 100 ≤ k) (h2 : k ≤ 5000) : (dig 10 (recN k 30 (k + 1))).length + k = recN k 30 (k + 1) ∧ recN k 30 (k + 1) ≤ k + 4 := by
  have st : ∀ f n, recN k (f + 1) n = if (dig 10 n).length + k = n then n else recN k f (n + 1) := fun f n => rfl
  have l3 : ∀ n, k < n → n < 10000 → 3 ≤ (dig 10 n).length ∧ (dig 10 n).length ≤ 4 := fun n h3 h4 => by
    rcases Nat.lt_or_ge n 1000 with q | q
    · rw [dig3 (by omega) q]; omega
    · rw [dig4 q (by omega)]; omega
  have g1 := l3 (k + 1) (by omega) (by omega)
  have g2 := l3 (k + 1 + 1) (by omega) (by omega)
  have g3 := l3 (k + 1 + 1 + 1) (by omega) (by omega)
  rw [show (30 : Nat) = 29 + 1 from rfl, st, if_neg (by omega), show (29 : Nat) = 28 + 1 from rfl, st, if_neg (by omega), show (28 : Nat) = 27 + 1 from rfl, st]
  by_cases q : (dig 10 (k + 1 + 1 + 1)).length + k = k + 1 + 1 + 1
  · rw [if_pos q]; exact ⟨q, by omega⟩
  · have q4 : (dig 10 (k + 1 + 1 + 1)).length = 4 := by omega
    have hk : 1000 ≤ k + 1 + 1 + 1 := by
      rcases Nat.lt_or_ge (k + 1 + 1 + 1) 1000 with z | z
      · rw [dig3 (by omega) z] at q4; omega
      · exact z
    have g4 := dig4 (n := k + 1 + 1 + 1 + 1) (by omega) (by omega)
    rw [if_neg q, show (27 : Nat) = 26 + 1 from rfl, st, if_pos (by omega)]
    exact ⟨by omega, by omega⟩
theorem takeW {p : Nat → Bool} {l : List Nat} (h : ∀ x ∈ l, p x = true) (y : Nat) (m : List Nat) (hy : p y = false) : (l ++ y :: m).takeWhile p = l ∧ (l ++ y :: m).dropWhile p = y :: m := by
  induction l with
  | nil => simp [List.takeWhile_cons, List.dropWhile_cons, hy]
  | cons x l ih =>
    have := ih fun z hz => h z (by simp [hz])
    rw [List.cons_append, List.takeWhile_cons, List.dropWhile_cons, h x (by simp)]
    simp [this.1, this.2]
theorem recP_len {name value : List Nat} (h1 : 97 ≤ name.length + value.length) (h2 : name.length + value.length ≤ 4990) : (recP name value).length = recN (recBody name value).length 30 ((recBody name value).length + 1) ∧ (recP name value).length ≤ name.length + value.length + 7 := by
  have hb : (recBody name value).length = name.length + value.length + 3 := by simp [recBody]; omega
  have q := recN_spec (k := (recBody name value).length) (by omega) (by omega)
  rw [recP, List.length_append, asc, List.length_map]
  omega
/-- A record that is written is read. -/
theorem rec_one {name value : List Nat} (more : List Nat) (h1 : 97 ≤ name.length + value.length) (h2 : name.length + value.length ≤ 4990) (hn : 61 ∉ name) : recOne (recP name value ++ more) = some ((recP name value).length, name, value) := by
  have hb : (recBody name value).length = name.length + value.length + 3 := by simp [recBody]; omega
  obtain ⟨q1, q2⟩ := recP_len h1 h2
  have q3 := recN_spec (k := (recBody name value).length) (by omega) (by omega)
  have hd10 : ∀ x ∈ asc (dig 10 (recP name value).length), (x != 32) = true := fun x hx => by
    obtain ⟨y, hy, rfl⟩ := List.mem_map.1 hx
    rw [bne_iff_ne]; omega
  have hr : recP name value = asc (dig 10 (recP name value).length) ++ recBody name value := by
    rw [q1, recP]
  rw [← q1] at q3
  obtain ⟨n, hnn⟩ : ∃ n, (recP name value).length = n := ⟨_, rfl⟩
  rw [hnn] at q3 hr hd10 ⊢
  have ld : (asc (dig 10 n)).length + (recBody name value).length = n := by
    rw [asc, List.length_map]; exact q3.1
  rw [hr]
  clear hr hnn
  have e1 : asc (dig 10 n) ++ recBody name value ++ more = asc (dig 10 n) ++ 32 :: (name ++ 61 :: (value ++ 10 :: more)) := by simp [recBody]
  obtain ⟨w1, _⟩ := takeW hd10 32 (name ++ 61 :: (value ++ 10 :: more)) rfl
  have back : (asc (dig 10 n)).map (· - 48) = dig 10 n := by
    rw [asc, List.map_map]
    conv => rhs; rw [← List.map_id (dig 10 n)]
    refine List.map_congr_left fun x _ => ?_
    show x + 48 - 48 = x
    omega
  unfold recOne
  rw [e1, w1]
  dsimp only
  rw [back, dig_val (by decide)]
  have lt : (asc (dig 10 n) ++ 32 :: (name ++ 61 :: value)).length = n - 1 := by
    simp only [List.length_append, List.length_cons]
    omega
  have e2 : asc (dig 10 n) ++ 32 :: (name ++ 61 :: (value ++ 10 :: more)) = (asc (dig 10 n) ++ 32 :: (name ++ 61 :: value)) ++ 10 :: more := by simp
  have e3 : ((asc (dig 10 n) ++ 32 :: (name ++ 61 :: (value ++ 10 :: more))).take (n - 1)).drop ((asc (dig 10 n)).length + 1) = name ++ 61 :: value := by
    rw [e2, ← lt, List.take_left]
    rw [show asc (dig 10 n) ++ 32 :: (name ++ 61 :: value) = (asc (dig 10 n) ++ [32]) ++ (name ++ 61 :: value) by simp]
    rw [show (asc (dig 10 n)).length + 1 = (asc (dig 10 n) ++ [32]).length by simp, List.drop_left]
  have e4 : (asc (dig 10 n) ++ 32 :: (name ++ 61 :: (value ++ 10 :: more))).getD (n - 1) 0 = 10 := by
    rw [e2, ← lt, List.getD_eq_getElem?_getD, List.getElem?_append_right (Nat.le_refl _), Nat.sub_self]
    rfl
  have hne : ∀ x ∈ name, (x != 61) = true := fun x hx => by
    rw [bne_iff_ne]; rintro rfl; exact hn hx
  obtain ⟨w2, w3⟩ := takeW hne 61 value rfl
  rw [e3, w2, w3]
  rw [if_pos ⟨rfl, by rw [e2, List.length_append, lt, List.length_cons]; omega, by omega, e4, by simp⟩]
  rfl
end Go.Tar
set_option linter.unusedSimpArgs false
set_option linter.unusedVariables false
set_option maxRecDepth 100000
namespace Go.Tar
open Go.Pure
/-- An entry of bytes. -/
structure EntB (e : Ent) : Prop where
  name : Bytes e.name
  link : Bytes e.link
  data : Bytes e.data
  small : e.data.length < 8 ^ 11
theorem recs_nil (f : Nat) (path link : List Nat) : recsP f [] path link = some (path, link) := by cases f <;> rfl
theorem recP_ne (name value : List Nat) : recP name value ≠ [] := by
  unfold recP recBody
  simp
theorem recs_step {name value : List Nat} (f : Nat) (more path link : List Nat) (h1 : 97 ≤ name.length + value.length) (h2 : name.length + value.length ≤ 4990) (hn : 61 ∉ name) :
    recsP (f + 1) (recP name value ++ more) path link = recsP f more (if name = pathS then value else path) (if name = linkS then value else link) := by
  rw [recsP, if_neg (by simp [recP_ne]), rec_one more h1 h2 hn]
  dsimp only
  rw [List.drop_left]
theorem more_recs {e : Ent} (h : okEnt e) (f : Nat) : recsP (f + 2) (moreP e) [] [] = some (if 100 < e.name.length then e.name else [], if 100 < e.link.length then e.link else []) := by
  have h1 := h.1.1
  have h2 := h.2.1.1
  have lp : pathS.length = 4 := rfl
  have ll : linkS.length = 8 := rfl
  have np : 61 ∉ pathS := by decide
  have nl : 61 ∉ linkS := by decide
  have npl : pathS ≠ linkS := by decide
  have nlp : linkS ≠ pathS := by decide
  unfold moreP
  by_cases a : 100 < e.name.length
  · rw [if_pos a, if_pos a]
    have s := recs_step (name := pathS) (value := e.name) (f + 1) (if 100 < e.link.length then recP linkS e.link else []) [] [] (by omega) (by omega) np
    rw [s, if_pos rfl, if_neg npl]
    by_cases b : 100 < e.link.length
    · rw [if_pos b, if_pos b]
      have s2 := recs_step (name := linkS) (value := e.link) f [] e.name [] (by omega) (by omega) nl
      rw [List.append_nil] at s2
      rw [s2, if_neg nlp, if_pos rfl, recs_nil]
    · rw [if_neg b, if_neg b, recs_nil]
  · rw [if_neg a, if_neg a, List.nil_append]
    by_cases b : 100 < e.link.length
    · rw [if_pos b, if_pos b]
      have s2 := recs_step (name := linkS) (value := e.link) (f + 1) [] [] [] (by omega) (by omega) nl
      rw [List.append_nil] at s2
      rw [s2, if_neg nlp, if_pos rfl, recs_nil]
    · rw [if_neg b, if_neg b, recs_nil]
theorem more_len {e : Ent} (h : okEnt e) : (moreP e).length ≤ 2100 := by
  have h1 := h.1.1
  have h2 := h.2.1.1
  have lp : pathS.length = 4 := rfl
  have ll : linkS.length = 8 := rfl
  unfold moreP
  rw [List.length_append]
  have a : (if 100 < e.name.length then recP pathS e.name else []).length ≤ 1020 := by
    split
    · have := (recP_len (name := pathS) (value := e.name) (by omega) (by omega)).2; omega
    · simp
  have b : (if 100 < e.link.length then recP linkS e.link else []).length ≤ 1020 := by
    split
    · have := (recP_len (name := linkS) (value := e.link) (by omega) (by omega)).2; omega
    · simp
  omega
theorem more_big {e : Ent} (h : okEnt e) (ne : moreP e ≠ []) : 2 ≤ (moreP e).length := by
  have h1 := h.1.1
  have h2 := h.2.1.1
  have lp : pathS.length = 4 := rfl
  have ll : linkS.length = 8 := rfl
  have key : ∀ n v : List Nat, 2 ≤ (recP n v).length := fun n v => by unfold recP recBody; simp; omega
  unfold moreP at ne ⊢
  rw [List.length_append]
  by_cases a : 100 < e.name.length
  · have := key pathS e.name
    rw [if_pos a]; omega
  · by_cases b : 100 < e.link.length
    · have := key linkS e.link
      rw [if_pos b]; omega
    · rw [if_neg a, if_neg b] at ne; simp at ne
theorem zero_paxS : 0 ∉ paxS := by decide
theorem bytes_paxS : Bytes paxS := by intro x hx; simp [paxS] at hx; omega
/-- A pax head, and its records. -/
theorem entry_pax {e : Ent} (h : okEnt e) (ne : moreP e ≠ []) (rest : List Nat) (acc : List Ent) :
    entryP { b := fillP (moreP e) ++ rest, path := [], link := [], told := false, list := acc } (headP paxS 0 (moreP e).length 120 []) =
      some { b := rest, path := if 100 < e.name.length then e.name else [], link := if 100 < e.link.length then e.link else [], told := true, list := acc } := by
  have r := head_read (name := paxS) (link := []) 0 (moreP e).length 120 bytes_paxS (by intro x hx; cases hx) (by decide)
  have ml := more_len h
  have mb := more_big h ne
  obtain ⟨t1, t2, t3, t4, t5⟩ := head_tells r zero_paxS (by simp) (by decide) (Nat.lt_of_le_of_lt ml (by decide))
  generalize headP paxS 0 (moreP e).length 120 [] = H at *
  unfold entryP
  rw [t1, t2, t3, t4]
  dsimp only
  rw [if_neg (by rw [r.mg]; simp), take_fill]
  dsimp only
  rw [r.ty, if_pos rfl, if_neg (by simp)]
  obtain ⟨f, hf⟩ : ∃ f, (moreP e).length = f + 2 := ⟨(moreP e).length - 2, by omega⟩
  rw [hf, more_recs h f]
theorem kind_cases {e : Ent} (h : okEnt e) : kindOfT (kindP e) = some e.kind ∧ kindP e ≠ 120 ∧ kindP e < 256 := by
  obtain ⟨_, _, _, _, _, q | q | q⟩ := h
  · have := q.1; unfold kindP kindOfT; rw [this]; decide
  · have := q.1; unfold kindP kindOfT; rw [this]; decide
  · have := q.1; unfold kindP kindOfT; rw [this]; decide
/-- An entry's head, and its bytes. -/
theorem entry_main {e : Ent} (h : okEnt e) (b : EntB e) (rest path link : List Nat) (told : Bool) (acc : List Ent) (hp : (if path = [] then e.name.take 100 else path) = e.name) (hl : (if link = [] then e.link.take 100 else link) = e.link) (ha : acc.length < 256) :
    entryP { b := fillP e.data ++ rest, path := path, link := link, told := told, list := acc } (headP e.name e.mode.toNat e.data.length (kindP e) e.link) = some { b := rest, path := [], link := [], told := false, list := acc ++ [e] } := by
  obtain ⟨k1, k2, k3⟩ := kind_cases h
  have r := head_read (name := e.name) (link := e.link) e.mode.toNat e.data.length (kindP e) b.name b.link k3
  have m1 := h.2.2.2.1
  have m2 := h.2.2.2.2.1
  obtain ⟨t1, t2, t3, t4, t5⟩ := head_tells r h.1.2 h.2.1.2 (by
    have : (4096 : Nat) < 8 ^ 7 := by decide
    omega) b.small
  generalize headP e.name e.mode.toNat e.data.length (kindP e) e.link = H at *
  unfold entryP
  rw [t1, t2, t3, t4]
  dsimp only
  rw [if_neg (by rw [r.mg]; simp), take_fill]
  dsimp only
  rw [r.ty, if_neg k2, k1]
  dsimp only
  rw [hp, hl, Int.toNat_of_nonneg m1]
  rw [if_pos ⟨h, ha⟩]
theorem zeros_split (k : Nat) (h : 512 ≤ k) : takeP (List.replicate k 0) 512 = some (List.replicate 512 0, List.replicate (k - 512) 0) := by
  have : List.replicate k 0 = List.replicate 512 0 ++ List.replicate (k - 512) 0 := by
    rw [List.replicate_append_replicate]; congr 1; omega
  rw [this]
  exact take_head (by simp)
theorem headP_len {name link : List Nat} (mode size kind : Nat) (hn : Bytes name) (hl : Bytes link) (hk : kind < 256) : (headP name mode size kind link).length = 512 := (head_read mode size kind hn hl hk).len
/-- All that was written is read. -/
theorem read_body (k : Nat) (hk : 512 ≤ k) : ∀ (l acc : List Ent) (f : Nat), (∀ e ∈ l, okEnt e ∧ EntB e) → acc.length + l.length ≤ 256 → (bodyP l).length / 512 + 1 ≤ f →
    readF f { b := bodyP l ++ List.replicate k 0, path := [], link := [], told := false, list := acc } = some (acc ++ l)
  | [], acc, f, _, _, hf => by
    obtain ⟨f, rfl⟩ : ∃ g, f = g + 1 := ⟨f - 1, by omega⟩
    rw [readF]
    show (match takeP ([] ++ List.replicate k 0) 512 with
      | none => none
      | some (h, b) => _) = _
    rw [List.nil_append, zeros_split k hk]
    dsimp only
    rw [if_pos (zeros_rep _), if_neg (by rw [zeros_rep]; simp), List.append_nil]
  | e :: l, acc, f, he, hc, hf => by
    obtain ⟨ok, eb⟩ := he e (by simp)
    obtain ⟨k1, k2, k3⟩ := kind_cases ok
    have hb : bodyP (e :: l) = oneP e ++ bodyP l := by simp [bodyP]
    have lH := headP_len (name := e.name) (link := e.link) e.mode.toNat e.data.length (kindP e) eb.name eb.link k3
    have zH := (head_tells (head_read (name := e.name) (link := e.link) e.mode.toNat e.data.length (kindP e) eb.name eb.link k3) ok.1.2 ok.2.1.2 (by
      have := ok.2.2.2.1
      have := ok.2.2.2.2.1
      have : (4096 : Nat) < 8 ^ 7 := by decide
      omega) eb.small).2.2.2.2
    have lc : (e :: l).length = l.length + 1 := rfl
    have main : ∀ (path link : List Nat) (told : Bool) (g : Nat), (if path = [] then e.name.take 100 else path) = e.name → (if link = [] then e.link.take 100 else link) = e.link → (bodyP l).length / 512 + 1 ≤ g →
        readF (g + 1) { b := headP e.name e.mode.toNat e.data.length (kindP e) e.link ++ (fillP e.data ++ (bodyP l ++ List.replicate k 0)), path := path, link := link, told := told, list := acc } = some (acc ++ e :: l) := fun path link told g hp hl hg => by
      rw [readF, take_head lH]
      dsimp only
      rw [if_neg (by rw [zH]; simp)]
      rw [entry_main ok eb _ path link told acc hp hl (by omega)]
      dsimp only
      rw [read_body k hk l (acc ++ [e]) g (fun x hx => he x (by simp [hx])) (by simp; omega) hg]
      simp
    by_cases ne : moreP e = []
    · have hone : oneP e = headP e.name e.mode.toNat e.data.length (kindP e) e.link ++ fillP e.data := by
        rw [oneP, if_neg (by simp [ne]), List.nil_append]
      have nn : e.name.length ≤ 100 ∧ e.link.length ≤ 100 := by
        unfold moreP at ne
        have := List.append_eq_nil_iff.1 ne
        constructor
        · rcases Nat.lt_or_ge 100 e.name.length with q | q
          · rw [if_pos q] at this; exact absurd this.1 (recP_ne _ _)
          · exact q
        · rcases Nat.lt_or_ge 100 e.link.length with q | q
          · rw [if_pos q] at this; exact absurd this.2 (recP_ne _ _)
          · exact q
      have lb : (bodyP (e :: l)).length = 512 + (fillP e.data).length + (bodyP l).length := by
        rw [hb, hone, List.length_append, List.length_append, lH]
      obtain ⟨g, rfl⟩ : ∃ g, f = g + 1 := ⟨f - 1, by omega⟩
      rw [hb, hone, List.append_assoc, List.append_assoc]
      refine main [] [] false g ?_ ?_ (by omega)
      · rw [if_pos rfl, List.take_of_length_le nn.1]
      · rw [if_pos rfl, List.take_of_length_le nn.2]
    · have lX := headP_len (name := paxS) (link := []) 0 (moreP e).length 120 bytes_paxS (by intro x hx; cases hx) (by decide)
      have ml := more_len ok
      have zX := (head_tells (head_read (name := paxS) (link := []) 0 (moreP e).length 120 bytes_paxS (by intro x hx; cases hx) (by decide)) zero_paxS (by simp) (by decide) (by
        have : (2100 : Nat) < 8 ^ 11 := by decide
        omega)).2.2.2.2
      have hone : oneP e = headP paxS 0 (moreP e).length 120 [] ++ (fillP (moreP e) ++ (headP e.name e.mode.toNat e.data.length (kindP e) e.link ++ fillP e.data)) := by
        rw [oneP, if_pos ne]; simp
      have lb : (bodyP (e :: l)).length = 512 + (fillP (moreP e)).length + 512 + (fillP e.data).length + (bodyP l).length := by
        rw [hb, hone, List.length_append, List.length_append, List.length_append, List.length_append, lX, lH]; omega
      obtain ⟨g, rfl⟩ : ∃ g, f = g + 1 + 1 := ⟨f - 2, by omega⟩
      rw [hb, hone]
      have e1 : headP paxS 0 (moreP e).length 120 [] ++ (fillP (moreP e) ++ (headP e.name e.mode.toNat e.data.length (kindP e) e.link ++ fillP e.data)) ++ bodyP l ++ List.replicate k 0 =
          headP paxS 0 (moreP e).length 120 [] ++ (fillP (moreP e) ++ (headP e.name e.mode.toNat e.data.length (kindP e) e.link ++ (fillP e.data ++ (bodyP l ++ List.replicate k 0)))) := by simp
      rw [e1, readF, take_head lX]
      dsimp only
      rw [if_neg (by rw [zX]; simp), entry_pax ok ne]
      dsimp only
      refine main _ _ true g ?_ ?_ (by omega)
      · by_cases q : 100 < e.name.length
        · rw [if_pos q, if_neg (by intro z; rw [z] at q; simp at q)]
        · rw [if_neg q, if_pos rfl, List.take_of_length_le (by omega)]
      · by_cases q : 100 < e.link.length
        · rw [if_pos q, if_neg (by intro z; rw [z] at q; simp at q)]
        · rw [if_neg q, if_pos rfl, List.take_of_length_le (by omega)]
theorem read_write {l : List Ent} (h : ∀ e ∈ l, okEnt e ∧ EntB e) (hc : l.length ≤ 256) : readP (writeP l) = some l := by
  have := read_body 1024 (by decide) l [] ((bodyP l ++ List.replicate 1024 0).length / 512 + 1) h (by simpa using hc) (by
    rw [List.length_append, List.length_replicate]; omega)
  rw [List.nil_append] at this
  exact this
end Go.Tar
set_option linter.unusedSimpArgs false
set_option linter.unusedVariables false
set_option maxRecDepth 100000
namespace Go.Proofs.YtflfhbnflcfmgaaGreatDoor
open Go Go.SL
theorem q_str {h : Hp} {K : Value → Prop} {v : Value} {l : List Nat} (hv : Rn h .u8 v l) : q P h (convert t_Sl_uint8 t_string v) K = K (.string (strL l)) := q_of (by
  obtain ⟨hl, a, c, rfl, hc, hr⟩ := hv
  show peek P h (Sem.bind (underlying t_Sl_uint8) _) = _
  rw [peek_bind, pk_und u_Sl_uint8, Option.bind_some]
  show peek P h (Sem.bind (underlying t_string) _) = _
  rw [peek_bind, pk_und u_string, Option.bind_some]
  show peek P h (Sem.bind (underlying t_uint8) _) = _
  rw [peek_bind, pk_und u_uint8, Option.bind_some]
  show peek P h (Conv.bytesToString _) = _
  rcases hr with h0 | ⟨b, o, rfl, hy⟩
  · rw [List.eq_nil_of_length_eq_zero h0]
    cases a <;> rfl
  · unfold Conv.bytesToString
    show peek P h (Sem.bind (loadCellsFrom ⟨b, o, none⟩ 0 l.length #[]) _) = _
    have := pk_loadCells (P := P) (h := h) (b := b) (o := o) (nv .u8 l) 0 #[] (fun j x e => by simpa using hy j x e)
    rw [nv_len] at this
    rw [peek_bind, this, Option.bind_some]
    have key : ∀ (l : List Nat) (s : ByteArray), peek P h (forIn (nv .u8 l) s fun c r => (match c with
        | .int .u8 n => Sem.pure (ForInStep.yield (r.push (UInt8.ofNat n.toNat)))
        | _ => stuck "bytesToString: byte expected" : Sem (ForInStep ByteArray))) = some (l.foldl (fun s x => s.push (UInt8.ofNat x)) s) := by
      intro l
      induction l with
      | nil => intro s; rfl
      | cons x l ih =>
        intro s
        rw [nv_cons, List.forIn_cons]
        exact ih _
    have e0 : (#[] ++ (nv .u8 l).toArray) = (nv .u8 l).toArray := by simp
    rw [e0]
    show peek P h (Sem.bind (forIn (nv .u8 l).toArray ByteArray.empty _) _) = _
    rw [List.forIn_toArray, peek_bind]
    refine (congrArg (fun x => Option.bind x _) (key l ByteArray.empty)).trans ?_
    rfl) K
/-- Bytes as bytes: nothing moves, but what stands behind the block may not be written. -/
theorem aw_mark {h : Hp} {b n : Nat} {xs : List Value} {K : Value → Hp → Prop} (hb : h b = none) (hx : xs.length = n) (k : ∀ h'', New h t_uint8 1 (.slice (some ⟨b, 0, none⟩) n n) h'' xs n → K (.slice (some ⟨b, 0, none⟩) n n) h'') :
    aw P (convert t_Sl_uint8 t_Sl_uint8 (.slice (some ⟨b, 0, none⟩) n n)) K (h.set b (.row t_uint8 xs n (some (0, 0)))) := by
  refine aw_of ?_
  show awp P (Sem.bind (underlying t_Sl_uint8) _) K _
  rw [awp_bind, peek_awp P _ _ _ (pk_und u_Sl_uint8)]
  show awp P (Sem.bind (underlying t_Sl_uint8) _) K _
  rw [awp_bind, peek_awp P _ _ _ (pk_und u_Sl_uint8)]
  show awp P (Sem.bind (underlying t_uint8) _) K _
  rw [awp_bind, peek_awp P _ _ _ (pk_und u_uint8)]
  show awp P (Sem.bind (markStringish ⟨b, 0, none⟩) _) K _
  rw [awp_bind]
  show awp P (Sem.bind (shape b) _) _ _
  rw [awp_bind]
  have hs : (h.set b (.row t_uint8 xs n (some (0, 0)))).shape b = some (some (t_uint8, n)) := by simp [Hp.shape]
  have : peek P (h.set b (.row t_uint8 xs n (some (0, 0)))) (shape b) = some (some (t_uint8, n)) := by
    unfold shape
    simp only [peek, hs]
  rw [peek_awp P _ _ _ this]
  show awp P (freeze ⟨b, n, none⟩ 1) _ _
  have hfz : (h.set b (.row t_uint8 xs n (some (0, 0)))).freeze ⟨b, n, none⟩ 1 = some (h.set b (.row t_uint8 xs n (some (n, n + 1)))) := by simp [Hp.freeze, Hp.set_set, frz]
  simp only [awp, freeze, hfz]
  refine k _ ⟨by rw [Nat.mul_one]; exact hx, .inr ⟨b, n, (n, n + 1), hb, Nat.le_refl _, rfl, by rw [Nat.mul_one], fun i hi => by omega⟩⟩
end Go.Proofs.YtflfhbnflcfmgaaGreatDoor
set_option linter.unusedSimpArgs false
set_option linter.unusedVariables false
set_option maxRecDepth 100000
set_option maxHeartbeats 1000000
namespace Go.Proofs.YtflfhbnflcfmgaaGreatDoor
open Go Go.SL Go.Pure Go.Tar
/-- Where a byte stands first; -1: nowhere. -/
def idxB (c : Nat) (l : List Nat) : Int := if c ∈ l then ((l.takeWhile (· != c)).length : Int) else -1
theorem ex_idx {h : Hp} (s : ByteArray) (c : Int) : peek P h (callFunc n_bytealg_IndexByteString #[.string s, .int .u8 c]) = peek P h ((Extern.BytealgIndexByte.indexByte #[.string s, .int .u8 c]).bind fun v => .pure (.value v)) := by kernel_rfl
theorem find_ext {p q : Nat → Bool} : ∀ (r : List Nat), (∀ i ∈ r, p i = q i) → r.find? p = r.find? q
  | [], _ => rfl
  | x :: r, h => by
    rw [List.find?_cons, List.find?_cons, h x (by simp), find_ext r fun i hi => h i (by simp [hi])]
theorem find_list (c : Nat) : ∀ l : List Nat, ((List.range l.length).find? fun i => l.getD i 0 == c) = if c ∈ l then some (l.takeWhile (· != c)).length else none
  | [] => rfl
  | x :: l => by
    have ih := find_list c l
    rw [List.length_cons, List.range_succ_eq_map, List.find?_cons, List.find?_map]
    show (match x == c with | true => some 0 | false => Option.map Nat.succ ((List.range l.length).find? fun i => l.getD i 0 == c)) = _
    rw [ih]
    by_cases hx : x = c
    · subst hx
      simp
    · have e : (x == c) = false := beq_eq_false_iff_ne.2 hx
      have e2 : (x != c) = true := bne_iff_ne.2 hx
      rw [e, List.takeWhile_cons, e2]
      dsimp only
      by_cases hm : c ∈ l
      · rw [if_pos hm, if_pos (by simp [hm])]; rfl
      · rw [if_neg hm, if_neg (by simp [hm, Ne.symm hx])]; rfl
theorem find_idx {l : List Nat} (hb : Bytes l) {c : Nat} (hc : c < 256) : ((List.range (strL l).size).find? fun i => (strL l)[i]! == UInt8.ofNat c) = if c ∈ l then some (l.takeWhile (· != c)).length else none := by
  rw [strL_size, ← find_list]
  refine find_ext _ fun i hi => ?_
  have hi := List.mem_range.1 hi
  have hs : i < (strL l).size := by rw [strL_size]; exact hi
  rw [getElem!_pos (strL l) i hs]
  have e2 : (strL l)[i] = UInt8.ofNat (l.getD i 0) := by
    have : (strL l)[i] = (strL l).data.toList[i]'(by rw [Array.length_toList]; exact hs) := by simp; rfl
    rw [this]
    simp only [strL_data, List.getElem_map]
    rw [List.getD_eq_getElem?_getD, List.getElem?_eq_getElem hi, Option.getD_some]
  rw [e2]
  have hx := hb.getD i
  rw [Bool.eq_iff_iff, beq_iff_eq, beq_iff_eq]
  constructor
  · intro q
    have := congrArg UInt8.toNat q
    rwa [UInt8.toNat_ofNat', UInt8.toNat_ofNat', Nat.mod_eq_of_lt (show l.getD i 0 < 2 ^ 8 by omega), Nat.mod_eq_of_lt (show c < 2 ^ 8 by omega)] at this
  · intro q; rw [q]
theorem empS : (⟨#[]⟩ : ByteArray) = strL [] := rfl
section
variable {h : Hp} {K : Value → Hp → Prop}
theorem T_sIdx {l : List Nat} (hb : Bytes l) {c : Nat} (hc : c < 256) (k : K (.int .i64 (idxB c l)) h) : Cn P n_stringslite_IndexByte #[.string (strL l), .int .u8 (c : Int)] h K := by
  refine F_stringslite_IndexByte ?_
  unfold s_stringslite_IndexByte
  rw [exP_of (v := .int .i64 (idxB c l))]
  · exact k
  · rw [ex_idx]
    show peek P h (Sem.bind (Extern.BytealgIndexByte.indexByte _) _) = _
    rw [peek_bind]
    have e : peek P h (Extern.BytealgIndexByte.indexByte #[.string (strL l), .int .u8 (c : Int)]) = some (.int .i64 (idxB c l)) := by
      show peek P h (match (List.range (strL l).size).find? fun i => (strL l)[i]! == (c : Int).toNat.toUInt8 with
        | some i => pure (goInt i)
        | none => pure (goInt (-1))) = _
      have e8 : (c : Int).toNat.toUInt8 = UInt8.ofNat c := by rw [Int.toNat_natCast]
      rw [e8, find_idx hb hc]
      unfold idxB
      by_cases hm : c ∈ l
      · rw [if_pos hm, if_pos hm]; rfl
      · rw [if_neg hm, if_neg hm]; rfl
    rw [e]
    rfl
theorem T_IndexByte {l : List Nat} (hb : Bytes l) {c : Nat} (hc : c < 256) (k : K (.int .i64 (idxB c l)) h) : Cn P n_strings_IndexByte #[.string (strL l), .int .u8 (c : Int)] h K := by
  refine F_strings_IndexByte ?_
  unfold s_strings_IndexByte
  exact T_sIdx hb hc k
theorem T_mayText {l : List Nat} (hb : Bytes l) (hl : l.length ≤ 9223372036854775807) (k : K (.bool (decide (okText l))) h) : Cn P n_tar_mayText #[.string (strL l)] h K := by
  refine F_tar_mayText ?_
  unfold s_tar_mayText
  rw [q_lenSt u_string]
  have d1 : decide (((l.length : Nat) : Int) ≤ 1000) = decide (l.length ≤ 1000) := by rw [decide_eq_decide]; omega
  simp -zeta only [GL, d1]
  by_cases q1 : l.length ≤ 1000
  · simp -zeta only [q1, decide_true, if_true]
    refine T_IndexByte (c := 0) hb (by decide) ?_
    have e : decide (idxB 0 l < 0) = decide (okText l) := by
      rw [decide_eq_decide]
      unfold idxB okText
      split <;> rename_i hm <;> simp [hm, q1] <;> omega
    simp -zeta only [GL, e]
    exact k
  · have e : decide (okText l) = false := decide_eq_false fun q => q1 q.1
    rw [e] at k
    simp -zeta only [q1, decide_false, Bool.false_eq_true, if_false]
    exact k
end
end Go.Proofs.YtflfhbnflcfmgaaGreatDoor
set_option linter.unusedSimpArgs false
set_option linter.unusedVariables false
namespace Go.SL
open Go
section
variable {P : Program} {h : Hp}
/-- A part up to a place, with no more room behind. -/
theorem pk_boundsHM (n c : Nat) (k' k2 : IntKind) (hi mx : Nat) (h2 : hi ≤ mx) (h3 : mx ≤ c) : peek P h (Instr.sliceBounds true n c none (some (.int k' hi)) (some (.int k2 mx))) = some (0, hi, mx) := by
  have e0 : peek P h (Instr.sliceBound (.int k2 (mx : Int)) c .slice3Acap) = some mx := pk_bound k2 mx c h3 _
  have e1 : peek P h (Instr.sliceBound (.int k' (hi : Int)) mx .slice3B) = some hi := pk_bound k' hi mx h2 _
  unfold Instr.sliceBounds
  simp only [if_true, Option.isSome_some, pk_bind e0, pk_bind e1]
  rfl
theorem q_slHM {t e s : Nat} {K : Value → Prop} (ht : P.underlying t = some (.slice e)) (hs : sz P e = some s) (a : Option Addr) (n c : Nat) (k' k2 : IntKind) (hi mx : Nat) (h2 : hi ≤ mx) (h3 : mx ≤ c) :
    q P h (Instr.sliceAt t (.slice a n c) none (some (.int k' hi)) (some (.int k2 mx))) K = K (.slice (cut a mx 0 s) hi mx) := q_of (by
  show peek P h (Sem.bind (underlying t) _) = _
  rw [peek_bind, pk_und ht, Option.bind_some]
  show peek P h (Sem.bind (underlying t) _) = _
  rw [peek_bind, pk_und ht, Option.bind_some]
  show peek P h (Sem.bind (Instr.sliceBounds true n c _ _ _) _) = _
  rw [peek_bind, pk_boundsHM n c k' k2 hi mx h2 h3, Option.bind_some]
  show peek P h (Sem.bind (sizeOf e) _) = _
  rw [peek_bind, pk_size hs]
  rfl) K
/-- A call of a function with a body, by its value. -/
theorem callP_cn {g : FuncId} {x y : Array Value} {args : List Value} {K : Value → Hp → Prop} (e : extB P g = false) (c : Cn P g (x.toList ++ args ++ y.toList).toArray h K) : callP P (.func (.func g) x y) args h K := by
  show (if extB P g = true then _ else _)
  rw [if_neg (by rw [e]; decide)]
  exact c
end
end Go.SL
set_option linter.unusedSimpArgs false
set_option linter.unusedVariables false
set_option maxRecDepth 100000
set_option maxHeartbeats 1000000
namespace Go.Proofs.YtflfhbnflcfmgaaGreatDoor
open Go Go.SL Go.Pure Go.Tar
theorem gt0 (n : Nat) : decide ((0 : Int) < ((n : Nat) : Int)) = decide (0 < n) := by rw [decide_eq_decide]; omega
theorem beqN (a b : Nat) : ((((a : Nat) : Int)) == ((b : Nat) : Int)) = (a == b) := by
  rw [Bool.eq_iff_iff, beq_iff_eq, beq_iff_eq]; omega
theorem take_last {l : List Nat} {m : Nat} (h : m < l.length) : l.take (m + 1) = l.take m ++ [l.getD m 0] := by
  rw [List.take_succ_eq_append_getElem h, List.getD_eq_getElem?_getD, List.getElem?_eq_getElem h]; rfl
theorem take_getD {l : List Nat} {m n : Nat} (h : m < n) : (l.take n).getD m 0 = l.getD m 0 := by
  rw [List.getD_eq_getElem?_getD, List.getElem?_take, if_pos h, ← List.getD_eq_getElem?_getD]
theorem trimR_nil (p : Nat → Bool) : trimR p [] = [] := rfl
/-- A set of bytes in memory. -/
def SetAt (h : Hp) (r : Nat) (p : Nat → Bool) : Prop := ∀ x, x < 256 → h.cell ⟨r, x, none⟩ = some (.bool (p x))
section
variable {h : Hp} {K : Value → Hp → Prop}
theorem T_trimRightByte {l : List Nat} (hb : Bytes l) (hl : l.length ≤ 9223372036854775807) {c : Nat} (k : K (.string (strL (trimR (· == c) l))) h) : Cn P n_strings_trimRightByte #[.string (strL l), .int .u8 (c : Int)] h K := by
  refine Cn_wk (F_strings_trimRightByte ?_)
  unfold s_strings_trimRightByte
  refine Lp_mk (fun m vs H => H = h ∧ m ≤ l.length ∧ trimR (· == c) (l.take m) = trimR (· == c) l ∧ vs = [.string (strL (l.take m))]) l.length ⟨rfl, Nat.le_refl _, by rw [List.take_length], by rw [List.take_length]⟩ ?_
  rintro m vs H ⟨rfl, hm, ht, rfl⟩
  have lt : (l.take m).length = m := by rw [List.length_take]; omega
  have ln : ∀ {K : Value → Prop}, q P H (Builtin.len_ #[t_string] t_int #[.string (strL (l.take m))]) K = K (.int .i64 (m : Nat)) := fun {K} => by rw [q_lenSt u_string, lt]
  intro J4
  have qJ : 0 < m → trimR (· == c) (l.take (m - 1)) = trimR (· == c) l → J4 H := by
    intro h0 ht2
    simp -zeta only [J4]
    clear J4
    have e1 : IntKind.i64.wrap (((m : Nat) : Int) - 1) = ((m - 1 : Nat) : Int) := by rw [wi64 (by omega) (by omega)]; omega
    simp -zeta only [GL, List.getD_cons_zero, ln, e1]
    rw [q_slStH u_string _ (by omega)]
    have e2 : (l.take m).take (m - 1) = l.take (m - 1) := by rw [List.take_take, Nat.min_eq_left (by omega)]
    rw [e2]
    exact ⟨H, .refl _, m - 1, by omega, rfl, by omega, ht2, rfl⟩
  clear_value J4
  simp -zeta only [GL, List.getD_cons_zero, ln, gt0]
  cases m with
  | zero =>
    simp -zeta only [Nat.lt_irrefl, decide_false, Bool.false_eq_true, if_false]
    rw [List.take_zero, trimR_nil] at ht
    rw [List.take_zero, ht]
    exact ⟨H, .refl _, k⟩
  | succ m =>
    have e1 : IntKind.i64.wrap (((m + 1 : Nat) : Int) - 1) = ((m : Nat) : Int) := by rw [wi64 (by omega) (by omega)]; omega
    simp -zeta only [Nat.zero_lt_succ, decide_true, if_true, ln, GL, e1]
    rw [q_idxSt u_string (hb.take _) (by omega), take_getD (by omega)]
    simp -zeta only [GL, beqN]
    rw [take_last (by omega), trimR_snoc] at ht
    by_cases hx : l.getD m 0 = c
    · have e : (l.getD m 0 == c) = true := beq_iff_eq.2 hx
      rw [e, if_pos rfl] at ht
      simp -zeta only [e, if_true]
      exact qJ (by omega) ht
    · have e : (l.getD m 0 == c) = false := beq_eq_false_iff_ne.2 hx
      rw [e, if_neg (by simp), ← take_last (by omega)] at ht
      simp -zeta only [e, Bool.false_eq_true, if_false]
      rw [ht]
      exact ⟨H, .refl _, k⟩
theorem T_contains {r : Nat} {p : Nat → Bool} (s : SetAt h r p) {x : Nat} (hx : x < 256) (k : K (.bool (p x)) h) : Cn P n_strings_asciiSet_contains #[.pointer (some ⟨r, 0, none⟩), .int .u8 (x : Int)] h K := by
  refine F_strings_asciiSet_contains ?_
  unfold s_strings_asciiSet_contains
  have c := s x hx
  simp -zeta (disch := omega) only [q_nil, RL, GL, Int.toNat_natCast, Nat.zero_add, add_off, c]
  exact k
theorem T_trimRightASCII {l : List Nat} (hb : Bytes l) (hl : l.length ≤ 9223372036854775807) {r : Nat} {p : Nat → Bool} (s : SetAt h r p) (k : K (.string (strL (trimR p l))) h) : Cn P n_strings_trimRightASCII #[.string (strL l), .pointer (some ⟨r, 0, none⟩)] h K := by
  refine Cn_wk (F_strings_trimRightASCII ?_)
  unfold s_strings_trimRightASCII
  refine Lp_mk (fun m vs H => H = h ∧ m ≤ l.length ∧ trimR p (l.take m) = trimR p l ∧ vs = [.string (strL (l.take m))]) l.length ⟨rfl, Nat.le_refl _, by rw [List.take_length], by rw [List.take_length]⟩ ?_
  rintro m vs H ⟨rfl, hm, ht, rfl⟩
  have lt : (l.take m).length = m := by rw [List.length_take]; omega
  have ln : ∀ {K : Value → Prop}, q P H (Builtin.len_ #[t_string] t_int #[.string (strL (l.take m))]) K = K (.int .i64 (m : Nat)) := fun {K} => by rw [q_lenSt u_string, lt]
  simp -zeta only [GL, List.getD_cons_zero, ln, gt0]
  cases m with
  | zero =>
    simp -zeta only [Nat.lt_irrefl, decide_false, Bool.false_eq_true, if_false]
    rw [List.take_zero, trimR_nil] at ht
    rw [List.take_zero, ht]
    exact ⟨H, .refl _, k⟩
  | succ m =>
    have e1 : IntKind.i64.wrap (((m + 1 : Nat) : Int) - 1) = ((m : Nat) : Int) := by rw [wi64 (by omega) (by omega)]; omega
    simp -zeta only [Nat.zero_lt_succ, decide_true, if_true, ln, GL, e1]
    rw [q_idxSt u_string (hb.take _) (by omega), take_getD (by omega)]
    refine T_contains s (hb.getD m) ?_
    simp -zeta only [GL]
    rw [take_last (by omega), trimR_snoc] at ht
    cases hx : p (l.getD m 0) with
    | true =>
      rw [hx, if_pos rfl] at ht
      simp -zeta only [Bool.not_true, Bool.false_eq_true, if_false, ln, GL, e1]
      rw [q_slStH u_string _ (by omega)]
      have e2 : (l.take (m + 1)).take m = l.take m := by rw [List.take_take, Nat.min_eq_left (by omega)]
      rw [e2]
      exact ⟨H, .refl _, m, by omega, rfl, by omega, ht, rfl⟩
    | false =>
      rw [hx, if_neg (by simp), ← take_last (by omega)] at ht
      simp -zeta only [Bool.not_false, if_true]
      rw [ht]
      exact ⟨H, .refl _, k⟩
theorem zr_set : zr P t_strings_asciiSet = some (.agg (List.replicate 256 (Value.bool false)).toArray) := by kernel_rfl
/-- A set of bytes, by a text. -/
theorem T_makeSet {l : List Nat} (hb : ∀ x ∈ l, x < 128) (hl : l.length ≤ 1000) (k : ∀ cs : List Value, cs.length = 256 → (∀ x, x < 256 → cs[x]? = some (.bool (decide (x ∈ l)))) → K (.tuple #[.agg cs.toArray, .bool true]) h) : Cn P n_strings_makeASCIISet #[.string (strL l)] h K := by
  refine Cn_wk (F_strings_makeASCIISet ?_)
  unfold s_strings_makeASCIISet
  have bl : Bytes l := fun x hx => by have := hb x hx; omega
  refine aw_allocL (List.replicate 256 (Value.bool false)) zr_set rfl fun r hr => ?_
  have l256 : (List.replicate 256 (Value.bool false)).length = 256 := List.length_replicate ..
  rw [l256]
  refine Lp_mk (fun m vs H => ∃ (i : Nat) (cs : List Value), i + m = l.length ∧ cs.length = 256 ∧ (∀ x, x < 256 → cs[x]? = some (.bool (decide (x ∈ l.take i)))) ∧ H = h.set r (.row t_strings_asciiSet cs 256 (some (0, 0))) ∧ vs = [.bool false, .int .i64 (i : Int)]) l.length
    ⟨0, _, by omega, l256, fun x hx => by rw [List.getElem?_replicate, if_pos hx]; simp, rfl, rfl⟩ ?_
  rintro m vs H ⟨i, cs, hi, lc, hc, rfl, rfl⟩
  have hrow : (h.set r (.row t_strings_asciiSet cs 256 (some (0, 0)))) r = some (.row t_strings_asciiSet cs 256 (some (0, 0))) := Hp.set_same ..
  have ln : ∀ {G : Hp} {K : Value → Prop}, q P G (Builtin.len_ #[t_string] t_int #[.string (strL l)]) K = K (.int .i64 (l.length : Nat)) := fun {G K} => q_lenSt u_string l
  simp -zeta only [GL, List.getD_cons_zero, List.getD_cons_succ, ln, lt_dec]
  by_cases hlt : i < l.length
  · simp -zeta only [hlt, decide_true, if_true]
    have hx := hb (l.getD i 0) (by rw [List.getD_eq_getElem?_getD, List.getElem?_eq_getElem hlt]; exact List.getElem_mem hlt)
    rw [q_idxSt u_string bl hlt]
    have e1 : decide ((128 : Int) ≤ ((l.getD i 0 : Nat) : Int)) = false := decide_eq_false (by omega)
    have ei : IntKind.i64.wrap ((i : Int) + 1) = ((i + 1 : Nat) : Int) := by rw [wi64 (by omega) (by omega)]; omega
    simp -zeta (disch := omega) only [GL, RL, e1, Bool.false_eq_true, if_false, Int.toNat_natCast, Nat.zero_add, add_off, ei]
    refine aw_store z_bool rfl (put_row hrow (by omega) (by simp) _) ?_
    rw [Hp.set_set]
    refine ⟨_, .refl _, m - 1, by omega, i + 1, cs.set (l.getD i 0) (.bool true), by omega, by rw [List.length_set]; exact lc, fun x hx2 => ?_, rfl, rfl⟩
    rw [take_last hlt, List.getElem?_set]
    by_cases e : l.getD i 0 = x
    · rw [if_pos e, if_pos (by omega)]
      congr 2
      exact (decide_eq_true (by rw [e]; simp)).symm
    · rw [if_neg e, hc x hx2]
      congr 2
      exact decide_eq_decide.2 (by rw [List.mem_append, List.mem_singleton]; exact ⟨Or.inl, fun q => q.resolve_right (Ne.symm e)⟩)
  · simp -zeta only [hlt, decide_false, Bool.false_eq_true, if_false]
    rw [List.take_of_length_le (by omega)] at hc
    rw [q_ldRow u_strings_asciiSet rfl (by rw [lc]; exact z_strings_asciiSet) hrow]
    refine aw_storeRow (ys := cs) (by rw [lc]; exact z_strings_asciiSet) hrow (by rw [lc]) (fun y hy => ?_) (fun i _ => by simp) ?_
    · obtain ⟨j, hj, e⟩ := List.mem_iff_getElem.1 hy
      have := hc j (by omega)
      rw [List.getElem?_eq_getElem hj, e] at this
      cases this; rfl
    · rw [q_resRow (ys := cs) u_strings_asciiSet rfl (by rw [lc]; exact z_strings_asciiSet) (Hp.set_same ..)]
      exact ⟨h, by rw [Hp.set_set]; exact le_fresh hr, k cs lc hc⟩
end
end Go.Proofs.YtflfhbnflcfmgaaGreatDoor
set_option linter.unusedSimpArgs false
set_option linter.unusedVariables false
set_option maxRecDepth 100000
set_option maxHeartbeats 1000000
namespace Go.Proofs.YtflfhbnflcfmgaaGreatDoor
open Go Go.SL Go.Pure Go.Tar
section
variable {h : Hp} {K : Value → Hp → Prop}
theorem T_trimLeftASCII {l : List Nat} (hb : Bytes l) (hl : l.length ≤ 9223372036854775807) {r : Nat} {p : Nat → Bool} (s : SetAt h r p) (k : K (.string (strL (l.dropWhile p))) h) : Cn P n_strings_trimLeftASCII #[.string (strL l), .pointer (some ⟨r, 0, none⟩)] h K := by
  refine Cn_wk (F_strings_trimLeftASCII ?_)
  unfold s_strings_trimLeftASCII
  refine Lp_mk (fun m vs H => ∃ l2 : List Nat, H = h ∧ l2.length = m ∧ Bytes l2 ∧ l2.length ≤ 9223372036854775807 ∧ l2.dropWhile p = l.dropWhile p ∧ vs = [.string (strL l2)]) l.length ⟨l, rfl, rfl, hb, hl, rfl, rfl⟩ ?_
  rintro m vs H ⟨l2, rfl, hm, b2, hl2, ht, rfl⟩
  have ln : ∀ {K : Value → Prop}, q P H (Builtin.len_ #[t_string] t_int #[.string (strL l2)]) K = K (.int .i64 (l2.length : Nat)) := fun {K} => q_lenSt u_string l2
  simp -zeta only [GL, List.getD_cons_zero, ln, gt0]
  cases l2 with
  | nil =>
    simp -zeta only [List.length_nil, Nat.lt_irrefl, decide_false, Bool.false_eq_true, if_false]
    rw [List.dropWhile_nil] at ht
    rw [ht]
    exact ⟨H, .refl _, k⟩
  | cons x l2 =>
    have e1 : decide (0 < (x :: l2).length) = true := decide_eq_true (by simp)
    simp -zeta only [e1, if_true]
    have i0 : (0 : Int) = ((0 : Nat) : Int) := rfl
    rw [i0, q_idxSt u_string b2 (by simp)]
    refine T_contains s (b2.getD 0) ?_
    simp -zeta only [GL]
    have gx : (x :: l2).getD 0 0 = x := rfl
    rw [gx]
    rw [List.dropWhile_cons] at ht
    cases hx : p x with
    | true =>
      rw [hx, if_pos rfl] at ht
      simp -zeta only [Bool.not_true, Bool.false_eq_true, if_false]
      have i1 : (1 : Int) = ((1 : Nat) : Int) := rfl
      rw [i1, q_slStL u_string _ (by simp)]
      exact ⟨H, .refl _, l2.length, by rw [List.length_cons] at hm; omega, l2, rfl, rfl, fun z hz => b2 z (by simp [hz]), by simp at hl2; omega, ht, rfl⟩
    | false =>
      rw [hx, if_neg (by simp)] at ht
      simp -zeta only [Bool.not_false, if_true]
      rw [ht]
      exact ⟨H, .refl _, k⟩
theorem T_TrimRight1 {l : List Nat} (hb : Bytes l) (hl : l.length ≤ 9223372036854775807) {c : Nat} (hc : c < 128) (k : K (.string (strL (trimR (· == c) l))) h) : Cn P n_strings_TrimRight #[.string (strL l), .string (strL [c])] h K := by
  refine F_strings_TrimRight ?_
  unfold s_strings_TrimRight
  have bc : Bytes [c] := fun x hx => by rw [List.mem_singleton.1 hx]; omega
  have en : Bytes ([] : List Nat) := by intro x hx; cases hx
  intro J2
  have qJ : J2 h := by
    simp -zeta only [J2]
    clear J2
    intro J7
    clear_value J7
    have i0 : (0 : Int) = ((0 : Nat) : Int) := rfl
    have e1 : (((([c] : List Nat).length : Nat) : Int) == 1) = true := rfl
    have e2 : decide (((([c] : List Nat).getD 0 0 : Nat) : Int) < 128) = true := decide_eq_true (by show ((c : Nat) : Int) < 128; omega)
    rw [q_lenSt u_string]
    simp -zeta only [GL, e1, if_true]
    rw [i0, q_idxSt u_string bc (by simp)]
    simp -zeta only [GL, e2, if_true]
    rw [q_idxSt u_string bc (by simp)]
    exact T_trimRightByte hb hl k
  clear_value J2
  rw [empS, q_eqlSt _ _ hb en]
  simp -zeta only [GL]
  by_cases z : l = []
  · subst z
    simp -zeta only [decide_true, Bool.true_eq_false, if_false, if_true]
    exact k
  · simp -zeta only [z, decide_false, if_true]
    rw [q_eqlSt _ _ bc en]
    simp -zeta only [GL, show decide ([c] = []) = false from rfl, Bool.false_eq_true, if_false]
    exact qJ
theorem set_row {r : Nat} {cs : List Value} {p : Nat → Bool} (hr : h r = some (.row t_strings_asciiSet cs 256 (some (0, 0)))) (hc : ∀ x, x < 256 → cs[x]? = some (.bool (p x))) : SetAt h r p := fun x hx => by rw [cell_row hr]; exact hc x hx
theorem T_TrimRightS {l set : List Nat} (hb : Bytes l) (hl : l.length ≤ 9223372036854775807) (hs : ∀ x ∈ set, x < 128) (h2 : 2 ≤ set.length) (h3 : set.length ≤ 1000) (k : K (.string (strL (trimR (fun x => decide (x ∈ set)) l))) h) : Cn P n_strings_TrimRight #[.string (strL l), .string (strL set)] h K := by
  refine Cn_wk (F_strings_TrimRight ?_)
  unfold s_strings_TrimRight
  have bc : Bytes set := fun x hx => by have := hs x hx; omega
  have en : Bytes ([] : List Nat) := by intro x hx; cases hx
  intro J2
  have qJ : J2 h := by
    simp -zeta only [J2]
    clear J2
    intro J7
    have q7 : J7 h := by
      simp -zeta only [J7]
      clear J7
      refine T_makeSet hs h3 fun cs lc hc => ?_
      rw [ext0, ext1]
      refine aw_allocL (List.replicate 256 (Value.bool false)) zr_set rfl fun r hr => ?_
      refine aw_storeRow (ys := cs) (by rw [lc]; exact z_strings_asciiSet) (Hp.set_same ..) (by rw [lc]; rfl) (fun y hy => ?_) (fun i _ => by simp) ?_
      · obtain ⟨j, hj, e⟩ := List.mem_iff_getElem.1 hy
        have := hc j (by omega)
        rw [List.getElem?_eq_getElem hj, e] at this
        cases this; rfl
      · rw [Hp.set_set]
        simp -zeta only [GL, if_true]
        refine T_trimRightASCII hb hl (set_row (Hp.set_same ..) hc) ?_
        exact ⟨h, le_fresh hr, k⟩
    clear_value J7
    have e1 : (((set.length : Nat) : Int) == 1) = false := by rw [beq_eq_false_iff_ne]; omega
    rw [q_lenSt u_string]
    simp -zeta only [GL, e1, Bool.false_eq_true, if_false]
    exact q7
  clear_value J2
  rw [empS, q_eqlSt _ _ hb en]
  simp -zeta only [GL]
  by_cases z : l = []
  · subst z
    simp -zeta only [decide_true, Bool.true_eq_false, if_false, if_true]
    exact ⟨h, .refl _, k⟩
  · have zs : set ≠ [] := by rintro rfl; simp at h2
    simp -zeta only [z, decide_false, if_true]
    rw [q_eqlSt _ _ bc en]
    simp -zeta only [GL, zs, decide_false, Bool.false_eq_true, if_false]
    exact qJ
theorem T_TrimS {l set : List Nat} (hb : Bytes l) (hl : l.length ≤ 9223372036854775807) (hs : ∀ x ∈ set, x < 128) (h2 : 2 ≤ set.length) (h3 : set.length ≤ 1000) (k : K (.string (strL ((trimR (fun x => decide (x ∈ set)) l).dropWhile (fun x => decide (x ∈ set))))) h) : Cn P n_strings_Trim #[.string (strL l), .string (strL set)] h K := by
  refine Cn_wk (F_strings_Trim ?_)
  unfold s_strings_Trim
  have bc : Bytes set := fun x hx => by have := hs x hx; omega
  have en : Bytes ([] : List Nat) := by intro x hx; cases hx
  intro J2
  have qJ : J2 h := by
    simp -zeta only [J2]
    clear J2
    intro J8
    have q8 : J8 (.bool false) h := by
      simp -zeta only [J8]
      clear J8
      simp -zeta only [GL, Bool.false_eq_true, if_false]
      refine T_makeSet hs h3 fun cs lc hc => ?_
      rw [ext0, ext1]
      refine aw_allocL (List.replicate 256 (Value.bool false)) zr_set rfl fun r hr => ?_
      refine aw_storeRow (ys := cs) (by rw [lc]; exact z_strings_asciiSet) (Hp.set_same ..) (by rw [lc]; rfl) (fun y hy => ?_) (fun i _ => by simp) ?_
      · obtain ⟨j, hj, e⟩ := List.mem_iff_getElem.1 hy
        have := hc j (by omega)
        rw [List.getElem?_eq_getElem hj, e] at this
        cases this; rfl
      · rw [Hp.set_set]
        simp -zeta only [GL, if_true]
        have st := set_row (h := h.set r (.row t_strings_asciiSet cs 256 (some (0, 0)))) (Hp.set_same ..) hc
        refine T_trimRightASCII hb hl st ?_
        have bt : Bytes (trimR (fun x => decide (x ∈ set)) l) := fun x hx => hb x (trimR_mem hx)
        have lt : (trimR (fun x => decide (x ∈ set)) l).length ≤ l.length := trimR_le _ _
        refine T_trimLeftASCII bt (by omega) st ?_
        exact ⟨h, le_fresh hr, k⟩
    clear_value J8
    have e1 : (((set.length : Nat) : Int) == 1) = false := by rw [beq_eq_false_iff_ne]; omega
    rw [q_lenSt u_string]
    simp -zeta only [GL, e1, Bool.false_eq_true, if_false]
    exact q8
  clear_value J2
  rw [empS, q_eqlSt _ _ hb en]
  simp -zeta only [GL]
  by_cases z : l = []
  · subst z
    simp -zeta only [decide_true, Bool.true_eq_false, if_false, if_true]
    exact ⟨h, .refl _, k⟩
  · have zs : set ≠ [] := by rintro rfl; simp at h2
    simp -zeta only [z, decide_false, if_true]
    rw [q_eqlSt _ _ bc en]
    simp -zeta only [GL, zs, decide_false, Bool.false_eq_true, if_false]
    exact qJ
/-- A field: a text with bytes 0 behind it. -/
theorem T_field {v : Value} {b : List Nat} (rv : Rn h .u8 v b) (hb : Bytes b) (hl : b.length ≤ 9223372036854775807) (k : K (.tuple #[.string (strL (fieldP b)), .bool (decide (0 ∉ fieldP b))]) h) : Cn P n_tar_field #[v] h K := by
  refine F_tar_field ?_
  unfold s_tar_field
  rw [q_str rv]
  refine T_TrimRight1 (c := 0) hb hl (by decide) ?_
  have bt : Bytes (trimR (· == 0) b) := fun x hx => hb x (trimR_mem hx)
  refine T_IndexByte (c := 0) bt (by decide) ?_
  have e : decide (idxB 0 (trimR (· == 0) b) < 0) = decide (0 ∉ fieldP b) := by
    rw [decide_eq_decide]
    show idxB 0 (fieldP b) < 0 ↔ _
    unfold idxB
    split <;> rename_i hm
    · exact ⟨fun q => by omega, fun q => absurd hm q⟩
    · exact ⟨fun _ => hm, fun _ => by omega⟩
  simp -zeta only [GL, e]
  exact k
end
end Go.Proofs.YtflfhbnflcfmgaaGreatDoor
set_option linter.unusedSimpArgs false
set_option linter.unusedVariables false
set_option maxRecDepth 100000
set_option maxHeartbeats 1000000
namespace Go.Proofs.YtflfhbnflcfmgaaGreatDoor
open Go Go.SL Go.Pure Go.Tar
theorem asc_len (l : List Nat) : (asc l).length = l.length := List.length_map ..
theorem asc_getD {l : List Nat} {i : Nat} (h : i < l.length) : (asc l).getD i 0 = l.getD i 0 + 48 := by
  rw [asc, List.getD_eq_getElem?_getD, List.getElem?_map, List.getD_eq_getElem?_getD, List.getElem?_eq_getElem h]; rfl
theorem asc_sub (l : List Nat) (h : ∀ x ∈ l, 48 ≤ x) : asc (l.map (· - 48)) = l := by
  rw [asc, List.map_map]
  conv => rhs; rw [← List.map_id l]
  exact List.map_congr_left fun x hx => by have := h x hx; simp; omega
theorem val_take (b : Nat) {ds : List Nat} {i : Nat} (h : i < ds.length) : valD b (ds.take (i + 1)) = valD b (ds.take i) * b + ds.getD i 0 := by
  rw [take_last h, valD_app]
  simp [valD]
theorem getD_memB {l : List Nat} {i : Nat} (h : i < l.length) : l.getD i 0 ∈ l := by
  rw [List.getD_eq_getElem?_getD, List.getElem?_eq_getElem h]; exact List.getElem_mem h
theorem trimR_all {p : Nat → Bool} {l : List Nat} (h : ∀ x ∈ l, p x = true) : trimR p l = [] := by
  have := trimR_app (p := p) [] l h
  rwa [List.nil_append] at this
theorem trimR_ext {p r : Nat → Bool} (h : ∀ x, p x = r x) (l : List Nat) : trimR p l = trimR r l := by rw [funext h]
theorem setP0 (x : Nat) : decide (x ∈ [0, 32]) = isB x := by
  rw [Bool.eq_iff_iff]; simp [isB]
theorem setP8 (x : Nat) : decide (x ∈ [48, 49, 50, 51, 52, 53, 54, 55]) = is8 x := by
  rw [is8, decide_eq_decide]; simp; omega
theorem und_error : P.underlying t_error = some (.interface (match P.underlying t_error with | some (.interface ms) => ms | _ => #[])) := by kernel_rfl
theorem eqNilE {h : Hp} : peek P h (Op.equal t_error .nilIface .nilIface) = some true := by
  show peek P h (Sem.bind (underlying t_error) _) = _
  rw [peek_bind, pk_und und_error]
  rfl
theorem q_neqNilE {h : Hp} {K : Value → Prop} (x : Operand) (c : Value) : q P h (eqop .neq t_error x (.const c) .nilIface .nilIface) K = K (.bool false) := q_of (by
  unfold eqop
  rw [peek_bind]
  have : peek P h (eqGuard .neq t_error x (.const c) .nilIface .nilIface) = some () := by cases x <;> rfl
  rw [this, Option.bind_some]
  show peek P h (Sem.bind (Op.equal t_error .nilIface .nilIface) _) = _
  rw [peek_bind, eqNilE]
  rfl) K
theorem q_eqlNilE {h : Hp} {K : Value → Prop} (x : Operand) (c : Value) : q P h (eqop .eql t_error x (.const c) .nilIface .nilIface) K = K (.bool true) := q_of (by
  unfold eqop
  rw [peek_bind]
  have : peek P h (eqGuard .eql t_error x (.const c) .nilIface .nilIface) = some () := by cases x <;> rfl
  rw [this, Option.bind_some]
  show peek P h (Sem.bind (Op.equal t_error .nilIface .nilIface) _) = _
  rw [peek_bind, eqNilE]
  rfl) K
section
variable {h : Hp} {K : Value → Hp → Prop}
theorem T_PU11 {ds : List Nat} (hd : ∀ x ∈ ds, x < 8) (hl : ds.length ≤ 11) {s0 : Value} (k : K (.tuple #[.int .u64 ((valD 8 ds : Nat) : Int), .nilIface]) h) :
    s_strconv_ParseUint_11 (fun v h' => ∃ h0, Hp.le h0 h' ∧ K v h0) h (.string (strL (asc ds))) (.int .i64 8) (.int .u64 0) .nilIface (.bool false) s0 (.int .u64 2305843009213693952) (.int .u64 18446744073709551615) (.bool false) (.int .u64 0) := by
  unfold s_strconv_ParseUint_11
  refine aw_stB u_string u_Sl_uint8 u_uint8 (asc_bytes fun x hx => by have := hd x hx; omega) fun w h1 nw => ?_
  have le1 := nw.ext.le
  have r : Rn h1 .u8 w (asc ds) := nw.rds
  obtain ⟨a, c, rfl, hc⟩ := r.shape
  rw [asc_len] at *
  simp -zeta only [RL]
  refine Lp_mk (fun m vs H => ∃ i : Nat, i + m = ds.length ∧ H = h1 ∧ vs = [.bool false, .int .u64 0, .nilIface, .int .u64 ((valD 8 (ds.take i) : Nat) : Int), .int .i64 (i : Int)]) ds.length ⟨0, by omega, rfl, rfl⟩ ?_
  rintro m vs H ⟨i, hi, rfl, rfl⟩
  simp -zeta only [GL, List.getD_cons_zero, List.getD_cons_succ, lt_dec]
  by_cases hlt : i < ds.length
  · simp -zeta only [hlt, decide_true, if_true]
    obtain ⟨b, o, rfl, hy⟩ := r.pos (by rw [asc_len]; omega)
    have hx := hy i (by rw [asc_len]; exact hlt)
    rw [asc_getD hlt] at hx
    have h8 := hd _ (getD_memB hlt)
    have hv : valD 8 (ds.take i) < 8 ^ 11 := Nat.lt_of_lt_of_le (valD_lt (by decide) _ fun x hx => hd x (List.mem_of_mem_take hx)) (Nat.pow_le_pow_right (by decide) (by rw [List.length_take]; omega))
    have h11 : 8 ^ 11 = 8589934592 := by decide
    generalize hdd : ds.getD i 0 = d at *
    generalize hnn : valD 8 (ds.take i) = n at *
    have e95 : (((d + 48 : Nat) : Int) == 95) = false := by rw [beq_eq_false_iff_ne]; omega
    have l48 : decide ((48 : Int) ≤ ((d + 48 : Nat) : Int)) = true := decide_eq_true (by omega)
    have l57 : decide (((d + 48 : Nat) : Int) ≤ 57) = true := decide_eq_true (by omega)
    have w1 : IntKind.u8.wrap (((d + 48 : Nat) : Int) - 48) = (d : Int) := by simp [IntKind.wrap, IntKind.bits, IntKind.signed]; omega
    have w2 : IntKind.u8.wrap (8 : Int) = 8 := by decide
    have w3 : IntKind.u64.wrap (8 : Int) = 8 := by decide
    have w4 : IntKind.u64.wrap ((n : Int) * 8) = ((n * 8 : Nat) : Int) := by rw [wu64i (by omega) (by omega)]; omega
    have w5 : IntKind.u64.wrap (d : Int) = (d : Int) := wu64i (by omega) (by omega)
    have w6 : IntKind.u64.wrap (((n * 8 : Nat) : Int) + (d : Int)) = ((n * 8 + d : Nat) : Int) := by rw [wu64i (by omega) (by omega)]; omega
    have w7 : IntKind.i64.wrap ((i : Int) + 1) = ((i + 1 : Nat) : Int) := by rw [wi64 (by omega) (by omega)]; omega
    have g1 : decide ((8 : Int) ≤ (d : Int)) = false := decide_eq_false (by omega)
    have g2 : decide ((2305843009213693952 : Int) ≤ (n : Int)) = false := decide_eq_false (by omega)
    have g3 : decide (((n * 8 + d : Nat) : Int) < ((n * 8 : Nat) : Int)) = false := decide_eq_false (by omega)
    have g4 : decide ((18446744073709551615 : Int) < ((n * 8 + d : Nat) : Int)) = false := decide_eq_false (by omega)
    simp -zeta (disch := omega) only [GL, RL, hx, e95, Int.toNat_natCast]
    intro J30 J31
    have q31 : J31 (.bool false) H := by
      simp -zeta only [J31]
      clear J31
      simp -zeta only [GL, Bool.false_eq_true, if_false]
      intro J33
      have q33 : J33 (.bool true) H := by
        simp -zeta only [J33]
        clear J33
        simp -zeta only [GL, if_true, w1]
        simp -zeta only [J30]
        clear J30
        simp -zeta only [GL, RL, w2, w3, w4, w5, w6, w7, g1, g2, g3, g4, Bool.false_eq_true, if_false, if_true]
        refine ⟨_, .refl _, m - 1, by omega, i + 1, by omega, rfl, ?_⟩
        rw [val_take 8 hlt, hnn, hdd]
      clear_value J33
      simp -zeta only [l48, l57, GL, if_true]
      exact q33
    clear_value J31
    simp -zeta only [Bool.false_eq_true, if_false]
    exact q31
  · simp -zeta only [hlt, decide_false, Bool.false_eq_true, if_false]
    rw [List.take_of_length_le (by omega)]
    unfold s_strconv_ParseUint_12
    simp -zeta only [GL, Bool.false_eq_true, if_false]
    unfold s_strconv_ParseUint_13 s_strconv_ParseUint_14
    exact ⟨h, le1, k⟩
theorem T_ParseUint8 {ds : List Nat} (hd : ∀ x ∈ ds, x < 8) (hl : ds.length ≤ 11) (h0 : ds ≠ []) (k : K (.tuple #[.int .u64 ((valD 8 ds : Nat) : Int), .nilIface]) h) :
    Cn P n_strconv_ParseUint #[.string (strL (asc ds)), .int .i64 8, .int .i64 64] h K := by
  refine Cn_wk (F_strconv_ParseUint ?_)
  have hb : Bytes (asc ds) := asc_bytes fun x hx => by have := hd x hx; omega
  have en : Bytes ([] : List Nat) := by intro x hx; cases hx
  have ha : asc ds ≠ [] := by rw [asc]; simpa using h0
  unfold s_strconv_ParseUint s_strconv_ParseUint_1
  rw [empS, q_eqlSt _ _ hb en]
  simp -zeta only [GL, ha, decide_false, Bool.false_eq_true, if_false]
  unfold s_strconv_ParseUint_2
  simp -zeta only [GL, show ((8 : Int) == 0) = false from rfl]
  unfold s_strconv_ParseUint_3 s_strconv_ParseUint_4
  intro J3
  have q3 : J3 (.bool true) h := by
    simp -zeta only [J3]
    clear J3
    simp -zeta only [GL, if_true]
    unfold s_strconv_ParseUint_5
    simp -zeta only [GL, show ((64 : Int) == 0) = false from rfl, show decide ((64 : Int) < 0) = false from rfl, show decide ((64 : Int) < 64) = false from rfl, Bool.false_eq_true, if_false, if_true]
    unfold s_strconv_ParseUint_6 s_strconv_ParseUint_7
    have q1 : IntKind.u64.wrap ((18446744073709551615 : Int).tdiv 8) = 2305843009213693951 := by decide
    have q2 : IntKind.u64.wrap ((2305843009213693951 : Int) + 1) = 2305843009213693952 := by decide
    simp -zeta (disch := decide) only [GL, RL, show ((8 : Int) == 10) = false from rfl, show ((8 : Int) == 16) = false from rfl, Bool.false_eq_true, if_false, show IntKind.u64.wrap (8 : Int) = 8 from by decide, q1, q2]
    unfold s_strconv_ParseUint_8
    have q3 : IntKind.u64.wrap ((1 : Int) * 2 ^ min (64 : Int).toNat IntKind.u64.bits) = 0 := by decide
    have q4 : IntKind.u64.wrap ((0 : Int) - 1) = 18446744073709551615 := by decide
    simp -zeta (disch := decide) only [GL, RL, show IntKind.u64.wrap (64 : Int) = 64 from by decide, q3, q4]
    unfold s_strconv_ParseUint_9 s_strconv_ParseUint_10
    exact T_PU11 hd hl k
  clear_value J3
  simp -zeta only [GL, show decide ((2 : Int) ≤ 8) = true from rfl, show decide ((8 : Int) ≤ 36) = true from rfl, if_true]
  exact q3
theorem T_ParseInt8 {ds : List Nat} (hd : ∀ x ∈ ds, x < 8) (hl : ds.length ≤ 11) (h0 : ds ≠ []) (k : K (.tuple #[.int .i64 ((valD 8 ds : Nat) : Int), .nilIface]) h) :
    Cn P n_strconv_ParseInt_63 #[.string (strL (asc ds)), .int .i64 8, .int .i64 64] h K := by
  have hb : Bytes (asc ds) := asc_bytes fun x hx => by have := hd x hx; omega
  have en : Bytes ([] : List Nat) := by intro x hx; cases hx
  have ha : asc ds ≠ [] := by rw [asc]; simpa using h0
  have hp : 0 < ds.length := List.length_pos_iff.2 h0
  have hv : valD 8 ds < 8 ^ 11 := Nat.lt_of_lt_of_le (valD_lt (by decide) _ hd) (Nat.pow_le_pow_right (by decide) hl)
  have h11 : 8 ^ 11 = 8589934592 := by decide
  refine F_strconv_ParseInt_63 ?_
  unfold s_strconv_ParseInt_63
  refine F_strconv_ParseInt_81 ?_
  unfold s_strconv_ParseInt_81
  rw [empS, q_eqlSt _ _ hb en]
  simp -zeta only [GL, ha, decide_false, Bool.false_eq_true, if_false]
  intro J6
  have q6 : J6 (.string (strL (asc ds))) (.bool false) h := by
    simp -zeta only [J6]
    clear J6
    refine T_ParseUint8 hd hl h0 ?_
    rw [ext0, ext1]
    intro J13
    have q13 : J13 h := by
      simp -zeta only [J13]
      clear J13
      intro J18
      have q18 : J18 (.int .i64 64) h := by
        simp -zeta only [J18]
        clear J18
        have q3 : IntKind.u64.wrap ((1 : Int) * 2 ^ min (63 : Int).toNat IntKind.u64.bits) = 9223372036854775808 := by decide
        simp -zeta (disch := decide) only [GL, RL, show IntKind.i64.wrap ((64 : Int) - 1) = 63 from by decide, show IntKind.u64.wrap (63 : Int) = 63 from by decide, q3]
        generalize valD 8 ds = n at *
        have g1 : decide ((9223372036854775808 : Int) ≤ (n : Int)) = false := decide_eq_false (by omega)
        simp -zeta only [GL, RL, g1, Bool.not_false, Bool.false_eq_true, if_false, if_true, wi64 (show (-9223372036854775808 : Int) ≤ (n : Int) by omega) (by omega)]
        intro J22
        have q22 : J22 (.bool false) h := by
          simp -zeta only [J22]
          clear J22
          simp -zeta only [GL, Bool.false_eq_true, if_false]
          intro J25
          have q25 : J25 (.bool false) h := by
            simp -zeta only [J25]
            clear J25
            simp -zeta only [GL, Bool.false_eq_true, if_false, ext0, ext1, q_neqNilE]
            exact k
          exact q25
        exact q22
      clear_value J18
      simp -zeta only [GL, show ((64 : Int) == 0) = false from rfl, Bool.false_eq_true, if_false]
      exact q18
    clear_value J13
    simp -zeta only [q_neqNilE, GL, Bool.false_eq_true, if_false]
    exact q13
  clear_value J6
  have i0 : (0 : Int) = ((0 : Nat) : Int) := rfl
  have h8 := hd _ (getD_memB hp)
  rw [i0, q_idxSt u_string hb (by rw [asc_len]; exact hp), asc_getD hp]
  have e43 : (((ds.getD 0 0 + 48 : Nat) : Int) == 43) = false := by rw [beq_eq_false_iff_ne]; omega
  have e45 : (((ds.getD 0 0 + 48 : Nat) : Int) == 45) = false := by rw [beq_eq_false_iff_ne]; omega
  simp -zeta only [GL, e43, e45, Bool.false_eq_true, if_false]
  exact q6
/-- A number, where one stands. -/
theorem T_number {v : Value} {b : List Nat} (rv : Rn h .u8 v b) (hb : Bytes b) (hl : b.length ≤ 9223372036854775807) {n : Nat} (e : numP b = some n) (k : K (.tuple #[.int .i64 (n : Int), .bool true]) h) : Cn P n_tar_number #[v] h K := by
  refine F_tar_number ?_
  unfold s_tar_number
  rw [q_str rv]
  unfold numP at e
  split at e
  · cases e
  rename_i g
  rw [not_or, not_or] at g
  obtain ⟨g1, g2, g3⟩ := g
  injection e with e
  have s32 : (⟨#[0, 32]⟩ : ByteArray) = strL [0, 32] := rfl
  have s8 : (⟨#[48, 49, 50, 51, 52, 53, 54, 55]⟩ : ByteArray) = strL [48, 49, 50, 51, 52, 53, 54, 55] := rfl
  rw [s32]
  refine T_TrimRightS (set := [0, 32]) hb hl (by decide) (by decide) (by decide) ?_
  rw [trimR_ext setP0]
  have bt : Bytes (trimR isB b) := fun x hx => hb x (trimR_mem hx)
  have all8 : ∀ x ∈ trimR isB b, is8 x = true := List.all_eq_true.1 (by simpa using g3)
  generalize trimR isB b = s at *
  have en : Bytes ([] : List Nat) := by intro x hx; cases hx
  have hs : s = asc (s.map (· - 48)) := (asc_sub s fun x hx => by have := all8 x hx; simp [is8] at this; omega).symm
  intro J3
  have q3 : J3 h := by
    simp -zeta only [J3]
    clear J3
    have k' := k
    rw [← e] at k'
    rw [hs]
    refine T_ParseInt8 (fun x hx => ?_) (by rw [List.length_map]; omega) (by simpa using g1) ?_
    · obtain ⟨y, hy, rfl⟩ := List.mem_map.1 hx
      have := all8 y hy
      simp [is8] at this
      omega
    · rw [ext0, ext1]
      simp -zeta only [q_eqlNilE]
      exact k'
  clear_value J3
  have g11 : decide ((11 : Int) < ((s.length : Nat) : Int)) = false := decide_eq_false (by omega)
  rw [empS, q_eqlSt _ _ bt en, q_lenSt u_string, s8]
  simp -zeta only [GL, g1, g11, decide_false, Bool.false_eq_true, if_false, if_true]
  refine T_TrimS (set := [48, 49, 50, 51, 52, 53, 54, 55]) bt (by omega) (by decide) (by decide) (by decide) ?_
  rw [trimR_all (fun x hx => by rw [setP8]; exact all8 x hx), List.dropWhile_nil, q_neqSt _ _ en en]
  simp -zeta only [GL, ne_eq, not_true_eq_false, decide_false, Bool.false_eq_true, if_false]
  exact q3
end
end Go.Proofs.YtflfhbnflcfmgaaGreatDoor
