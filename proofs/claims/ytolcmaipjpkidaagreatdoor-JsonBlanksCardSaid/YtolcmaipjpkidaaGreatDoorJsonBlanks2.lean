/- jsonBlanks_holds jsonBlanks proved lifted over: part 2 of its proof; each part's own remarks stand with its declarations. Conditions: each lemma names its own. -/
import Derived.Test.YtolcmaipjpkidaaGreatDoorJsonBlanks1
import GoSem.PinnedTables
set_option linter.unusedSimpArgs false
set_option linter.unusedVariables false
set_option maxRecDepth 100000
set_option maxHeartbeats 1000000
namespace Go.Proofs.YtolcmaipjpkidaaGreatDoor
open Go Go.SL
/-- function 209: unicode.utf8.decodeRuneInStringSlow -/
def s_utf8_decodeRuneInStringSlow_18 (K : Value → Hp → Prop) (h : Hp) (t2 t3 : Value) : Prop := K (Value.tuple #[t2, t3]) h
def s_utf8_decodeRuneInStringSlow_17 (K : Value → Hp → Prop) (h : Hp) (t2 t3 t5 t10 t11 t12 : Value) : Prop := q P h (binOp .and 5 t5 (Value.int .u8 7)) fun t100 => q P h (convert 5 21 t100) fun t101 => q P h (binOp .shl 21 t101 (Value.int .u64 18)) fun t102 => q P h (binOp .and 5 t10 (Value.int .u8 63)) fun t104 => q P h (convert 5 21 t104) fun t105 => q P h (binOp .shl 21 t105 (Value.int .u64 12)) fun t106 => q P h (binOp .or 21 t102 t106) fun t107 => q P h (binOp .and 5 t11 (Value.int .u8 63)) fun t109 => q P h (convert 5 21 t109) fun t110 => q P h (binOp .shl 21 t110 (Value.int .u64 6)) fun t111 => q P h (binOp .or 21 t107 t111) fun t112 => q P h (binOp .and 5 t12 (Value.int .u8 63)) fun t114 => q P h (convert 5 21 t114) fun t115 => q P h (binOp .or 21 t112 t115) fun t116 => s_utf8_decodeRuneInStringSlow_18 K h t116 (Value.int .i64 4)
def s_utf8_decodeRuneInStringSlow_16 (K : Value → Hp → Prop) (h : Hp) (t2 t3 t5 t10 t11 t12 : Value) : Prop := q P h (binOp .lss 5 t12 (Value.int .u8 128)) fun t94 => gd t94 false (q P h (binOp .lss 5 (Value.int .u8 191) t12) fun t97 => cnd t97 (K (Value.tuple #[(Value.int .i32 65533), (Value.int .i64 1)]) h) (s_utf8_decodeRuneInStringSlow_17 K h t2 t3 t5 t10 t11 t12)) (cnd (Value.bool true) (K (Value.tuple #[(Value.int .i32 65533), (Value.int .i64 1)]) h) (s_utf8_decodeRuneInStringSlow_17 K h t2 t3 t5 t10 t11 t12))
def s_utf8_decodeRuneInStringSlow_15 (K : Value → Hp → Prop) (h : Hp) (t0 t2 t3 t5 t10 t11 : Value) : Prop := q P h (Instr.index 9 t0 (Value.int .i64 3)) fun t92 => s_utf8_decodeRuneInStringSlow_16 K h t2 t3 t5 t10 t11 t92
def s_utf8_decodeRuneInStringSlow_14 (K : Value → Hp → Prop) (h : Hp) (t0 t2 t3 t5 t8 t10 t11 : Value) : Prop := q P h (binOp .leq 3 t8 (Value.int .i64 3)) fun t77 => cnd t77 (q P h (binOp .and 5 t5 (Value.int .u8 15)) fun t79 => q P h (convert 5 21 t79) fun t80 => q P h (binOp .shl 21 t80 (Value.int .u64 12)) fun t81 => q P h (binOp .and 5 t10 (Value.int .u8 63)) fun t83 => q P h (convert 5 21 t83) fun t84 => q P h (binOp .shl 21 t84 (Value.int .u64 6)) fun t85 => q P h (binOp .or 21 t81 t85) fun t86 => q P h (binOp .and 5 t11 (Value.int .u8 63)) fun t88 => q P h (convert 5 21 t88) fun t89 => q P h (binOp .or 21 t86 t89) fun t90 => K (Value.tuple #[t90, (Value.int .i64 3)]) h) (s_utf8_decodeRuneInStringSlow_15 K h t0 t2 t3 t5 t10 t11)
def s_utf8_decodeRuneInStringSlow_13 (K : Value → Hp → Prop) (h : Hp) (t0 t2 t3 t5 t8 t10 t11 : Value) : Prop := q P h (binOp .lss 5 t11 (Value.int .u8 128)) fun t71 => gd t71 false (q P h (binOp .lss 5 (Value.int .u8 191) t11) fun t74 => cnd t74 (K (Value.tuple #[(Value.int .i32 65533), (Value.int .i64 1)]) h) (s_utf8_decodeRuneInStringSlow_14 K h t0 t2 t3 t5 t8 t10 t11)) (cnd (Value.bool true) (K (Value.tuple #[(Value.int .i32 65533), (Value.int .i64 1)]) h) (s_utf8_decodeRuneInStringSlow_14 K h t0 t2 t3 t5 t8 t10 t11))
def s_utf8_decodeRuneInStringSlow_12 (K : Value → Hp → Prop) (h : Hp) (t0 t2 t3 t5 t8 t10 : Value) : Prop := q P h (Instr.index 9 t0 (Value.int .i64 2)) fun t69 => s_utf8_decodeRuneInStringSlow_13 K h t0 t2 t3 t5 t8 t10 t69
def s_utf8_decodeRuneInStringSlow_11 (K : Value → Hp → Prop) (h : Hp) (t0 t2 t3 t5 t8 t10 : Value) : Prop := q P h (binOp .leq 3 t8 (Value.int .i64 2)) fun t59 => cnd t59 (q P h (binOp .and 5 t5 (Value.int .u8 31)) fun t61 => q P h (convert 5 21 t61) fun t62 => q P h (binOp .shl 21 t62 (Value.int .u64 6)) fun t63 => q P h (binOp .and 5 t10 (Value.int .u8 63)) fun t65 => q P h (convert 5 21 t65) fun t66 => q P h (binOp .or 21 t63 t66) fun t67 => K (Value.tuple #[t67, (Value.int .i64 2)]) h) (s_utf8_decodeRuneInStringSlow_12 K h t0 t2 t3 t5 t8 t10)
def s_utf8_decodeRuneInStringSlow_10 (K : Value → Hp → Prop) (h : Hp) (t0 t2 t3 t5 t8 t9 t10 : Value) : Prop := q P h (Instr.fieldAt 166 t9 0) fun t49 => q P h (Instr.loadAt 5 t49) fun t50 => q P h (binOp .lss 5 t10 t50) fun t51 => gd t51 false (q P h (Instr.fieldAt 166 t9 1) fun t53 => q P h (Instr.loadAt 5 t53) fun t54 => q P h (binOp .lss 5 t54 t10) fun t56 => cnd t56 (K (Value.tuple #[(Value.int .i32 65533), (Value.int .i64 1)]) h) (s_utf8_decodeRuneInStringSlow_11 K h t0 t2 t3 t5 t8 t10)) (cnd (Value.bool true) (K (Value.tuple #[(Value.int .i32 65533), (Value.int .i64 1)]) h) (s_utf8_decodeRuneInStringSlow_11 K h t0 t2 t3 t5 t8 t10))
def s_utf8_decodeRuneInStringSlow_9 (K : Value → Hp → Prop) (h : Hp) (t0 t2 t3 t5 t8 t9 : Value) : Prop := q P h (Instr.index 9 t0 (Value.int .i64 1)) fun t47 => s_utf8_decodeRuneInStringSlow_10 K h t0 t2 t3 t5 t8 t9 t47
def s_utf8_decodeRuneInStringSlow_8 (K : Value → Hp → Prop) (h : Hp) (t0 t2 t3 t4 t5 t8 t9 : Value) : Prop := q P h (binOp .lss 3 t4 t8) fun t45 => cnd t45 (K (Value.tuple #[(Value.int .i32 65533), (Value.int .i64 1)]) h) (s_utf8_decodeRuneInStringSlow_9 K h t0 t2 t3 t5 t8 t9)
def s_utf8_decodeRuneInStringSlow_7 (K : Value → Hp → Prop) (h : Hp) (t0 t2 t3 t4 t5 t6 t8 : Value) : Prop := q P h (binOp .shr 5 t6 (Value.int .u64 4)) fun t40 => q P h (Instr.indexAt 167 (Value.pointer (some ⟨1, 0, none⟩)) t40) fun t41 => q P h (Instr.loadAt 166 t41) fun t42 => aw P (Instr.alloc 166 true (.tuple #[])) (fun t9 h => aw P (Instr.storeAt 166 t9 t42) (fun _ h => s_utf8_decodeRuneInStringSlow_8 K h t0 t2 t3 t4 t5 t8 t9) h) h
def s_utf8_decodeRuneInStringSlow_6 (K : Value → Hp → Prop) (h : Hp) (t0 t2 t3 t4 t5 t6 : Value) : Prop := q P h (binOp .and 5 t6 (Value.int .u8 7)) fun t37 => q P h (convert 5 3 t37) fun t38 => s_utf8_decodeRuneInStringSlow_7 K h t0 t2 t3 t4 t5 t6 t38
def s_utf8_decodeRuneInStringSlow_5 (K : Value → Hp → Prop) (h : Hp) (t0 t2 t3 t4 t5 t6 : Value) : Prop := q P h (binOp .geq 5 t6 (Value.int .u8 240)) fun t23 => cnd t23 (q P h (convert 5 21 t6) fun t25 => q P h (binOp .shl 21 t25 (Value.int .u64 31)) fun t26 => q P h (binOp .shr 21 t26 (Value.int .u64 31)) fun t27 => q P h (Instr.index 9 t0 (Value.int .i64 0)) fun t29 => q P h (convert 5 21 t29) fun t30 => q P h (binOp .andNot 21 t30 t27) fun t32 => q P h (binOp .and 21 (Value.int .i32 65533) t27) fun t34 => q P h (binOp .or 21 t32 t34) fun t35 => K (Value.tuple #[t35, (Value.int .i64 1)]) h) (s_utf8_decodeRuneInStringSlow_6 K h t0 t2 t3 t4 t5 t6)
def s_utf8_decodeRuneInStringSlow_4 (K : Value → Hp → Prop) (h : Hp) (t0 t2 t3 t4 t5 : Value) : Prop := q P h (Instr.indexAt 164 (Value.pointer (some ⟨0, 0, none⟩)) t5) fun t20 => q P h (Instr.loadAt 5 t20) fun t21 => s_utf8_decodeRuneInStringSlow_5 K h t0 t2 t3 t4 t5 t21
def s_utf8_decodeRuneInStringSlow_3 (K : Value → Hp → Prop) (h : Hp) (t0 t2 t3 t4 : Value) : Prop := q P h (Instr.index 9 t0 (Value.int .i64 0)) fun t18 => s_utf8_decodeRuneInStringSlow_4 K h t0 t2 t3 t4 t18
def s_utf8_decodeRuneInStringSlow_2 (K : Value → Hp → Prop) (h : Hp) (t0 t2 t3 t4 : Value) : Prop := q P h (binOp .lss 3 t4 (Value.int .i64 1)) fun t16 => cnd t16 (K (Value.tuple #[(Value.int .i32 65533), (Value.int .i64 0)]) h) (s_utf8_decodeRuneInStringSlow_3 K h t0 t2 t3 t4)
def s_utf8_decodeRuneInStringSlow_1 (K : Value → Hp → Prop) (h : Hp) (t0 t2 t3 : Value) : Prop := q P h (Builtin.len_ #[9] 3 #[t0]) fun t14 => s_utf8_decodeRuneInStringSlow_2 K h t0 t2 t3 t14
def s_utf8_decodeRuneInStringSlow (K : Value → Hp → Prop) (h : Hp) (t0 : Value) : Prop := s_utf8_decodeRuneInStringSlow_1 K h t0 (Value.int .i32 0) (Value.int .i64 0)
theorem c_utf8_decodeRuneInStringSlow_18 {K : Value → Hp → Prop} {h : Hp} {t2 t3 : Value} (s : s_utf8_decodeRuneInStringSlow_18 K h t2 t3) : SV P Tryz.f209.ntmps (seqR (seqR (seqR (seqR (seqR (seqR (seqR (seqR (seqR (seqR (seqR (seqR (seqR (seqR (seqR (seqR (seqR (seqR (Tryz.f209.body.getD .skip))))))))))))))))))) (retP P Tryz.f209.results.toList K) (headOf [2, 3] [t2, t3]) h :=
  SV_of mixed (by kernel_rfl) s
theorem c_utf8_decodeRuneInStringSlow_17 {K : Value → Hp → Prop} {h : Hp} {t2 t3 t5 t10 t11 t12 : Value} (s : s_utf8_decodeRuneInStringSlow_17 K h t2 t3 t5 t10 t11 t12) : SV P Tryz.f209.ntmps (seqR (seqR (seqR (seqR (seqR (seqR (seqR (seqR (seqR (seqR (seqR (seqR (seqR (seqR (seqR (seqR (seqR (Tryz.f209.body.getD .skip)))))))))))))))))) (retP P Tryz.f209.results.toList K) (headOf [2, 3, 5, 10, 11, 12] [t2, t3, t5, t10, t11, t12]) h :=
  cut_at mixed (by kernel_rfl) [2, 3] (fun vs h => s_utf8_decodeRuneInStringSlow_18 K h (vs.getD 0 undef) (vs.getD 1 undef)) (fun vs h _ x => Eq.mp (by kernel_rfl) (c_utf8_decodeRuneInStringSlow_18 x)) (by kernel_rfl) s
theorem c_utf8_decodeRuneInStringSlow_16 {K : Value → Hp → Prop} {h : Hp} {t2 t3 t5 t10 t11 t12 : Value} (s : s_utf8_decodeRuneInStringSlow_16 K h t2 t3 t5 t10 t11 t12) : SV P Tryz.f209.ntmps (seqR (seqR (seqR (seqR (seqR (seqR (seqR (seqR (seqR (seqR (seqR (seqR (seqR (seqR (seqR (seqR (Tryz.f209.body.getD .skip))))))))))))))))) (retP P Tryz.f209.results.toList K) (headOf [2, 3, 5, 10, 11, 12] [t2, t3, t5, t10, t11, t12]) h :=
  cut_at mixed (by kernel_rfl) [2, 3, 5, 10, 11, 12] (fun vs h => s_utf8_decodeRuneInStringSlow_17 K h (vs.getD 0 undef) (vs.getD 1 undef) (vs.getD 2 undef) (vs.getD 3 undef) (vs.getD 4 undef) (vs.getD 5 undef)) (fun vs h _ x => Eq.mp (by kernel_rfl) (c_utf8_decodeRuneInStringSlow_17 x)) (by kernel_rfl) s
theorem c_utf8_decodeRuneInStringSlow_15 {K : Value → Hp → Prop} {h : Hp} {t0 t2 t3 t5 t10 t11 : Value} (s : s_utf8_decodeRuneInStringSlow_15 K h t0 t2 t3 t5 t10 t11) : SV P Tryz.f209.ntmps (seqR (seqR (seqR (seqR (seqR (seqR (seqR (seqR (seqR (seqR (seqR (seqR (seqR (seqR (seqR (Tryz.f209.body.getD .skip)))))))))))))))) (retP P Tryz.f209.results.toList K) (headOf [0, 2, 3, 5, 10, 11] [t0, t2, t3, t5, t10, t11]) h :=
  cut_at mixed (by kernel_rfl) [2, 3, 5, 10, 11, 12] (fun vs h => s_utf8_decodeRuneInStringSlow_16 K h (vs.getD 0 undef) (vs.getD 1 undef) (vs.getD 2 undef) (vs.getD 3 undef) (vs.getD 4 undef) (vs.getD 5 undef)) (fun vs h _ x => Eq.mp (by kernel_rfl) (c_utf8_decodeRuneInStringSlow_16 x)) (by kernel_rfl) s
theorem c_utf8_decodeRuneInStringSlow_14 {K : Value → Hp → Prop} {h : Hp} {t0 t2 t3 t5 t8 t10 t11 : Value} (s : s_utf8_decodeRuneInStringSlow_14 K h t0 t2 t3 t5 t8 t10 t11) : SV P Tryz.f209.ntmps (seqR (seqR (seqR (seqR (seqR (seqR (seqR (seqR (seqR (seqR (seqR (seqR (seqR (seqR (Tryz.f209.body.getD .skip))))))))))))))) (retP P Tryz.f209.results.toList K) (headOf [0, 2, 3, 5, 8, 10, 11] [t0, t2, t3, t5, t8, t10, t11]) h :=
  cut_at mixed (by kernel_rfl) [0, 2, 3, 5, 10, 11] (fun vs h => s_utf8_decodeRuneInStringSlow_15 K h (vs.getD 0 undef) (vs.getD 1 undef) (vs.getD 2 undef) (vs.getD 3 undef) (vs.getD 4 undef) (vs.getD 5 undef)) (fun vs h _ x => Eq.mp (by kernel_rfl) (c_utf8_decodeRuneInStringSlow_15 x)) (by kernel_rfl) s
theorem c_utf8_decodeRuneInStringSlow_13 {K : Value → Hp → Prop} {h : Hp} {t0 t2 t3 t5 t8 t10 t11 : Value} (s : s_utf8_decodeRuneInStringSlow_13 K h t0 t2 t3 t5 t8 t10 t11) : SV P Tryz.f209.ntmps (seqR (seqR (seqR (seqR (seqR (seqR (seqR (seqR (seqR (seqR (seqR (seqR (seqR (Tryz.f209.body.getD .skip)))))))))))))) (retP P Tryz.f209.results.toList K) (headOf [0, 2, 3, 5, 8, 10, 11] [t0, t2, t3, t5, t8, t10, t11]) h :=
  cut_at mixed (by kernel_rfl) [0, 2, 3, 5, 8, 10, 11] (fun vs h => s_utf8_decodeRuneInStringSlow_14 K h (vs.getD 0 undef) (vs.getD 1 undef) (vs.getD 2 undef) (vs.getD 3 undef) (vs.getD 4 undef) (vs.getD 5 undef) (vs.getD 6 undef)) (fun vs h _ x => Eq.mp (by kernel_rfl) (c_utf8_decodeRuneInStringSlow_14 x)) (by kernel_rfl) s
theorem c_utf8_decodeRuneInStringSlow_12 {K : Value → Hp → Prop} {h : Hp} {t0 t2 t3 t5 t8 t10 : Value} (s : s_utf8_decodeRuneInStringSlow_12 K h t0 t2 t3 t5 t8 t10) : SV P Tryz.f209.ntmps (seqR (seqR (seqR (seqR (seqR (seqR (seqR (seqR (seqR (seqR (seqR (seqR (Tryz.f209.body.getD .skip))))))))))))) (retP P Tryz.f209.results.toList K) (headOf [0, 2, 3, 5, 8, 10] [t0, t2, t3, t5, t8, t10]) h :=
  cut_at mixed (by kernel_rfl) [0, 2, 3, 5, 8, 10, 11] (fun vs h => s_utf8_decodeRuneInStringSlow_13 K h (vs.getD 0 undef) (vs.getD 1 undef) (vs.getD 2 undef) (vs.getD 3 undef) (vs.getD 4 undef) (vs.getD 5 undef) (vs.getD 6 undef)) (fun vs h _ x => Eq.mp (by kernel_rfl) (c_utf8_decodeRuneInStringSlow_13 x)) (by kernel_rfl) s
theorem c_utf8_decodeRuneInStringSlow_11 {K : Value → Hp → Prop} {h : Hp} {t0 t2 t3 t5 t8 t10 : Value} (s : s_utf8_decodeRuneInStringSlow_11 K h t0 t2 t3 t5 t8 t10) : SV P Tryz.f209.ntmps (seqR (seqR (seqR (seqR (seqR (seqR (seqR (seqR (seqR (seqR (seqR (Tryz.f209.body.getD .skip)))))))))))) (retP P Tryz.f209.results.toList K) (headOf [0, 2, 3, 5, 8, 10] [t0, t2, t3, t5, t8, t10]) h :=
  cut_at mixed (by kernel_rfl) [0, 2, 3, 5, 8, 10] (fun vs h => s_utf8_decodeRuneInStringSlow_12 K h (vs.getD 0 undef) (vs.getD 1 undef) (vs.getD 2 undef) (vs.getD 3 undef) (vs.getD 4 undef) (vs.getD 5 undef)) (fun vs h _ x => Eq.mp (by kernel_rfl) (c_utf8_decodeRuneInStringSlow_12 x)) (by kernel_rfl) s
theorem c_utf8_decodeRuneInStringSlow_10 {K : Value → Hp → Prop} {h : Hp} {t0 t2 t3 t5 t8 t9 t10 : Value} (s : s_utf8_decodeRuneInStringSlow_10 K h t0 t2 t3 t5 t8 t9 t10) : SV P Tryz.f209.ntmps (seqR (seqR (seqR (seqR (seqR (seqR (seqR (seqR (seqR (seqR (Tryz.f209.body.getD .skip))))))))))) (retP P Tryz.f209.results.toList K) (headOf [0, 2, 3, 5, 8, 9, 10] [t0, t2, t3, t5, t8, t9, t10]) h :=
  cut_at mixed (by kernel_rfl) [0, 2, 3, 5, 8, 10] (fun vs h => s_utf8_decodeRuneInStringSlow_11 K h (vs.getD 0 undef) (vs.getD 1 undef) (vs.getD 2 undef) (vs.getD 3 undef) (vs.getD 4 undef) (vs.getD 5 undef)) (fun vs h _ x => Eq.mp (by kernel_rfl) (c_utf8_decodeRuneInStringSlow_11 x)) (by kernel_rfl) s
theorem c_utf8_decodeRuneInStringSlow_9 {K : Value → Hp → Prop} {h : Hp} {t0 t2 t3 t5 t8 t9 : Value} (s : s_utf8_decodeRuneInStringSlow_9 K h t0 t2 t3 t5 t8 t9) : SV P Tryz.f209.ntmps (seqR (seqR (seqR (seqR (seqR (seqR (seqR (seqR (seqR (Tryz.f209.body.getD .skip)))))))))) (retP P Tryz.f209.results.toList K) (headOf [0, 2, 3, 5, 8, 9] [t0, t2, t3, t5, t8, t9]) h :=
  cut_at mixed (by kernel_rfl) [0, 2, 3, 5, 8, 9, 10] (fun vs h => s_utf8_decodeRuneInStringSlow_10 K h (vs.getD 0 undef) (vs.getD 1 undef) (vs.getD 2 undef) (vs.getD 3 undef) (vs.getD 4 undef) (vs.getD 5 undef) (vs.getD 6 undef)) (fun vs h _ x => Eq.mp (by kernel_rfl) (c_utf8_decodeRuneInStringSlow_10 x)) (by kernel_rfl) s
theorem c_utf8_decodeRuneInStringSlow_8 {K : Value → Hp → Prop} {h : Hp} {t0 t2 t3 t4 t5 t8 t9 : Value} (s : s_utf8_decodeRuneInStringSlow_8 K h t0 t2 t3 t4 t5 t8 t9) : SV P Tryz.f209.ntmps (seqR (seqR (seqR (seqR (seqR (seqR (seqR (seqR (Tryz.f209.body.getD .skip))))))))) (retP P Tryz.f209.results.toList K) (headOf [0, 2, 3, 4, 5, 8, 9] [t0, t2, t3, t4, t5, t8, t9]) h :=
  cut_at mixed (by kernel_rfl) [0, 2, 3, 5, 8, 9] (fun vs h => s_utf8_decodeRuneInStringSlow_9 K h (vs.getD 0 undef) (vs.getD 1 undef) (vs.getD 2 undef) (vs.getD 3 undef) (vs.getD 4 undef) (vs.getD 5 undef)) (fun vs h _ x => Eq.mp (by kernel_rfl) (c_utf8_decodeRuneInStringSlow_9 x)) (by kernel_rfl) s
theorem c_utf8_decodeRuneInStringSlow_7 {K : Value → Hp → Prop} {h : Hp} {t0 t2 t3 t4 t5 t6 t8 : Value} (s : s_utf8_decodeRuneInStringSlow_7 K h t0 t2 t3 t4 t5 t6 t8) : SV P Tryz.f209.ntmps (seqR (seqR (seqR (seqR (seqR (seqR (seqR (Tryz.f209.body.getD .skip)))))))) (retP P Tryz.f209.results.toList K) (headOf [0, 2, 3, 4, 5, 6, 8] [t0, t2, t3, t4, t5, t6, t8]) h :=
  cut_at mixed (by kernel_rfl) [0, 2, 3, 4, 5, 8, 9] (fun vs h => s_utf8_decodeRuneInStringSlow_8 K h (vs.getD 0 undef) (vs.getD 1 undef) (vs.getD 2 undef) (vs.getD 3 undef) (vs.getD 4 undef) (vs.getD 5 undef) (vs.getD 6 undef)) (fun vs h _ x => Eq.mp (by kernel_rfl) (c_utf8_decodeRuneInStringSlow_8 x)) (by kernel_rfl) s
theorem c_utf8_decodeRuneInStringSlow_6 {K : Value → Hp → Prop} {h : Hp} {t0 t2 t3 t4 t5 t6 : Value} (s : s_utf8_decodeRuneInStringSlow_6 K h t0 t2 t3 t4 t5 t6) : SV P Tryz.f209.ntmps (seqR (seqR (seqR (seqR (seqR (seqR (Tryz.f209.body.getD .skip))))))) (retP P Tryz.f209.results.toList K) (headOf [0, 2, 3, 4, 5, 6] [t0, t2, t3, t4, t5, t6]) h :=
  cut_at mixed (by kernel_rfl) [0, 2, 3, 4, 5, 6, 8] (fun vs h => s_utf8_decodeRuneInStringSlow_7 K h (vs.getD 0 undef) (vs.getD 1 undef) (vs.getD 2 undef) (vs.getD 3 undef) (vs.getD 4 undef) (vs.getD 5 undef) (vs.getD 6 undef)) (fun vs h _ x => Eq.mp (by kernel_rfl) (c_utf8_decodeRuneInStringSlow_7 x)) (by kernel_rfl) s
theorem c_utf8_decodeRuneInStringSlow_5 {K : Value → Hp → Prop} {h : Hp} {t0 t2 t3 t4 t5 t6 : Value} (s : s_utf8_decodeRuneInStringSlow_5 K h t0 t2 t3 t4 t5 t6) : SV P Tryz.f209.ntmps (seqR (seqR (seqR (seqR (seqR (Tryz.f209.body.getD .skip)))))) (retP P Tryz.f209.results.toList K) (headOf [0, 2, 3, 4, 5, 6] [t0, t2, t3, t4, t5, t6]) h :=
  cut_at mixed (by kernel_rfl) [0, 2, 3, 4, 5, 6] (fun vs h => s_utf8_decodeRuneInStringSlow_6 K h (vs.getD 0 undef) (vs.getD 1 undef) (vs.getD 2 undef) (vs.getD 3 undef) (vs.getD 4 undef) (vs.getD 5 undef)) (fun vs h _ x => Eq.mp (by kernel_rfl) (c_utf8_decodeRuneInStringSlow_6 x)) (by kernel_rfl) s
theorem c_utf8_decodeRuneInStringSlow_4 {K : Value → Hp → Prop} {h : Hp} {t0 t2 t3 t4 t5 : Value} (s : s_utf8_decodeRuneInStringSlow_4 K h t0 t2 t3 t4 t5) : SV P Tryz.f209.ntmps (seqR (seqR (seqR (seqR (Tryz.f209.body.getD .skip))))) (retP P Tryz.f209.results.toList K) (headOf [0, 2, 3, 4, 5] [t0, t2, t3, t4, t5]) h :=
  cut_at mixed (by kernel_rfl) [0, 2, 3, 4, 5, 6] (fun vs h => s_utf8_decodeRuneInStringSlow_5 K h (vs.getD 0 undef) (vs.getD 1 undef) (vs.getD 2 undef) (vs.getD 3 undef) (vs.getD 4 undef) (vs.getD 5 undef)) (fun vs h _ x => Eq.mp (by kernel_rfl) (c_utf8_decodeRuneInStringSlow_5 x)) (by kernel_rfl) s
theorem c_utf8_decodeRuneInStringSlow_3 {K : Value → Hp → Prop} {h : Hp} {t0 t2 t3 t4 : Value} (s : s_utf8_decodeRuneInStringSlow_3 K h t0 t2 t3 t4) : SV P Tryz.f209.ntmps (seqR (seqR (seqR (Tryz.f209.body.getD .skip)))) (retP P Tryz.f209.results.toList K) (headOf [0, 2, 3, 4] [t0, t2, t3, t4]) h :=
  cut_at mixed (by kernel_rfl) [0, 2, 3, 4, 5] (fun vs h => s_utf8_decodeRuneInStringSlow_4 K h (vs.getD 0 undef) (vs.getD 1 undef) (vs.getD 2 undef) (vs.getD 3 undef) (vs.getD 4 undef)) (fun vs h _ x => Eq.mp (by kernel_rfl) (c_utf8_decodeRuneInStringSlow_4 x)) (by kernel_rfl) s
theorem c_utf8_decodeRuneInStringSlow_2 {K : Value → Hp → Prop} {h : Hp} {t0 t2 t3 t4 : Value} (s : s_utf8_decodeRuneInStringSlow_2 K h t0 t2 t3 t4) : SV P Tryz.f209.ntmps (seqR (seqR (Tryz.f209.body.getD .skip))) (retP P Tryz.f209.results.toList K) (headOf [0, 2, 3, 4] [t0, t2, t3, t4]) h :=
  cut_at mixed (by kernel_rfl) [0, 2, 3, 4] (fun vs h => s_utf8_decodeRuneInStringSlow_3 K h (vs.getD 0 undef) (vs.getD 1 undef) (vs.getD 2 undef) (vs.getD 3 undef)) (fun vs h _ x => Eq.mp (by kernel_rfl) (c_utf8_decodeRuneInStringSlow_3 x)) (by kernel_rfl) s
theorem c_utf8_decodeRuneInStringSlow_1 {K : Value → Hp → Prop} {h : Hp} {t0 t2 t3 : Value} (s : s_utf8_decodeRuneInStringSlow_1 K h t0 t2 t3) : SV P Tryz.f209.ntmps (seqR (Tryz.f209.body.getD .skip)) (retP P Tryz.f209.results.toList K) (headOf [0, 2, 3] [t0, t2, t3]) h :=
  cut_at mixed (by kernel_rfl) [0, 2, 3, 4] (fun vs h => s_utf8_decodeRuneInStringSlow_2 K h (vs.getD 0 undef) (vs.getD 1 undef) (vs.getD 2 undef) (vs.getD 3 undef)) (fun vs h _ x => Eq.mp (by kernel_rfl) (c_utf8_decodeRuneInStringSlow_2 x)) (by kernel_rfl) s
theorem c_utf8_decodeRuneInStringSlow_0 {K : Value → Hp → Prop} {h : Hp} {t0 : Value} (s : s_utf8_decodeRuneInStringSlow K h t0) : SV P Tryz.f209.ntmps (Tryz.f209.body.getD .skip) (retP P Tryz.f209.results.toList K) (env0 [t0]) h :=
  cut_at mixed (by kernel_rfl) [0, 2, 3] (fun vs h => s_utf8_decodeRuneInStringSlow_1 K h (vs.getD 0 undef) (vs.getD 1 undef) (vs.getD 2 undef)) (fun vs h _ x => Eq.mp (by kernel_rfl) (c_utf8_decodeRuneInStringSlow_1 x)) (by kernel_rfl) s
theorem F_utf8_decodeRuneInStringSlow {K : Value → Hp → Prop} {h : Hp} {t0 : Value} (s : s_utf8_decodeRuneInStringSlow K h t0) : Cn P 209 #[t0] h K :=
  Cn_sv Tryz.func209 (by kernel_rfl) (args := [t0]) (c_utf8_decodeRuneInStringSlow_0 s)
/-- function 210: unicode.to -/
def s_unicode_to (K : Value → Hp → Prop) (h : Hp) (t0 t1 t2 : Value) : Prop := 
let J2 : Hp → Prop := fun h => Cn P 211 #[t1, t2] h fun t17 h => q P h (eqop .neq 229 (.tmp 18) (.const (Value.pointer none)) t17 (Value.pointer none)) fun t19 => cnd t19 (Cn P 212 #[t0, t1, t17] h fun t23 h => K (Value.tuple #[t23, (Value.bool true)]) h) (K (Value.tuple #[t1, (Value.bool false)]) h);
q P h (binOp .lss 3 t0 (Value.int .i64 0)) fun t10 => gd t10 false (q P h (binOp .leq 3 (Value.int .i64 3) t0) fun t13 => cnd t13 (K (Value.tuple #[(Value.int .i32 65533), (Value.bool false)]) h) (J2 h)) (cnd (Value.bool true) (K (Value.tuple #[(Value.int .i32 65533), (Value.bool false)]) h) (J2 h))
theorem F_unicode_to {K : Value → Hp → Prop} {h : Hp} {t0 t1 t2 : Value} (s : s_unicode_to K h t0 t1 t2) : Cn P 210 #[t0, t1, t2] h K :=
  Cn_ofs mixed Tryz.func210 (by kernel_rfl) (args := [t0, t1, t2]) (by kernel_rfl) s
/-- function 211: unicode.lookupCaseRange -/
def s_unicode_lookupCaseRange (K : Value → Hp → Prop) (h : Hp) (t0 t1 : Value) : Prop := q P h (Builtin.len_ #[228] 3 #[t1]) fun t10 => 
Lp [(Value.pointer none), t10, (Value.int .i64 0)] h fun nx5 vs5 h =>
q P h (binOp .lss 3 (vs5.getD 2 undef) (vs5.getD 1 undef)) fun t13 => cnd t13 (q P h (binOp .add 3 (vs5.getD 2 undef) (vs5.getD 1 undef)) fun t16 => q P h (convert 3 149 t16) fun t17 => q P h (binOp .shr 149 t17 (Value.int .u64 1)) fun t18 => q P h (convert 149 3 t18) fun t19 => q P h (Instr.indexAt 228 t1 t19) fun t22 => 
let J10 : Value → Hp → Prop := fun t4 h => q P h (nilCk t22) fun t42 => q P h (Instr.fieldAt 235 t42 0) fun t43 => q P h (Instr.loadAt 38 t43) fun t44 => q P h (convert 38 21 t44) fun t45 => q P h (binOp .lss 21 t0 t45) fun t46 => cnd t46 (nx5 [t4, t19, (vs5.getD 2 undef)] h) (q P h (binOp .add 3 t19 (Value.int .i64 1)) fun t49 => nx5 [t4, (vs5.getD 1 undef), t49] h);
q P h (nilCk t22) fun t24 => q P h (Instr.fieldAt 235 t24 0) fun t25 => q P h (Instr.loadAt 38 t25) fun t26 => q P h (convert 38 21 t26) fun t27 => q P h (binOp .leq 21 t27 t0) fun t29 => gd t29 true (q P h (nilCk t22) fun t33 => q P h (Instr.fieldAt 235 t33 1) fun t34 => q P h (Instr.loadAt 38 t34) fun t35 => q P h (convert 38 21 t35) fun t36 => q P h (binOp .leq 21 t0 t36) fun t37 => cnd t37 (K t22 h) (J10 (vs5.getD 0 undef) h)) (cnd (Value.bool false) (K t22 h) (J10 (vs5.getD 0 undef) h))) (K (Value.pointer none) h)
theorem F_unicode_lookupCaseRange {K : Value → Hp → Prop} {h : Hp} {t0 t1 : Value} (s : s_unicode_lookupCaseRange K h t0 t1) : Cn P 211 #[t0, t1] h K :=
  Cn_ofs mixed Tryz.func211 (by kernel_rfl) (args := [t0, t1]) (by kernel_rfl) s
/-- function 212: unicode.convertCase -/
def s_unicode_convertCase (K : Value → Hp → Prop) (h : Hp) (t0 t1 t2 : Value) : Prop := q P h (nilCk t2) fun t10 => q P h (Instr.fieldAt 235 t10 2) fun t11 => q P h (Instr.indexAt 233 t11 t0) fun t12 => q P h (Instr.loadAt 21 t12) fun t13 => q P h (binOp .gtr 21 t13 (Value.int .i32 1114111)) fun t15 => cnd t15 (q P emp (nilCk t2) fun t17 => q P h (Instr.fieldAt 235 t17 0) fun t18 => q P h (Instr.loadAt 38 t18) fun t19 => q P h (convert 38 21 t19) fun t20 => q P emp (nilCk t2) fun t23 => q P h (Instr.fieldAt 235 t23 0) fun t24 => q P h (Instr.loadAt 38 t24) fun t25 => q P h (convert 38 21 t25) fun t26 => q P emp (binOp .sub 21 t1 t26) fun t27 => q P emp (binOp .andNot 21 t27 (Value.int .i32 1)) fun t28 => q P emp (binOp .and 3 t0 (Value.int .i64 1)) fun t30 => q P h (convert 3 21 t30) fun t31 => q P emp (binOp .or 21 t28 t31) fun t32 => q P emp (binOp .add 21 t20 t32) fun t33 => K t33 h) (q P h (binOp .add 21 t1 t13) fun t36 => K t36 h)
theorem F_unicode_convertCase {K : Value → Hp → Prop} {h : Hp} {t0 t1 t2 : Value} (s : s_unicode_convertCase K h t0 t1 t2) : Cn P 212 #[t0, t1, t2] h K :=
  Cn_ofs mixed Tryz.func212 (by kernel_rfl) (args := [t0, t1, t2]) (by kernel_rfl) s
end Go.Proofs.YtolcmaipjpkidaaGreatDoor
namespace Go.Pure
def le : Nat → Nat → List Nat
  | 0, _ => []
  | n + 1, v => v % 256 :: le n (v / 256)
def Bytes (l : List Nat) : Prop := ∀ x ∈ l, x < 256
theorem Bytes.take {l : List Nat} (h : Bytes l) (n : Nat) : Bytes (l.take n) := fun x hx => h x (List.mem_of_mem_take hx)
theorem Bytes.drop {l : List Nat} (h : Bytes l) (n : Nat) : Bytes (l.drop n) := fun x hx => h x (List.mem_of_mem_drop hx)
theorem Bytes.append {a b : List Nat} (h : Bytes a) (g : Bytes b) : Bytes (a ++ b) := fun x hx => (List.mem_append.1 hx).elim (h x) (g x)
theorem Bytes.getD {l : List Nat} (h : Bytes l) (i : Nat) : l.getD i 0 < 256 := by
  rw [List.getD_eq_getElem?_getD]
  cases hg : l[i]? with
  | none => simp
  | some x => exact h x (List.mem_of_getElem? hg)
end Go.Pure
namespace Go.SL
open Go
/-- All that is known stays known. -/
def Hp.ext (h h' : Hp) : Prop := ∀ b o, h b = some o → h' b = some o
theorem Hp.ext.refl (h : Hp) : Hp.ext h h := fun _ _ e => e
theorem Hp.ext.trans {a b c : Hp} (x : Hp.ext a b) (y : Hp.ext b c) : Hp.ext a c := fun i o e => y i o (x i o e)
theorem ext_set {h : Hp} {r : Nat} (o : AObj) (hr : h r = none) : Hp.ext h (h.set r o) := fun i x e => by
  have : i ≠ r := by rintro rfl; rw [hr] at e; cases e
  rw [Hp.set_ne _ _ this]; exact e
theorem Hp.ext.le {h h' : Hp} (x : Hp.ext h h') : Hp.le h h' := fun b o e => ⟨o, x b o e, .refl o⟩
theorem Hp.ext.cle {h h' : Hp} (x : Hp.ext h h') : Hp.cle h h' := fun a v e => by
  unfold Hp.cell at e ⊢
  split at e
  · cases e
  · rename_i hs
    rw [if_neg hs]
    cases hb : h a.block with
    | none => rw [hb] at e; cases e
    | some o => rw [x _ _ hb]; rw [hb] at e; exact e
theorem Hp.ext.none {h h' : Hp} (x : Hp.ext h h') {b : Nat} (e : h' b = none) : h b = none := by
  cases hb : h b with
  | none => rfl
  | some o => rw [x b o hb] at e; cases e
theorem New.ext {h : Hp} {e s : Nat} {v : Value} {h' : Hp} {xs : List Value} {n : Nat} (w : New h e s v h' xs n) : Hp.ext h h' := by
  rcases w.2 with ⟨_, _, rfl⟩ | ⟨b, c, f, hb, _, _, rfl, _⟩
  · exact .refl _
  · exact ext_set _ hb
theorem Nn.ext {h : Hp} {e : Nat} {k : IntKind} {v : Value} {h' : Hp} {l : List Nat} (w : Nn h e k v h' l) : Hp.ext h h' := New.ext w
theorem del_set (h : Hp) {b : Nat} {o : AObj} (e : h b = some o) : (h.del b).set b o = h := by
  funext i
  unfold Hp.set Hp.del
  by_cases hi : i = b
  · subst hi; simp [e]
  · simp [hi]
theorem del_at (h : Hp) (b : Nat) : (h.del b) b = none := by simp [Hp.del]
/-- A row of the call's own that stands somewhere, as a new one. -/
theorem New.at {h : Hp} {b : Nat} {e s n c : Nat} {xs : List Value} {f : Nat × Nat} (hb : h b = some (.row e xs (c * s) (some f))) (hl : xs.length = n * s) (hc : n ≤ c) (hf : ∀ i, i < c * s → ¬ (f.1 ≤ i ∧ i < f.2)) :
    New (h.del b) e s (.slice (some ⟨b, 0, none⟩) n c) h xs n := ⟨hl, .inr ⟨b, c, f, del_at h b, hc, rfl, (del_set h hb).symm, hf⟩⟩
section
variable {P : Program} {h : Hp}
/-! ### Methods -/
/-! ### Maps whose keys are strings -/
/-- The entries, by their keys. -/
def mget (es : List MapEntry) (k : ByteArray) : Option (Nat × Value) :=
  match es with
  | [] => none
  | e :: es => match e.key with
    | .string s => if (k == s) = true then some (0, e.val) else (mget es k).map fun p => (p.1 + 1, p.2)
    | _ => none
def strKeys (es : List MapEntry) : Prop := ∀ e ∈ es, ∃ s, e.key = .string s
theorem findNow_str {es : List MapEntry} (hs : strKeys es) (k : ByteArray) : ∀ i, Instr.findNow .string (.string k) es i = some ((mget es k).map fun p => (p.1 + i, p.2)) := by
  induction es with
  | nil => intro i; rfl
  | cons e es ih =>
    intro i
    obtain ⟨s, he⟩ := hs e (List.mem_cons_self ..)
    have ih := ih (fun x hx => hs x (List.mem_cons_of_mem _ hx)) (i + 1)
    simp only [Instr.findNow, Instr.sameNow, he, mget]
    cases hk : (k == s)
    · simp only [Bool.false_eq_true, if_false, ih, Option.map_map]
      congr 2
      funext p
      simp only [Function.comp]
      congr 1
      omega
    · simp
theorem pk_findKey {t : TypeId} (ht : P.underlying t = some .string) {es : List MapEntry} (hs : strKeys es) (k : ByteArray) : peek P h (Instr.findKey t (.string k) es) = some (mget es k) := by
  show peek P h (Sem.bind (underlying t) _) = _
  rw [peek_bind, pk_und ht, Option.bind_some, findNow_str hs k 0]
  show some ((mget es k).map fun p => (p.1 + 0, p.2)) = _
  congr 1
  cases mget es k <;> rfl
theorem pk_checkKey {t : TypeId} (ht : P.underlying t = some .string) (b : Bool) (k : ByteArray) : peek P h (Instr.checkKey b 10000 t (.string k)) = some () := by
  show peek P h (Sem.bind (underlying t) _) = _
  rw [peek_bind, pk_und ht, Option.bind_some]
  rfl
/-- A key that isn't there yet is put. -/
theorem aw_mapNew {t kt e : TypeId} {r c : Nat} {es : Array MapEntry} {K : Unit → Hp → Prop} (ht : P.underlying t = some (.map kt e)) (hk : P.underlying kt = some .string) (hr : h r = some (.obj (.map es c))) (hs : strKeys es.toList) (k : ByteArray) (v : Value)
    (hn : mget es.toList k = none) (kk : K () (h.set r (.obj (.map (es.push ⟨.string k, v, c⟩) (c + 1))))) : aw P (Instr.mapUpdate t (.map (some r)) (.string k) v) K h := by
  refine aw_of ?_
  show awp P (Sem.bind (underlying t) _) K h
  rw [awp_bind, peek_awp P _ _ _ (pk_und ht)]
  show awp P (Sem.bind (getObj r) _) K h
  have hg : peek P h (getObj r) = some (.map es c) := by
    unfold getObj
    simp only [peek, hr]
  rw [awp_bind, peek_awp P _ _ _ hg]
  show awp P (Sem.bind (Instr.checkKey false 10000 kt (.string k)) _) K h
  rw [awp_bind, peek_awp P _ _ _ (pk_checkKey hk false k)]
  show awp P (Sem.bind (Instr.findKey kt (.string k) es.toList) _) K h
  rw [awp_bind, peek_awp P _ _ _ (pk_findKey hk hs k), hn]
  show awp P (setObj r (.map (es.push ⟨.string k, v, c⟩) (c + 1))) K h
  show (match h r with | some (.obj _) => isCells _ = false ∧ awp P (.pure ()) K _ | _ => False)
  rw [hr]
  exact ⟨rfl, kk⟩
theorem aw_makeMap {t : TypeId} {K : Value → Hp → Prop} (k : ∀ r, h r = none → K (.map (some r)) (h.set r (.obj (.map #[] 0)))) : aw P (Instr.makeMap t none) K h := by
  refine aw_of ?_
  show awp P (Sem.bind (newObj (.map #[] 0)) fun r => Sem.pure (.map (some r))) K h
  rw [awp_bind]
  exact fun r hr => k r hr
theorem mget_push {es : Array MapEntry} (hs : strKeys es.toList) (k k' : ByteArray) (v : Value) (c : Nat) :
    mget (es.push ⟨.string k, v, c⟩).toList k' = (mget es.toList k').or (if (k' == k) = true then some (es.size, v) else none) := by
  have : ∀ l : List MapEntry, strKeys l → mget (l ++ [⟨.string k, v, c⟩]) k' = (mget l k').or (if (k' == k) = true then some (l.length, v) else none) := by
    intro l
    induction l with
    | nil => intro _; simp only [List.nil_append, mget]; split <;> rfl
    | cons e l ih =>
      intro hl
      obtain ⟨s, he⟩ := hl e (List.mem_cons_self ..)
      have ih := ih fun x hx => hl x (List.mem_cons_of_mem _ hx)
      simp only [List.cons_append, mget, he]
      split
      · rfl
      · rw [ih]
        cases mget l k' with
        | none => simp only [Option.none_or, Option.map_none]; split <;> rfl
        | some p => rfl
  simpa using this es.toList hs
theorem strKeys_push {es : Array MapEntry} (hs : strKeys es.toList) (k : ByteArray) (v : Value) (c : Nat) : strKeys (es.push ⟨.string k, v, c⟩).toList := by
  intro e he
  rw [Array.toList_push, List.mem_append, List.mem_singleton] at he
  rcases he with he | rfl
  · exact hs e he
  · exact ⟨k, rfl⟩
/-! ### Copies -/
def putL : List Value → Nat → List Value → List Value
  | xs, _, [] => xs
  | xs, j, y :: ys => putL (xs.set j y) (j + 1) ys
theorem putL_eq : ∀ (ys xs : List Value) (j : Nat), j + ys.length ≤ xs.length → putL xs j ys = xs.take j ++ ys ++ xs.drop (j + ys.length)
  | [], xs, j, _ => by simp [putL]
  | y :: ys, xs, j, h => by
    simp only [List.length_cons] at h
    rw [putL, putL_eq ys _ _ (by rw [List.length_set]; omega), List.take_succ_eq_append_getElem (by rw [List.length_set]; omega), List.getElem_set_self, List.take_set_of_le (Nat.le_refl _), List.drop_set_of_lt (by omega)]
    simp only [List.append_assoc, List.singleton_append, List.cons_append, List.nil_append, List.length_cons]
    rw [show j + 1 + ys.length = j + (ys.length + 1) by omega]
theorem awp_putCells {b e cap : Nat} {f : Nat × Nat} : ∀ (ys xs : List Value) (h : Hp) (K : Unit → Hp → Prop) (o i : Nat), h b = some (.row e xs cap (some f)) → (∀ y ∈ ys, flat y = true) → o + i + ys.length ≤ xs.length →
    (∀ i, i < xs.length → ¬ (f.1 ≤ i ∧ i < f.2)) → K () (h.set b (.row e (putL xs (o + i) ys) cap (some f))) → awp P (storeCells ⟨b, o, none⟩ ys i) K h := by
  intro ys
  induction ys with
  | nil =>
    intro xs h K o i hb _ hl _ k
    have : h.set b (.row e (putL xs (o + i) []) cap (some f)) = h := by
      funext j
      unfold Hp.set
      split
      · rename_i e1; subst e1; rw [hb]; rfl
      · rfl
    rw [this] at k
    exact k
  | cons y ys ih =>
    intro xs h K o i hb hfl hl hf k
    simp only [List.length_cons] at hl
    show awp P (Sem.bind (store ((⟨b, o, none⟩ : Addr).add i) y) fun _ => storeCells ⟨b, o, none⟩ ys (i + 1)) K h
    rw [awp_bind, add_off]
    refine ⟨hfl y (List.mem_cons_self ..), ?_⟩
    rw [put_row hb (by omega) (hf (o + i) (by omega))]
    refine ih (xs.set (o + i) y) _ K o (i + 1) (Hp.set_same ..) (fun z hz => hfl z (List.mem_cons_of_mem _ hz)) (by rw [List.length_set]; omega) (fun j hj => hf j (by rwa [List.length_set] at hj)) ?_
    rw [Hp.set_set]
    exact k
/-- A copy of a part: as much as there is room for. -/
theorem aw_copyMin {t t2 T e b o dl dc n : Nat} {cap : Nat} {f : Nat × Nat} {xs ys : List Value} {w : Value} {K : Value → Hp → Prop} (ht : P.underlying t = some (.slice e)) (hs : sz P e = some 1) (hb : h b = some (.row e xs cap (some f)))
    (hr : Rds h 1 w ys n) (hfl : ∀ y ∈ ys, flat y = true) (hl : o + dl ≤ xs.length) (hf : ∀ i, i < xs.length → ¬ (f.1 ≤ i ∧ i < f.2))
    (k : K (.int .i64 (Nat.min n dl : Nat)) (h.set b (.row e (putL xs o (ys.take dl)) cap (some f)))) : aw P (Builtin.copy_ #[t, t2] T #[.slice (some ⟨b, o, none⟩) dl dc, w]) K h := by
  refine aw_of ?_
  obtain ⟨hyl, wa, wc, rfl, hwc, hwr⟩ := hr
  have hr : Rds h 1 (.slice wa (Nat.min n dl) wc) (ys.take dl) (Nat.min n dl) := by
    refine ⟨by rw [List.length_take, hyl]; simp [Nat.min_comm, Nat.min_def], wa, wc, rfl, Nat.le_trans (Nat.min_le_left _ _) hwc, ?_⟩
    rcases hwr with h0 | ⟨b', o', ha, hy⟩
    · left; subst h0; exact Nat.zero_min _
    · right
      refine ⟨b', o', ha, fun i x ex => ?_⟩
      rw [List.getElem?_take] at ex
      split at ex
      · exact hy i x ex
      · cases ex
  show awp P (Sem.bind (underlying t) _) _ h
  rw [awp_bind, peek_awp P _ _ _ (pk_und ht)]
  show awp P (Sem.bind (sizeOf e) _) _ h
  rw [awp_bind, peek_awp P _ _ _ (pk_size hs)]
  show awp P (Sem.bind (Builtin.firstCells 1 (Nat.min n dl) (.slice wa n wc)) _) _ h
  have e1 : Builtin.firstCells 1 (Nat.min n dl) (.slice wa n wc) = Builtin.firstCells 1 (Nat.min n dl) (.slice wa (Nat.min n dl) wc) := by cases wa <;> rfl
  rw [e1, awp_bind]
  refine awp_firstCells hr ?_
  show awp P (Sem.bind (storeCells ⟨b, o, none⟩ (ys.take dl).toArray.toList 0) _) _ h
  rw [awp_bind]
  exact awp_putCells (ys.take dl) xs h _ o 0 hb (fun y hy => hfl y (List.mem_of_mem_take hy)) (by rw [List.length_take]; omega) hf (by rw [Nat.add_zero]; exact k)
/-! ### Slices of structs -/
/-- A slice's literal of one struct. -/
theorem aw_litA {t e s : Nat} {z : Value} {ys : List Value} {K : Value → Hp → Prop} (ht : P.underlying t = some (.slice e)) (hs : sz P e = some s) (hzr : zr P e = some z) (hz : z.cells.size = s) (hy : ys.length = s) (h0 : 0 < s) (hn : s ≤ 1000)
    (k : ∀ v h', New h e s v h' ys 1 → K v h') : aw P (Instr.buildSlice t 1 #[(0, .agg ys.toArray)]) K h := by
  refine aw_of ?_
  show awp P (Sem.bind (underlying t) _) _ h
  rw [awp_bind, peek_awp P _ _ _ (pk_und ht)]
  show awp P (Sem.bind (sizeOf e) _) _ h
  rw [awp_bind, peek_awp P _ _ _ (pk_size hs)]
  show awp P (if 1 * s > 2 ^ 24 then _ else _) _ h
  rw [if_neg (by omega)]
  show awp P (if 1 * s = 0 then _ else _) _ h
  rw [if_neg (by omega)]
  show awp P (Sem.bind (zeroValue e) _) _ h
  rw [awp_bind, peek_awp P _ _ _ (pk_zero hzr)]
  have hfill : Instr.fill (fun i => some (i * s, s)) ((Array.range (1 * s)).map (fun x => z.cells[x % z.cells.size]!)) [(0, .agg ys.toArray)] = some ys.toArray := by
    simp only [Instr.fill, Value.cells, List.size_toArray, hy, Nat.zero_mul, Nat.zero_add, Array.size_map, Array.size_range, Nat.one_mul]
    rw [if_neg (by simp)]
    congr 1
    have key : ∀ (l : List Value) (j : Nat) (cs : Array Value), j + l.length ≤ cs.size → (l.zipIdx j).foldl (fun cs (p : Value × Nat) => cs.setIfInBounds p.2 p.1) cs = (cs.toList.take j ++ l ++ cs.toList.drop (j + l.length)).toArray := by
      intro l
      induction l with
      | nil => intro j cs _; simp
      | cons y l ih =>
        intro j cs hj
        simp only [List.length_cons] at hj
        rw [List.zipIdx_cons, List.foldl_cons, ih (j + 1) _ (by simp; omega)]
        congr 1
        simp only [Array.toList_setIfInBounds]
        rw [List.take_succ_eq_append_getElem (by rw [List.length_set, Array.length_toList]; omega), List.getElem_set_self, List.take_set_of_le (Nat.le_refl _), List.drop_set_of_lt (by omega)]
        simp only [List.append_assoc, List.singleton_append, List.cons_append, List.nil_append, List.length_cons]
        rw [show j + 1 + l.length = j + (l.length + 1) by omega]
    have := key ys 0 ((Array.range s).map (fun x => z.cells[x % z.cells.size]!)) (by simp [hy])
    have e1 : ys.toArray.zipIdx.foldl (fun cs (p : Value × Nat) => cs.setIfInBounds p.2 p.1) ((Array.range s).map (fun x => z.cells[x % z.cells.size]!)) = (ys.zipIdx 0).foldl (fun cs (p : Value × Nat) => cs.setIfInBounds p.2 p.1) ((Array.range s).map (fun x => z.cells[x % z.cells.size]!)) := by
      simp
    refine e1.trans (this.trans ?_)
    rw [List.take_zero, List.nil_append, Nat.zero_add, List.drop_of_length_le (by simp [hy]), List.append_nil]
  show awp P (match Instr.fill (fun i => some (i * s, s)) ((Array.range (1 * s)).map (fun x => z.cells[x % z.cells.size]!)) [(0, .agg ys.toArray)] with
      | some cells => Sem.bind (newRow e cells) fun a => Sem.pure (.slice (some a) 1 1)
      | _ => stuck "buildSlice: a part of the wrong size") K h
  rw [hfill]
  show awp P (Sem.bind (newRow e _) _) K h
  rw [awp_bind]
  intro r hr
  refine k _ _ ⟨by rw [Nat.one_mul]; exact hy, .inr ⟨r, 1, (0, 0), hr, Nat.le_refl _, rfl, ?_, fun i _ => by simp⟩⟩
  simp [absOf, hy]
end
/-- Shapes: numbers, truths, texts, slices, structs (parts in a row), arrays. -/
inductive Ty where
  | int (k : IntKind)
  | bool
  | str
  | sl (e : Ty)
  | arr (n : Nat) (e : Ty)
  | rcd (fs : Ty)
  | nil
  | cons (a b : Ty)
def Ty.size : Ty → Nat
  | .int _ => 1
  | .bool => 1
  | .str => 1
  | .sl _ => 1
  | .arr n e => n * e.size
  | .rcd fs => fs.size
  | .nil => 0
  | .cons a b => a.size + b.size
/-- Rows of cells, one behind the other, behind a slice. -/
def SlAt (R : Hp) (s : Nat) (v : Value) (items : List (List Value)) : Prop :=
  ∃ a c, v = .slice a items.length c ∧ items.length ≤ c ∧ (items = [] ∨ ∃ b o, a = some ⟨b, o, none⟩ ∧ ∀ (i : Nat) (x : List Value), items[i]? = some x → ∀ (j : Nat) (y : Value), x[j]? = some y → R.cell ⟨b, o + i * s + j, none⟩ = some y)
theorem SlAt.mono {R R' : Hp} {s : Nat} {v : Value} {items : List (List Value)} (a : SlAt R s v items) (c : Hp.cle R R') : SlAt R' s v items := by
  obtain ⟨x, n, h1, h2, h3⟩ := a
  refine ⟨x, n, h1, h2, ?_⟩
  rcases h3 with h3 | ⟨b, o, h4, h5⟩
  · exact .inl h3
  · exact .inr ⟨b, o, h4, fun i x e j y ey => c _ _ (h5 i x e j y ey)⟩
theorem SlAt.shape {R : Hp} {s : Nat} {v : Value} {items : List (List Value)} (a : SlAt R s v items) : ∃ x c, v = .slice x items.length c ∧ items.length ≤ c := let ⟨x, c, e, hc, _⟩ := a; ⟨x, c, e, hc⟩
/-- Cells that are a thing of that shape. -/
def Ty.Rd (R : Hp) : Ty → List Value → Prop
  | .int k, vs => ∃ n, vs = [.int k n] ∧ (Lit.int k n).wf = true
  | .bool, vs => ∃ b, vs = [.bool b]
  | .str, vs => ∃ s : ByteArray, vs = [.string s] ∧ s.size ≤ 9223372036854775807
  | .sl e, vs => ∃ (v : Value) (items : List (List Value)), vs = [v] ∧ SlAt R e.size v items ∧ items.length ≤ 9223372036854775807 ∧ ∀ x ∈ items, x.length = e.size ∧ e.Rd R x
  | .arr n e, vs => ∃ items : List (List Value), vs = items.flatten ∧ items.length = n ∧ ∀ x ∈ items, x.length = e.size ∧ e.Rd R x
  | .rcd fs, vs => fs.Rd R vs
  | .nil, vs => vs = []
  | .cons a b, vs => ∃ x y, vs = x ++ y ∧ x.length = a.size ∧ a.Rd R x ∧ b.Rd R y
theorem Ty.Rd.mono {R R' : Hp} (c : Hp.cle R R') : ∀ {ty : Ty} {vs : List Value}, ty.Rd R vs → ty.Rd R' vs
  | .int _, _, h => h
  | .bool, _, h => h
  | .str, _, h => h
  | .sl _, _, ⟨v, items, e, a, hl, h⟩ => ⟨v, items, e, a.mono c, hl, fun x hx => ⟨(h x hx).1, Ty.Rd.mono c (h x hx).2⟩⟩
  | .arr _ _, _, ⟨items, e, l, h⟩ => ⟨items, e, l, fun x hx => ⟨(h x hx).1, Ty.Rd.mono c (h x hx).2⟩⟩
  | .rcd fs, _, h => Ty.Rd.mono (ty := fs) c h
  | .nil, _, h => h
  | .cons _ _, _, ⟨x, y, e, l, h1, h2⟩ => ⟨x, y, e, l, Ty.Rd.mono c h1, Ty.Rd.mono c h2⟩
theorem flatten_len {s : Nat} : ∀ {items : List (List Value)}, (∀ x ∈ items, x.length = s) → items.flatten.length = items.length * s
  | [], _ => by simp
  | x :: l, h => by
    rw [List.flatten_cons, List.length_append, flatten_len fun y hy => h y (List.mem_cons_of_mem _ hy), h x (by simp), List.length_cons, Nat.succ_mul, Nat.add_comm]
theorem Ty.Rd.len {R : Hp} : ∀ {ty : Ty} {vs : List Value}, ty.Rd R vs → vs.length = ty.size
  | .int _, _, ⟨_, e, _⟩ => by rw [e]; rfl
  | .bool, _, ⟨_, e⟩ => by rw [e]; rfl
  | .str, _, ⟨_, e, _⟩ => by rw [e]; rfl
  | .sl _, _, ⟨_, _, e, _⟩ => by rw [e]; rfl
  | .arr n e, _, ⟨items, h1, h2, h3⟩ => by rw [h1, flatten_len fun x hx => (h3 x hx).1, h2]; rfl
  | .rcd fs, _, h => Ty.Rd.len (ty := fs) h
  | .nil, _, h => by rw [show _ = [] from h]; rfl
  | .cons a b, _, ⟨x, y, e, l, _, h2⟩ => by rw [e, List.length_append, l, Ty.Rd.len h2]; rfl
theorem Ty.Rd.flat {R : Hp} : ∀ {ty : Ty} {vs : List Value}, ty.Rd R vs → ∀ y ∈ vs, SL.flat y = true
  | .int _, _, ⟨_, e, _⟩, y, hy => by rw [e, List.mem_singleton] at hy; rw [hy]; rfl
  | .bool, _, ⟨_, e⟩, y, hy => by rw [e, List.mem_singleton] at hy; rw [hy]; rfl
  | .str, _, ⟨_, e, _⟩, y, hy => by rw [e, List.mem_singleton] at hy; rw [hy]; rfl
  | .sl _, _, ⟨_, _, e, a, _⟩, y, hy => by obtain ⟨_, _, ev, _⟩ := a; rw [e, List.mem_singleton] at hy; rw [hy, ev]; rfl
  | .arr n e, _, ⟨items, h1, h2, h3⟩, y, hy => by
    rw [h1] at hy
    obtain ⟨x, hx, hy⟩ := List.mem_flatten.1 hy
    exact Ty.Rd.flat (h3 x hx).2 y hy
  | .rcd fs, _, h, y, hy => Ty.Rd.flat (ty := fs) h y hy
  | .nil, _, h, y, hy => by rw [show _ = [] from h] at hy; cases hy
  | .cons a b, _, ⟨x, z, e, l, h1, h2⟩, y, hy => by
    rw [e] at hy
    rcases List.mem_append.1 hy with q | q
    · exact Ty.Rd.flat h1 y q
    · exact Ty.Rd.flat h2 y q
/-- Bytes. -/
abbrev Ty.bytes : Ty := .sl (.int .u8)
/-- A struct's first part, and the others. -/
theorem Ty.Rd.one {R : Hp} {a b : Ty} {vs : List Value} (h1 : a.size = 1) (h : (Ty.cons a b).Rd R vs) : ∃ v rest, vs = v :: rest ∧ a.Rd R [v] ∧ b.Rd R rest := by
  obtain ⟨x, y, rfl, l, ha, hb⟩ := h
  rw [h1] at l
  match x, l with
  | [v], _ => exact ⟨v, y, rfl, ha, hb⟩
section
variable {P : Program} {h : Hp}
/-- A thing out of a row is copied into a row of its own. -/
theorem aw_itemAt {R : Hp} {t e s : Nat} {v : Value} {items : List (List Value)} {i : Nat} {x zs : List Value} {d : TypeDesc} {F : Value → Hp → Prop} (ht : P.underlying t = some (.slice e)) (hs : sz P e = some s) (hd : P.underlying e = some d) (hg : aggB d = true)
    (hz : zr P e = some (.agg zs.toArray)) (lz : zs.length = s) (A : SlAt R s v items) (c : Hp.cle R h) (hi : items[i]? = some x) (lx : x.length = s) (fx : ∀ y ∈ x, flat y = true)
    (k : ∀ r, h r = none → F (.pointer (some ⟨r, 0, none⟩)) (h.set r (.row e x s (some (0, 0))))) :
    q P h (Instr.indexAt t v (.int .i64 (i : Int))) fun t31 => q P h (Instr.loadAt e t31) fun t32 => aw P (Instr.alloc e true (.tuple #[])) (fun t8 h => aw P (Instr.storeAt e t8 t32) (fun _ h => F t8 h) h) h := by
  obtain ⟨a, cc, rfl, hc, hA⟩ := A
  have hlt : i < items.length := (List.getElem?_eq_some_iff.1 hi).1
  rcases hA with h0 | ⟨b, o, rfl, hcl⟩
  · rw [h0] at hlt; cases hlt
  rw [q_idxS ht hs ⟨b, o, none⟩ items.length cc .i64 i (by omega) (by omega), Int.toNat_natCast, add_off]
  rw [q_ldAgg (ys := x) hd hg (by rw [lx]; exact hs) (b := b) (o := o + i * s) (fun j y e => c _ _ (hcl i x hi j y e))]
  refine aw_allocL zs hz rfl fun r hr => ?_
  refine aw_storeRow (ys := x) (by rw [lx]; exact hs) (Hp.set_same ..) (by rw [lz, lx]) fx (fun i _ => by simp) ?_
  rw [Hp.set_set, lz]
  exact k r hr
end
section
variable {P : Program}
theorem lt_dec (i n : Nat) : decide ((i : Int) < (n : Int)) = decide (i < n) := by
  rw [decide_eq_decide]; omega
theorem ext0 {h : Hp} {K : Value → Prop} (a b : Value) : q P h (Instr.extract (.tuple #[a, b]) 0) K = K a := q_ext #[a, b] 0 a rfl
theorem ext1 {h : Hp} {K : Value → Prop} (a b : Value) : q P h (Instr.extract (.tuple #[a, b]) 1) K = K b := q_ext #[a, b] 1 b rfl
def strL (l : List Nat) : ByteArray := l.foldl (fun s x => s.push (UInt8.ofNat x)) ByteArray.empty
/-- What is to be read (R) is known, what is owned (S) is known and not among it. -/
structure Own (R h : Hp) (S : List Nat) : Prop where
  sub : Hp.ext R h
  dis : ∀ b, b ∈ S → R b = none
  kn : ∀ b, b ∈ S → ∃ o, h b = some o
/-- A step: what is to be read (R) grows, what is owned (S) changes, all else that is known (h) stays. -/
structure Stp (R h R' h' : Hp) (S S' : List Nat) : Prop where
  ext : Hp.ext R R'
  keep : ∀ b o, b ∉ S → h b = some o → h' b = some o
  frS : ∀ b o, b ∉ S → h b = some o → b ∉ S'
  frR : ∀ b o, b ∉ S → h b = some o → R b = none → R' b = none
  own : Own R' h' S'
theorem Stp.refl {R h : Hp} {S : List Nat} (w : Own R h S) : Stp R h R h S S := ⟨.refl _, fun _ _ _ e => e, fun _ _ n _ => n, fun _ _ _ _ e => e, w⟩
theorem Stp.trans {R h R1 h1 R2 h2 : Hp} {S S1 S2 : List Nat} (a : Stp R h R1 h1 S S1) (b : Stp R1 h1 R2 h2 S1 S2) : Stp R h R2 h2 S S2 where
  ext := a.ext.trans b.ext
  own := b.own
  keep := fun x o n e => b.keep x o (a.frS x o n e) (a.keep x o n e)
  frS := fun x o n e => b.frS x o (a.frS x o n e) (a.keep x o n e)
  frR := fun x o n e r => b.frR x o (a.frS x o n e) (a.keep x o n e) (a.frR x o n e r)
/-- What is owned beside stays so. -/
theorem Stp.frame {R h R' h' : Hp} {S S' S2 : List Nat} (a : Stp R h R' h' S S') (w : Own R h S2) (n : ∀ b, b ∈ S2 → b ∉ S) : Own R' h' S2 ∧ (∀ b, b ∈ S2 → b ∉ S') ∧ ∀ b, b ∈ S2 → h' b = h b := by
  refine ⟨⟨a.own.sub, fun b hb => ?_, fun b hb => ?_⟩, fun b hb => ?_, fun b hb => ?_⟩ <;> obtain ⟨o, e⟩ := w.kn b hb
  · exact a.frR b o (n b hb) e (w.dis b hb)
  · exact ⟨o, a.keep b o (n b hb) e⟩
  · exact a.frS b o (n b hb) e
  · rw [e]; exact a.keep b o (n b hb) e
/-- A step, with what is owned beside. -/
theorem Stp.wide {R h R' h' : Hp} {S S' S2 : List Nat} (a : Stp R h R' h' S S') (w : Own R h S2) (n : ∀ b, b ∈ S2 → b ∉ S) : Stp R h R' h' (S ++ S2) (S' ++ S2) where
  ext := a.ext
  keep := fun b o hn e => a.keep b o (fun q => hn (List.mem_append_left _ q)) e
  frS := fun b o hn e q => (List.mem_append.1 q).elim (a.frS b o (fun q => hn (List.mem_append_left _ q)) e) (fun q => hn (List.mem_append_right _ q))
  frR := fun b o hn e r => a.frR b o (fun q => hn (List.mem_append_left _ q)) e r
  own := by
    obtain ⟨w2, _, _⟩ := a.frame w n
    exact ⟨w2.sub, fun b hb => (List.mem_append.1 hb).elim (a.own.dis b) (w2.dis b), fun b hb => (List.mem_append.1 hb).elim (a.own.kn b) (w2.kn b)⟩
theorem Own.nil {R h : Hp} {S : List Nat} (w : Own R h S) : Own R h [] := ⟨w.sub, fun b hb => (by cases hb), fun b hb => (by cases hb)⟩
/-- A step that only makes what is to be read: a block. -/
theorem Stp.block {R h : Hp} {S : List Nat} {r : Nat} (o : AObj) (w : Own R h S) (hr : h r = none) : Stp R h (R.set r o) (h.set r o) S S := by
  have hRb : R r = none := w.sub.none hr
  refine ⟨ext_set _ hRb, fun x o' hn e => ?_, fun x o' hn e => hn, fun x o' hn e r' => ?_, ⟨fun x o' e => ?_, fun x hx => ?_, fun x hx => ?_⟩⟩
  · rw [Hp.set_ne _ _ (by rintro rfl; rw [hr] at e; cases e)]; exact e
  · rw [Hp.set_ne _ _ (by rintro rfl; rw [hr] at e; cases e)]; exact r'
  · by_cases q : x = r
    · subst q; rw [Hp.set_same] at e ⊢; exact e
    · rw [Hp.set_ne _ _ q] at e ⊢; exact w.sub x o' e
  · rw [Hp.set_ne _ _ (by rintro rfl; obtain ⟨o2, e⟩ := w.kn x hx; rw [hr] at e; cases e)]; exact w.dis x hx
  · obtain ⟨o2, e⟩ := w.kn x hx
    exact ⟨o2, by rw [Hp.set_ne _ _ (by rintro rfl; rw [hr] at e; cases e)]; exact e⟩
/-- A new row, to be read. -/
theorem Stp.new {R h : Hp} {S : List Nat} {t s n : Nat} {v : Value} {h' : Hp} {xs : List Value} (w : Own R h S) (nw : New h t s v h' xs n) : ∃ R', Stp R h R' h' S S ∧ Rds R' s v xs n := by
  rcases nw.2 with ⟨rfl, rfl, rfl⟩ | ⟨b, c, f, hb, hc, rfl, rfl, hf⟩
  · exact ⟨R, .refl w, nw.1, none, 0, rfl, Nat.le_refl _, .inl rfl⟩
  · exact ⟨_, Stp.block _ w hb, nw.1, _, c, rfl, hc, .inr ⟨b, 0, rfl, fun i x e => by rw [cell_row (Hp.set_same ..), Nat.zero_add]; exact e⟩⟩
theorem Own.rn {R h : Hp} {S : List Nat} {k : IntKind} {v : Value} {l : List Nat} (w : Own R h S) (r : Rn R k v l) : Rn h k v l := r.mono w.sub.cle
/-- A row of the call's own that may be appended to, or nil; the block that it lies in. -/
def OutAt (t s : Nat) (h : Hp) (v : Value) (xs : List Value) (n : Nat) (So : List Nat) : Prop :=
  (v = .slice none 0 0 ∧ n = 0 ∧ xs = [] ∧ So = []) ∨
  ∃ b c f, h b = some (.row t xs (c * s) (some f)) ∧ v = .slice (some ⟨b, 0, none⟩) n c ∧ n ≤ c ∧ (∀ i, i < c * s → ¬ (f.1 ≤ i ∧ i < f.2)) ∧ So = [b] ∧ xs.length = n * s
theorem OutAt.of {t s : Nat} {h h' : Hp} {v : Value} {xs : List Value} {n : Nat} (w : New h t s v h' xs n) : ∃ So, OutAt t s h' v xs n So ∧ (∀ x, x ∈ So → h x = none) := by
  rcases w.2 with ⟨rfl, rfl, rfl⟩ | ⟨b, c, f, hb, hc, rfl, rfl, hf⟩
  · exact ⟨[], .inl ⟨rfl, rfl, List.eq_nil_of_length_eq_zero (by have := w.1; omega), rfl⟩, fun x hx => by cases hx⟩
  · exact ⟨[b], .inr ⟨b, c, f, Hp.set_same .., rfl, hc, hf, rfl, w.1⟩, fun x hx => by rw [List.mem_singleton.1 hx]; exact hb⟩
theorem OutAt.new {t s : Nat} {h : Hp} {v : Value} {xs : List Value} {n : Nat} {So : List Nat} (a : OutAt t s h v xs n So) : ∃ X, New X t s v h xs n ∧ (∀ x, x ∉ So → X x = h x) ∧ (∀ x, x ∈ So → X x = none) := by
  rcases a with ⟨rfl, rfl, rfl, rfl⟩ | ⟨b, c, f, hb, rfl, hc, hf, rfl, hl⟩
  · exact ⟨h, ⟨by simp, .inl ⟨rfl, rfl, rfl⟩⟩, fun _ _ => rfl, fun x hx => by cases hx⟩
  · refine ⟨h.del b, New.at hb hl hc hf, fun x hx => Hp.del_ne _ (by simpa using hx), fun x hx => by rw [List.mem_singleton.1 hx]; exact del_at _ _⟩
theorem OutAt.keep {t s : Nat} {h h' : Hp} {v : Value} {xs : List Value} {n : Nat} {So : List Nat} (a : OutAt t s h v xs n So) (k : ∀ x, x ∈ So → h' x = h x) : OutAt t s h' v xs n So := by
  rcases a with a | ⟨b, c, f, hb, hv, hc, hf, hS, hl⟩
  · exact .inl a
  · exact .inr ⟨b, c, f, by rw [k b (by simp [hS])]; exact hb, hv, hc, hf, hS, hl⟩
theorem OutAt.rds {t s : Nat} {h : Hp} {v : Value} {xs : List Value} {n : Nat} {So : List Nat} (a : OutAt t s h v xs n So) : Rds h s v xs n := by
  obtain ⟨X, w, _⟩ := a.new
  exact w.rds
theorem aw_appendO {t2 T ts e e2 s B n m : Nat} {h : Hp} {v w : Value} {xs ys : List Value} {z : Value} {So : List Nat} {K : Value → Hp → Prop}
    (ht : P.underlying ts = some (.slice e)) (ht2 : P.underlying t2 = some (.slice e2)) (hi : (P.info? e).map (fun i => (i.zero, i.size, i.bytes)) = some (some z, s, B)) (hzs : z.cells.size = s) (hB1 : 1 ≤ B) (ho : OutAt e s h v xs n So) (hr : Rds h s w ys m) (hfl : ∀ y ∈ ys, flat y = true)
    (hB : (2 * (n + m) + 768) * B ≤ 2 ^ 48)
    (k : ∀ v' h' So', OutAt e s h' v' (xs ++ ys) (n + m) So' → (∀ x o, x ∉ So → h x = some o → h' x = some o) → (∀ x o, x ∉ So → h x = some o → x ∉ So') → K v' h') : aw P (Builtin.append_ #[ts, t2] T #[v, w]) K h := by
  obtain ⟨X, nX, X1, X2⟩ := ho.new
  refine aw_append ht ht2 hi hzs hB1 nX hr hfl hB (.refl _) fun v' h' n' => ?_
  obtain ⟨So', o', f'⟩ := OutAt.of n'
  refine k v' h' So' o' (fun x o hx e => ?_) (fun x o hx e q => ?_)
  · exact n'.ext _ _ (by rw [X1 x hx]; exact e)
  · have := f' x q
    rw [X1 x hx, e] at this
    cases this
/-- A step that only makes blocks that nobody asks for. -/
theorem Stp.ext0 {R h : Hp} {S : List Nat} {h' : Hp} (w : Own R h S) (x : Hp.ext h h') : Stp R h R h' S S :=
  ⟨.refl _, fun y oy _ ey => x y oy ey, fun y oy n _ => n, fun y oy _ _ r => r, ⟨fun y oy ey => x y oy (w.sub y oy ey), w.dis, fun y hy => let ⟨oy, ey⟩ := w.kn y hy; ⟨oy, x y oy ey⟩⟩⟩
theorem Own.sub' {R h : Hp} {S T : List Nat} (w : Own R h S) (m : ∀ x, x ∈ T → x ∈ S) : Own R h T := ⟨w.sub, fun b hb => w.dis b (m b hb), fun b hb => w.kn b (m b hb)⟩
theorem Own.app {R h : Hp} {S T : List Nat} (w : Own R h S) (v : Own R h T) : Own R h (S ++ T) := ⟨w.sub, fun b hb => (List.mem_append.1 hb).elim (w.dis b) (v.dis b), fun b hb => (List.mem_append.1 hb).elim (w.kn b) (v.kn b)⟩
/-- Less is owned behind a step. -/
theorem Stp.drop {R h R' h' : Hp} {S S' T' : List Nat} (a : Stp R h R' h' S S') (m : ∀ x, x ∈ T' → x ∈ S') : Stp R h R' h' S T' :=
  ⟨a.ext, a.keep, fun b o n e q => a.frS b o n e (m b q), a.frR, a.own.sub' m⟩
/-- A row that was owned is to be read from now on. -/
theorem Stp.fix {R h R' h' : Hp} {S S' T' : List Nat} {b : Nat} {o : AObj} (a : Stp R h R' h' S S') (hb : b ∈ S') (e : h' b = some o) (m : ∀ x, x ∈ T' → x ∈ S' ∧ x ≠ b) : Stp R h (R'.set b o) h' S T' := by
  have hR := a.own.dis b hb
  refine ⟨a.ext.trans (ext_set _ hR), a.keep, fun x ox n e q => a.frS x ox n e (m x q).1, fun x ox n ex r => ?_, ⟨fun x ox ex => ?_, fun x hx => ?_, fun x hx => a.own.kn x (m x hx).1⟩⟩
  · have := a.frS x ox n ex
    rw [Hp.set_ne _ _ (by rintro rfl; exact this hb)]
    exact a.frR x ox n ex r
  · by_cases q : x = b
    · subst q; rw [Hp.set_same] at ex; rw [← ex]; exact e
    · rw [Hp.set_ne _ _ q] at ex; exact a.own.sub x ox ex
  · rw [Hp.set_ne _ _ (m x hx).2]; exact a.own.dis x (m x hx).1
/-- A row that grows is owned. -/
theorem OutAt.step {t s n' : Nat} {R h h' : Hp} {v' : Value} {xs' : List Value} {So So' : List Nat} (w : Own R h So) (o' : OutAt t s h' v' xs' n' So') (kp : ∀ x o, x ∉ So → h x = some o → h' x = some o) (fr : ∀ x o, x ∉ So → h x = some o → x ∉ So') :
    Stp R h R h' So So' := by
  refine ⟨.refl _, kp, fr, fun x o _ _ r => r, ⟨fun x o e => ?_, fun x hx => ?_, fun x hx => ?_⟩⟩
  · refine kp x o (fun hx => ?_) (w.sub x o e)
    rw [w.dis x hx] at e; cases e
  · cases e : R x with
    | none => rfl
    | some o =>
      refine absurd hx (fr x o (fun hx => ?_) (w.sub x o e))
      rw [w.dis x hx] at e; cases e
  · rcases o' with ⟨_, _, _, rfl⟩ | ⟨b, c, f, hb, _, _, _, rfl, _⟩
    · cases hx
    · rw [List.mem_singleton.1 hx]; exact ⟨_, hb⟩
theorem pk_q {h : Hp} {m : Sem Value} {v : Value} (e : ∀ K : Value → Prop, q P h m K = K v) : peek P h m = some v := by
  obtain ⟨x, hx, e2⟩ := withVal_elim (K := fun x => x = v) ((e fun x => x = v).mpr rfl)
  rw [e2] at hx
  exact hx
/-- What was made since is owned, too. -/
theorem Stp.gain {R h R' h' : Hp} {S S' T : List Nat} (a : Stp R h R' h' S S') (w : Own R' h' T) (fr : ∀ x, x ∈ T → h x = none) : Stp R h R' h' S (S' ++ T) :=
  ⟨a.ext, a.keep, fun b o n e q => (List.mem_append.1 q).elim (a.frS b o n e) (fun q => by rw [fr b q] at e; cases e), a.frR, a.own.app w⟩
/-- A block of the call's own is made, to be owned. -/
theorem Own.mk1 {R h : Hp} {S : List Nat} {r : Nat} (o : AObj) (w : Own R h S) (hr : h r = none) : Own R (h.set r o) [r] ∧ Own R (h.set r o) S ∧ (∀ b, b ∈ S → b ∉ [r]) ∧ ∀ b, b ∈ S → (h.set r o) b = h b := by
  have hn : ∀ b, b ∈ S → b ≠ r := fun b hb q => by
    obtain ⟨x, e⟩ := w.kn b hb
    rw [q, hr] at e; cases e
  refine ⟨⟨w.sub.trans (ext_set _ hr), fun b hb => ?_, fun b hb => ?_⟩, ⟨w.sub.trans (ext_set _ hr), w.dis, fun b hb => ?_⟩, fun b hb q => hn b hb (List.mem_singleton.1 q), fun b hb => Hp.set_ne _ _ (hn b hb)⟩
  · rw [List.mem_singleton.1 hb]; exact w.sub.none hr
  · rw [List.mem_singleton.1 hb]; exact ⟨_, Hp.set_same ..⟩
  · rw [Hp.set_ne _ _ (hn b hb)]; exact w.kn b hb
theorem Hp.set_id {h : Hp} {b : Nat} {o : AObj} (e : h b = some o) : h.set b o = h := by
  funext i
  by_cases q : i = b
  · subst q; rw [Hp.set_same, e]
  · rw [Hp.set_ne _ _ q]
end
end Go.SL
namespace Go.Pure
def W32 (l : List Nat) : Prop := ∀ x ∈ l, x < 4294967296
theorem W32.getD {l : List Nat} (h : W32 l) (i : Nat) : l.getD i 0 < 4294967296 := by
  rw [List.getD_eq_getElem?_getD]
  cases hg : l[i]? with
  | none => simp
  | some x => exact h x (List.mem_of_getElem? hg)
theorem W32.set {l : List Nat} (h : W32 l) (i : Nat) {x : Nat} (hx : x < 4294967296) : W32 (l.set i x) := by
  intro y hy
  rcases List.mem_or_eq_of_mem_set hy with q | rfl
  · exact h y q
  · exact hx
theorem W32.append {a b : List Nat} (h : W32 a) (g : W32 b) : W32 (a ++ b) := fun x hx => (List.mem_append.1 hx).elim (h x) (g x)
end Go.Pure
namespace Go.Pure
abbrev W : Nat := 18446744073709551616
def W64 (l : List Nat) : Prop := ∀ x ∈ l, x < 18446744073709551616
theorem W64.getD {l : List Nat} (h : W64 l) (i : Nat) : l.getD i 0 < 18446744073709551616 := by
  rw [List.getD_eq_getElem?_getD]
  cases hg : l[i]? with
  | none => simp
  | some x => exact h x (List.mem_of_getElem? hg)
theorem W64.set {l : List Nat} (h : W64 l) (i : Nat) {x : Nat} (hx : x < 18446744073709551616) : W64 (l.set i x) := fun y hy => by
  rcases List.mem_or_eq_of_mem_set hy with q | rfl
  · exact h y q
  · exact hx
theorem Bytes.set {l : List Nat} (h : Bytes l) (i : Nat) {x : Nat} (hx : x < 256) : Bytes (l.set i x) := fun y hy => by
  rcases List.mem_or_eq_of_mem_set hy with q | rfl
  · exact h y q
  · exact hx
end Go.Pure
namespace Go.Proofs.YtolcmaipjpkidaaGreatDoor
open Go Go.SL Go.Pure
section
variable {h : Hp} {K : Value → Hp → Prop}
/-- One of one byte. -/
theorem aw_lit1 (x : Nat) (k : ∀ v h', Nn h t_uint8 .u8 v h' [x] → K v h') : aw P (Instr.buildSlice t_Sl_uint8 1 #[(0, .int .u8 (x : Int))]) K h :=
  aw_lit (ps := [(0, _)]) u_Sl_uint8 z_uint8 zr_uint8 rfl (by omega) (by intro p hp; rw [List.mem_singleton.1 hp]; exact ⟨rfl, by omega⟩) fun v h' n _ => k v h' n
/-- Appended to: a row that was made just ahead, and is forgotten. -/
theorem aw_appF {base h1 : Hp} {v w : Value} {xs ys : List Nat} (n : Nn base t_uint8 .u8 v h1 xs) (r : Nn h1 t_uint8 .u8 w h ys) (l : xs.length + ys.length ≤ 70368744177664) (k : ∀ v' h', Nn base t_uint8 .u8 v' h' (xs ++ ys) → K v' h') :
    aw P (Builtin.append_ #[t_Sl_uint8, t_Sl_uint8] t_Sl_uint8 #[v, w]) K h :=
  aw_appendN u_Sl_uint8 u_Sl_uint8 nfo_uint8 rfl (by omega) n r (nv_flat _ _) (by omega) fun v' h' n' => k v' h' (by
    show New base t_uint8 1 v' h' (nv .u8 (xs ++ ys)) (xs ++ ys).length
    rw [nv_app, List.length_append]
    exact n')
/-- A byte is appended to a row that grows. -/
theorem aw_app1O {v : Value} {xs : List Nat} {S : List Nat} (x : Nat) (o : OutAt t_uint8 1 h v (nv .u8 xs) xs.length S) (l : xs.length ≤ 70368744177663)
    (k : ∀ v' h' S', OutAt t_uint8 1 h' v' (nv .u8 (xs ++ [x])) (xs ++ [x]).length S' → (∀ b o, b ∉ S → h b = some o → h' b = some o) → (∀ b o, b ∉ S → h b = some o → b ∉ S') → K v' h') :
    aw P (Instr.buildSlice t_Sl_uint8 1 #[(0, .int .u8 (x : Int))]) (fun t h => aw P (Builtin.append_ #[t_Sl_uint8, t_Sl_uint8] t_Sl_uint8 #[v, t]) (fun w h => K w h) h) h := by
  refine aw_lit1 x fun w h1 n1 => ?_
  have e1 := n1.ext
  have o1 : OutAt t_uint8 1 h1 v (nv .u8 xs) xs.length S := o.keep fun b hb => by
    rcases o with ⟨_, _, _, rfl⟩ | ⟨b', c, f, hb', _, _, _, rfl, _⟩
    · cases hb
    · rw [List.mem_singleton.1 hb, hb', e1 _ _ hb']
  refine aw_appendO u_Sl_uint8 u_Sl_uint8 nfo_uint8 rfl (by omega) o1 n1.rn (nv_flat _ _) (by simp; omega) fun v' h' S' o' kp fr => ?_
  refine k v' h' S' ?_ (fun b o nb e => kp b o nb (e1 _ _ e)) fun b o nb e => fr b o nb (e1 _ _ e)
  rw [nv_app, List.length_append]
  exact o'
theorem aw_appO {v w : Value} {xs ys : List Nat} {S : List Nat} (o : OutAt t_uint8 1 h v (nv .u8 xs) xs.length S) (r : Rn h .u8 w ys) (l : xs.length + ys.length ≤ 70368744177664)
    (k : ∀ v' h' S', OutAt t_uint8 1 h' v' (nv .u8 (xs ++ ys)) (xs ++ ys).length S' → (∀ b o, b ∉ S → h b = some o → h' b = some o) → (∀ b o, b ∉ S → h b = some o → b ∉ S') → K v' h') :
    aw P (Builtin.append_ #[t_Sl_uint8, t_Sl_uint8] t_Sl_uint8 #[v, w]) K h :=
  aw_appendO u_Sl_uint8 u_Sl_uint8 nfo_uint8 rfl (by omega) o r (nv_flat _ _) (by omega) fun v' h' S' o' kp fr => k v' h' S' (by rw [nv_app, List.length_append]; exact o') kp fr
theorem out_rn {v : Value} {xs : List Nat} {S : List Nat} (o : OutAt t_uint8 1 h v (nv .u8 xs) xs.length S) : Rn h .u8 v xs := OutAt.rds o
theorem outNil : OutAt t_uint8 1 h (.slice none 0 0) (nv .u8 []) ([] : List Nat).length [] := .inl ⟨rfl, rfl, rfl, rfl⟩
/-- A base that stays, while a row beside it grows. -/
def Bs (base h : Hp) (S : List Nat) : Prop := Hp.ext base h ∧ ∀ b, b ∈ S → base b = none
theorem Bs.step {base h h' : Hp} {S S' : List Nat} (a : Bs base h S) (kp : ∀ b o, b ∉ S → h b = some o → h' b = some o) (fr : ∀ b o, b ∉ S → h b = some o → b ∉ S') : Bs base h' S' := by
  refine ⟨fun b o e => kp b o (fun hb => ?_) (a.1 _ _ e), fun b hb => ?_⟩
  · rw [a.2 b hb] at e; cases e
  · cases e : base b with
    | none => rfl
    | some o => exact absurd hb (fr b o (fun hs => by rw [a.2 b hs] at e; cases e) (a.1 _ _ e))
theorem Bs.ext {base h h' : Hp} {S : List Nat} (a : Bs base h S) (x : Hp.ext h h') : Bs base h' S := ⟨a.1.trans x, a.2⟩
theorem out_grown {h' : Hp} {v : Value} {xs : List Value} {n : Nat} {S : List Nat} (o : OutAt t_uint8 1 h v xs n S) (x : Hp.ext h h') : OutAt t_uint8 1 h' v xs n S := by
  rcases o with ⟨rfl, rfl, rfl, rfl⟩ | ⟨b', c, f, hb', rfl, a1, a2, rfl, a3⟩
  · exact .inl ⟨rfl, rfl, rfl, rfl⟩
  · exact .inr ⟨b', c, f, x _ _ hb', rfl, a1, a2, rfl, a3⟩
end
end Go.Proofs.YtolcmaipjpkidaaGreatDoor
namespace Go.SL
open Go
theorem ba_beq (a b : ByteArray) : (a == b) = decide (a = b) := by
  obtain ⟨a⟩ := a
  obtain ⟨b⟩ := b
  show (a == b) = _
  rw [Bool.eq_iff_iff, beq_iff_eq, decide_eq_true_eq]
  exact ⟨fun h => by rw [h], fun h => by injection h⟩
/-- What stands behind a key. -/
def mval (es : List MapEntry) (k : ByteArray) : Option Value := (mget es k).map (·.2)
theorem mval_push {es : Array MapEntry} (hs : strKeys es.toList) {k : ByteArray} (n : mget es.toList k = none) (v : Value) (c : Nat) (x : ByteArray) : mval (es.push ⟨.string k, v, c⟩).toList x = if x = k then some v else mval es.toList x := by
  unfold mval
  rw [mget_push hs]
  by_cases q : x = k
  · subst q
    rw [n, if_pos (by rw [ba_beq, decide_eq_true_eq]), if_pos rfl]
    rfl
  · rw [if_neg (by rw [ba_beq, decide_eq_true_eq]; exact q), if_neg q]
    cases mget es.toList x <;> rfl
section
variable {P : Program} {h : Hp}
end
theorem baToList (s : ByteArray) : s.toList = s.data.toList := by
  have key : ∀ (n i : Nat) (r : List UInt8), s.size - i = n → i ≤ s.size → ByteArray.toList.loop s i r = r.reverse ++ s.data.toList.drop i := by
    intro n
    induction n with
    | zero =>
      intro i r h h2
      rw [ByteArray.toList.loop.eq_def, if_neg (by omega), List.drop_of_length_le (by rw [Array.length_toList]; show s.size ≤ i; omega)]
      simp
    | succ n ih =>
      intro i r h h2
      have hlt : i < s.data.toList.length := by rw [Array.length_toList]; show i < s.size; omega
      rw [ByteArray.toList.loop.eq_def, if_pos (by omega), ih (i + 1) _ (by omega) (by omega), List.drop_eq_getElem_cons hlt]
      have : s.get! i = s.data.toList[i] := by
        show s.data[i]! = _
        rw [getElem!_pos s.data i (by show i < s.size; omega)]
        simp
      rw [this]
      simp
  have := key s.size 0 [] (by omega) (by omega)
  show ByteArray.toList.loop s 0 [] = _
  rw [this]
  simp
theorem strL_data (l : List Nat) : (strL l).data.toList = l.map UInt8.ofNat := by
  have key : ∀ (l : List Nat) (s : ByteArray), (l.foldl (fun s x => s.push (UInt8.ofNat x)) s).data.toList = s.data.toList ++ l.map UInt8.ofNat := by
    intro l
    induction l with
    | nil => intro s; simp
    | cons x l ih =>
      intro s
      rw [List.foldl_cons, ih]
      show (s.data.push (UInt8.ofNat x)).toList ++ _ = _
      simp
  have := key l ByteArray.empty
  simpa [strL] using this
theorem u8_inj {l m : List Nat} (hl : ∀ x ∈ l, x < 256) (hm : ∀ x ∈ m, x < 256) (e : l.map UInt8.ofNat = m.map UInt8.ofNat) : l = m := by
  induction l generalizing m with
  | nil => cases m with
    | nil => rfl
    | cons y m => cases e
  | cons x l ih => cases m with
    | nil => cases e
    | cons y m =>
      simp only [List.map_cons, List.cons.injEq] at e
      have hx := hl x (List.mem_cons_self ..)
      have hy := hm y (List.mem_cons_self ..)
      have : x = y := by
        have := congrArg UInt8.toNat e.1
        simpa [UInt8.toNat_ofNat', Nat.mod_eq_of_lt hx, Nat.mod_eq_of_lt hy] using this
      rw [this, ih (fun z hz => hl z (List.mem_cons_of_mem _ hz)) (fun z hz => hm z (List.mem_cons_of_mem _ hz)) e.2]
theorem strL_inj {l m : List Nat} (hl : ∀ x ∈ l, x < 256) (hm : ∀ x ∈ m, x < 256) (e : strL l = strL m) : l = m := by
  have := congrArg (fun s : ByteArray => s.data.toList) e
  simp only [strL_data] at this
  exact u8_inj hl hm this
theorem ba_listEq (a b : ByteArray) : (a.toList == b.toList) = decide (a = b) := by
  rw [baToList, baToList, Bool.eq_iff_iff, beq_iff_eq, decide_eq_true_eq]
  constructor
  · intro e
    cases a; cases b
    simp only [Array.toList_inj] at e
    rw [e]
  · intro e; rw [e]
section
variable {P : Program}
end
end Go.SL
namespace Go.SL
open Go Go.Pure
/-- A text's bytes. -/
def sL (s : ByteArray) : List Nat := s.data.toList.map (·.toNat)
theorem ba_ext {a b : ByteArray} (h : a.data.toList = b.data.toList) : a = b := by
  cases a; cases b
  simp only [Array.toList_inj] at h
  rw [h]
theorem strL_size (l : List Nat) : (strL l).size = l.length := by
  show (strL l).data.size = _
  rw [← Array.length_toList, strL_data, List.length_map]
theorem strL_sL (s : ByteArray) : strL (sL s) = s := by
  refine ba_ext ?_
  rw [strL_data, sL, List.map_map]
  conv => rhs; rw [← List.map_id s.data.toList]
  refine List.map_congr_left fun x _ => ?_
  simp
theorem sL_bytes (s : ByteArray) : Bytes (sL s) := fun x hx => by
  obtain ⟨y, _, rfl⟩ := List.mem_map.1 hx
  exact y.toNat_lt
theorem sL_len (s : ByteArray) : (sL s).length = s.size := by
  rw [sL, List.length_map, Array.length_toList]; rfl
theorem strL_app (a b : List Nat) : strL a ++ strL b = strL (a ++ b) := by
  refine ba_ext ?_
  rw [ByteArray.data_append, Array.toList_append, strL_data, strL_data, strL_data, List.map_append]
theorem strL_cut (l : List Nat) (i j : Nat) : (strL l).extract i j = strL ((l.take j).drop i) := by
  refine ba_ext ?_
  rw [ByteArray.data_extract, Array.toList_extract, strL_data, strL_data, List.map_drop, List.map_take, List.drop_take]
section
variable {P : Program} {h : Hp} {K : Value → Prop}
theorem q_lenSt {t T : TypeId} (ht : P.underlying t = some .string) (l : List Nat) : q P h (Builtin.len_ #[t] T #[.string (strL l)]) K = K (.int .i64 (l.length : Nat)) := by
  rw [q_lenStr ht, strL_size]
theorem q_idxSt {t : TypeId} (ht : P.underlying t = some .string) {l : List Nat} (hb : Bytes l) {k : IntKind} {i : Nat} (hi : i < l.length) : q P h (Instr.index t (.string (strL l)) (.int k (i : Int))) K = K (.int .u8 ((l.getD i 0 : Nat) : Int)) := q_of (by
  show peek P h (Sem.bind (underlying t) _) = _
  rw [peek_bind, pk_und ht, Option.bind_some]
  dsimp only
  have hs : i < (strL l).size := by rw [strL_size]; exact hi
  have e : (if (0 : Int) ≤ (i : Int) then (strL l)[((i : Int)).toNat]? else none) = some (UInt8.ofNat (l.getD i 0)) := by
    rw [if_pos (by omega), Int.toNat_natCast, getElem?_pos (strL l) i hs]
    have : (strL l)[i] = (strL l).data[i]'hs := rfl
    rw [this]
    have e2 : (strL l).data[i]'hs = (strL l).data.toList[i]'(by rw [Array.length_toList]; exact hs) := by simp
    rw [e2]
    simp only [strL_data, List.getElem_map]
    rw [List.getD_eq_getElem?_getD, List.getElem?_eq_getElem hi, Option.getD_some]
  rw [e]
  have hx := hb.getD i
  show some (Value.int .u8 ((UInt8.ofNat (l.getD i 0)).toNat : Int)) = _
  rw [UInt8.toNat_ofNat', Nat.mod_eq_of_lt (show l.getD i 0 < 2 ^ 8 by omega)]) K
theorem pk_boundsF (n c : Nat) (k k' : IntKind) (lo hi : Nat) (h1 : lo ≤ hi) (h2 : hi ≤ c) : peek P h (Instr.sliceBounds false n c (some (.int k lo)) (some (.int k' hi)) none) = some (lo, hi, c) := by
  have e1 : peek P h (Instr.sliceBound (.int k' (hi : Int)) c .sliceAlen) = some hi := pk_bound k' hi c h2 _
  have e2 : peek P h (Instr.sliceBound (.int k (lo : Int)) hi .sliceB) = some lo := pk_bound k lo hi h1 _
  unfold Instr.sliceBounds
  simp only [Bool.false_eq_true, if_false, Option.isSome_none, pk_bind (pk_pure c), pk_bind e1, pk_bind e2]
  rfl
theorem pk_boundsFl (n c : Nat) (k : IntKind) (lo : Nat) (h1 : lo ≤ n) : peek P h (Instr.sliceBounds false n c (some (.int k lo)) none none) = some (lo, n, c) := by
  have e2 : peek P h (Instr.sliceBound (.int k (lo : Int)) n .sliceB) = some lo := pk_bound k lo n h1 _
  unfold Instr.sliceBounds
  simp only [Bool.false_eq_true, if_false, Option.isSome_none, pk_bind (pk_pure c), pk_bind (pk_pure n), pk_bind e2]
  rfl
theorem pk_boundsFh (n c : Nat) (k' : IntKind) (hi : Nat) (h2 : hi ≤ c) : peek P h (Instr.sliceBounds false n c none (some (.int k' hi)) none) = some (0, hi, c) := by
  have e1 : peek P h (Instr.sliceBound (.int k' (hi : Int)) c .sliceAlen) = some hi := pk_bound k' hi c h2 _
  unfold Instr.sliceBounds
  simp only [Bool.false_eq_true, if_false, Option.isSome_none, pk_bind (pk_pure c), pk_bind e1, pk_bind (pk_pure 0)]
  rfl
theorem q_slS0 {t : TypeId} (ht : P.underlying t = some .string) {s : ByteArray} {lo hi : Option Value} {i j m : Nat} (hb : peek P h (Instr.sliceBounds false s.size s.size lo hi none) = some (i, j, m)) : q P h (Instr.sliceAt t (.string s) lo hi none) K = K (.string (s.extract i j)) := q_of (by
  show peek P h (Sem.bind (underlying t) _) = _
  rw [peek_bind, pk_und ht, Option.bind_some]
  show peek P h (Sem.bind (underlying t) _) = _
  rw [peek_bind, pk_und ht, Option.bind_some]
  show peek P h (Sem.bind (Instr.sliceBounds false s.size s.size lo hi none) _) = _
  rw [peek_bind, hb, Option.bind_some]
  rfl) K
theorem q_slSt {t : TypeId} (ht : P.underlying t = some .string) (l : List Nat) {k1 k2 : IntKind} {i j : Nat} (h1 : i ≤ j) (h2 : j ≤ l.length) : q P h (Instr.sliceAt t (.string (strL l)) (some (.int k1 (i : Int))) (some (.int k2 (j : Int))) none) K = K (.string (strL ((l.take j).drop i))) := by
  rw [q_slS0 ht (pk_boundsF _ _ k1 k2 i j h1 (by rw [strL_size]; exact h2)), strL_cut]
theorem q_slStL {t : TypeId} (ht : P.underlying t = some .string) (l : List Nat) {k1 : IntKind} {i : Nat} (h1 : i ≤ l.length) : q P h (Instr.sliceAt t (.string (strL l)) (some (.int k1 (i : Int))) none none) K = K (.string (strL (l.drop i))) := by
  rw [q_slS0 ht (pk_boundsFl _ _ k1 i (by rw [strL_size]; exact h1)), strL_cut, strL_size, List.take_length]
theorem q_slStH {t : TypeId} (ht : P.underlying t = some .string) (l : List Nat) {k2 : IntKind} {j : Nat} (h2 : j ≤ l.length) : q P h (Instr.sliceAt t (.string (strL l)) none (some (.int k2 (j : Int))) none) K = K (.string (strL (l.take j))) := by
  rw [q_slS0 ht (pk_boundsFh _ _ k2 j (by rw [strL_size]; exact h2)), strL_cut, List.drop_zero]
theorem q_addSt {t : TypeId} (a b : List Nat) (hl : a.length + b.length ≤ 4611686018427387904) : q P h (binOp .add t (.string (strL a)) (.string (strL b))) K = K (.string (strL (a ++ b))) := q_of (by
  show peek P h (Op.stringOp .add (strL a) (strL b)) = _
  unfold Op.stringOp
  dsimp only
  rw [if_neg (by rw [strL_size, strL_size]; simp [IntKind.max, IntKind.signed, IntKind.bits]; omega), strL_app]
  rfl) K
theorem eqD {a b : List Nat} (ha : Bytes a) (hb : Bytes b) : ((strL a).toList == (strL b).toList) = decide (a = b) := by
  rw [ba_listEq, decide_eq_decide]
  exact ⟨strL_inj ha hb, fun e => by rw [e]⟩
theorem q_eqlSt {t : TypeId} (x y : Operand) {a b : List Nat} (ha : Bytes a) (hb : Bytes b) : q P h (eqop .eql t x y (.string (strL a)) (.string (strL b))) K = K (.bool (decide (a = b))) := q_of (by
  unfold eqop
  rw [peek_bind]
  have : peek P h (eqGuard .eql t x y (.string (strL a)) (.string (strL b))) = some () := by
    rfl
  rw [this, Option.bind_some, ← eqD ha hb]
  rfl) K
theorem q_neqSt {t : TypeId} (x y : Operand) {a b : List Nat} (ha : Bytes a) (hb : Bytes b) : q P h (eqop .neq t x y (.string (strL a)) (.string (strL b))) K = K (.bool (!decide (a = b))) := q_of (by
  unfold eqop
  rw [peek_bind]
  have : peek P h (eqGuard .neq t x y (.string (strL a)) (.string (strL b))) = some () := by
    rfl
  rw [this, Option.bind_some, ← eqD ha hb]
  rfl) K
/-- A text as a new row of bytes. -/
theorem aw_stB {src t e : TypeId} {KK : Value → Hp → Prop} (hs : P.underlying src = some .string) (ht : P.underlying t = some (.slice e)) (he : P.underlying e = some (.int .u8)) {l : List Nat} (hb : Bytes l)
    (k : ∀ v h', New h e 1 v h' (nv .u8 l) l.length → KK v h') : aw P (convert src t (.string (strL l))) KK h := by
  show awp P (Sem.bind (underlying src) _) _ h
  rw [awp_bind, peek_awp P _ _ _ (pk_und hs)]
  show awp P (Sem.bind (underlying t) _) _ h
  rw [awp_bind, peek_awp P _ _ _ (pk_und ht)]
  show awp P (Sem.bind (underlying e) _) _ h
  rw [awp_bind, peek_awp P _ _ _ (pk_und he)]
  show awp P (Conv.stringToBytes e (strL l)) _ h
  unfold Conv.stringToBytes
  show awp P (Sem.choose (.appendCap (strL l).size 0 e) _) _ h
  simp only [awp]
  rw [if_neg (by simp [Question.forced])]
  intro tt
  obtain ⟨c, hc, hcl⟩ : ∃ c, (Question.appendCap (strL l).size 0 e).cut tt = c ∧ l.length ≤ c := ⟨_, rfl, by simp only [Question.cut, strL_size]; omega⟩
  rw [hc]
  have e0 : ((strL l).data.map fun b => Value.int .u8 (b.toNat : Int)) = (nv .u8 l).toArray := by
    apply Array.ext'
    rw [Array.toList_map, strL_data, List.map_map]
    unfold nv
    refine List.map_congr_left fun x hx => ?_
    have := hb x hx
    simp [UInt8.toNat_ofNat', Nat.mod_eq_of_lt (show x < 2 ^ 8 by omega)]
  show awp P (Sem.new (.cells (((strL l).data.map fun b => Value.int .u8 (b.toNat : Int)) ++ Array.replicate (c - (strL l).size) (.int .u8 0)) e (0, 0)) _) _ h
  rw [e0, strL_size]
  simp only [awp]
  intro r hr
  have hz : ((nv .u8 l).toArray ++ Array.replicate (c - l.length) (Value.int .u8 0)).size = c := by
    rw [Array.size_append, List.size_toArray, nv_len, Array.size_replicate]; omega
  have hl : ((nv .u8 l).toArray ++ Array.replicate (c - l.length) (Value.int .u8 0)).toList = nv .u8 l ++ List.replicate (c - l.length) (.int .u8 0) := by simp
  have ha : absOf (.cells ((nv .u8 l).toArray ++ Array.replicate (c - l.length) (Value.int .u8 0)) e (0, 0)) = .row e (nv .u8 l ++ List.replicate (c - l.length) (.int .u8 0)) c (some (0, 0)) := by
    simp only [absOf, hz, hl]
  rw [ha]
  show awp P (Sem.bind (markStringish ⟨r, 0, none⟩) _) _ _
  unfold markStringish
  have hsh : peek P (h.set r (.row e (nv .u8 l ++ List.replicate (c - l.length) (.int .u8 0)) c (some (0, 0)))) (shape r) = some (some (e, c)) := by
    simp [peek, shape, Hp.shape]
  show awp P (Sem.bind (Sem.bind (shape r) _) _) _ _
  rw [awp_bind, awp_bind, peek_awp P _ _ _ hsh]
  show awp P (freeze ⟨r, c, none⟩ 1) _ _
  have hfz : (h.set r (.row e (nv .u8 l ++ List.replicate (c - l.length) (.int .u8 0)) c (some (0, 0)))).freeze ⟨r, c, none⟩ 1 = some (h.set r (.row e (nv .u8 l ++ List.replicate (c - l.length) (.int .u8 0)) c (some (c, c + 1)))) := by simp [Hp.freeze, Hp.set_set, frz]
  simp only [awp, freeze, hfz]
  refine ⟨h.set r (.row e (nv .u8 l) c (some (c, c + 1))), fun i o eo => ?_, ?_⟩
  · by_cases hi : i = r
    · subst hi
      rw [Hp.set_same] at eo
      cases eo
      exact ⟨_, Hp.set_same .., rfl, rfl, ⟨_, rfl⟩, .inl rfl⟩
    · rw [Hp.set_ne _ _ hi] at eo
      exact ⟨o, by rw [Hp.set_ne _ _ hi]; exact eo, .refl _⟩
  · exact k _ _ ⟨by rw [nv_len, Nat.mul_one], .inr ⟨r, c, (c, c + 1), hr, hcl, rfl, by rw [Nat.mul_one], fun i hi => by omega⟩⟩
end
end Go.SL
namespace Go.Tar
open Go.Pure
/-- An entry. -/
structure Ent where
  name : List Nat
  kind : Int
  mode : Int
  link : List Nat
  data : List Nat
/-- May a text be? An entry? -/
def okText (s : List Nat) : Prop := s.length ≤ 1000 ∧ 0 ∉ s
instance (s : List Nat) : Decidable (okText s) := by unfold okText; infer_instance
def okEnt (e : Ent) : Prop := okText e.name ∧ okText e.link ∧ e.name ≠ [] ∧ 0 ≤ e.mode ∧ e.mode ≤ 4095 ∧ ((e.kind = 3 ∧ e.link ≠ [] ∧ e.data = []) ∨ (e.kind = 2 ∧ e.data = [] ∧ e.link = []) ∨ (e.kind = 1 ∧ e.link = []))
instance (e : Ent) : Decidable (okEnt e) := by unfold okEnt; infer_instance
/-- A number's digits, the highest first. -/
def digF (b : Nat) : Nat → Nat → List Nat
  | 0, n => [n]
  | f + 1, n => if n < b then [n] else digF b f (n / b) ++ [n % b]
def dig (b n : Nat) : List Nat := digF b n n
def valD (b : Nat) (l : List Nat) : Nat := l.foldl (fun v d => v * b + d) 0
theorem valD_app (b : Nat) (l m : List Nat) : valD b (l ++ m) = valD b l * b ^ m.length + valD b m := by
  unfold valD
  rw [List.foldl_append]
  have : ∀ (m : List Nat) (x : Nat), m.foldl (fun v d => v * b + d) x = x * b ^ m.length + m.foldl (fun v d => v * b + d) 0 := by
    intro m
    induction m with
    | nil => intro x; simp
    | cons y m ih =>
      intro x
      rw [List.foldl_cons, ih, List.foldl_cons, ih (0 * b + y), List.length_cons, Nat.pow_succ]
      rw [Nat.add_mul, Nat.zero_mul, Nat.zero_add, Nat.mul_assoc, Nat.mul_comm b, Nat.add_assoc]
  exact this m _
theorem digF_val {b : Nat} (hb : 2 ≤ b) : ∀ f n, n ≤ f → valD b (digF b f n) = n
  | 0, n, h => by simp [digF, valD]
  | f + 1, n, h => by
    rw [digF]
    split
    · simp [valD]
    · rename_i hn
      have : n / b < n := Nat.div_lt_self (by omega) hb
      rw [valD_app, digF_val hb f (n / b) (by omega)]
      show n / b * b ^ 1 + valD b [n % b] = n
      have e : valD b [n % b] = n % b := by simp [valD]
      rw [e, Nat.pow_one]
      exact Nat.div_add_mod' n b
theorem dig_val {b : Nat} (hb : 2 ≤ b) (n : Nat) : valD b (dig b n) = n := digF_val hb n n (Nat.le_refl n)
theorem digF_lt {b : Nat} (hb : 2 ≤ b) : ∀ f n, n ≤ f → ∀ x ∈ digF b f n, x < b
  | 0, n, h, x, hx => by
    simp [digF] at hx
    omega
  | f + 1, n, h, x, hx => by
    rw [digF] at hx
    split at hx
    · rename_i hn; simp at hx; omega
    · have : n / b < n := Nat.div_lt_self (by omega) hb
      rcases List.mem_append.1 hx with q | q
      · exact digF_lt hb f (n / b) (by omega) x q
      · rw [List.mem_singleton.1 q]; exact Nat.mod_lt _ (by omega)
theorem dig_lt {b : Nat} (hb : 2 ≤ b) (n : Nat) : ∀ x ∈ dig b n, x < b := digF_lt hb n n (Nat.le_refl n)
theorem digF_pos (b : Nat) : ∀ f n, 0 < (digF b f n).length
  | 0, n => by simp [digF]
  | f + 1, n => by
    rw [digF]
    split
    · simp
    · simp
/-- As many digits as are enough. -/
theorem digF_fuel {b : Nat} (hb : 2 ≤ b) : ∀ f g n, n ≤ f → n ≤ g → digF b f n = digF b g n
  | 0, 0, n, _, _ => rfl
  | 0, g + 1, n, h, _ => by
    have : n = 0 := by omega
    subst this
    rw [digF, digF, if_pos (by omega)]
  | f + 1, 0, n, _, h => by
    have : n = 0 := by omega
    subst this
    rw [digF, digF, if_pos (by omega)]
  | f + 1, g + 1, n, h1, h2 => by
    rw [digF, digF]
    split
    · rfl
    · rename_i hn
      have : n / b < n := Nat.div_lt_self (by omega) hb
      rw [digF_fuel hb f g (n / b) (by omega) (by omega)]
theorem dig_step {b n : Nat} (hb : 2 ≤ b) (h : b ≤ n) : dig b n = dig b (n / b) ++ [n % b] := by
  unfold dig
  have : n / b < n := Nat.div_lt_self (by omega) hb
  obtain ⟨m, rfl⟩ : ∃ m, n = m + 1 := ⟨n - 1, by omega⟩
  rw [digF, if_neg (by omega), digF_fuel hb m ((m + 1) / b) _ (by omega) (Nat.le_refl _)]
theorem dig_one {b n : Nat} (h : n < b) : dig b n = [n] := by
  unfold dig
  cases n with
  | zero => rfl
  | succ n => rw [digF, if_pos h]
def asc (l : List Nat) : List Nat := l.map (· + 48)
theorem asc_bytes {l : List Nat} (h : ∀ x ∈ l, x < 10) : Bytes (asc l) := fun x hx => by
  obtain ⟨y, hy, rfl⟩ := List.mem_map.1 hx
  have := h y hy
  omega
theorem valD_lt {b : Nat} (hb : 0 < b) (l : List Nat) (h : ∀ x ∈ l, x < b) : valD b l < b ^ l.length := by
  have key : ∀ (l : List Nat) (x : Nat), (∀ y ∈ l, y < b) → l.foldl (fun v d => v * b + d) x < (x + 1) * b ^ l.length := by
    intro l
    induction l with
    | nil => intro x _; simp
    | cons y l ih =>
      intro x h
      rw [List.foldl_cons, List.length_cons, Nat.pow_succ]
      have h1 := ih (x * b + y) fun z hz => h z (by simp [hz])
      have hy := h y (by simp)
      have h2 : (x * b + y + 1) ≤ (x + 1) * b := by rw [Nat.add_mul, Nat.one_mul]; omega
      have h3 : (x * b + y + 1) * b ^ l.length ≤ (x + 1) * b * b ^ l.length := Nat.mul_le_mul_right _ h2
      have h4 : (x + 1) * (b ^ l.length * b) = (x + 1) * b * b ^ l.length := by rw [Nat.mul_assoc, Nat.mul_comm b]
      omega
  have := key l 0 h
  rw [Nat.zero_add, Nat.one_mul] at this
  exact this
/-- A part; a part changed. -/
def sub (b : List Nat) (i n : Nat) : List Nat := (b.drop i).take n
def put (b : List Nat) (i : Nat) (s : List Nat) : List Nat := b.take i ++ s ++ b.drop (i + s.length)
structure Rd where
  b : List Nat
  path : List Nat
  link : List Nat
  told : Bool
  list : List Ent
end Go.Tar
namespace Go.Proofs.YtolcmaipjpkidaaGreatDoor
open Go Go.SL
theorem q_str {h : Hp} {K : Value → Prop} {v : Value} {l : List Nat} (hv : Rn h .u8 v l) : q P h (convert t_Sl_uint8 t_string v) K = K (.string (strL l)) := q_of (by
  obtain ⟨hl, a, c, rfl, hc, hr⟩ := hv
  show peek P h (Sem.bind (underlying t_Sl_uint8) _) = _
  rw [peek_bind, pk_und u_Sl_uint8, Option.bind_some]
  show peek P h (Sem.bind (underlying t_string) _) = _
  rw [peek_bind, pk_und u_string, Option.bind_some]
  show peek P h (Sem.bind (underlying t_uint8) _) = _
  rw [peek_bind, pk_und u_uint8, Option.bind_some]
  show peek P h (Conv.bytesToString _) = _
  rcases hr with h0 | ⟨b, o, rfl, hy⟩
  · rw [List.eq_nil_of_length_eq_zero h0]
    cases a <;> rfl
  · unfold Conv.bytesToString
    show peek P h (Sem.bind (loadCellsFrom ⟨b, o, none⟩ 0 l.length #[]) _) = _
    have := pk_loadCells (P := P) (h := h) (b := b) (o := o) (nv .u8 l) 0 #[] (fun j x e => by simpa using hy j x e)
    rw [nv_len] at this
    rw [peek_bind, this, Option.bind_some]
    have key : ∀ (l : List Nat) (s : ByteArray), peek P h (forIn (nv .u8 l) s fun c r => (match c with
        | .int .u8 n => Sem.pure (ForInStep.yield (r.push (UInt8.ofNat n.toNat)))
        | _ => stuck "bytesToString: byte expected" : Sem (ForInStep ByteArray))) = some (l.foldl (fun s x => s.push (UInt8.ofNat x)) s) := by
      intro l
      induction l with
      | nil => intro s; rfl
      | cons x l ih =>
        intro s
        rw [nv_cons, List.forIn_cons]
        exact ih _
    have e0 : (#[] ++ (nv .u8 l).toArray) = (nv .u8 l).toArray := by simp
    rw [e0]
    show peek P h (Sem.bind (forIn (nv .u8 l).toArray ByteArray.empty _) _) = _
    rw [List.forIn_toArray, peek_bind]
    refine (congrArg (fun x => Option.bind x _) (key l ByteArray.empty)).trans ?_
    rfl) K
/-- Bytes as bytes: nothing moves, but what stands behind the block may not be written. -/
theorem aw_mark {h : Hp} {b n : Nat} {xs : List Value} {K : Value → Hp → Prop} (hb : h b = none) (hx : xs.length = n) (k : ∀ h'', New h t_uint8 1 (.slice (some ⟨b, 0, none⟩) n n) h'' xs n → K (.slice (some ⟨b, 0, none⟩) n n) h'') :
    aw P (convert t_Sl_uint8 t_Sl_uint8 (.slice (some ⟨b, 0, none⟩) n n)) K (h.set b (.row t_uint8 xs n (some (0, 0)))) := by
  refine aw_of ?_
  show awp P (Sem.bind (underlying t_Sl_uint8) _) K _
  rw [awp_bind, peek_awp P _ _ _ (pk_und u_Sl_uint8)]
  show awp P (Sem.bind (underlying t_Sl_uint8) _) K _
  rw [awp_bind, peek_awp P _ _ _ (pk_und u_Sl_uint8)]
  show awp P (Sem.bind (underlying t_uint8) _) K _
  rw [awp_bind, peek_awp P _ _ _ (pk_und u_uint8)]
  show awp P (Sem.bind (markStringish ⟨b, 0, none⟩) _) K _
  rw [awp_bind]
  show awp P (Sem.bind (shape b) _) _ _
  rw [awp_bind]
  have hs : (h.set b (.row t_uint8 xs n (some (0, 0)))).shape b = some (some (t_uint8, n)) := by simp [Hp.shape]
  have : peek P (h.set b (.row t_uint8 xs n (some (0, 0)))) (shape b) = some (some (t_uint8, n)) := by
    unfold shape
    simp only [peek, hs]
  rw [peek_awp P _ _ _ this]
  show awp P (freeze ⟨b, n, none⟩ 1) _ _
  have hfz : (h.set b (.row t_uint8 xs n (some (0, 0)))).freeze ⟨b, n, none⟩ 1 = some (h.set b (.row t_uint8 xs n (some (n, n + 1)))) := by simp [Hp.freeze, Hp.set_set, frz]
  simp only [awp, freeze, hfz]
  refine k _ ⟨by rw [Nat.mul_one]; exact hx, .inr ⟨b, n, (n, n + 1), hb, Nat.le_refl _, rfl, by rw [Nat.mul_one], fun i hi => by omega⟩⟩
end Go.Proofs.YtolcmaipjpkidaaGreatDoor
namespace Go.Proofs.YtolcmaipjpkidaaGreatDoor
open Go Go.SL Go.Pure Go.Tar
/-- Where a byte stands first; -1: nowhere. -/
def idxB (c : Nat) (l : List Nat) : Int := if c ∈ l then ((l.takeWhile (· != c)).length : Int) else -1
theorem ex_idx {h : Hp} (s : ByteArray) (c : Int) : peek P h (callFunc n_bytealg_IndexByteString #[.string s, .int .u8 c]) = peek P h ((Extern.BytealgIndexByte.indexByte #[.string s, .int .u8 c]).bind fun v => .pure (.value v)) := by kernel_rfl
theorem find_ext {p q : Nat → Bool} : ∀ (r : List Nat), (∀ i ∈ r, p i = q i) → r.find? p = r.find? q
  | [], _ => rfl
  | x :: r, h => by
    rw [List.find?_cons, List.find?_cons, h x (by simp), find_ext r fun i hi => h i (by simp [hi])]
theorem find_list (c : Nat) : ∀ l : List Nat, ((List.range l.length).find? fun i => l.getD i 0 == c) = if c ∈ l then some (l.takeWhile (· != c)).length else none
  | [] => rfl
  | x :: l => by
    have ih := find_list c l
    rw [List.length_cons, List.range_succ_eq_map, List.find?_cons, List.find?_map]
    show (match x == c with | true => some 0 | false => Option.map Nat.succ ((List.range l.length).find? fun i => l.getD i 0 == c)) = _
    rw [ih]
    by_cases hx : x = c
    · subst hx
      simp
    · have e : (x == c) = false := beq_eq_false_iff_ne.2 hx
      have e2 : (x != c) = true := bne_iff_ne.2 hx
      rw [e, List.takeWhile_cons, e2]
      dsimp only
      by_cases hm : c ∈ l
      · rw [if_pos hm, if_pos (by simp [hm])]; rfl
      · rw [if_neg hm, if_neg (by simp [hm, Ne.symm hx])]; rfl
theorem find_idx {l : List Nat} (hb : Bytes l) {c : Nat} (hc : c < 256) : ((List.range (strL l).size).find? fun i => (strL l)[i]! == UInt8.ofNat c) = if c ∈ l then some (l.takeWhile (· != c)).length else none := by
  rw [strL_size, ← find_list]
  refine find_ext _ fun i hi => ?_
  have hi := List.mem_range.1 hi
  have hs : i < (strL l).size := by rw [strL_size]; exact hi
  rw [getElem!_pos (strL l) i hs]
  have e2 : (strL l)[i] = UInt8.ofNat (l.getD i 0) := by
    have : (strL l)[i] = (strL l).data.toList[i]'(by rw [Array.length_toList]; exact hs) := by simp; rfl
    rw [this]
    simp only [strL_data, List.getElem_map]
    rw [List.getD_eq_getElem?_getD, List.getElem?_eq_getElem hi, Option.getD_some]
  rw [e2]
  have hx := hb.getD i
  rw [Bool.eq_iff_iff, beq_iff_eq, beq_iff_eq]
  constructor
  · intro q
    have := congrArg UInt8.toNat q
    rwa [UInt8.toNat_ofNat', UInt8.toNat_ofNat', Nat.mod_eq_of_lt (show l.getD i 0 < 2 ^ 8 by omega), Nat.mod_eq_of_lt (show c < 2 ^ 8 by omega)] at this
  · intro q; rw [q]
theorem empS : (⟨#[]⟩ : ByteArray) = strL [] := rfl
section
variable {h : Hp} {K : Value → Hp → Prop}
theorem T_sIdx {l : List Nat} (hb : Bytes l) {c : Nat} (hc : c < 256) (k : K (.int .i64 (idxB c l)) h) : Cn P n_stringslite_IndexByte #[.string (strL l), .int .u8 (c : Int)] h K := by
  refine F_stringslite_IndexByte ?_
  unfold s_stringslite_IndexByte
  rw [exP_of (v := .int .i64 (idxB c l))]
  · exact k
  · rw [ex_idx]
    show peek P h (Sem.bind (Extern.BytealgIndexByte.indexByte _) _) = _
    rw [peek_bind]
    have e : peek P h (Extern.BytealgIndexByte.indexByte #[.string (strL l), .int .u8 (c : Int)]) = some (.int .i64 (idxB c l)) := by
      show peek P h (match (List.range (strL l).size).find? fun i => (strL l)[i]! == (c : Int).toNat.toUInt8 with
        | some i => pure (goInt i)
        | none => pure (goInt (-1))) = _
      have e8 : (c : Int).toNat.toUInt8 = UInt8.ofNat c := by rw [Int.toNat_natCast]
      rw [e8, find_idx hb hc]
      unfold idxB
      by_cases hm : c ∈ l
      · rw [if_pos hm, if_pos hm]; rfl
      · rw [if_neg hm, if_neg hm]; rfl
    rw [e]
    rfl
theorem T_IndexByte {l : List Nat} (hb : Bytes l) {c : Nat} (hc : c < 256) (k : K (.int .i64 (idxB c l)) h) : Cn P n_strings_IndexByte #[.string (strL l), .int .u8 (c : Int)] h K := by
  refine F_strings_IndexByte ?_
  unfold s_strings_IndexByte
  exact T_sIdx hb hc k
end
end Go.Proofs.YtolcmaipjpkidaaGreatDoor
namespace Go.SL
open Go
section
variable {P : Program} {h : Hp}
/-- A row made just now is owned. -/
theorem OutAt.own {R h' : Hp} {t s n : Nat} {v : Value} {xs : List Value} {S So : List Nat} (w : Own R h S) (x : Hp.ext h h') (o : OutAt t s h' v xs n So) (fr : ∀ y, y ∈ So → h y = none) : Own R h' So := by
  refine ⟨w.sub.trans x, fun b hb => w.sub.none (fr b hb), fun b hb => ?_⟩
  rcases o with ⟨_, _, _, rfl⟩ | ⟨b', c, f, e, _, _, _, rfl, _⟩
  · cases hb
  · rw [List.mem_singleton.1 hb]; exact ⟨_, e⟩
/-- A step within what is owned. -/
theorem Stp.within {R h h' : Hp} {S : List Nat} (w : Own R h S) (fr : ∀ b, b ∉ S → h' b = h b) (kn : ∀ b, b ∈ S → ∃ o, h' b = some o) : Stp R h R h' S S :=
  ⟨.refl _, fun b o hb e => by rw [fr b hb]; exact e, fun b o hb e => hb, fun b o hb e er => er, ⟨fun b o e => by
    have hb : b ∉ S := fun q => by rw [w.dis b q] at e; cases e
    rw [fr b hb]; exact w.sub b o e, w.dis, kn⟩⟩
theorem OutAt.flat {h : Hp} {t s n : Nat} {v : Value} {xs : List Value} {So : List Nat} (o : OutAt t s h v xs n So) : SL.flat v = true := by
  rcases o with ⟨rfl, _⟩ | ⟨b, c, f, _, rfl, _⟩ <;> rfl
end
end Go.SL
namespace Go.Proofs.YtolcmaipjpkidaaGreatDoor
open Go Go.SL Go.Pure
theorem jpf0 {h : Hp} {K : Value → Prop} (b : Nat) : q P h (Instr.fieldAt t_json_parser (.pointer (some ⟨b, 0, none⟩)) 0) K = K (.pointer (some ⟨b, 0, none⟩)) := q_of (by kernel_rfl) K
theorem jpf1 {h : Hp} {K : Value → Prop} (b : Nat) : q P h (Instr.fieldAt t_json_parser (.pointer (some ⟨b, 0, none⟩)) 1) K = K (.pointer (some ⟨b, 1, none⟩)) := q_of (by kernel_rfl) K
/-- What leaves the parser. -/
abbrev wrongV (code : Int) : Value := .iface t_json_wrong (.agg #[.int .i64 code])
theorem bldWrong {h : Hp} {K : Value → Prop} (c : Int) : q P h (Instr.build t_json_wrong #[(0, .int .i64 c)]) K = K (.agg #[.int .i64 c]) := q_of (by kernel_rfl) K
theorem mkWrong {h : Hp} {K : Value → Prop} (c : Int) : q P h (Instr.makeInterface t_json_wrong (.agg #[.int .i64 c])) K = K (wrongV c) := q_of (by kernel_rfl) K
/-- The parser, at a place of its bytes. -/
def PaA (R h : Hp) (p : Nat) (b : List Nat) (i : Nat) : Prop := ∃ bv, Own R h [p] ∧ h p = some (.row t_json_parser [bv, .int .i64 (i : Int)] 2 (some (0, 0))) ∧ Rn R .u8 bv b ∧ Bytes b ∧ b.length ≤ 100000 ∧ i ≤ b.length + 1
section
variable {Z : Zt} {R h : Hp} {K : Value → Hp → Prop} {p : Nat} {b : List Nat} {i : Nat}
theorem PaA.own (a : PaA R h p b i) : Own R h [p] := let ⟨_, w, _⟩ := a; w
theorem PaA.ext {R' h' : Hp} (a : PaA R h p b i) (x : Hp.ext h h') (st : Stp R h R' h' [p] [p]) : PaA R' h' p b i := by
  obtain ⟨bv, w, row, r, bb, l, hi⟩ := a
  exact ⟨bv, st.own, x _ _ row, r.mono st.ext.cle, bb, l, hi⟩
theorem PaA.cells (a : PaA R h p b i) : ∃ bv, h.cell ⟨p, 0, none⟩ = some bv ∧ h.cell ⟨p, 1, none⟩ = some (.int .i64 (i : Int)) ∧ Rn R .u8 bv b ∧ Bytes b ∧ b.length ≤ 100000 ∧ i ≤ b.length + 1 := by
  obtain ⟨bv, w, row, r, bb, l, hi⟩ := a
  exact ⟨bv, by rw [cell_row row]; rfl, by rw [cell_row row]; rfl, r, bb, l, hi⟩
/-- It goes on. -/
theorem pa_put (a : PaA R h p b i) {j : Nat} (hj : j ≤ b.length + 1) {F : Unit → Hp → Prop} (k : ∀ h', Stp R h R h' [p] [p] → PaA R h' p b j → F () h') : aw P (Instr.storeAt t_int (.pointer (some ⟨p, 1, none⟩)) (.int .i64 (j : Int))) F h := by
  obtain ⟨bv, w, row, r, bb, l, hi⟩ := a
  refine aw_store z_int rfl (put_row row (by simp) (by omega) _) ?_
  have st : Stp R h R (h.set p (.row t_json_parser ([bv, .int .i64 (i : Int)].set 1 (.int .i64 (j : Int))) 2 (some (0, 0)))) [p] [p] := Stp.within w (fun b hb => Hp.set_ne _ _ (by rintro rfl; exact hb (by simp))) (fun b hb => by
    by_cases q : b = p
    · subst q; exact ⟨_, Hp.set_same ..⟩
    · rw [Hp.set_ne _ _ q]; exact w.kn b hb)
  exact k _ st ⟨bv, st.own, Hp.set_same .., r, bb, l, hj⟩
theorem T_jfail {t0 : Value} {code : Int} (kz : Z [pe (wrongV code)] h) : CnZ P Z n_json_parser_fail #[t0, .int .i64 code] h K := by
  refine F_json_parser_fail ?_
  unfold s_json_parser_fail
  rw [bldWrong, mkWrong]
  exact kz
theorem T_jmust {t0 : Value} {g : Bool} (kz : g = false → Z [pe (wrongV 8)] h) (k : g = true → K (.tuple #[]) h) : CnZ P Z n_json_parser_must #[t0, .bool g] h K := by
  refine F_json_parser_must ?_
  unfold s_json_parser_must
  cases g with
  | true =>
    simp -zeta only [GL, Bool.not_true, Bool.false_eq_true, if_false]
    exact k rfl
  | false =>
    simp -zeta only [GL, Bool.not_false, if_true]
    exact T_jfail (kz rfl)
theorem T_jpeek (a : PaA R h p b i) (hi : i ≤ b.length) (k : K (.int .u8 ((b.getD i 0 : Nat) : Int)) h) : CnZ P Z n_json_parser_peek #[.pointer (some ⟨p, 0, none⟩)] h K := by
  refine F_json_parser_peek ?_
  unfold s_json_parser_peek
  obtain ⟨bv, c0, c1, r, bb, l, _⟩ := a.cells
  have rh := a.own.rn r
  obtain ⟨av, cv, rfl, hcv⟩ := r.shape
  have d1 : decide ((i : Int) < ((b.length : Nat) : Int)) = decide (i < b.length) := lt_dec _ _
  simp -zeta only [GL, RL, jpf0, jpf1, c0, c1, d1]
  by_cases g : i < b.length
  · obtain ⟨bb1, o, rfl, hy⟩ := rh.pos (by omega)
    have hx := hy i g
    simp -zeta (disch := omega) only [g, decide_true, if_true, GL, RL, Int.toNat_natCast, hx]
    exact k
  · simp -zeta only [g, decide_false, Bool.false_eq_true, if_false]
    rw [List.getD_eq_getElem?_getD, List.getElem?_eq_none (by omega)] at k
    exact k
end
end Go.Proofs.YtolcmaipjpkidaaGreatDoor
namespace Go.SL
open Go
section
variable {P : Program} {h : Hp}
/-- A part of a row is overwritten. -/
theorem aw_storePart {t : Nat} {b o : Nat} {e : TypeId} {xs : List Value} {cap : Nat} {f : Nat × Nat} {ys : List Value} {K : Unit → Hp → Prop} (hs : sz P t = some ys.length) (hb : h b = some (.row e xs cap (some f))) (hl : o + ys.length ≤ xs.length) (hfl : ∀ y ∈ ys, flat y = true)
    (hf : ∀ i, i < xs.length → ¬ (f.1 ≤ i ∧ i < f.2)) (k : K () (h.set b (.row e (putL xs o ys) cap (some f)))) : aw P (Instr.storeAt t (.pointer (some ⟨b, o, none⟩)) (.agg ys.toArray)) K h := by
  refine aw_of ?_
  show awp P (Sem.bind (sizeOf t) _) K h
  rw [awp_bind, peek_awp P _ _ _ (pk_size hs)]
  show awp P (if (Value.agg ys.toArray).cells.size ≠ ys.length then _ else _) K h
  rw [if_neg (by simp [Value.cells])]
  show awp P (storeCells ⟨b, o, none⟩ ys.toArray.toList 0) K h
  exact awp_putCells ys xs h K o 0 hb hfl (by omega) hf k
/-- A call of a function with a body, by its value. -/
theorem callP_cn {g : FuncId} {x y : Array Value} {args : List Value} {K : Value → Hp → Prop} (e : extB P g = false) (c : Cn P g (x.toList ++ args ++ y.toList).toArray h K) : callP P (.func (.func g) x y) args h K := by
  show (if extB P g = true then _ else _)
  rw [if_neg (by rw [e]; decide)]
  exact c
end
end Go.SL
namespace Go.Proofs.YtolcmaipjpkidaaGreatDoor
open Go Go.SL Go.Pure Go.Tar
theorem gt0 (n : Nat) : decide ((0 : Int) < ((n : Nat) : Int)) = decide (0 < n) := by rw [decide_eq_decide]; omega
theorem beqN (a b : Nat) : ((((a : Nat) : Int)) == ((b : Nat) : Int)) = (a == b) := by
  rw [Bool.eq_iff_iff, beq_iff_eq, beq_iff_eq]; omega
theorem take_last {l : List Nat} {m : Nat} (h : m < l.length) : l.take (m + 1) = l.take m ++ [l.getD m 0] := by
  rw [List.take_succ_eq_append_getElem h, List.getD_eq_getElem?_getD, List.getElem?_eq_getElem h]; rfl
section
variable {h : Hp} {K : Value → Hp → Prop}
end
theorem asc_len (l : List Nat) : (asc l).length = l.length := List.length_map ..
theorem asc_getD {l : List Nat} {i : Nat} (h : i < l.length) : (asc l).getD i 0 = l.getD i 0 + 48 := by
  rw [asc, List.getD_eq_getElem?_getD, List.getElem?_map, List.getD_eq_getElem?_getD, List.getElem?_eq_getElem h]; rfl
theorem asc_sub (l : List Nat) (h : ∀ x ∈ l, 48 ≤ x) : asc (l.map (· - 48)) = l := by
  rw [asc, List.map_map]
  conv => rhs; rw [← List.map_id l]
  exact List.map_congr_left fun x hx => by have := h x hx; simp; omega
theorem val_take (b : Nat) {ds : List Nat} {i : Nat} (h : i < ds.length) : valD b (ds.take (i + 1)) = valD b (ds.take i) * b + ds.getD i 0 := by
  rw [take_last h, valD_app]
  simp [valD]
theorem getD_memB {l : List Nat} {i : Nat} (h : i < l.length) : l.getD i 0 ∈ l := by
  rw [List.getD_eq_getElem?_getD, List.getElem?_eq_getElem h]; exact List.getElem_mem h
theorem und_error : P.underlying t_error = some (.interface (match P.underlying t_error with | some (.interface ms) => ms | _ => #[])) := by kernel_rfl
theorem eqNilE {h : Hp} : peek P h (Op.equal t_error .nilIface .nilIface) = some true := by
  show peek P h (Sem.bind (underlying t_error) _) = _
  rw [peek_bind, pk_und und_error]
  rfl
theorem q_neqNilE {h : Hp} {K : Value → Prop} (x : Operand) (c : Value) : q P h (eqop .neq t_error x (.const c) .nilIface .nilIface) K = K (.bool false) := q_of (by
  unfold eqop
  rw [peek_bind]
  have : peek P h (eqGuard .neq t_error x (.const c) .nilIface .nilIface) = some () := by cases x <;> rfl
  rw [this, Option.bind_some]
  show peek P h (Sem.bind (Op.equal t_error .nilIface .nilIface) _) = _
  rw [peek_bind, eqNilE]
  rfl) K
section
variable {h : Hp} {K : Value → Hp → Prop}
end
section
variable {h : Hp} {K : Value → Hp → Prop}
theorem T_PUt11 {ds : List Nat} (hd : ∀ x ∈ ds, x < 10) (hl : ds.length ≤ 16) {s0 : Value} (k : K (.tuple #[.int .u64 ((valD 10 ds : Nat) : Int), .nilIface]) h) :
    s_strconv_ParseUint_11 (fun v h' => ∃ h0, Hp.le h0 h' ∧ K v h0) h (.string (strL (asc ds))) (.int .i64 10) (.int .u64 0) .nilIface (.bool false) s0 (.int .u64 1844674407370955162) (.int .u64 18446744073709551615) (.bool false) (.int .u64 0) := by
  unfold s_strconv_ParseUint_11
  refine aw_stB u_string u_Sl_uint8 u_uint8 (asc_bytes fun x hx => by have := hd x hx; omega) fun w h1 nw => ?_
  have le1 := nw.ext.le
  have r : Rn h1 .u8 w (asc ds) := nw.rds
  obtain ⟨a, c, rfl, hc⟩ := r.shape
  rw [asc_len] at *
  simp -zeta only [RL]
  refine Lp_mk (fun m vs H => ∃ i : Nat, i + m = ds.length ∧ H = h1 ∧ vs = [.bool false, .int .u64 0, .nilIface, .int .u64 ((valD 10 (ds.take i) : Nat) : Int), .int .i64 (i : Int)]) ds.length ⟨0, by omega, rfl, rfl⟩ ?_
  rintro m vs H ⟨i, hi, rfl, rfl⟩
  simp -zeta only [GL, List.getD_cons_zero, List.getD_cons_succ, lt_dec]
  by_cases hlt : i < ds.length
  · simp -zeta only [hlt, decide_true, if_true]
    obtain ⟨b, o, rfl, hy⟩ := r.pos (by rw [asc_len]; omega)
    have hx := hy i (by rw [asc_len]; exact hlt)
    rw [asc_getD hlt] at hx
    have h8 := hd _ (getD_memB hlt)
    have hv : valD 10 (ds.take i) < 10 ^ 16 := Nat.lt_of_lt_of_le (valD_lt (by decide) _ fun x hx => hd x (List.mem_of_mem_take hx)) (Nat.pow_le_pow_right (by decide) (by rw [List.length_take]; omega))
    have h11 : 10 ^ 16 = 10000000000000000 := by decide
    generalize hdd : ds.getD i 0 = d at *
    generalize hnn : valD 10 (ds.take i) = n at *
    have e95 : (((d + 48 : Nat) : Int) == 95) = false := by rw [beq_eq_false_iff_ne]; omega
    have l48 : decide ((48 : Int) ≤ ((d + 48 : Nat) : Int)) = true := decide_eq_true (by omega)
    have l57 : decide (((d + 48 : Nat) : Int) ≤ 57) = true := decide_eq_true (by omega)
    have w1 : IntKind.u8.wrap (((d + 48 : Nat) : Int) - 48) = (d : Int) := by simp [IntKind.wrap, IntKind.bits, IntKind.signed]; omega
    have w2 : IntKind.u8.wrap (10 : Int) = 10 := by decide
    have w3 : IntKind.u64.wrap (10 : Int) = 10 := by decide
    have w4 : IntKind.u64.wrap ((n : Int) * 10) = ((n * 10 : Nat) : Int) := by rw [wu64i (by omega) (by omega)]; omega
    have w5 : IntKind.u64.wrap (d : Int) = (d : Int) := wu64i (by omega) (by omega)
    have w6 : IntKind.u64.wrap (((n * 10 : Nat) : Int) + (d : Int)) = ((n * 10 + d : Nat) : Int) := by rw [wu64i (by omega) (by omega)]; omega
    have w7 : IntKind.i64.wrap ((i : Int) + 1) = ((i + 1 : Nat) : Int) := by rw [wi64 (by omega) (by omega)]; omega
    have g1 : decide ((10 : Int) ≤ (d : Int)) = false := decide_eq_false (by omega)
    have g2 : decide ((1844674407370955162 : Int) ≤ (n : Int)) = false := decide_eq_false (by omega)
    have g3 : decide (((n * 10 + d : Nat) : Int) < ((n * 10 : Nat) : Int)) = false := decide_eq_false (by omega)
    have g4 : decide ((18446744073709551615 : Int) < ((n * 10 + d : Nat) : Int)) = false := decide_eq_false (by omega)
    simp -zeta (disch := omega) only [GL, RL, hx, e95, Int.toNat_natCast]
    intro J30 J31
    have q31 : J31 (.bool false) H := by
      simp -zeta only [J31]
      clear J31
      simp -zeta only [GL, Bool.false_eq_true, if_false]
      intro J33
      have q33 : J33 (.bool true) H := by
        simp -zeta only [J33]
        clear J33
        simp -zeta only [GL, if_true, w1]
        simp -zeta only [J30]
        clear J30
        simp -zeta only [GL, RL, w2, w3, w4, w5, w6, w7, g1, g2, g3, g4, Bool.false_eq_true, if_false, if_true]
        refine ⟨_, .refl _, m - 1, by omega, i + 1, by omega, rfl, ?_⟩
        rw [val_take 10 hlt, hnn, hdd]
      clear_value J33
      simp -zeta only [l48, l57, GL, if_true]
      exact q33
    clear_value J31
    simp -zeta only [Bool.false_eq_true, if_false]
    exact q31
  · simp -zeta only [hlt, decide_false, Bool.false_eq_true, if_false]
    rw [List.take_of_length_le (by omega)]
    unfold s_strconv_ParseUint_12
    simp -zeta only [GL, Bool.false_eq_true, if_false]
    unfold s_strconv_ParseUint_13 s_strconv_ParseUint_14
    exact ⟨h, le1, k⟩
theorem T_ParseUint10 {ds : List Nat} (hd : ∀ x ∈ ds, x < 10) (hl : ds.length ≤ 16) (h0 : ds ≠ []) (k : K (.tuple #[.int .u64 ((valD 10 ds : Nat) : Int), .nilIface]) h) :
    Cn P n_strconv_ParseUint #[.string (strL (asc ds)), .int .i64 10, .int .i64 64] h K := by
  refine Cn_wk (F_strconv_ParseUint ?_)
  have hb : Bytes (asc ds) := asc_bytes fun x hx => by have := hd x hx; omega
  have en : Bytes ([] : List Nat) := by intro x hx; cases hx
  have ha : asc ds ≠ [] := by rw [asc]; simpa using h0
  unfold s_strconv_ParseUint s_strconv_ParseUint_1
  rw [empS, q_eqlSt _ _ hb en]
  simp -zeta only [GL, ha, decide_false, Bool.false_eq_true, if_false]
  unfold s_strconv_ParseUint_2
  simp -zeta only [GL, show ((10 : Int) == 0) = false from rfl]
  unfold s_strconv_ParseUint_3 s_strconv_ParseUint_4
  intro J3
  have q3 : J3 (.bool true) h := by
    simp -zeta only [J3]
    clear J3
    simp -zeta only [GL, if_true]
    unfold s_strconv_ParseUint_5
    simp -zeta only [GL, show ((64 : Int) == 0) = false from rfl, show decide ((64 : Int) < 0) = false from rfl, show decide ((64 : Int) < 64) = false from rfl, Bool.false_eq_true, if_false, if_true]
    unfold s_strconv_ParseUint_6 s_strconv_ParseUint_7
    simp -zeta only [GL, show ((10 : Int) == 10) = true from rfl, if_true]
    unfold s_strconv_ParseUint_8
    have q3 : IntKind.u64.wrap ((1 : Int) * 2 ^ min (64 : Int).toNat IntKind.u64.bits) = 0 := by decide
    have q4 : IntKind.u64.wrap ((0 : Int) - 1) = 18446744073709551615 := by decide
    simp -zeta (disch := decide) only [GL, RL, show IntKind.u64.wrap (64 : Int) = 64 from by decide, q3, q4]
    unfold s_strconv_ParseUint_9 s_strconv_ParseUint_10
    exact T_PUt11 hd hl k
  clear_value J3
  simp -zeta only [GL, show decide ((2 : Int) ≤ 10) = true from rfl, show decide ((10 : Int) ≤ 36) = true from rfl, if_true]
  exact q3
theorem T_ParseInt10 {ds : List Nat} (hd : ∀ x ∈ ds, x < 10) (hl : ds.length ≤ 16) (h0 : ds ≠ []) (k : K (.tuple #[.int .i64 ((valD 10 ds : Nat) : Int), .nilIface]) h) :
    Cn P n_strconv_ParseInt_161 #[.string (strL (asc ds)), .int .i64 10, .int .i64 64] h K := by
  have hb : Bytes (asc ds) := asc_bytes fun x hx => by have := hd x hx; omega
  have en : Bytes ([] : List Nat) := by intro x hx; cases hx
  have ha : asc ds ≠ [] := by rw [asc]; simpa using h0
  have hp : 0 < ds.length := List.length_pos_iff.2 h0
  have hv : valD 10 ds < 10 ^ 16 := Nat.lt_of_lt_of_le (valD_lt (by decide) _ hd) (Nat.pow_le_pow_right (by decide) hl)
  have h11 : 10 ^ 16 = 10000000000000000 := by decide
  refine F_strconv_ParseInt_161 ?_
  unfold s_strconv_ParseInt_161
  refine F_strconv_ParseInt_176 ?_
  unfold s_strconv_ParseInt_176
  rw [empS, q_eqlSt _ _ hb en]
  simp -zeta only [GL, ha, decide_false, Bool.false_eq_true, if_false]
  intro J6
  have q6 : J6 (.string (strL (asc ds))) (.bool false) h := by
    simp -zeta only [J6]
    clear J6
    refine T_ParseUint10 hd hl h0 ?_
    rw [ext0, ext1]
    intro J13
    have q13 : J13 h := by
      simp -zeta only [J13]
      clear J13
      intro J18
      have q18 : J18 (.int .i64 64) h := by
        simp -zeta only [J18]
        clear J18
        have q3 : IntKind.u64.wrap ((1 : Int) * 2 ^ min (63 : Int).toNat IntKind.u64.bits) = 9223372036854775808 := by decide
        simp -zeta (disch := decide) only [GL, RL, show IntKind.i64.wrap ((64 : Int) - 1) = 63 from by decide, show IntKind.u64.wrap (63 : Int) = 63 from by decide, q3]
        generalize valD 10 ds = n at *
        have g1 : decide ((9223372036854775808 : Int) ≤ (n : Int)) = false := decide_eq_false (by omega)
        simp -zeta only [GL, RL, g1, Bool.not_false, Bool.false_eq_true, if_false, if_true, wi64 (show (-9223372036854775808 : Int) ≤ (n : Int) by omega) (by omega)]
        intro J22
        have q22 : J22 (.bool false) h := by
          simp -zeta only [J22]
          clear J22
          simp -zeta only [GL, Bool.false_eq_true, if_false]
          intro J25
          have q25 : J25 (.bool false) h := by
            simp -zeta only [J25]
            clear J25
            simp -zeta only [GL, Bool.false_eq_true, if_false, ext0, ext1, q_neqNilE]
            exact k
          exact q25
        exact q22
      clear_value J18
      simp -zeta only [GL, show ((64 : Int) == 0) = false from rfl, Bool.false_eq_true, if_false]
      exact q18
    clear_value J13
    simp -zeta only [q_neqNilE, GL, Bool.false_eq_true, if_false]
    exact q13
  clear_value J6
  have i0 : (0 : Int) = ((0 : Nat) : Int) := rfl
  have h8 := hd _ (getD_memB hp)
  rw [i0, q_idxSt u_string hb (by rw [asc_len]; exact hp), asc_getD hp]
  have e43 : (((ds.getD 0 0 + 48 : Nat) : Int) == 43) = false := by rw [beq_eq_false_iff_ne]; omega
  have e45 : (((ds.getD 0 0 + 48 : Nat) : Int) == 45) = false := by rw [beq_eq_false_iff_ne]; omega
  simp -zeta only [GL, e43, e45, Bool.false_eq_true, if_false]
  exact q6
end
end Go.Proofs.YtolcmaipjpkidaaGreatDoor
namespace Go.Js
open Go.Pure
/-- A value. -/
inductive JV where
  | mk (k : Int) (o : Bool) (n : Int) (t : List Nat) (l : List JV) (m : List (List Nat × JV))
abbrev nulV : JV := .mk 0 false 0 [] [] []
abbrev boolV (o : Bool) : JV := .mk 1 o 0 [] [] []
abbrev numV (n : Int) : JV := .mk 2 false n [] [] []
abbrev textV (t : List Nat) : JV := .mk 3 false 0 t [] []
abbrev listV (l : List JV) : JV := .mk 4 false 0 [] l []
abbrev mapV (m : List (List Nat × JV)) : JV := .mk 5 false 0 [] [] m
def isBl (c : Nat) : Bool := c == 9 || c == 10 || c == 13 || c == 32
def skip (s : List Nat) : List Nat := s.dropWhile isBl
def has (w s : List Nat) : Bool := decide (s.take w.length = w)
def isDig (c : Nat) : Bool := decide (48 ≤ c ∧ c ≤ 57)
def digs (s : List Nat) : List Nat := s.takeWhile isDig
def dec (l : List Nat) : Nat := Go.Tar.valD 10 (l.map (· - 48))
def numOk (mi : Bool) (s1 : List Nat) : Bool := decide (0 < (digs s1).length ∧ (digs s1).length ≤ 16 ∧ (s1.getD 0 0 ≠ 48 ∨ ((digs s1).length = 1 ∧ mi = false)))
def number (s : List Nat) : Except Int (JV × List Nat) :=
  let mi := has [45] s
  let s1 := if mi then s.drop 1 else s
  if numOk mi s1 then
    if dec (digs s1) ≤ 9007199254740991 then .ok (numV (if mi then -(dec (digs s1) : Int) else dec (digs s1)), s1.drop (digs s1).length) else .error 8
  else .error 8
def hexd (c : Nat) : Option Nat := if 48 ≤ c ∧ c ≤ 57 then some (c - 48) else if 97 ≤ c ∧ c ≤ 102 then some (c - 87) else if 65 ≤ c ∧ c ≤ 70 then some (c - 55) else none
def hex4 (s : List Nat) : Option Nat :=
  match s with
  | [a, b, c, d] => match hexd a, hexd b, hexd c, hexd d with
    | some w, some x, some y, some z => some (((w * 16 + x) * 16 + y) * 16 + z)
    | _, _, _, _ => none
  | _ => none
def half (s : List Nat) : Option (Nat × List Nat) := (hex4 (s.take 4)).map fun v => (v, s.drop 4)
def simple (c : Nat) : Option Nat := if c = 34 ∨ c = 92 ∨ c = 47 then some c else if c = 98 then some 8 else if c = 102 then some 12 else if c = 110 then some 10 else if c = 114 then some 13 else if c = 116 then some 9 else none
def escape (s : List Nat) : Option (Nat × List Nat) :=
  match s with
  | [] => none
  | c :: r => match simple c with
    | some v => some (v, r)
    | none => if c = 117 then
        match half r with
        | none => none
        | some (v, r1) => if v < 55296 ∨ 57343 < v then some (v, r1)
          else if v < 56320 ∧ has [92, 117] r1 = true then
            match half (r1.drop 2) with
            | none => none
            | some (w, r2) => if 56320 ≤ w ∧ w ≤ 57343 then some ((v - 55296) * 1024 + (w - 56320) + 65536, r2) else none
          else none
      else none
/-- A rune's bytes. -/
def enc (v : Nat) : List Nat :=
  if v < 128 then [v]
  else if v < 2048 then [192 + v / 64, 128 + v % 64]
  else if v < 65536 then [224 + v / 4096, 128 + v / 64 % 64, 128 + v % 64]
  else [240 + v / 262144, 128 + v / 4096 % 64, 128 + v / 64 % 64, 128 + v % 64]
def cont (c : Nat) : Bool := decide (128 ≤ c ∧ c < 192)
/-- The least and the greatest second byte behind a first one. -/
def acc2 (c : Nat) : Nat × Nat := if c = 224 then (160, 191) else if c = 237 then (128, 159) else if c = 240 then (144, 191) else if c = 244 then (128, 143) else (128, 191)
/-- How many bytes a rune has that stands here; 0: none does. -/
def runeN (s : List Nat) : Nat :=
  match s with
  | [] => 0
  | c :: r =>
    if c < 128 then 1
    else if c < 194 ∨ 245 ≤ c then 0
    else if (acc2 c).1 ≤ r.getD 0 0 ∧ r.getD 0 0 ≤ (acc2 c).2 then
      if c < 224 then 2
      else if cont (r.getD 1 0) then
        if c < 240 then 3
        else if cont (r.getD 2 0) then 4 else 0
      else 0
    else 0
def textG : List Nat → List Nat → Option (List Nat × List Nat)
  | [], _ => none
  | c :: r, out =>
    if c = 34 then some (out, r)
    else if c < 32 then none
    else if c = 92 then
      match escape r with
      | none => none
      | some (v, r1) => if r1.length < r.length + 1 then textG r1 (out ++ enc v) else none
    else
      if 0 < runeN (c :: r) then textG ((c :: r).drop (runeN (c :: r))) (out ++ (c :: r).take (runeN (c :: r))) else none
termination_by s => s.length
decreasing_by
  · simpa using by assumption
  · simp; omega
def text (s : List Nat) : Option (List Nat × List Nat) := if has [34] s then textG (s.drop 1) [] else none
/-- What stands between brackets, with commas between. -/
def itemsG {α : Type} (one : List α → List Nat → Except Int (α × List Nat)) (shut : Nat) (acc : List α) (s : List Nat) : Except Int (List α × List Nat) :=
  match one acc s with
  | .error c => .error c
  | .ok (x, r) =>
    if has [shut] (skip r) then .ok (acc ++ [x], (skip r).drop 1)
    else if has [44] (skip r) then (if ((skip r).drop 1).length < s.length then itemsG one shut (acc ++ [x]) ((skip r).drop 1) else .error 8)
    else .error 8
termination_by s.length
decreasing_by assumption
def items {α : Type} (one : List α → List Nat → Except Int (α × List Nat)) (shut : Nat) (s : List Nat) : Except Int (List α × List Nat) :=
  if has [shut] (skip (s.drop 1)) then .ok ([], (skip (s.drop 1)).drop 1) else itemsG one shut [] (skip (s.drop 1))
def member (val : List Nat → Except Int (JV × List Nat)) (acc : List (List Nat × JV)) (s : List Nat) : Except Int ((List Nat × JV) × List Nat) :=
  match text (skip s) with
  | none => .error 8
  | some (name, r) => if acc.any (fun m => decide (m.1 = name)) then .error 8
    else if has [58] (skip r) then
      match val ((skip r).drop 1) with
      | .error c => .error c
      | .ok (v, r2) => .ok ((name, v), r2)
    else .error 8
/-- A value, with so many more levels allowed. -/
def value : Nat → List Nat → Except Int (JV × List Nat)
  | 0, _ => .error 3
  | d + 1, s0 =>
    let s := skip s0
    if s.getD 0 0 = 34 then match text s with
      | none => .error 8
      | some (t, r) => .ok (textV t, r)
    else if s.getD 0 0 = 91 then match items (fun _ x => value d x) 93 s with
      | .error c => .error c
      | .ok (l, r) => .ok (listV l, r)
    else if s.getD 0 0 = 123 then match items (member (value d)) 125 s with
      | .error c => .error c
      | .ok (l, r) => .ok (mapV l, r)
    else if has [110, 117, 108, 108] s then .ok (nulV, s.drop 4)
    else if has [116, 114, 117, 101] s then .ok (boolV true, s.drop 4)
    else if has [102, 97, 108, 115, 101] s then .ok (boolV false, s.drop 5)
    else number s
def parse (b : List Nat) : Except Int JV :=
  if 65536 < b.length then .error 3
  else match value 16 b with
    | .error c => .error c
    | .ok (v, r) => if skip r = [] then .ok v else .error 8
theorem skip_len (s : List Nat) : (skip s).length ≤ s.length := (List.dropWhile_suffix _).length_le
theorem skip_suf (s : List Nat) : skip s <:+ s := List.dropWhile_suffix _
theorem skip_blank {c : Nat} (s : List Nat) (h : isBl c = true) : skip (c :: s) = skip s := by simp [skip, h]
theorem skip_other {c : Nat} (s : List Nat) (h : isBl c = false) : skip (c :: s) = c :: s := by simp [skip, h]
theorem has_ne {w s : List Nat} (h : has w s = true) : w.length ≤ s.length := by
  simp only [has, decide_eq_true_eq] at h
  have := congrArg List.length h
  rw [List.length_take] at this
  omega
theorem has1 (c : Nat) (s : List Nat) : has [c] s = decide (s.head? = some c) := by
  cases s with
  | nil => simp [has]
  | cons a s => simp [has]
theorem has1_ne {c : Nat} {s : List Nat} (h : has [c] s = true) : (s.drop 1).length + 1 = s.length := by
  have := has_ne h
  simp at this
  simp; omega
theorem digs_yes {c : Nat} (s : List Nat) (h : isDig c = true) : digs (c :: s) = c :: digs s := by simp [digs, h]
theorem digs_no {c : Nat} (s : List Nat) (h : isDig c = false) : digs (c :: s) = [] := by simp [digs, h]
theorem half_len {s r : List Nat} {v : Nat} (h : half s = some (v, r)) : r.length + 4 = s.length ∧ r <:+ s ∧ v < 65536 := by
  unfold half at h
  rw [Option.map_eq_some_iff] at h
  obtain ⟨w, hw, e⟩ := h
  obtain ⟨rfl, rfl⟩ := Prod.mk.inj e
  have hd : ∀ {c x : Nat}, hexd c = some x → x < 16 := fun {c x} h => by
    unfold hexd at h
    split at h
    · cases h; omega
    · split at h
      · cases h; omega
      · split at h
        · cases h; omega
        · cases h
  refine ⟨?_, List.drop_suffix _ _, ?_⟩
  · unfold hex4 at hw
    split at hw
    · rename_i a b c d e
      have := congrArg List.length e
      rw [List.length_take] at this
      simp at this
      simp; omega
    · cases hw
  · unfold hex4 at hw
    split at hw
    · split at hw
      · rename_i h1 h2 h3 h4
        have := hd h1; have := hd h2; have := hd h3; have := hd h4
        cases hw
        omega
      · cases hw
    · cases hw
theorem escape_len {s r : List Nat} {v : Nat} (h : escape s = some (v, r)) : r.length < s.length ∧ r <:+ s := by
  unfold escape at h
  split at h
  · cases h
  · rename_i c t
    split at h
    · cases h
      exact ⟨by simp, List.suffix_cons _ _⟩
    · split at h
      · split at h
        · cases h
        · rename_i v1 r1 h1
          obtain ⟨l1, s1, _⟩ := half_len h1
          split at h
          · cases h
            exact ⟨by simp; omega, s1.trans (List.suffix_cons _ _)⟩
          · split at h
            · split at h
              · cases h
              · rename_i v2 r2 h2
                obtain ⟨l2, s2, _⟩ := half_len h2
                split at h
                · cases h
                  have := s2.length_le
                  simp at l2
                  exact ⟨by simp; omega, (s2.trans (List.drop_suffix _ _)).trans (s1.trans (List.suffix_cons _ _))⟩
                · cases h
            · cases h
      · cases h
theorem enc_len (v : Nat) : 1 ≤ (enc v).length ∧ (enc v).length ≤ 4 := by
  unfold enc
  split
  · simp
  · split
    · simp
    · split <;> simp
theorem runeN_le (s : List Nat) : runeN s ≤ 4 := by
  unfold runeN
  split
  · omega
  · split
    · omega
    · split
      · omega
      · split
        · split
          · omega
          · split
            · split
              · omega
              · split <;> omega
            · omega
        · omega
theorem getD_pos {l : List Nat} {i x : Nat} (h : x ≤ l.getD i 0) (hx : 0 < x) : i < l.length := by
  refine Decidable.byContradiction fun q => ?_
  rw [List.getD_eq_getElem?_getD, List.getElem?_eq_none (by omega)] at h
  simp at h
  omega
theorem acc2_pos (c : Nat) : 128 ≤ (acc2 c).1 ∧ (acc2 c).2 ≤ 191 := by
  unfold acc2
  split
  · simp
  · split
    · simp
    · split
      · simp
      · split <;> simp
/-- Its bytes are there. -/
theorem runeN_len (s : List Nat) : runeN s ≤ s.length := by
  unfold runeN
  split
  · simp
  · rename_i c r
    have := acc2_pos c
    split
    · simp
    · split
      · omega
      · split
        · rename_i h
          have h1 := getD_pos h.1 (by omega)
          split
          · simp; omega
          · split
            · rename_i h2
              simp only [cont, decide_eq_true_eq] at h2
              have h2 := getD_pos h2.1 (by omega)
              split
              · simp; omega
              · split
                · rename_i h3
                  simp only [cont, decide_eq_true_eq] at h3
                  have h3 := getD_pos h3.1 (by omega)
                  simp; omega
                · omega
            · omega
        · omega
theorem textG_len : ∀ {s out r t : List Nat}, textG s out = some (t, r) → r.length < s.length ∧ r <:+ s ∧ t.length ≤ out.length + 4 * (s.length - r.length)
  | [], out, r, t, h => by rw [textG] at h; cases h
  | c :: s, out, r, t, h => by
    rw [textG] at h
    split at h
    · cases h
      exact ⟨by simp, List.suffix_cons _ _, by omega⟩
    · split at h
      · cases h
      · split at h
        · split at h
          · cases h
          · rename_i v r1 he
            split at h
            · obtain ⟨l1, s1⟩ := escape_len he
              obtain ⟨l2, s2, t2⟩ := textG_len h
              have := (enc_len v).2
              rw [List.length_append] at t2
              refine ⟨by simp; omega, (s2.trans s1).trans (List.suffix_cons _ _), by simp; omega⟩
            · cases h
        · split at h
          · rename_i hn
            obtain ⟨l2, s2, t2⟩ := textG_len h
            have e1 := runeN_len (c :: s)
            rw [List.length_drop] at l2 t2
            rw [List.length_append, List.length_take] at t2
            refine ⟨by omega, s2.trans (List.drop_suffix _ _), by omega⟩
          · cases h
termination_by s => s.length
decreasing_by
  · simp; omega
  · simp; omega
theorem text_len {s r t : List Nat} (h : text s = some (t, r)) : r.length < s.length ∧ r <:+ s ∧ t.length ≤ 4 * s.length := by
  unfold text at h
  split at h
  · rename_i hh
    obtain ⟨l, q, e⟩ := textG_len h
    have := has1_ne hh
    simp only [List.length_nil] at e
    exact ⟨by omega, q.trans (List.drop_suffix _ _), by omega⟩
  · cases h
theorem number_eq (s : List Nat) (mi : Bool) (hm : has [45] s = mi) (s1 : List Nat) (h1 : (if mi = true then s.drop 1 else s) = s1) :
    number s = if numOk mi s1 = true then (if dec (digs s1) ≤ 9007199254740991 then .ok (numV (if mi = true then -(dec (digs s1) : Int) else dec (digs s1)), s1.drop (digs s1).length) else .error 8) else .error 8 := by
  subst hm h1; rfl
theorem number_len {s r : List Nat} {v : JV} (h : number s = .ok (v, r)) : r.length < s.length ∧ r <:+ s := by
  obtain ⟨mi, hm⟩ : ∃ mi, has [45] s = mi := ⟨_, rfl⟩
  obtain ⟨s1, h1⟩ : ∃ s1, (if mi = true then s.drop 1 else s) = s1 := ⟨_, rfl⟩
  rw [number_eq s mi hm s1 h1] at h
  have q : s1 <:+ s := by
    rw [← h1]
    split
    · exact List.drop_suffix _ _
    · exact List.suffix_refl _
  by_cases g1 : numOk mi s1 = true
  · rw [if_pos g1] at h
    by_cases g2 : dec (digs s1) ≤ 9007199254740991
    · rw [if_pos g2] at h
      cases h
      simp only [numOk, decide_eq_true_eq] at g1
      have h2 : (digs s1).length ≤ s1.length := (List.takeWhile_prefix _).length_le
      have := q.length_le
      exact ⟨by rw [List.length_drop]; omega, (List.drop_suffix _ _).trans q⟩
    · rw [if_neg g2] at h; cases h
  · rw [if_neg g1] at h; cases h
theorem itemsG_len {α : Type} {one : List α → List Nat → Except Int (α × List Nat)} {shut : Nat} (h1 : ∀ acc s x r, one acc s = .ok (x, r) → r.length < s.length ∧ r <:+ s) :
    ∀ {acc : List α} {s : List Nat} {l : List α} {r : List Nat}, itemsG one shut acc s = .ok (l, r) → r.length < s.length ∧ r <:+ s := by
  intro acc s
  induction acc, s using itemsG.induct (one := one) (shut := shut) with
  | case1 acc s c e => intro l r h; rw [itemsG, e] at h; cases h
  | case2 acc s x r0 e hs =>
    intro l r h
    rw [itemsG, e] at h
    dsimp only at h
    rw [if_pos hs] at h
    cases h
    obtain ⟨l1, s1⟩ := h1 _ _ _ _ e
    have := skip_len r0
    exact ⟨by rw [List.length_drop]; omega, ((List.drop_suffix _ _).trans (skip_suf _)).trans s1⟩
  | case3 acc s x r0 e hs hc hl ih =>
    intro l r h
    rw [itemsG, e] at h
    dsimp only at h
    rw [if_neg hs, if_pos hc, if_pos hl] at h
    obtain ⟨l1, s1⟩ := h1 _ _ _ _ e
    obtain ⟨l2, s2⟩ := ih h
    exact ⟨by omega, (s2.trans ((List.drop_suffix _ _).trans (skip_suf _))).trans s1⟩
  | case4 acc s x r0 e hs hc hl =>
    intro l r h
    rw [itemsG, e] at h
    dsimp only at h
    rw [if_neg hs, if_pos hc, if_neg hl] at h
    cases h
  | case5 acc s x r0 e hs hc =>
    intro l r h
    rw [itemsG, e] at h
    dsimp only at h
    rw [if_neg hs, if_neg hc] at h
    cases h
theorem items_len {α : Type} {one : List α → List Nat → Except Int (α × List Nat)} {shut : Nat} (h1 : ∀ acc s x r, one acc s = .ok (x, r) → r.length < s.length ∧ r <:+ s) {s : List Nat} (h0 : s ≠ []) {l : List α} {r : List Nat}
    (h : items one shut s = .ok (l, r)) : r.length < s.length ∧ r <:+ s := by
  have hl := List.length_pos_iff.2 h0
  have h2 := skip_len (s.drop 1)
  rw [List.length_drop] at h2
  have h3 : skip (s.drop 1) <:+ s := (skip_suf _).trans (List.drop_suffix _ _)
  unfold items at h
  split at h
  · cases h
    exact ⟨by rw [List.length_drop]; omega, (List.drop_suffix _ _).trans h3⟩
  · obtain ⟨l1, s1⟩ := itemsG_len h1 h
    exact ⟨by omega, s1.trans h3⟩
theorem member_len {val : List Nat → Except Int (JV × List Nat)} (h1 : ∀ s x r, val s = .ok (x, r) → r.length < s.length ∧ r <:+ s) {acc : List (List Nat × JV)} {s r : List Nat} {x : List Nat × JV} (h : member val acc s = .ok (x, r)) : r.length < s.length ∧ r <:+ s := by
  unfold member at h
  split at h
  · cases h
  · rename_i name r1 ht
    obtain ⟨l1, s1, _⟩ := text_len ht
    have := skip_len s
    have := skip_len r1
    split at h
    · cases h
    · split at h
      · split at h
        · cases h
        · rename_i v r2 hv
          obtain ⟨l2, s2⟩ := h1 _ _ _ hv
          cases h
          rw [List.length_drop] at l2
          exact ⟨by omega, (s2.trans ((List.drop_suffix _ _).trans (skip_suf _))).trans (s1.trans (skip_suf _))⟩
      · cases h
theorem value_len : ∀ {d : Nat} {s r : List Nat} {v : JV}, value d s = .ok (v, r) → r.length < s.length ∧ r <:+ s
  | 0, s, r, v, h => by rw [value] at h; cases h
  | d + 1, s, r, v, h => by
    rw [value] at h
    try dsimp only at h
    have hs := skip_len s
    have hq := skip_suf s
    have ne : ∀ {c : Nat}, (skip s).getD 0 0 = c → c ≠ 0 → skip s ≠ [] := fun {c} e hc q => by rw [q] at e; simp at e; omega
    have up : r.length < (skip s).length ∧ r <:+ skip s → r.length < s.length ∧ r <:+ s := fun q => ⟨by omega, q.2.trans hq⟩
    refine up ?_
    split at h
    · rename_i e
      split at h
      · cases h
      · rename_i t r1 ht
        cases h
        exact ⟨(text_len ht).1, (text_len ht).2.1⟩
    · split at h
      · rename_i e
        split at h
        · cases h
        · rename_i l r1 hi
          cases h
          exact items_len (fun acc s x r h => value_len h) (ne e (by decide)) hi
      · split at h
        · rename_i e
          split at h
          · cases h
          · rename_i l r1 hi
            cases h
            exact items_len (fun acc s x r h => member_len (fun s x r h => value_len h) h) (ne e (by decide)) hi
        · have ok : ∀ {w : List Nat} {k : Nat}, has w (skip s) = true → w.length = k → 0 < k → ((skip s).drop k).length < (skip s).length ∧ (skip s).drop k <:+ skip s := fun {w k} hw e hk => by
            have := has_ne hw
            exact ⟨by rw [List.length_drop]; omega, List.drop_suffix _ _⟩
          split at h
          · rename_i e; cases h; exact ok e rfl (by decide)
          · split at h
            · rename_i e; cases h; exact ok e rfl (by decide)
            · split at h
              · rename_i e; cases h; exact ok e rfl (by decide)
              · exact number_len h
end Go.Js
namespace Go.Proofs.YtolcmaipjpkidaaGreatDoor
open Go Go.SL Go.Pure Go.Js
theorem q_min2 {h : Hp} {K : Value → Prop} {t : TypeId} {kk : IntKind} (a b : Int) : q P h (Builtin.min_ #[t, t] t #[.int kk a, .int kk b]) K = K (.int kk (if b < a then b else a)) := q_of (by rfl) K
theorem drop_getD (l : List Nat) (i : Nat) : (l.drop i).getD 0 0 = l.getD i 0 := by simp [List.getD_eq_getElem?_getD]
theorem drop_consD {l : List Nat} {i : Nat} (h : i < l.length) : l.drop i = l.getD i 0 :: l.drop (i + 1) := by
  rw [List.getD_eq_getElem?_getD, List.getElem?_eq_getElem h, Option.getD_some, List.drop_eq_getElem_cons h]
theorem drop_takeE (l : List Nat) (i n : Nat) : (l.take (i + n)).drop i = (l.drop i).take n := by rw [List.drop_take]; congr 1; omega
theorem take_minE (l : List Nat) (i n : Nat) (hi : i ≤ l.length) : (l.take (min (i + n) l.length)).drop i = (l.drop i).take n := by
  by_cases g : i + n ≤ l.length
  · rw [Nat.min_eq_left g, drop_takeE]
  · rw [Nat.min_eq_right (by omega), List.take_length, List.take_of_length_le (by rw [List.length_drop]; omega)]
theorem has_take (w s : List Nat) : has w (s.take w.length) = has w s := by unfold has; rw [List.take_take, Nat.min_self]
/-- What is kept beside what is owned. -/
def Kp (S : List Nat) (h h' : Hp) : Prop := ∀ x o, x ∉ S → h x = some o → h' x = some o
theorem Kp.refl (S : List Nat) (h : Hp) : Kp S h h := fun _ _ _ e => e
theorem stp_setO {R h : Hp} {S : List Nat} {b : Nat} (w : Own R h S) (hb : b ∈ S) (o : AObj) : Stp R h R (h.set b o) S S :=
  Stp.within w (fun x hx => Hp.set_ne _ _ (by rintro rfl; exact hx hb)) (fun x hx => by
    by_cases q : x = b
    · subst q; exact ⟨_, Hp.set_same ..⟩
    · rw [Hp.set_ne _ _ q]; exact w.kn x hx)
/-- A row that was owned is only read from now on. -/
theorem fixO {R h R' H : Hp} {S S' So : List Nat} {t s n : Nat} {v : Value} {xs : List Value} (g : Stp R h R' H S (S' ++ So)) (nin : ∀ x, x ∈ S' → x ∉ So) (o : OutAt t s H v xs n So) :
    ∃ R'', Stp R h R'' H S S' ∧ Hp.ext R' R'' ∧ Rds R'' s v xs n := by
  rcases o with ⟨rfl, rfl, rfl, rfl⟩ | ⟨b, c, f, hb, rfl, hc, hf, rfl, hl⟩
  · exact ⟨R', g.drop fun x hx => by simpa using hx, .refl _, by simp, none, 0, rfl, Nat.le_refl _, .inl rfl⟩
  · refine ⟨_, g.fix (b := b) (T' := S') (by simp) hb fun x hx => ?_, ext_set _ (g.own.dis b (by simp)), hl, _, c, rfl, hc, .inr ⟨b, 0, rfl, fun i x e => by rw [cell_row (Hp.set_same ..), Nat.zero_add]; exact e⟩⟩
    exact ⟨List.mem_append_left _ hx, fun q => nin x hx (by rw [q]; simp)⟩
theorem stp_kp {R h R' h' : Hp} {S S' : List Nat} (st : Stp R h R' h' S S') : Kp S h h' := st.keep
theorem stp_kpt {R h R1 h1 h2 : Hp} {S S1 : List Nat} (st : Stp R h R1 h1 S S1) (kp : Kp S1 h1 h2) : Kp S h h2 := fun x o n e => kp x o (st.frS x o n e) (st.keep x o n e)
theorem Kp.ext {S : List Nat} {h h1 h2 : Hp} (x : Hp.ext h h1) (kp : Kp S h1 h2) : Kp S h h2 := fun b o n e => kp b o n (x b o e)
theorem Kp.trans {S : List Nat} {h h1 h2 : Hp} (a : Kp S h h1) (b : Kp S h1 h2) : Kp S h h2 := fun x o n e => b x o n (a x o n e)
theorem Kp.mono {S T : List Nat} {h h1 : Hp} (a : Kp S h h1) (m : ∀ x, x ∈ S → x ∈ T) : Kp T h h1 := fun x o n e => a x o (fun q => n (m x q)) e
/-- The parser, with what still stands ahead. -/
def PaX (R h : Hp) (p : Nat) (b s : List Nat) : Prop := ∃ i, PaA R h p b i ∧ i ≤ b.length ∧ s = b.drop i
section
variable {Z : Zt} {R h : Hp} {K : Value → Hp → Prop} {p : Nat} {b s : List Nat}
theorem PaX.own (a : PaX R h p b s) : Own R h [p] := let ⟨_, w, _⟩ := a; w.own
theorem PaX.ext {R' h' : Hp} (a : PaX R h p b s) (x : Hp.ext h h') (st : Stp R h R' h' [p] [p]) : PaX R' h' p b s := let ⟨i, w, q⟩ := a; ⟨i, w.ext x st, q⟩
theorem PaX.same {h' : Hp} (a : PaX R h p b s) (w : Own R h' [p]) (e : h' p = h p) : PaX R h' p b s := by
  obtain ⟨i, ⟨bv, _, row, q⟩, r⟩ := a
  exact ⟨i, ⟨bv, w, by rw [e]; exact row, q⟩, r⟩
theorem PaX.up {R' : Hp} (a : PaX R h p b s) (x : Hp.ext R R') (w : Own R' h [p]) : PaX R' h p b s := by
  obtain ⟨i, ⟨bv, _, row, r, q⟩, e⟩ := a
  exact ⟨i, ⟨bv, w, row, r.mono x.cle, q⟩, e⟩
theorem PaX.bytes (a : PaX R h p b s) : Bytes s ∧ s.length ≤ 100000 := by
  obtain ⟨i, ⟨bv, _, _, _, q, l, _⟩, _, rfl⟩ := a
  exact ⟨fun x hx => q x (List.mem_of_mem_drop hx), by rw [List.length_drop]; omega⟩
/-- A variable of the call's own, beside. -/
theorem stp_var {R' h2 : Hp} {S S' : List Nat} {r : Nat} {o o2 : AObj} (hr : h r = none) (w : Own R h S) (st : Stp R (h.set r o) R' h2 S S') : h2 r = some o ∧ Stp R h R' (h2.set r o2) S S' ∧ r ∉ S' ∧ r ∉ S := by
  obtain ⟨w1, w2, dj, _⟩ := Own.mk1 o w hr
  have nr : r ∉ S := fun q => by
    obtain ⟨o', e⟩ := w.kn r q
    rw [hr] at e; cases e
  have nS : ∀ x, x ∈ [r] → x ∉ S := fun x hx => by rw [List.mem_singleton.1 hx]; exact nr
  obtain ⟨w3, dj3, sm⟩ := st.frame w1 nS
  have e2 : h2 r = some o := by rw [sm r (by simp)]; exact Hp.set_same ..
  have s0 : Stp R h R (h.set r o) S S := Stp.ext0 w (ext_set o hr)
  have s1 : Stp R h R' h2 S (S' ++ [r]) := (s0.trans st).gain w3 fun x hx => by rw [List.mem_singleton.1 hx]; exact hr
  have s2 := stp_setO s1.own (show r ∈ S' ++ [r] by simp) o2
  exact ⟨e2, (s1.trans s2).drop fun x hx => List.mem_append_left _ hx, dj3 r (by simp), nr⟩
theorem T_HasPrefixG {l w : List Nat} {K : Value → Hp → Prop} (hb : Bytes l) (bw : Bytes w) (ll : l.length ≤ 9223372036854775807) (k : K (.bool (has w l)) h) : Cn P n_strings_HasPrefix #[.string (strL l), .string (strL w)] h K := by
  refine F_strings_HasPrefix ?_
  unfold s_strings_HasPrefix
  refine F_stringslite_HasPrefix ?_
  unfold s_stringslite_HasPrefix
  have d1 : decide (((w.length : Nat) : Int) ≤ ((l.length : Nat) : Int)) = decide (w.length ≤ l.length) := by rw [decide_eq_decide]; omega
  rw [q_lenSt u_string, q_lenSt u_string]
  simp -zeta only [GL, d1]
  by_cases g : w.length ≤ l.length
  · simp -zeta only [g, decide_true, if_true]
    rw [q_lenSt u_string, q_slStH u_string _ g, q_eqlSt _ _ (hb.take _) bw]
    exact k
  · simp -zeta only [g, decide_false, Bool.false_eq_true, if_false]
    have : has w l = false := by
      cases q : has w l with
      | false => rfl
      | true => exact absurd (has_ne q) g
    rw [this] at k
    exact k
theorem T_jhas (a : PaX R h p b s) {w : List Nat} (bw : Bytes w) (lw : w.length ≤ 100) {sv : ByteArray} (es : sv = strL w)
    (k : ∀ h', Stp R h R h' [p] [p] → PaX R h' p b (if has w s = true then s.drop w.length else s) → K (.bool (has w s)) h') :
    CnZ P Z n_json_parser_has #[.pointer (some ⟨p, 0, none⟩), .string sv] h K := by
  subst es
  obtain ⟨i, a, hi, rfl⟩ := a
  refine F_json_parser_has ?_
  unfold s_json_parser_has
  obtain ⟨bv, c0, c1, r, bb, l, _⟩ := a.cells
  have rh := a.own.rn r
  have rh0 := rh
  obtain ⟨av, cv, rfl, hcv⟩ := rh.shape
  have w1 : IntKind.i64.wrap ((i : Int) + ((w.length : Nat) : Int)) = ((i + w.length : Nat) : Int) := by rw [wi64 (by omega) (by omega)]; omega
  have m1 : (if ((b.length : Nat) : Int) < ((i + w.length : Nat) : Int) then ((b.length : Nat) : Int) else ((i + w.length : Nat) : Int)) = ((min (i + w.length) b.length : Nat) : Int) := by split <;> omega
  simp -zeta only [GL, RL, jpf0, jpf1, c0, c1, q_lenSt u_string, w1, q_min2, m1]
  refine q_slRnLH u_Sl_uint8 z_uint8 rh0 .i64 .i64 i (min (i + w.length) b.length) (by omega) (by omega) fun w2 r2 => ?_
  rw [take_minE b i w.length hi] at r2
  have bd : Bytes (b.drop i) := fun x hx => bb x (List.mem_of_mem_drop hx)
  rw [q_str r2]
  refine CnZ_of (T_HasPrefixG (bd.take _) bw (by rw [List.length_take, List.length_drop]; omega) ?_)
  rw [has_take]
  cases hh : has w (b.drop i) with
  | false =>
    simp -zeta only [GL, Bool.not_false, if_true]
    have := k h (Stp.refl a.own) ⟨i, a, hi, by simp [hh]⟩
    rw [hh] at this
    exact this
  | true =>
    have hl := has_ne hh
    rw [List.length_drop] at hl
    simp -zeta only [GL, Bool.not_true, Bool.false_eq_true, if_false, jpf1, RL, c1, q_lenSt u_string, w1]
    refine pa_put a (j := i + w.length) (by omega) fun h' st a' => ?_
    have := k h' st ⟨i + w.length, a', by omega, by simp [hh]⟩
    rw [hh] at this
    exact this
theorem T_jpeekX (a : PaX R h p b s) (k : K (.int .u8 ((s.getD 0 0 : Nat) : Int)) h) : CnZ P Z n_json_parser_peek #[.pointer (some ⟨p, 0, none⟩)] h K := by
  obtain ⟨i, a, hi, rfl⟩ := a
  rw [drop_getD] at k
  exact T_jpeek a hi k
theorem blank_idx (c : Nat) : decide ((0 : Int) ≤ idxB c [9, 10, 13, 32]) = isBl c := by
  unfold idxB isBl
  by_cases h : c ∈ [9, 10, 13, 32]
  · rw [if_pos h, decide_eq_true (by omega)]
    simp only [List.mem_cons, List.not_mem_nil, or_false] at h
    rcases h with rfl | rfl | rfl | rfl <;> rfl
  · rw [if_neg h]
    simp only [List.mem_cons, List.not_mem_nil, or_false, not_or] at h
    simp [h.1, h.2.1, h.2.2.1, h.2.2.2]
theorem T_jskip (a : PaX R h p b s) (k : ∀ h', Stp R h R h' [p] [p] → PaX R h' p b (skip s) → K (.tuple #[]) h') : CnZ P Z n_json_parser_skip #[.pointer (some ⟨p, 0, none⟩)] h K := by
  obtain ⟨i, a, hi, rfl⟩ := a
  refine F_json_parser_skip ?_
  unfold s_json_parser_skip
  refine Lp_mk (fun m vs H => ∃ j, j ≤ b.length ∧ j + m = b.length ∧ Stp R h R H [p] [p] ∧ PaA R H p b j ∧ skip (b.drop j) = skip (b.drop i) ∧ vs = []) (b.length - i) ⟨i, hi, by omega, Stp.refl a.own, a, rfl, rfl⟩ ?_
  rintro m vs H ⟨j, hj, hm, st, a1, es, rfl⟩
  obtain ⟨bv, c0, c1, r, bb, l, _⟩ := a1.cells
  have rh := a1.own.rn r
  obtain ⟨av, cv, rfl, hcv⟩ := rh.shape
  have d1 : decide ((j : Int) < ((b.length : Nat) : Int)) = decide (j < b.length) := lt_dec _ _
  simp -zeta only [GL, RL, jpf0, jpf1, c0, c1, d1]
  intro J2
  by_cases g : j < b.length
  · obtain ⟨bb1, o, rfl, hy⟩ := rh.pos (by omega)
    have hx := hy j g
    have w1 : IntKind.i64.wrap ((j : Int) + 1) = ((j + 1 : Nat) : Int) := by rw [wi64 (by omega) (by omega)]; omega
    have hc : b.getD j 0 < 256 := bb _ (getD_memB g)
    have ed := drop_consD g
    have tx : (⟨#[9, 10, 13, 32]⟩ : ByteArray) = strL [9, 10, 13, 32] := rfl
    simp -zeta (disch := omega) only [g, decide_true, if_true, GL, RL, Int.toNat_natCast, hx, tx]
    refine CnZ_of (T_IndexByte (by unfold Bytes; decide) hc ?_)
    simp -zeta only [GL, blank_idx]
    cases hb : isBl (b.getD j 0) with
    | true =>
      simp -zeta only [if_true, J2, GL, RL, jpf1, c1, w1]
      refine pa_put a1 (j := j + 1) (by omega) fun h' st' a' => ?_
      refine ⟨h', .refl _, m - 1, by omega, j + 1, by omega, by omega, st.trans st', a', ?_, trivial⟩
      rw [← es, ed, skip_blank _ hb]
    | false =>
      simp -zeta only [Bool.false_eq_true, if_false]
      refine k H st ⟨j, a1, hj, ?_⟩
      rw [← es, ed, skip_other _ hb]
  · simp -zeta only [g, decide_false, Bool.false_eq_true, if_false, GL]
    refine k H st ⟨j, a1, hj, ?_⟩
    rw [← es, List.drop_of_length_le (by omega)]
    rfl
theorem digs_at {l : List Nat} {i n : Nat} (h : i + n < l.length) (d : isDig (l.getD (i + n) 0) = true) (e : digs (l.drop i) = (l.drop i).take n ++ digs (l.drop (i + n))) : digs (l.drop i) = (l.drop i).take (n + 1) ++ digs (l.drop (i + (n + 1))) := by
  rw [e, drop_consD h]
  have e2 : (l.drop i).take (n + 1) = (l.drop i).take n ++ [l.getD (i + n) 0] := by
    rw [List.take_add_one, List.getElem?_drop, List.getD_eq_getElem?_getD, List.getElem?_eq_getElem h]
    rfl
  rw [e2, List.append_assoc, digs_yes _ d, Nat.add_assoc]
  rfl
theorem T_jdigits (a : PaX R h p b s) (k : K (.int .i64 (((digs s).length : Nat) : Int)) h) : CnZ P Z n_json_parser_digits #[.pointer (some ⟨p, 0, none⟩)] h K := by
  obtain ⟨i, a, hi, rfl⟩ := a
  refine F_json_parser_digits ?_
  unfold s_json_parser_digits
  obtain ⟨bv, c0, c1, r, bb, l, _⟩ := a.cells
  have rh := a.own.rn r
  obtain ⟨av, cv, rfl, hcv⟩ := rh.shape
  refine Lp_mk (fun m vs H => ∃ n : Nat, i + n + m = b.length ∧ H = h ∧ digs (b.drop i) = (b.drop i).take n ++ digs (b.drop (i + n)) ∧ vs = [.int .i64 (n : Int)]) (b.length - i) ⟨0, by omega, rfl, rfl, rfl⟩ ?_
  rintro m vs H ⟨n, hm, rfl, e, rfl⟩
  have w1 : IntKind.i64.wrap ((i : Int) + (n : Int)) = ((i + n : Nat) : Int) := by rw [wi64 (by omega) (by omega)]; omega
  have w2 : IntKind.i64.wrap ((n : Int) + 1) = ((n + 1 : Nat) : Int) := by rw [wi64 (by omega) (by omega)]; omega
  have d1 : decide (((i + n : Nat) : Int) < ((b.length : Nat) : Int)) = decide (i + n < b.length) := lt_dec _ _
  simp -zeta only [GL, RL, jpf0, jpf1, c0, c1, d1, List.getD_cons_zero, w1]
  have stop : digs (b.drop (i + n)) = [] → K (.int .i64 (n : Int)) H := fun q => by
    rw [e, q, List.append_nil, List.length_take, List.length_drop, Nat.min_eq_left (by omega)] at k
    exact k
  by_cases g : i + n < b.length
  · obtain ⟨bb1, o, rfl, hy⟩ := rh.pos (by omega)
    have hx := hy (i + n) g
    have hc : b.getD (i + n) 0 < 256 := bb _ (getD_memB g)
    have d2 : decide ((48 : Int) ≤ ((b.getD (i + n) 0 : Nat) : Int)) = decide (48 ≤ b.getD (i + n) 0) := by rw [decide_eq_decide]; omega
    have d3 : decide (((b.getD (i + n) 0 : Nat) : Int) ≤ 57) = decide (b.getD (i + n) 0 ≤ 57) := by rw [decide_eq_decide]; omega
    simp -zeta (disch := omega) only [g, decide_true, if_true, GL, RL, Int.toNat_natCast, hx, d2]
    by_cases g2 : 48 ≤ b.getD (i + n) 0
    · simp -zeta (disch := omega) only [g2, decide_true, if_true, GL, RL, jpf0, jpf1, c0, c1, w1, Int.toNat_natCast, hx, d3]
      by_cases g3 : b.getD (i + n) 0 ≤ 57
      · simp -zeta only [g3, decide_true, if_true, GL, w2]
        exact ⟨H, .refl _, m - 1, by omega, n + 1, by omega, rfl, digs_at g (decide_eq_true ⟨g2, g3⟩) e, rfl⟩
      · simp -zeta only [g3, decide_false, Bool.false_eq_true, if_false, GL]
        exact stop (by rw [drop_consD g]; exact digs_no _ (decide_eq_false fun q => g3 q.2))
    · simp -zeta only [g2, decide_false, Bool.false_eq_true, if_false, GL]
      exact stop (by rw [drop_consD g]; exact digs_no _ (decide_eq_false fun q => g2 q.1))
  · simp -zeta only [g, decide_false, Bool.false_eq_true, if_false, GL]
    exact stop (by rw [List.drop_of_length_le (by omega)]; rfl)
end
/-- Cells that are a value, to be read. -/
inductive JvR (R : Hp) : List Value → JV → Prop
  | mk {k : Int} {o : Bool} {n : Int} {t : List Nat} {l : List JV} {m : List (List Nat × JV)} {sl sm : Value} (il im : List (List Value)) (bt : Bytes t) (lt : t.length ≤ 1125899906842624) (ll : l.length ≤ 1125899906842624) (lm : m.length ≤ 1125899906842624)
      (hl : SlAt R 6 sl il) (nl : il.length = l.length) (el : ∀ (i : Nat) (c : List Value) (x : JV), il[i]? = some c → l[i]? = some x → JvR R c x)
      (hm : SlAt R 7 sm im) (nm : im.length = m.length) (em : ∀ (i : Nat) (c : List Value) (x : List Nat × JV), im[i]? = some c → m[i]? = some x → JvR R c.tail x.2)
      (hd : ∀ (i : Nat) (c : List Value) (x : List Nat × JV), im[i]? = some c → m[i]? = some x → c.head? = some (.string (strL x.1)) ∧ Bytes x.1 ∧ x.1.length ≤ 1125899906842624) :
      JvR R [.int .i64 k, .bool o, .int .i64 n, .string (strL t), sl, sm] (.mk k o n t l m)
theorem JvR.mono {R R' : Hp} (c : Hp.cle R R') {cs : List Value} {v : JV} (a : JvR R cs v) : JvR R' cs v := by
  induction a with
  | mk il im bt lt ll lm hl nl el hm nm em hd ih1 ih2 => exact .mk il im bt lt ll lm (hl.mono c) nl ih1 (hm.mono c) nm ih2 hd
theorem JvR.len {R : Hp} {cs : List Value} {v : JV} (a : JvR R cs v) : cs.length = 6 := by cases a; rfl
theorem slAt_flat {R : Hp} {s : Nat} {v : Value} {items : List (List Value)} (a : SlAt R s v items) : flat v = true := by obtain ⟨x, c, rfl, _⟩ := a; rfl
theorem JvR.flat {R : Hp} {cs : List Value} {v : JV} (a : JvR R cs v) : ∀ y ∈ cs, SL.flat y = true := by
  cases a with
  | mk il im bt lt ll lm hl nl el hm nm em hd =>
    intro y hy
    simp only [List.mem_cons, List.not_mem_nil, or_false] at hy
    rcases hy with rfl | rfl | rfl | rfl | rfl | rfl
    · rfl
    · rfl
    · rfl
    · rfl
    · exact slAt_flat hl
    · exact slAt_flat hm
theorem SlAt.nilV (R : Hp) (s : Nat) : SlAt R s (.slice none 0 0) [] := ⟨none, 0, rfl, Nat.le_refl _, .inl rfl⟩
theorem jv_leaf {R : Hp} (k : Int) (o : Bool) (n : Int) {t : List Nat} (bt : Bytes t) {sv : ByteArray} (es : sv = strL t) (lt : t.length ≤ 1125899906842624 := by decide) : JvR R [.int .i64 k, .bool o, .int .i64 n, .string sv, .slice none 0 0, .slice none 0 0] (.mk k o n t [] []) := by
  subst es
  exact .mk [] [] bt lt (by simp) (by simp) (SlAt.nilV R 6) rfl (fun i c x e => by simp at e) (SlAt.nilV R 7) rfl (fun i c x e => by simp at e) (fun i c x e => by simp at e)
abbrev zcV : List Value := [.int .i64 0, .bool false, .int .i64 0, .string ⟨#[]⟩, .slice none 0 0, .slice none 0 0]
theorem zr_Jv : zr P t_api_Value = some (.agg #[.int .i64 0, .bool false, .int .i64 0, .string ⟨#[]⟩, .slice none 0 0, .slice none 0 0]) := by kernel_rfl
theorem bldNum {h : Hp} {K : Value → Prop} (v : Int) : q P h (Instr.build t_api_Value #[(0, .int .i64 2), (2, .int .i64 v)]) K = K (.agg #[.int .i64 2, .bool false, .int .i64 v, .string ⟨#[]⟩, .slice none 0 0, .slice none 0 0]) := q_of (by kernel_rfl) K
section
variable {Z : Zt} {R h : Hp} {K : Value → Hp → Prop} {p : Nat} {b s : List Nat}
theorem digs_pre (s : List Nat) : s.take (digs s).length = digs s := (List.prefix_iff_eq_take.1 (List.takeWhile_prefix _)).symm
theorem digs_all {s : List Nat} : ∀ x ∈ digs s, 48 ≤ x ∧ x ≤ 57 := fun x hx => by
  have := List.all_takeWhile (p := isDig) (l := s)
  have := List.all_eq_true.1 this x hx
  simpa [isDig] using this
theorem dec_lt {l : List Nat} (h : ∀ x ∈ l, 48 ≤ x ∧ x ≤ 57) : dec l < 10 ^ l.length := by
  have := Go.Tar.valD_lt (b := 10) (by decide) (l.map (· - 48)) (fun x hx => by
    obtain ⟨y, hy, rfl⟩ := List.mem_map.1 hx
    have := h y hy
    omega)
  rwa [List.length_map] at this
theorem T_ParseDec {l : List Nat} {K : Value → Hp → Prop} (all : ∀ x ∈ l, 48 ≤ x ∧ x ≤ 57) (n16 : l.length ≤ 16) (n0 : 0 < l.length) (k : K (.tuple #[.int .i64 ((dec l : Nat) : Int), .nilIface]) h) :
    Cn P n_strconv_ParseInt_161 #[.string (strL l), .int .i64 10, .int .i64 64] h K := by
  have ea : Go.Tar.asc (l.map (· - 48)) = l := asc_sub _ fun x hx => (all x hx).1
  have := T_ParseInt10 (h := h) (K := K) (ds := l.map (· - 48)) (fun x hx => by
    obtain ⟨y, hy, rfl⟩ := List.mem_map.1 hx
    have := all y hy
    omega) (by rw [List.length_map]; exact n16) (fun q => by
    rw [List.map_eq_nil_iff] at q
    rw [q] at n0
    simp at n0) k
  rwa [ea] at this
theorem T_jnumber (a : PaX R h p b s) (kz : ∀ c, number s = .error c → ∀ h', Kp [p] h h' → Z [pe (wrongV c)] h')
    (k : ∀ v r, number s = .ok (v, r) → ∀ cs R' h', Stp R h R' h' [p] [p] → PaX R' h' p b r → JvR R' cs v → K (.agg cs.toArray) h') : CnZ P Z n_json_parser_number #[.pointer (some ⟨p, 0, none⟩)] h K := by
  refine F_json_parser_number ?_
  unfold s_json_parser_number
  refine aw_allocL zcV zr_Jv rfl fun r0 hr0 => ?_
  have x1 := ext_set (.row t_api_Value zcV zcV.length (some (0, 0))) hr0
  have a1 := a.ext x1 (Stp.ext0 a.own x1)
  have wn := a.own
  refine T_jhas a1 (w := [45]) (by unfold Bytes; decide) (by decide) rfl fun h2 st2 a2 => ?_
  obtain ⟨mi, hmi⟩ : ∃ mi, has [45] s = mi := ⟨_, rfl⟩
  rw [hmi] at a2 ⊢
  obtain ⟨s1, hs1⟩ : ∃ s1, (if mi = true then s.drop 1 else s) = s1 := ⟨_, rfl⟩
  have hs1' : (if mi = true then s.drop ([45] : List Nat).length else s) = s1 := hs1
  rw [hs1'] at a2
  have en := number_eq s mi hmi s1 hs1
  refine T_jdigits a2 ?_
  obtain ⟨e2, stv, nS, nS0⟩ := stp_var (o2 := .row t_api_Value zcV zcV.length (some (0, 0))) hr0 wn st2
  have kp2 : Kp [p] h h2 := Kp.ext x1 (stp_kp st2)
  have pre := digs_pre s1
  have all := @digs_all s1
  have dl := dec_lt all
  intro J4
  have q4 : numOk mi s1 = true → J4 h2 := fun hn => by
    rw [if_pos hn] at en
    simp -zeta only [J4]
    clear J4
    simp only [numOk, decide_eq_true_eq] at hn
    obtain ⟨n0, n16, _⟩ := hn
    obtain ⟨i, a3, hi, es⟩ := a2
    obtain ⟨bv, c0, c1, rb, bb, lb, _⟩ := a3.cells
    have rh := a3.own.rn rb
    have rh0 := rh
    obtain ⟨av, cv, rfl, hcv⟩ := rh.shape
    have nl : (digs s1).length ≤ s1.length := (List.takeWhile_prefix _).length_le
    rw [es, List.length_drop, ← es] at nl
    have w1 : IntKind.i64.wrap ((i : Int) + (((digs s1).length : Nat) : Int)) = ((i + (digs s1).length : Nat) : Int) := by rw [wi64 (by omega) (by omega)]; omega
    simp -zeta only [GL, RL, jpf0, jpf1, c0, c1, w1]
    refine q_slRnLH u_Sl_uint8 z_uint8 rh0 .i64 .i64 i (i + (digs s1).length) (by omega) (by omega) fun w2 r2 => ?_
    rw [drop_takeE, ← es, pre] at r2
    rw [q_str r2]
    refine CnZ_of (T_ParseDec all n16 n0 ?_)
    rw [ext0, ext1]
    have dl16 : dec (digs s1) < 10 ^ 16 := Nat.lt_of_lt_of_le dl (Nat.pow_le_pow_right (by decide) n16)
    have h16 : 10 ^ 16 = 10000000000000000 := by decide
    obtain ⟨v, hv⟩ : ∃ v, dec (digs s1) = v := ⟨_, rfl⟩
    rw [hv] at en dl16 ⊢
    have dv : decide ((v : Int) ≤ 9007199254740991) = decide (v ≤ 9007199254740991) := by rw [decide_eq_decide]; omega
    simp -zeta only [GL, dv]
    refine T_jmust (fun q => kz 8 (by rw [en, if_neg (of_decide_eq_false q)]) h2 kp2) fun q => ?_
    have hv9 : v ≤ 9007199254740991 := of_decide_eq_true q
    rw [if_pos hv9] at en
    simp -zeta only [GL, RL, jpf1, c1, w1]
    refine pa_put a3 (j := i + (digs s1).length) (by omega) fun h4 st4 a4 => ?_
    obtain ⟨e4, stv4, nS4, _⟩ := stp_var (o2 := .row t_api_Value [.int .i64 2, .bool false, .int .i64 (if mi = true then -(v : Int) else (v : Int)), .string ⟨#[]⟩, .slice none 0 0, .slice none 0 0] 6 (some (0, 0))) hr0 wn (st2.trans st4)
    intro J8
    have q8 : ∀ z : Int, z = (if mi = true then -(v : Int) else (v : Int)) → J8 (.int .i64 z) h4 := fun z ez => by
      simp -zeta only [J8]
      clear J8
      rw [bldNum]
      refine aw_storeRow (ys := [.int .i64 2, .bool false, .int .i64 z, .string ⟨#[]⟩, .slice none 0 0, .slice none 0 0]) z_api_Value e4 rfl (jv_leaf (R := emp) 2 false z (t := []) (by intro x hx; cases hx) rfl).flat (fun i _ q => Nat.not_lt_zero _ q.2) ?_
      rw [q_resRow (ys := [.int .i64 2, .bool false, .int .i64 z, .string ⟨#[]⟩, .slice none 0 0, .slice none 0 0]) u_api_Value rfl z_api_Value (Hp.set_same ..)]
      subst ez
      have hp : p ≠ r0 := fun q => nS4 (by rw [q]; simp)
      refine k _ _ en _ R _ stv4 ⟨i + (digs s1).length, ?_, by omega, ?_⟩ (jv_leaf 2 false _ (t := []) (by intro x hx; cases hx) rfl)
      · obtain ⟨bv, _, row, q⟩ := a4
        exact ⟨bv, stv4.own, by rw [Hp.set_ne _ _ hp]; exact row, q⟩
      · rw [es, List.drop_drop]
    clear_value J8
    cases mi with
    | true =>
      have wn' : IntKind.i64.wrap (0 - (v : Int)) = -(v : Int) := by rw [wi64 (by omega) (by omega)]; omega
      simp -zeta only [GL, if_true]
      exact q8 _ (by rw [wn']; rfl)
    | false =>
      simp -zeta only [GL, Bool.false_eq_true, if_false]
      exact q8 _ (by simp)
  clear_value J4
  have fin : ∀ g : Bool, g = numOk mi s1 → CnZ P Z n_json_parser_must #[.pointer (some ⟨p, 0, none⟩), .bool g] h2 (fun _ h => J4 h) := fun g e => T_jmust (fun q => kz 8 (by rw [en, ← e, q]; rfl) h2 kp2) (fun q => q4 (by rw [← e, q]))
  obtain ⟨i, a3, hi, es⟩ := a2
  obtain ⟨bv, c0, c1, rb, bb, lb, _⟩ := a3.cells
  have rh := a3.own.rn rb
  obtain ⟨av, cv, rfl, hcv⟩ := rh.shape
  have nl : (digs s1).length ≤ s1.length := (List.takeWhile_prefix _).length_le
  rw [es, List.length_drop, ← es] at nl
  have d1 : decide ((0 : Int) < (((digs s1).length : Nat) : Int)) = decide (0 < (digs s1).length) := by rw [decide_eq_decide]; omega
  have d2 : decide ((((digs s1).length : Nat) : Int) ≤ 16) = decide ((digs s1).length ≤ 16) := by rw [decide_eq_decide]; omega
  have d3 : ((((digs s1).length : Nat) : Int) == 1) = decide ((digs s1).length = 1) := by rw [Bool.eq_iff_iff, beq_iff_eq, decide_eq_true_eq]; omega
  have nOk : numOk mi s1 = decide (0 < (digs s1).length ∧ (digs s1).length ≤ 16 ∧ (s1.getD 0 0 ≠ 48 ∨ ((digs s1).length = 1 ∧ mi = false))) := rfl
  simp -zeta only [GL, d1]
  by_cases g1 : 0 < (digs s1).length
  · simp -zeta only [g1, decide_true, if_true, GL, d2]
    by_cases g2 : (digs s1).length ≤ 16
    · obtain ⟨bb1, o, rfl, hy⟩ := rh.pos (by omega)
      have hx := hy i (by omega)
      have d4 : (((b.getD i 0 : Nat) : Int) != 48) = decide (s1.getD 0 0 ≠ 48) := by
        rw [es, drop_getD, Bool.eq_iff_iff, bne_iff_ne, decide_eq_true_eq]; omega
      simp -zeta (disch := omega) only [g2, decide_true, if_true, GL, RL, jpf0, jpf1, c0, c1, Int.toNat_natCast, hx, d4]
      by_cases g3 : s1.getD 0 0 ≠ 48
      · simp -zeta only [g3, decide_true, if_true, GL, not_false_eq_true, ne_eq, Bool.true_eq_false, if_false]
        exact fin _ (by rw [nOk]; exact Eq.symm (decide_eq_true ⟨g1, g2, .inl g3⟩))
      · have g3' : s1.getD 0 0 = 48 := Decidable.not_not.1 g3
        simp -zeta only [g3', decide_false, Bool.false_eq_true, if_false, if_true, GL, ne_eq, not_true_eq_false, d3]
        by_cases g4 : (digs s1).length = 1
        · simp -zeta only [g4, decide_true, if_true, GL]
          refine fin _ ?_
          rw [nOk]
          cases mi with
          | true => refine Eq.symm (decide_eq_false ?_); intro q; exact q.2.2.elim (fun z => z g3') fun z => by cases z.2
          | false => exact Eq.symm (decide_eq_true ⟨g1, g2, .inr ⟨g4, rfl⟩⟩)
        · simp -zeta only [g4, decide_false, Bool.false_eq_true, if_false, GL]
          exact fin _ (by rw [nOk]; refine Eq.symm (decide_eq_false ?_); intro q; exact q.2.2.elim (fun z => z g3') fun z => g4 z.1)
    · simp -zeta only [g2, decide_false, Bool.false_eq_true, if_false, GL]
      exact fin _ (by rw [nOk]; refine Eq.symm (decide_eq_false ?_); intro q; exact g2 q.2.1)
  · simp -zeta only [g1, decide_false, Bool.false_eq_true, if_false, GL]
    exact fin _ (by rw [nOk]; refine Eq.symm (decide_eq_false ?_); intro q; exact g1 q.1)
end
end Go.Proofs.YtolcmaipjpkidaaGreatDoor
namespace Go.SL
open Go Go.Pure
theorem fcSt {l : List Nat} (hb : Bytes l) (s : Nat) : Builtin.firstCells s (strL l).size (.string (strL l)) = Sem.pure (nv .u8 l).toArray := by
  show Sem.pure _ = _
  congr 1
  apply Array.ext'
  have e : (strL l).extract 0 (strL l).size = strL l := by rw [strL_size, strL_cut]; simp
  rw [e]
  simp only [Array.toList_map]
  have e2 : (strL l).data.toList = l.map UInt8.ofNat := strL_data l
  rw [e2, List.map_map]
  unfold nv
  refine List.map_congr_left fun x hx => ?_
  have := hb x hx
  simp [Nat.mod_eq_of_lt this]
theorem aw_appendT {P : Program} {h0 h h' : Hp} {t t2 T e s B n m : Nat} {v : Value} {xs ys : List Value} {z : Value} {l : List Nat} {K : Value → Hp → Prop}
    (ht : P.underlying t = some (.slice e)) (ht2 : P.underlying t2 = some .string) (hi : (P.info? e).map (fun i => (i.zero, i.size, i.bytes)) = some (some z, s, B)) (hzs : z.cells.size = s) (hB1 : B = 1) (hs1 : s = 1) (hb : Bytes l) (hys : ys = nv .u8 l) (hm0 : (strL l).size = m) (hw : New h e s v h' xs n) (hfl : ∀ y ∈ ys, flat y = true)
    (hB : (2 * (n + m) + 768) * B ≤ 2 ^ 48) (hle0 : Hp.le h0 h)
    (k : ∀ v' h'', New h0 e s v' h'' (xs ++ ys) (n + m) → K v' h'') : aw P (Builtin.append_ #[t, t2] T #[v, .string (strL l)]) K h' := by
  subst hm0
  obtain ⟨i, hi0, hi1⟩ := Option.map_eq_some_iff.1 hi
  simp only [Prod.mk.injEq] at hi1
  have hs : sz P e = some s := by simp [sz, hi0, hi1.2.1]
  have hz : zr P e = some z := by simp [zr, hi0, hi1.1]
  have hbound : n + (strL l).size ≤ 140737488355328 := by
    subst hB1
    omega
  have hyl : ys.length = (strL l).size * s := by rw [hys, nv_len, strL_size, hs1, Nat.mul_one]
  have hfc : Builtin.firstCells s (strL l).size (.string (strL l)) = Sem.pure ys.toArray := by rw [hys]; exact fcSt hb s
  have hrv := hw.rds
  obtain ⟨hxl, hv⟩ := hw
  obtain ⟨a, c, rfl⟩ : ∃ a c, v = .slice a n c := by
    obtain ⟨_, a, c, e1, _⟩ := hrv
    exact ⟨a, c, e1⟩
  show awp P (Sem.bind (underlying t) _) _ h'
  rw [awp_bind, peek_awp P _ _ _ (pk_und ht)]
  show awp P (Sem.bind (sizeOf e) _) _ h'
  rw [awp_bind, peek_awp P _ _ _ (pk_size hs)]
  show awp P (Sem.bind (underlying t2) _) _ h'
  rw [awp_bind, peek_awp P _ _ _ (pk_und ht2)]
  show awp P (if n + (strL l).size ≤ c then _ else _) _ h'
  split
  · rename_i hle
    show awp P (Sem.bind (Builtin.firstCells s (strL l).size (.string (strL l))) _) _ h'
    rw [awp_bind]
    rw [hfc]
    rcases hv with ⟨hv, hn, hh⟩ | ⟨b, c', f, hb, hn, hv, hh, hf⟩
    · simp only [Value.slice.injEq] at hv
      obtain ⟨rfl, rfl, rfl⟩ := hv
      have hz0 : (strL l).size = 0 := by omega
      have : ys = [] := List.eq_nil_of_length_eq_zero (by rw [hyl, hz0, Nat.zero_mul])
      rw [hz0] at k ⊢
      subst this
      refine ⟨h0, by rw [hh]; exact hle0, k _ _ ⟨by simpa using hxl, .inl ⟨rfl, rfl, rfl⟩⟩⟩
    · simp only [Value.slice.injEq] at hv
      obtain ⟨rfl, _, rfl⟩ := hv
      show awp P (Sem.bind (storeCells ((⟨b, 0, none⟩ : Addr).add (n * s)) ys.toArray.toList) _) _ h'
      rw [awp_bind, add_off]
      have hb' : h' b = some (.row e xs (c * s) (some f)) := by rw [hh]; exact Hp.set_same ..
      have hcs : (n + (strL l).size) * s ≤ c * s := Nat.mul_le_mul_right s hle
      refine awp_storeCells ys xs h' _ hb' hfl (by rw [hxl, hyl, ← Nat.add_mul]; exact hcs) hf 0 (0 + n * s) (by omega) ?_
      refine ⟨h0.set b (.row e (xs ++ ys) (c * s) (some f)), ?_, k _ _ ⟨by rw [List.length_append, hxl, hyl, Nat.add_mul], .inr ⟨b, c, f, le_none hle0 hb, hle, rfl, rfl, hf⟩⟩⟩
      have e1 : (if ys = [] then h' else h'.set b (.row e (xs ++ ys) (c * s) (some f))) = h.set b (.row e (xs ++ ys) (c * s) (some f)) := by
        split
        · rename_i e0; subst e0; rw [List.append_nil]; exact hh
        · rw [hh, Hp.set_set]
      rw [e1]
      exact le_set hle0
  · rename_i hgt
    have hnc : Builtin.nextslicecap (n + (strL l).size) c * B ≤ 2 ^ 48 := Nat.le_trans (Nat.mul_le_mul_right B (nextcap_le (n + (strL l).size) c (by omega))) hB
    have hinfo : peek P h' (typeInfo e) = some i := pk_info hi0
    show awp P (Sem.bind (typeInfo e) _) _ h'
    rw [awp_bind, peek_awp P _ _ _ hinfo]
    show awp P (if ((n + (strL l).size : Nat) : Int) > IntKind.i64.max ∧ (false = true ∨ i.bytes = 0) then _ else _) _ h'
    rw [if_neg (by rw [hi1.2.2]; simp; omega)]
    show awp P (Sem.bind (typeInfo e) _) _ h'
    rw [awp_bind, peek_awp P _ _ _ hinfo]
    show awp P (if Builtin.nextslicecap (n + (strL l).size) c * i.bytes > 2 ^ 48 then _ else _) _ h'
    rw [if_neg (by rw [hi1.2.2]; omega)]
    show awp P (Sem.choose (.appendCap (n + (strL l).size) c e) _) _ h'
    simp only [awp, Question.forced, Bool.false_eq_true, if_false]
    intro tp
    obtain ⟨nc, hncap, hge⟩ : ∃ nc, Question.cut (.appendCap (n + (strL l).size) c e) tp = nc ∧ n + (strL l).size ≤ nc := ⟨_, rfl, by simp [Question.cut]⟩
    rw [hncap]
    show awp P (Sem.bind (typeInfo e) _) _ h'
    rw [awp_bind, peek_awp P _ _ _ hinfo]
    show awp P (Sem.bind (askRoom (nc * i.bytes)) _) _ h'
    rw [awp_bind]
    have hroom : ∀ (x : Nat) (K : Unit → Hp → Prop), K () h' → awp P (askRoom x) K h' := by
      intro x K q
      unfold askRoom
      split <;> exact q
    refine hroom _ _ ?_
    show awp P (Sem.bind (Builtin.firstCells s n _) _) _ h'
    rw [awp_bind]
    refine awp_firstCells hrv ?_
    show awp P (Sem.bind (Builtin.firstCells s (strL l).size (.string (strL l))) _) _ h'
    rw [awp_bind]
    rw [hfc]
    show awp P (Sem.bind (zeroValue e) _) _ h'
    rw [awp_bind, peek_awp P _ _ _ (pk_zero hz)]
    intro r hrn
    obtain ⟨rest, hrest, hsz⟩ : ∃ rest : Array Value, Builtin.zeroCells z.cells (nc - (n + (strL l).size)) = rest ∧ rest.size = (nc - (n + (strL l).size)) * s := ⟨_, rfl, by rw [zeroCells_size, hzs]⟩
    have hh0 : h r = none := by
      rcases hv with ⟨_, _, rfl⟩ | ⟨b, c', f, hb, _, _, rfl, _⟩
      · exact hrn
      · by_cases e1 : r = b
        · subst e1; rw [Hp.set_same] at hrn; cases hrn
        · rwa [Hp.set_ne _ _ e1] at hrn
    refine ⟨h0.set r (.row e (xs ++ ys) (nc * s) (some (0, 0))), Hp.le.trans (le_set hle0) fun b' o ho => ?_, k _ _ ⟨by rw [List.length_append, hxl, hyl, Nat.add_mul], .inr ⟨r, nc, (0, 0), le_none hle0 hh0, hge, rfl, rfl, fun i _ => by simp⟩⟩⟩
    by_cases e1 : b' = r
    · subst e1
      rw [Hp.set_same] at ho
      cases ho
      refine ⟨_, Hp.set_same .., ?_⟩
      rw [hrest]
      refine ⟨rfl, ?_, ?_, .inl rfl⟩
      · simp only [Array.size_append, List.size_toArray, hxl, hyl, hsz]
        rw [← Nat.add_mul, ← Nat.add_mul]
        congr 1
        omega
      · simp only [Array.toList_append, List.append_assoc]
        exact ⟨rest.toList, by simp⟩
    · rw [Hp.set_ne _ _ e1] at ho ⊢
      rcases hv with ⟨_, _, rfl⟩ | ⟨b, c', f, hb, _, _, rfl, _⟩
      · exact ⟨o, ho, .refl _⟩
      · have : b' ≠ b := by rintro rfl; rw [hb] at ho; cases ho
        exact ⟨o, by rw [Hp.set_ne _ _ this]; exact ho, .refl _⟩
/-- A text is appended to a row that grows. -/
theorem aw_appendS {P : Program} {t2 T ts e n : Nat} {h : Hp} {v : Value} {xs : List Value} {So : List Nat} {l : List Nat} {K : Value → Hp → Prop}
    (ht : P.underlying ts = some (.slice e)) (ht2 : P.underlying t2 = some .string) (hi : (P.info? e).map (fun i => (i.zero, i.size, i.bytes)) = some (some (.int .u8 0), 1, 1)) (ho : OutAt e 1 h v xs n So) (hb : Bytes l)
    (hB : n + l.length ≤ 70368744177664)
    (k : ∀ v' h' So', OutAt e 1 h' v' (xs ++ nv .u8 l) (n + l.length) So' → (∀ x o, x ∉ So → h x = some o → h' x = some o) → (∀ x o, x ∉ So → h x = some o → x ∉ So') → K v' h') : aw P (Builtin.append_ #[ts, t2] T #[v, .string (strL l)]) K h := by
  obtain ⟨X, nX, X1, X2⟩ := ho.new
  refine aw_appendT ht ht2 hi rfl rfl rfl hb rfl (strL_size l) nX (fun y hy => ?_) (by omega) (.refl _) fun v' h' n' => ?_
  · obtain ⟨x, _, rfl⟩ := List.mem_map.1 hy; rfl
  obtain ⟨So', o', f'⟩ := OutAt.of n'
  refine k v' h' So' o' (fun x o hx e => ?_) (fun x o hx e q => ?_)
  · exact n'.ext _ _ (by rw [X1 x hx]; exact e)
  · have := f' x q
    rw [X1 x hx, e] at this
    cases this
end Go.SL
namespace Go.Proofs.YtolcmaipjpkidaaGreatDoor
open Go Go.SL Go.Pure
theorem u_unsafeP : P.underlying t_unsafe_Pointer = some .unsafePointer := by kernel_rfl
theorem pk_shape {h : Hp} {b : Nat} {e : TypeId} {vs : List Value} {cap : Nat} {f : Option (Nat × Nat)} (hb : h b = some (.row e vs cap f)) : peek P h (shape b) = some (some (e, cap)) := by
  have hs : h.shape b = some (some (e, cap)) := by simp [Hp.shape, hb]
  unfold shape
  simp only [peek, hs]
theorem pk_view {h : Hp} {b : Nat} {e : TypeId} {vs : List Value} {cap : Nat} {f : Option (Nat × Nat)} (hb : h b = some (.row e vs cap f)) : peek P h (viewAt b) = some none := by
  show peek P h (Sem.bind (shape b) _) = _
  rw [peek_bind, pk_shape hb]
  rfl
theorem pk_seen {h : Hp} {b o : Nat} {e : TypeId} {vs : List Value} {cap : Nat} {f : Option (Nat × Nat)} (hb : h b = some (.row e vs cap f)) : peek P h (Conv.seenAt ⟨b, o, none⟩) = some ⟨b, o, none⟩ := by
  show peek P h (Sem.bind (viewAt b) _) = _
  rw [peek_bind, pk_view hb]
  rfl
theorem liesBld : liesAt P P.depth t_strings_Builder (2 / P.cellsOf t_strings_Builder) 0 t_strings_Builder 1 = true := by kernel_rfl
section
variable {h : Hp} {b : Nat} {vs : List Value} {f : Option (Nat × Nat)}
theorem q_upB {K : Value → Prop} (hb : h b = some (.row t_strings_Builder vs 2 f)) : q P h (convert t_Pt_strings_Builder t_unsafe_Pointer (.pointer (some ⟨b, 0, none⟩))) K = K (.pointer (some ⟨b, 0, none⟩)) := q_of (by
  show peek P h (Sem.bind (underlying t_Pt_strings_Builder) _) = _
  rw [peek_bind, pk_und u_Pt_strings_Builder, Option.bind_some]
  show peek P h (Sem.bind (underlying t_unsafe_Pointer) _) = _
  rw [peek_bind, pk_und u_unsafeP, Option.bind_some]
  show peek P h (Sem.bind (underlying t_Pt_strings_Builder) _) = _
  rw [peek_bind, pk_und u_Pt_strings_Builder, Option.bind_some]
  show peek P h (Sem.bind (underlying t_unsafe_Pointer) _) = _
  rw [peek_bind, pk_und u_unsafeP, Option.bind_some]
  show peek P h (Sem.bind (Conv.seenAt ⟨b, 0, none⟩) _) = _
  rw [peek_bind, pk_seen hb, Option.bind_some]
  show peek P h (Sem.bind (Sem.bind (shape b) _) _) = _
  rw [peek_bind, peek_bind, pk_shape hb]
  show peek P h (Sem.bind (sizeOf t_strings_Builder) _) = _
  rw [peek_bind, pk_size z_strings_Builder]
  rfl) K
theorem q_downB {K : Value → Prop} (hb : h b = some (.row t_strings_Builder vs 2 f)) : q P h (convert t_unsafe_Pointer t_Pt_strings_Builder (.pointer (some ⟨b, 0, none⟩))) K = K (.pointer (some ⟨b, 0, none⟩)) := q_of (by
  show peek P h (Sem.bind (underlying t_unsafe_Pointer) _) = _
  rw [peek_bind, pk_und u_unsafeP, Option.bind_some]
  show peek P h (Sem.bind (underlying t_Pt_strings_Builder) _) = _
  rw [peek_bind, pk_und u_Pt_strings_Builder, Option.bind_some]
  show peek P h (Sem.bind (underlying t_unsafe_Pointer) _) = _
  rw [peek_bind, pk_und u_unsafeP, Option.bind_some]
  show peek P h (Sem.bind (underlying t_Pt_strings_Builder) _) = _
  rw [peek_bind, pk_und u_Pt_strings_Builder, Option.bind_some]
  show peek P h (Sem.bind (Conv.seenAt ⟨b, 0, none⟩) _) = _
  rw [peek_bind, pk_seen hb, Option.bind_some]
  show peek P h (Sem.bind (sizeOf t_strings_Builder) _) = _
  rw [peek_bind, pk_size z_strings_Builder]
  show peek P h (Sem.bind (Sem.bind (Sem.bind program _) _) _) = _
  have hv : peek P h (variablesAt ⟨b, 0, none⟩ t_strings_Builder 1) = some true := by
    show peek P h (Sem.bind program _) = _
    show peek P h (Sem.bind (shape b) _) = _
    rw [peek_bind, pk_shape hb]
    show some (liesAt P P.depth t_strings_Builder (2 / P.cellsOf t_strings_Builder) 0 t_strings_Builder 1) = _
    rw [liesBld]
  show peek P h (Sem.bind (variablesAt ⟨b, 0, none⟩ t_strings_Builder 1) _) = _
  rw [peek_bind, hv]
  rfl) K
end
theorem ex_noescape {h : Hp} {K : Value → Hp → Prop} (v : Value) : exP P n_abi_NoEscape #[v] h K = K v h := exP_of (by kernel_rfl)
theorem q_eqlPN {h : Hp} {K : Value → Prop} (x : Operand) (c : Value) (a : Option Addr) : q P h (eqop .eql t_Pt_strings_Builder x (.const c) (.pointer a) (.pointer none)) K = K (.bool a.isNone) := q_of (by
  unfold eqop
  rw [peek_bind]
  have : peek P h (eqGuard .eql t_Pt_strings_Builder x (.const c) (.pointer a) (.pointer none)) = some () := rfl
  rw [this, Option.bind_some]
  show peek P h (Sem.bind (Op.equal t_Pt_strings_Builder (.pointer a) (.pointer none)) _) = _
  rw [peek_bind]
  have : peek P h (Op.equal t_Pt_strings_Builder (.pointer a) (.pointer none)) = some a.isNone := by
    show peek P h (Sem.bind (underlying t_Pt_strings_Builder) _) = _
    rw [peek_bind, pk_und u_Pt_strings_Builder]
    cases a <;> rfl
  rw [this]
  rfl) K
theorem q_neqPP {h : Hp} {K : Value → Prop} (x y : Operand) (a : Addr) : q P h (eqop .neq t_Pt_strings_Builder x y (.pointer (some a)) (.pointer (some a))) K = K (.bool false) := q_of (by
  unfold eqop
  rw [peek_bind]
  have : peek P h (eqGuard .neq t_Pt_strings_Builder x y (.pointer (some a)) (.pointer (some a))) = some () := rfl
  rw [this, Option.bind_some]
  show peek P h (Sem.bind (Op.equal t_Pt_strings_Builder (.pointer (some a)) (.pointer (some a))) _) = _
  rw [peek_bind]
  have : peek P h (Op.equal t_Pt_strings_Builder (.pointer (some a)) (.pointer (some a))) = some true := by
    show peek P h (Sem.bind (underlying t_Pt_strings_Builder) _) = _
    rw [peek_bind, pk_und u_Pt_strings_Builder, Option.bind_some]
    show peek P h (Sem.bind (sizeOf t_strings_Builder) _) = _
    rw [peek_bind, pk_size z_strings_Builder, Option.bind_some]
    show peek P h (sameAddr a a) = _
    unfold sameAddr
    rw [if_pos (by simp)]
    show some (a == a) = _
    simp
  rw [this]
  rfl) K
theorem bdf0 {h : Hp} {K : Value → Prop} (b : Nat) : q P h (Instr.fieldAt t_strings_Builder (.pointer (some ⟨b, 0, none⟩)) 0) K = K (.pointer (some ⟨b, 0, none⟩)) := q_of (by kernel_rfl) K
theorem bdf1 {h : Hp} {K : Value → Prop} (b : Nat) : q P h (Instr.fieldAt t_strings_Builder (.pointer (some ⟨b, 0, none⟩)) 1) K = K (.pointer (some ⟨b, 1, none⟩)) := q_of (by kernel_rfl) K
/-- A builder, behind a base that stays: what it has, and whether it has been written to. -/
def BlA (base h : Hp) (b : Nat) (So : List Nat) (l : List Nat) (av : Value) : Prop :=
  Hp.ext base h ∧ base b = none ∧ (∀ x, x ∈ So → base x = none) ∧ b ∉ So ∧ ∃ bv, h b = some (.row t_strings_Builder [av, bv] 2 (some (0, 0))) ∧ OutAt t_uint8 1 h bv (nv .u8 l) l.length So
abbrev selfB (b : Nat) : Value := .pointer (some ⟨b, 0, none⟩)
theorem zr_Bl : zr P t_strings_Builder = some (.agg #[.pointer none, .slice none 0 0]) := by kernel_rfl
theorem nfo8 : (P.info? t_uint8).map (fun i => (i.zero, i.size, i.bytes)) = some (some (.int .u8 0), 1, 1) := by kernel_rfl
theorem usN {n : Nat} (a : Addr) (h0 : n ≠ 0) (hmax : n ≤ 9223372036854775807) : Builtin.unsafeString_ #[t_Pt_uint8, t_int] t_string #[.pointer (some a), .int .i64 (n : Nat)] = Sem.bind (elemOf t_Pt_uint8) fun e => Sem.bind (variablesAt a e n) fun ok => if ok = true then (loadBytes a .empty n).bind fun s => (freeze a n).bind fun _ => Sem.pure (.string s) else unsupported (.unsafePointer "String: not so many bytes at ptr") := by
  have h1 : ¬ ((n : Int) < 0) := by omega
  have h2 : ¬ ((n : Int) > IntKind.i64.max) := by
    have : IntKind.i64.max = 9223372036854775807 := by decide
    omega
  have h3 : ¬ ((n : Int) = 0) := by omega
  unfold Builtin.unsafeString_
  show Sem.bind (Sem.pure (n : Int)) _ = _
  show (fun m => _) (n : Int) = _
  simp only [Sem.bind, List.getElem?_toArray, List.getElem?_cons_zero, if_neg h1, if_neg h2, if_neg h3, Int.toNat_natCast]
  rfl
section
variable {base h : Hp} {K : Value → Hp → Prop} {b : Nat} {So l : List Nat} {av : Value}
theorem aw_newBl (k : ∀ b h', BlA h h' b [] [] (.pointer none) → h' = h.set b (.row t_strings_Builder [.pointer none, .slice none 0 0] 2 (some (0, 0))) → K (selfB b) h') : aw P (Instr.alloc t_strings_Builder true (.tuple #[])) K h := by
  refine aw_allocL [.pointer none, .slice none 0 0] zr_Bl rfl fun r hr => ?_
  exact k r _ ⟨ext_set _ hr, hr, by simp, by simp, _, Hp.set_same .., .inl ⟨rfl, rfl, rfl, rfl⟩⟩ rfl
theorem T_copyCheck (hav : av = .pointer none ∨ av = selfB b) (a : BlA base h b So l av) (k : ∀ h', BlA base h' b So l (selfB b) → (∀ x, x ≠ b → h' x = h x) → K (.tuple #[]) h') : Cn P n_strings_Builder_copyCheck #[selfB b] h K := by
  refine F_strings_Builder_copyCheck ?_
  unfold s_strings_Builder_copyCheck
  obtain ⟨x, nb, nS, bS, bv, row, o⟩ := a
  have c0 : h.cell ⟨b, 0, none⟩ = some av := by rw [cell_row row]; rfl
  rcases hav with rfl | rfl
  · simp -zeta only [GL, RL, bdf0, c0, q_eqlPN, Option.isNone_none, if_true, q_upB row, ex_noescape, q_downB row]
    refine aw_store z_Pt_strings_Builder rfl (put_row row (by simp) (by omega) _) ?_
    have ne : ∀ y, y ∈ So → y ≠ b := fun y hy q => bS (by rw [← q]; exact hy)
    refine k _ ⟨?_, nb, nS, bS, bv, Hp.set_same .., o.keep fun y hy => Hp.set_ne _ _ (ne y hy)⟩ fun y hy => Hp.set_ne _ _ hy
    intro y oy e
    rw [Hp.set_ne _ _ (by rintro rfl; rw [nb] at e; cases e)]
    exact x y oy e
  · simp -zeta only [GL, RL, bdf0, c0, q_eqlPN, Option.isNone_some, Bool.false_eq_true, if_false, q_neqPP]
    exact k h ⟨x, nb, nS, bS, bv, row, o⟩ fun _ _ => rfl
/-- A row put into its place. -/
theorem bl_put (a : BlA base h b So l av) {h1 : Hp} {So' l' : List Nat} {v' : Value} (o' : OutAt t_uint8 1 h1 v' (nv .u8 l') l'.length So') (kp : ∀ x o, x ∉ So → h x = some o → h1 x = some o) (fr : ∀ x o, x ∉ So → h x = some o → x ∉ So') {F : Unit → Hp → Prop}
    (k : ∀ h', BlA base h' b So' l' av → F () h') : aw P (Instr.storeAt t_Sl_uint8 (.pointer (some ⟨b, 1, none⟩)) v') F h1 := by
  obtain ⟨x, nb, nS, bS, bv, row, o⟩ := a
  have row1 := kp b _ bS row
  have bS' := fr b _ bS row
  refine aw_store z_Sl_uint8 o'.flat (put_row row1 (by simp) (by omega) _) ?_
  have ne : ∀ y, y ∈ So' → y ≠ b := fun y hy q => bS' (by rw [← q]; exact hy)
  have xs : Hp.ext base h1 := fun y oy e => kp y oy (fun q => by rw [nS y q] at e; cases e) (x y oy e)
  refine k _ ⟨fun y oy e => ?_, nb, fun y hy => ?_, bS', v', Hp.set_same .., o'.keep fun y hy => Hp.set_ne _ _ (ne y hy)⟩
  · rw [Hp.set_ne _ _ (by rintro rfl; rw [nb] at e; cases e)]
    exact xs y oy e
  · cases e : base y with
    | none => rfl
    | some oy => exact absurd hy (fr y oy (fun q => by rw [nS y q] at e; cases e) (x y oy e))
theorem T_WriteString (hav : av = .pointer none ∨ av = selfB b) (a : BlA base h b So l av) {m : List Nat} (bm : Bytes m) (hl : l.length + m.length ≤ 70368744177664) (k : ∀ h' So', BlA base h' b So' (l ++ m) (selfB b) → K (.tuple #[.int .i64 (m.length : Nat), .nilIface]) h') :
    Cn P n_strings_Builder_WriteString #[selfB b, .string (strL m)] h K := by
  refine F_strings_Builder_WriteString ?_
  unfold s_strings_Builder_WriteString
  refine T_copyCheck hav a fun h1 a1 _ => ?_
  have a1' := a1
  obtain ⟨x, nb, nS, bS, bv, row, o⟩ := a1
  have c1 : h1.cell ⟨b, 1, none⟩ = some bv := by rw [cell_row row]; rfl
  simp -zeta only [GL, RL, bdf1, c1]
  refine aw_appendS u_Sl_uint8 u_string nfo8 o bm hl fun v' h2 So' o' kp fr => ?_
  have o2 : OutAt t_uint8 1 h2 v' (nv .u8 (l ++ m)) (l ++ m).length So' := by rw [List.length_append]; unfold nv at *; rw [List.map_append]; exact o'
  refine bl_put a1' o2 kp fr fun h3 a3 => ?_
  rw [strL_size]
  exact k h3 So' a3
theorem T_WriteByte (hav : av = .pointer none ∨ av = selfB b) (a : BlA base h b So l av) {c : Nat} (hl : l.length ≤ 70368744177663) (k : ∀ h' So', BlA base h' b So' (l ++ [c]) (selfB b) → K .nilIface h') :
    Cn P n_strings_Builder_WriteByte #[selfB b, .int .u8 (c : Int)] h K := by
  refine F_strings_Builder_WriteByte ?_
  unfold s_strings_Builder_WriteByte
  refine T_copyCheck hav a fun h1 a1 _ => ?_
  have a1' := a1
  obtain ⟨x, nb, nS, bS, bv, row, o⟩ := a1
  have c1 : h1.cell ⟨b, 1, none⟩ = some bv := by rw [cell_row row]; rfl
  simp -zeta only [GL, RL, bdf1, c1]
  refine aw_app1O c o hl fun v' h2 So' o' kp fr => ?_
  exact bl_put a1' o' kp fr fun h3 a3 => k h3 So' a3
theorem lies8 {n c : Nat} (hn : n ≤ c) : liesAt P P.depth t_uint8 (c / P.cellsOf t_uint8) 0 t_uint8 n = true := by
  have e1 : P.cellsOf t_uint8 = 1 := by kernel_rfl
  have e2 : sameLayout P P.depth t_uint8 t_uint8 = true := by kernel_rfl
  obtain ⟨d, hd⟩ : ∃ d, P.depth = d + 1 := ⟨P.depth - 1, by kernel_rfl⟩
  have e3 : rowAt P (fun x => sameLayout P P.depth x t_uint8) P.depth t_uint8 (c / P.cellsOf t_uint8) 0 n = true := by
    rw [e1, Nat.div_one]
    generalize hF : (fun x => sameLayout P P.depth x t_uint8) = F
    have eF : F t_uint8 = true := by rw [← hF]; exact e2
    rw [hd]
    unfold rowAt
    rw [e1]
    simp [eF, hn]
  have e4 : liesAt P P.depth t_uint8 (c / P.cellsOf t_uint8) 0 t_uint8 n = liesAt P (d + 1) t_uint8 (c / P.cellsOf t_uint8) 0 t_uint8 n := by rw [hd]
  rw [e4]
  unfold liesAt
  rw [e3]
  rfl
theorem awp_loadBytes {e : TypeId} {vs : List Value} {cap : Nat} {f : Option (Nat × Nat)} (hb : h b = some (.row e vs cap f)) : ∀ (l : List Nat) (o : Nat) (acc : ByteArray) (K : ByteArray → Hp → Prop), Bytes l → (∀ i x, (nv .u8 l)[i]? = some x → vs[o + i]? = some x) → K (l.foldl (fun s x => s.push (UInt8.ofNat x)) acc) h → awp P (loadBytes ⟨b, o, none⟩ acc l.length) K h
  | [], o, acc, K, _, _, k => k
  | x :: l, o, acc, K, bl, hv, k => by
    have hc : h.cell ⟨b, o, none⟩ = some (.int .u8 (x : Int)) := by rw [cell_row hb]; exact hv 0 _ rfl
    show awp P (Sem.bind (load ⟨b, o, none⟩) _) K h
    have hld : peek P h (load ⟨b, o, none⟩) = some (.int .u8 (x : Int)) := by
      unfold load
      simp only [peek, hc]
    rw [awp_bind, peek_awp P _ _ _ hld]
    show awp P (loadBytes ((⟨b, o, none⟩ : Addr).add 1) (acc.push (x : Int).toNat.toUInt8) l.length) K h
    rw [add_off]
    exact awp_loadBytes hb l (o + 1) _ K (fun y hy => bl y (List.mem_cons_of_mem _ hy)) (fun i y e => by rw [Nat.add_assoc, Nat.add_comm 1 i]; exact hv (i + 1) y e) k
theorem T_bString (a : BlA base h b So l av) (bl : Bytes l) (hl : l.length ≤ 9223372036854775807) {K : Value → Hp → Prop} (k : K (.string (strL l)) base) : Cn P n_strings_Builder_String #[selfB b] h K := by
  refine Cn_wk (F_strings_Builder_String ?_)
  unfold s_strings_Builder_String
  obtain ⟨x, nb, nS, bS, bv, row, o⟩ := a
  have c1 : h.cell ⟨b, 1, none⟩ = some bv := by rw [cell_row row]; rfl
  obtain ⟨av', cv, rfl, hcv⟩ := (out_rn o).shape
  simp -zeta only [GL, RL, bdf1, c1]
  have fin : ∀ (p : Option Addr) (h1 : Hp), Hp.ext h h1 → l = [] → (peek P h1 (Builtin.len_ #[t_Sl_uint8] t_int #[.slice av' l.length cv]) = some (.int .i64 (l.length : Nat)) ∧ peek P h1 (Instr.loadAt t_Sl_uint8 (.pointer (some ⟨b, 1, none⟩))) = some (.slice av' l.length cv) ∧ peek P h1 (Instr.fieldAt t_strings_Builder (.pointer (some ⟨b, 0, none⟩)) 1) = some (.pointer (some ⟨b, 1, none⟩)) ∧
      aw P (Builtin.unsafeString_ #[t_Pt_uint8, t_int] t_string #[.pointer p, .int .i64 (l.length : Nat)]) (fun t13 h => ∃ h0, Hp.le h0 h ∧ K t13 h0) h1) := fun p h1 x1 e => by
    have c1' : h1.cell ⟨b, 1, none⟩ = some (.slice av' l.length cv) := by rw [cell_row (x1 b _ row)]; rfl
    refine ⟨pk_q fun K => by simp only [RL], pk_q fun K => by simp only [RL, c1', withVal_some], pk_q fun K => bdf1 b, ?_⟩
    subst e
    refine aw_of ?_
    cases p <;> exact ⟨base, (x.trans x1).le, k⟩
  by_cases e : l = []
  · refine aw_of ?_
    cases av' with
    | none => exact fin none h (.refl _) e
    | some a0 =>
      show awp P (if cv ≠ 0 then _ else _) _ h
      by_cases hc : cv = 0
      · rw [if_neg (by simpa using hc)]
        obtain ⟨b', f, row'⟩ : ∃ b' f, h b' = some (.row t_uint8 (nv .u8 l) (cv * 1) (some f)) ∧ a0 = ⟨b', 0, none⟩ := by
          rcases o with ⟨q, _⟩ | ⟨b', c, f, hb, q, _⟩
          · cases q
          · simp only [Value.slice.injEq, Option.some.injEq] at q
            obtain ⟨rfl, -, rfl⟩ := q
            exact ⟨b', f, hb, rfl⟩
        obtain ⟨row', rfl⟩ := row'
        show awp P (Sem.bind (viewAt b') _) _ h
        rw [awp_bind, peek_awp P _ _ _ (pk_view row')]
        show awp P (Sem.bind (elemOf t_Pt_uint8) _) _ h
        have he : peek P h (elemOf t_Pt_uint8) = some t_uint8 := by
          show peek P h (Sem.bind (underlying t_Pt_uint8) _) = _
          rw [peek_bind, pk_und u_Pt_uint8]
          rfl
        rw [awp_bind, peek_awp P _ _ _ he]
        intro r hr
        exact fin (some ⟨r, 0, none⟩) _ (ext_set _ hr) e
      · rw [if_pos hc]
        exact fin (some a0) h (.refl _) e
  · have hp : 0 < l.length := List.length_pos_iff.2 e
    obtain ⟨b', f, row', rfl⟩ : ∃ b' f, h b' = some (.row t_uint8 (nv .u8 l) (cv * 1) (some f)) ∧ av' = some ⟨b', 0, none⟩ := by
      rcases o with ⟨q, q2, _⟩ | ⟨b', c, f, hb, q, _⟩
      · omega
      · simp only [Value.slice.injEq] at q
        obtain ⟨rfl, -, rfl⟩ := q
        exact ⟨b', f, hb, rfl⟩
    have nb' : base b' = none := by
      rcases o with ⟨q, q2, _⟩ | ⟨b2, c, f, hb, q, _, _, rfl, _⟩
      · omega
      · simp only [Value.slice.injEq, Option.some.injEq, Addr.mk.injEq] at q
        exact nS b' (by rw [q.1.1]; simp)
    refine aw_of ?_
    show awp P (if cv ≠ 0 then _ else _) _ h
    rw [if_pos (by omega)]
    refine ⟨pk_q fun K => by simp only [RL], pk_q fun K => by simp only [RL, c1, withVal_some], pk_q fun K => bdf1 b, aw_of ?_⟩
    rw [usN _ (by omega) hl]
    show awp P (Sem.bind (elemOf t_Pt_uint8) _) _ h
    have he : peek P h (elemOf t_Pt_uint8) = some t_uint8 := by
      show peek P h (Sem.bind (underlying t_Pt_uint8) _) = _
      rw [peek_bind, pk_und u_Pt_uint8]
      rfl
    rw [awp_bind, peek_awp P _ _ _ he]
    have hv : peek P h (variablesAt ⟨b', 0, none⟩ t_uint8 l.length) = some true := by
      show peek P h (Sem.bind (shape b') _) = _
      rw [peek_bind, pk_shape row']
      show some (liesAt P P.depth t_uint8 (cv * 1 / P.cellsOf t_uint8) 0 t_uint8 l.length) = _
      rw [lies8 (by omega)]
    show awp P (Sem.bind (variablesAt ⟨b', 0, none⟩ t_uint8 l.length) _) _ h
    rw [awp_bind, peek_awp P _ _ _ hv]
    show awp P (Sem.bind (loadBytes ⟨b', 0, none⟩ .empty l.length) _) _ h
    rw [awp_bind]
    refine awp_loadBytes row' l 0 .empty _ bl (fun i x e => by rw [Nat.zero_add]; exact e) ?_
    have hf : h.freeze ⟨b', 0, none⟩ l.length = some (h.set b' (.row t_uint8 (nv .u8 l) (cv * 1) (some (frz f 0 l.length)))) := by
      unfold Hp.freeze
      rw [if_neg (by omega)]
      dsimp only
      rw [row']
    show (match h.freeze ⟨b', 0, none⟩ l.length with
      | some h' => _
      | none => False)
    rw [hf]
    refine ⟨base, Hp.ext.le fun y oy ey => ?_, k⟩
    rw [Hp.set_ne _ _ (by rintro rfl; rw [nb'] at ey; cases ey)]
    exact x y oy ey
end
theorem ex_mk {h : Hp} {Kx : Next → Hp → Prop} (n : Int) : awp P (callFunc n_bytealg_MakeNoZero #[.int .i64 n]) Kx h = awp P ((Extern.BytealgMakeNoZero.makeNoZero #[t_int] #[t_Sl_uint8] #[.int .i64 n]).bind fun v => .pure (.value v)) Kx h := by kernel_rfl
theorem mkNZ {n : Nat} (hn : n ≤ 70368744177664) : Extern.BytealgMakeNoZero.makeNoZero #[t_int] #[t_Sl_uint8] #[.int .i64 (n : Int)] = Sem.bind (underlying t_Sl_uint8) fun d => match d with
  | .slice elem => (choose (.appendCap n 0 elem)).bind fun cap => (askRoom cap).bind fun _ => (choose (.extern "internal/bytealg.MakeNoZero.bytes" 0)).bind fun bytes => (newRow elem (Extern.BytealgMakeNoZero.digits cap bytes #[])).bind fun a => Sem.pure (.slice (some a) n cap)
  | _ => stuck "bytealg.MakeNoZero: slice type expected" := by
  have h1 : ¬ (decide ((n : Int) < 0) || decide ((n : Int) > 2 ^ 48)) = true := by
    rw [Bool.or_eq_true, decide_eq_true_eq, decide_eq_true_eq]
    have : (2 : Int) ^ 48 = 281474976710656 := by decide
    omega
  unfold Extern.BytealgMakeNoZero.makeNoZero
  show Sem.bind (underlying t_Sl_uint8) _ = _
  congr 1
  funext d
  cases d <;> first | rfl | skip
  simp only [if_neg h1, Int.toNat_natCast]
  rfl
theorem digits_len : ∀ (n t : Nat) (acc : Array Value), (Extern.BytealgMakeNoZero.digits n t acc).size = acc.size + n
  | 0, t, acc => rfl
  | n + 1, t, acc => by rw [Extern.BytealgMakeNoZero.digits, digits_len n, Array.size_push]; omega
theorem ex_mkNZ {h : Hp} {K : Value → Hp → Prop} {n : Nat} (hn : n ≤ 70368744177664) (k : ∀ r c (cells : List Value), h r = none → n ≤ c → K (.slice (some ⟨r, 0, none⟩) n c) (h.set r (.row t_uint8 cells c (some (0, 0))))) : exP P n_bytealg_MakeNoZero #[.int .i64 (n : Int)] h K := by
  unfold exP
  rw [ex_mk, mkNZ hn, awp_bind, awp_bind, peek_awp P _ _ _ (pk_und u_Sl_uint8)]
  show awp P (Sem.bind (choose (.appendCap n 0 t_uint8)) _) _ h
  rw [awp_bind]
  show awp P (Sem.choose (.appendCap n 0 t_uint8) _) _ h
  simp only [awp, Question.forced, Bool.false_eq_true, if_false]
  intro tp
  obtain ⟨nc, hncap, hge⟩ : ∃ nc, Question.cut (.appendCap n 0 t_uint8) tp = nc ∧ n ≤ nc := ⟨_, rfl, by simp [Question.cut]⟩
  rw [hncap]
  show awp P (Sem.bind (askRoom nc) _) _ h
  rw [awp_bind]
  have hroom : ∀ (x : Nat) (K : Unit → Hp → Prop), K () h → awp P (askRoom x) K h := by
    intro x K q
    unfold askRoom
    split <;> exact q
  refine hroom _ _ ?_
  show awp P (Sem.bind (choose _) _) _ h
  rw [awp_bind]
  show awp P (Sem.choose _ _) _ h
  simp only [awp]
  split
  · intro r hr
    show nextV K (.value (.slice (some ⟨r, 0, none⟩) n nc)) (h.set r (.row t_uint8 (Extern.BytealgMakeNoZero.digits nc 0 #[]).toList (Extern.BytealgMakeNoZero.digits nc 0 #[]).size (some (0, 0))))
    rw [show (Extern.BytealgMakeNoZero.digits nc 0 #[]).size = nc by rw [digits_len]; simp]
    exact k r nc _ hr hge
  · intro t r hr
    show nextV K (.value (.slice (some ⟨r, 0, none⟩) n nc)) (h.set r (.row t_uint8 (Extern.BytealgMakeNoZero.digits nc (Question.cut _ t) #[]).toList (Extern.BytealgMakeNoZero.digits nc (Question.cut _ t) #[]).size (some (0, 0))))
    rw [show ∀ x, (Extern.BytealgMakeNoZero.digits nc x #[]).size = nc from fun x => by rw [digits_len]; simp]
    exact k r nc _ hr hge
theorem q_capN {h : Hp} {K : Value → Prop} : q P h (Builtin.cap_ #[t_Sl_uint8] t_int #[.slice none 0 0]) K = K (.int .i64 0) := q_of (by kernel_rfl) K
/-- Texts, one behind the other, with another one between. -/
def joinL (sp : List Nat) : List (List Nat) → List Nat
  | [] => []
  | a :: r => a ++ r.flatMap (sp ++ ·)
def strV (ps : List (List Nat)) : List Value := ps.map fun t => .string (strL t)
section
variable {base h : Hp} {K : Value → Hp → Prop} {b : Nat}
theorem T_Grow0 {n : Nat} (hn : n ≤ 70368744177664) (a : BlA base h b [] [] (.pointer none)) (k : ∀ h' So, BlA base h' b So [] (selfB b) → K (.tuple #[]) h') : Cn P n_strings_Builder_Grow #[selfB b, .int .i64 (n : Int)] h K := by
  refine Cn_wk (F_strings_Builder_Grow ?_)
  unfold s_strings_Builder_Grow
  refine T_copyCheck (.inl rfl) a fun h1 a1 _ => ?_
  have a1' := a1
  obtain ⟨x, nb, nS, bS, bv, row, o⟩ := a1
  obtain rfl : bv = .slice none 0 0 := by
    rcases o with ⟨q, _⟩ | ⟨b', c, f, hb, q, _, _, z, _⟩
    · exact q
    · cases z
  have c1 : h1.cell ⟨b, 1, none⟩ = some (.slice none 0 0) := by rw [cell_row row]; rfl
  have d1 : decide ((n : Int) < 0) = false := decide_eq_false (by omega)
  have w0 : IntKind.i64.wrap ((0 : Int) - 0) = 0 := by decide
  simp -zeta only [GL, RL, d1, Bool.false_eq_true, if_false, bdf1, c1, q_capN, Int.natCast_zero, w0]
  by_cases g : (0 : Int) < (n : Int)
  · simp -zeta only [g, decide_true, if_true]
    refine F_strings_Builder_grow ?_
    unfold s_strings_Builder_grow
    have w1 : IntKind.i64.wrap (2 * (0 : Int)) = 0 := by decide
    have w2 : IntKind.i64.wrap ((0 : Int) + (n : Int)) = (n : Int) := by rw [wi64 (by omega) (by omega)]; omega
    simp -zeta only [GL, RL, bdf1, c1, q_capN, Int.natCast_zero, w1, w2]
    refine ex_mkNZ hn fun r c cells hr hc => ?_
    have row2 : (h1.set r (.row t_uint8 cells c (some (0, 0)))) b = some (.row t_strings_Builder [selfB b, .slice none 0 0] 2 (some (0, 0))) := by
      rw [Hp.set_ne _ _ (by rintro rfl; rw [hr] at row; cases row)]; exact row
    have c2 : (h1.set r (.row t_uint8 cells c (some (0, 0)))).cell ⟨b, 1, none⟩ = some (.slice none 0 0) := by rw [cell_row row2]; rfl
    refine ⟨pk_q fun K => by simp only [RL]; rfl, pk_q fun K => by simp only [RL, c2, withVal_some], pk_q fun K => bdf1 b, ?_⟩
    have ec : SL.cut (some ⟨r, 0, none⟩) c 0 1 = some ⟨r, 0, none⟩ := by unfold SL.cut; split <;> rfl
    have i0 : (Value.int .i64 0) = .int .i64 ((0 : Nat) : Int) := rfl
    rw [i0, q_slHi u_Sl_uint8 z_uint8 (some ⟨r, 0, none⟩) n c .i64 0 (by omega), ec]
    simp -zeta only [GL, RL, bdf1, c2]
    refine aw_copyMin (n := 0) (ys := []) u_Sl_uint8 z_uint8 (Hp.set_same ..) ⟨by simp, none, 0, rfl, Nat.le_refl _, .inl rfl⟩ (by simp) (by simp) (fun i _ => by simp) ?_
    have row3 : ((h1.set r (.row t_uint8 cells c (some (0, 0)))).set r (.row t_uint8 (putL cells 0 (([] : List Value).take 0)) c (some (0, 0)))) b = some (.row t_strings_Builder [selfB b, .slice none 0 0] 2 (some (0, 0))) := by
      rw [Hp.set_ne _ _ (by rintro rfl; rw [hr] at row; cases row)]; exact row2
    refine aw_store z_Sl_uint8 rfl (put_row row3 (by simp) (by omega) _) ?_
    have hbr : b ≠ r := by rintro rfl; rw [hr] at row; cases row
    have nr : base r = none := x.none hr
    refine ⟨(h1.set r (.row t_uint8 [] (c * 1) (some (0, 0)))).set b (.row t_strings_Builder [selfB b, .slice (some ⟨r, 0, none⟩) 0 c] 2 (some (0, 0))), ?_, k _ [r] ⟨?_, nb, ?_, ?_, _, Hp.set_same .., .inr ⟨r, c, (0, 0), ?_, rfl, Nat.zero_le _, fun i _ => by simp, rfl, rfl⟩⟩⟩
    · refine le_set fun y oy e => ?_
      by_cases q : y = r
      · subst q
        rw [Hp.set_same] at e
        cases e
        exact ⟨_, Hp.set_same .., rfl, by simp, ⟨cells, rfl⟩, .inl rfl⟩
      · rw [Hp.set_ne _ _ q] at e
        exact ⟨oy, by rw [Hp.set_ne _ _ q, Hp.set_ne _ _ q]; exact e, .refl _⟩
    · intro y oy e
      rw [Hp.set_ne _ _ (by rintro rfl; rw [nb] at e; cases e), Hp.set_ne _ _ (by rintro rfl; rw [nr] at e; cases e)]
      exact x y oy e
    · intro y hy
      rw [List.mem_singleton.1 hy]
      exact nr
    · intro q
      exact hbr (List.mem_singleton.1 q)
    · rw [Hp.set_ne _ _ (Ne.symm hbr)]
      exact Hp.set_same ..
  · simp -zeta only [g, decide_false, Bool.false_eq_true, if_false]
    exact ⟨h1, .refl _, k h1 [] a1'⟩
end
end Go.Proofs.YtolcmaipjpkidaaGreatDoor
namespace Go.Proofs.YtolcmaipjpkidaaGreatDoor
open Go Go.SL Go.Pure Go.Js
def hxl (c : Nat) : Option Nat := if 48 ≤ c ∧ c ≤ 57 then some (c - 48) else if 97 ≤ c ∧ c ≤ 102 then some (c - 87) else none
def unhexL : List Nat → Option (List Nat)
  | [] => some []
  | [_] => none
  | a :: b :: r => match hxl a, hxl b, unhexL r with
    | some x, some y, some t => some ((x * 16 + y) :: t)
    | _, _, _ => none
def hexDs : List Nat := [48, 49, 50, 51, 52, 53, 54, 55, 56, 57, 97, 98, 99, 100, 101, 102]
theorem hexDs_b : Bytes hexDs := by unfold Bytes; decide
theorem hexDs_t : (⟨#[48, 49, 50, 51, 52, 53, 54, 55, 56, 57, 97, 98, 99, 100, 101, 102]⟩ : ByteArray) = strL hexDs := by kernel_rfl
theorem hexDs_idx : ∀ c, c < 256 → idxB c hexDs = match hxl c with
    | some x => (x : Int)
    | none => -1 := by decide +kernel
theorem hxl_lt : ∀ {c x : Nat}, hxl c = some x → x < 16 := fun {c x} h => by
  unfold hxl at h
  split at h
  · cases h; omega
  · split at h
    · cases h; omega
    · cases h
theorem or16 : ∀ a : Nat, a < 16 → ∀ b : Nat, b < 16 → IntKind.u8.wrap (ior .i64 (IntKind.i64.wrap ((a : Int) * 2 ^ min (4 : Int).toNat IntKind.i64.bits)) (b : Int)) = ((a * 16 + b : Nat) : Int) := by decide +kernel
theorem unhex_none {l : List Nat} {i : Nat} {out : List Nat} (e : unhexL l = (unhexL (l.drop i)).map (out ++ ·)) (h : unhexL (l.drop i) = none) : unhexL l = none := by rw [e, h]; rfl
theorem unhex_step {l : List Nat} {i : Nat} {out : List Nat} (e : unhexL l = (unhexL (l.drop i)).map (out ++ ·)) (h : i + 1 < l.length) {x y : Nat} (hx : hxl (l.getD i 0) = some x) (hy : hxl (l.getD (i + 1) 0) = some y) :
    unhexL l = (unhexL (l.drop (i + 2))).map ((out ++ [x * 16 + y]) ++ ·) := by
  rw [e, drop_consD (by omega), drop_consD (i := i + 1) h]
  rw [unhexL, hx, hy]
  cases unhexL (l.drop (i + 1 + 1)) with
  | none => rfl
  | some t => simp
theorem unhex_bad {l : List Nat} {i : Nat} (h : i + 1 < l.length) (hx : hxl (l.getD i 0) = none ∨ hxl (l.getD (i + 1) 0) = none) : unhexL (l.drop i) = none := by
  rw [drop_consD (by omega), drop_consD (i := i + 1) h, unhexL]
  rcases hx with q | q
  · rw [q]
  · rw [q]; cases hxl (l.getD i 0) <;> rfl
theorem unhex_odd : ∀ {l : List Nat}, l.length % 2 = 1 → unhexL l = none
  | [], h => by simp at h
  | [_], _ => rfl
  | a :: b :: r, h => by
    have := unhex_odd (l := r) (by simp at h; omega)
    rw [unhexL, this]
    cases hxl a <;> cases hxl b <;> rfl
section
variable {h : Hp} {K : Value → Hp → Prop}
theorem T_Unhex {l : List Nat} (hb : Bytes l) (hl : l.length ≤ 70368744177664) (k0 : unhexL l = none → K (.tuple #[.slice none 0 0, .bool false]) h)
    (k : ∀ v h' bs, unhexL l = some bs → Nn h t_uint8 .u8 v h' bs → K (.tuple #[v, .bool true]) h') : Cn P n_word_Unhex #[.string (strL l)] h K := by
  refine Cn_wk (F_word_Unhex ?_)
  unfold s_word_Unhex
  have e2 : Int.tmod ((l.length : Nat) : Int) 2 = ((l.length % 2 : Nat) : Int) := by rw [Int.tmod_eq_emod_of_nonneg (by omega)]; omega
  have d0 : ((((l.length % 2 : Nat) : Int)) != 0) = decide (l.length % 2 = 1) := by rw [Bool.eq_iff_iff, bne_iff_ne, decide_eq_true_eq]; omega
  rw [q_lenSt u_string, q_rem _ _ _ _ (by decide), e2]
  simp -zeta only [GL, d0]
  by_cases g : l.length % 2 = 1
  · simp -zeta only [g, decide_true, if_true]
    exact ⟨h, .refl _, k0 (unhex_odd g)⟩
  · simp -zeta only [g, decide_false, Bool.false_eq_true, if_false]
    refine Lp_mk (fun m vs H => ∃ (i : Nat) (v : Value) (out : List Nat), i + m = l.length ∧ i % 2 = 0 ∧ out.length ≤ i ∧ Nn h t_uint8 .u8 v H out ∧ unhexL l = (unhexL (l.drop i)).map (out ++ ·) ∧ vs = [.slice none 0 0, .bool false, v, .int .i64 (i : Int)]) l.length
      ⟨0, _, [], by omega, rfl, by simp, Nn.nil .., by simp [Option.map_id'], rfl⟩ ?_
    rintro m vs H ⟨i, v, out, hi, i2, lo, nn, e, rfl⟩
    rw [hexDs_t]
    simp -zeta only [GL, q_lenSt u_string, lt_dec]
    by_cases hlt : i < l.length
    · have w1 : IntKind.i64.wrap ((i : Int) + 1) = ((i + 1 : Nat) : Int) := by rw [wi64 (by omega) (by omega)]; omega
      have w2 : IntKind.i64.wrap ((i : Int) + 2) = ((i + 2 : Nat) : Int) := by rw [wi64 (by omega) (by omega)]; omega
      simp -zeta only [hlt, decide_true, if_true]
      rw [q_idxSt u_string hb hlt, w1, q_idxSt u_string hb (by omega)]
      have b0 := hb _ (getD_memB hlt)
      have b1 := hb _ (getD_memB (show i + 1 < l.length by omega))
      refine T_IndexByte hexDs_b b0 ?_
      refine T_IndexByte hexDs_b b1 ?_
      rw [hexDs_idx _ b0, hexDs_idx _ b1]
      cases hx : hxl (l.getD i 0) with
      | none =>
        simp -zeta only [GL, show decide ((-1 : Int) < 0) = true from rfl, if_true, Bool.true_eq_false, if_false]
        exact ⟨h, nn.ext.le, k0 (unhex_none e (unhex_bad (by omega) (.inl hx)))⟩
      | some x =>
        have dx : decide ((x : Int) < 0) = false := decide_eq_false (by omega)
        cases hy : hxl (l.getD (i + 1) 0) with
        | none =>
          simp -zeta only [GL, dx, show decide ((-1 : Int) < 0) = true from rfl, if_true]
          exact ⟨h, nn.ext.le, k0 (unhex_none e (unhex_bad (by omega) (.inr hy)))⟩
        | some y =>
          have dy : decide ((y : Int) < 0) = false := decide_eq_false (by omega)
          have w3 := or16 x (hxl_lt hx) y (hxl_lt hy)
          simp -zeta (disch := omega) only [GL, RL, dx, dy, if_true, Bool.false_eq_true, if_false, w3]
          refine aw_lit1 _ fun w h2 n2 => aw_appF nn n2 (by simp; omega) fun v3 h3 n3 => ?_
          simp -zeta only [GL, w2]
          exact ⟨h3, .refl _, m - 2, by omega, i + 2, v3, _, by omega, by omega, by simp; omega, n3, unhex_step e (by omega) hx hy, rfl⟩
    · simp -zeta only [hlt, decide_false, Bool.false_eq_true, if_false]
      rw [List.drop_of_length_le (by omega)] at e
      exact ⟨H, .refl _, k v H out (by rw [e]; simp [unhexL]) nn⟩
end
/-- The library's table of first bytes. -/
def fstT (c : Nat) : Nat := if c < 128 then 240 else if c < 194 then 241 else if c < 224 then 2 else if c = 224 then 19 else if c < 237 then 3 else if c = 237 then 35 else if c < 240 then 3 else if c = 240 then 52 else if c < 244 then 4 else if c = 244 then 68 else 241
def accT : List (Nat × Nat) := [(128, 191), (160, 191), (128, 159), (144, 191), (128, 143)]
def Fst (h : Hp) : Prop := ∀ i : Nat, i < 256 → h.cell ⟨gl_unicode_utf8_first, i, none⟩ = some (.int .u8 ((fstT i : Nat) : Int))
def Acc (h : Hp) : Prop := ∀ i : Nat, i < 16 → h.cell ⟨gl_unicode_utf8_acceptRanges, i * 2, none⟩ = some (.int .u8 (((accT.getD i (0, 0)).1 : Nat) : Int)) ∧ h.cell ⟨gl_unicode_utf8_acceptRanges, i * 2 + 1, none⟩ = some (.int .u8 (((accT.getD i (0, 0)).2 : Nat) : Int))
theorem Fst.mono {h h' : Hp} (a : Fst h) (x : Hp.cle h h') : Fst h' := fun i hi => x _ _ (a i hi)
theorem Acc.mono {h h' : Hp} (a : Acc h) (x : Hp.cle h h') : Acc h' := fun i hi => ⟨x _ _ (a i hi).1, x _ _ (a i hi).2⟩
/-- What the tables tell of a first byte. -/
theorem fst_spec : ∀ c, c < 256 → 128 ≤ c → (if c < 194 ∨ 245 ≤ c then fstT c = 241 else fstT c < 240 ∧ fstT c / 16 < 5 ∧ accT.getD (fstT c / 16) (0, 0) = acc2 c ∧ fstT c % 8 = if c < 224 then 2 else if c < 240 then 3 else 4) := by decide +kernel
theorem mask0 : ∀ c : Nat, c < 256 → ior .i32 (iandNot .i32 (c : Int) (-1)) 65533 = 65533 := by decide +kernel
theorem and7 : ∀ c : Nat, c < 256 → iand .u8 (c : Int) 7 = ((c % 8 : Nat) : Int) := by decide +kernel
theorem shr4 : ∀ c : Nat, c < 256 → (c : Int).fdiv (2 ^ min (4 : Int).toNat IntKind.u8.bits) = ((c / 16 : Nat) : Int) := by decide +kernel
theorem acf0 {h : Hp} {K : Value → Prop} (b : Nat) : q P h (Instr.fieldAt t_utf8_acceptRange (.pointer (some ⟨b, 0, none⟩)) 0) K = K (.pointer (some ⟨b, 0, none⟩)) := q_of (by kernel_rfl) K
theorem acf1 {h : Hp} {K : Value → Prop} (b : Nat) : q P h (Instr.fieldAt t_utf8_acceptRange (.pointer (some ⟨b, 0, none⟩)) 1) K = K (.pointer (some ⟨b, 1, none⟩)) := q_of (by kernel_rfl) K
theorem zr_acc : zr P t_utf8_acceptRange = some (.agg #[.int .u8 0, .int .u8 0]) := by kernel_rfl
theorem runeN_eq (s : List Nat) (hs : s ≠ []) : runeN s = if s.getD 0 0 < 128 then 1 else if s.getD 0 0 < 194 ∨ 245 ≤ s.getD 0 0 then 0
    else if (acc2 (s.getD 0 0)).1 ≤ s.getD 1 0 ∧ s.getD 1 0 ≤ (acc2 (s.getD 0 0)).2 then
      if s.getD 0 0 < 224 then 2 else if cont (s.getD 2 0) = true then if s.getD 0 0 < 240 then 3 else if cont (s.getD 3 0) = true then 4 else 0 else 0
    else 0 := by
  cases s with
  | nil => exact absurd rfl hs
  | cons c r => rfl
theorem wi32 {x : Int} (h1 : -2147483648 ≤ x) (h2 : x ≤ 2147483647) : IntKind.i32.wrap x = x := by
  unfold IntKind.wrap; simp [IntKind.bits, IntKind.signed]; omega
section
variable {h : Hp} {K : Value → Hp → Prop}
theorem ltN (a b : Nat) : decide ((a : Int) < (b : Int)) = decide (a < b) := by rw [decide_eq_decide]; omega
theorem leN (a b : Nat) : decide ((a : Int) ≤ (b : Int)) = decide (a ≤ b) := by rw [decide_eq_decide]; omega
theorem getD_len {l : List Nat} {i : Nat} (h : ¬ i < l.length) : l.getD i 0 = 0 := by rw [List.getD_eq_getElem?_getD, List.getElem?_eq_none (by omega)]; rfl
theorem T_decSlow {v : Value} {l : List Nat} (F : Fst h) (A : Acc h) (rh : Rn h .u8 v l) (bl : Bytes l) (hl : l.length ≤ 9223372036854775807) (hn : 0 < l.length) (hc : 128 ≤ l.getD 0 0)
    (k0 : runeN l = 0 → K (.tuple #[.int .i32 65533, .int .i64 1]) h) (k1 : ∀ x : Int, 2 ≤ runeN l → K (.tuple #[.int .i32 x, .int .i64 ((runeN l : Nat) : Int)]) h) : Cn P n_utf8_decodeRuneSlow #[v] h K := by
  refine Cn_wk (F_utf8_decodeRuneSlow ?_)
  unfold s_utf8_decodeRuneSlow s_utf8_decodeRuneSlow_1
  obtain ⟨av, cv, rfl, hcv⟩ := rh.shape
  obtain ⟨bb, o, rfl, hy⟩ := rh.pos hn
  have c0 := bl _ (getD_memB hn)
  have x0 := hy 0 hn
  have en := runeN_eq l (List.length_pos_iff.1 hn)
  have sp := fst_spec _ c0 hc
  have f0 := F _ c0
  have dn : decide ((l.length : Int) < 1) = false := decide_eq_false (by omega)
  simp -zeta only [RL]
  unfold s_utf8_decodeRuneSlow_2
  simp -zeta only [GL, dn, Bool.false_eq_true, if_false]
  unfold s_utf8_decodeRuneSlow_3
  simp -zeta (disch := omega) only [GL, RL, x0, show ((0 : Int).toNat) = 0 from rfl]
  unfold s_utf8_decodeRuneSlow_4
  generalize ec : l.getD 0 0 = c at *
  simp -zeta (disch := omega) only [GL, RL, f0]
  unfold s_utf8_decodeRuneSlow_5
  rw [if_neg (by omega)] at en
  by_cases g : c < 194 ∨ 245 ≤ c
  · rw [if_pos g] at en sp
    rw [sp]
    simp -zeta (disch := omega) only [GL, RL, show decide ((240 : Int) ≤ ((241 : Nat) : Int)) = true from rfl, if_true, show IntKind.i32.wrap ((241 : Nat) : Int) = 241 from by decide]
    simp -zeta only [show (IntKind.i32.wrap ((241 : Int) * 2 ^ min (31 : Int).toNat IntKind.i32.bits)).fdiv (2 ^ min (31 : Int).toNat IntKind.i32.bits) = -1 from by decide, show ((0 : Int).toNat) = 0 from rfl, x0, GL, RL]
    rw [q_andNot, show IntKind.i32.wrap (c : Int) = (c : Int) from wi32 (by omega) (by omega)]
    simp -zeta only [GL, show iand .i32 65533 (-1) = 65533 from by decide, mask0 c c0]
    exact ⟨h, .refl _, k0 en⟩
  · rw [if_neg g] at en sp
    obtain ⟨s1, s2, s3, s4⟩ := sp
    have fl : fstT c < 256 := by omega
    have d240 : decide ((240 : Int) ≤ ((fstT c : Nat) : Int)) = false := decide_eq_false (by omega)
    simp -zeta only [GL, d240, Bool.false_eq_true, if_false]
    unfold s_utf8_decodeRuneSlow_6
    have wsz : IntKind.i64.wrap ((fstT c % 8 : Nat) : Int) = ((fstT c % 8 : Nat) : Int) := wi64 (by omega) (by omega)
    simp -zeta only [GL, RL, and7 _ fl, wsz]
    unfold s_utf8_decodeRuneSlow_7
    rw [q_shr _ _ _ _ _ (by decide), shr4 _ fl, q_idxA u_16_utf8_acceptRange z_utf8_acceptRange _ _ _ (by omega) (by omega)]
    obtain ⟨a0, a1⟩ := A _ (show fstT c / 16 < 16 by omega)
    rw [s3] at a0 a1
    simp -zeta only [GL, Int.toNat_natCast]
    rw [q_ldAgg (ys := [.int .u8 (((acc2 c).1 : Nat) : Int), .int .u8 (((acc2 c).2 : Nat) : Int)]) u_utf8_acceptRange rfl z_utf8_acceptRange (fun j x e => by
      match j, e with
      | 0, e => cases e; exact a0
      | 1, e => cases e; exact a1
      | n + 2, e => simp at e)]
    refine aw_allocL [.int .u8 0, .int .u8 0] zr_acc rfl fun r0 hr0 => ?_
    refine aw_storeRow (ys := [.int .u8 (((acc2 c).1 : Nat) : Int), .int .u8 (((acc2 c).2 : Nat) : Int)]) z_utf8_acceptRange (Hp.set_same ..) rfl (by intro y hy; simp at hy; rcases hy with rfl | rfl <;> rfl) (fun i _ q => Nat.not_lt_zero _ q.2) ?_
    rw [Hp.set_set]
    generalize hH : h.set r0 (.row t_utf8_acceptRange [.int .u8 (((acc2 c).1 : Nat) : Int), .int .u8 (((acc2 c).2 : Nat) : Int)] [Value.int .u8 0, .int .u8 0].length (some (0, 0))) = H
    have xt : Hp.ext h H := by rw [← hH]; exact ext_set _ hr0
    have b0 : H.cell ⟨r0, 0, none⟩ = some (.int .u8 (((acc2 c).1 : Nat) : Int)) := by rw [← hH, cell_row (Hp.set_same ..)]; rfl
    have b1 : H.cell ⟨r0, 1, none⟩ = some (.int .u8 (((acc2 c).2 : Nat) : Int)) := by rw [← hH, cell_row (Hp.set_same ..)]; rfl
    clear hH
    have done0 : runeN l = 0 → (fun v h' => ∃ h0, Hp.le h0 h' ∧ K v h0) (.tuple #[.int .i32 65533, .int .i64 1]) H := fun q => ⟨h, xt.le, k0 q⟩
    have done1 : ∀ x : Int, 2 ≤ runeN l → (fun v h' => ∃ h0, Hp.le h0 h' ∧ K v h0) (.tuple #[.int .i32 x, .int .i64 ((runeN l : Nat) : Int)]) H := fun x q => ⟨h, xt.le, k1 x q⟩
    generalize (fun v h' => ∃ h0, Hp.le h0 h' ∧ K v h0) = KK at *
    have hy' : ∀ i, i < l.length → H.cell ⟨bb, o + i, none⟩ = some (.int .u8 ((l.getD i 0 : Nat) : Int)) := fun i hi => xt.cle _ _ (hy i hi)
    have acp := acc2_pos c
    rw [s4]
    unfold s_utf8_decodeRuneSlow_8
    simp -zeta only [GL, ltN]
    generalize ez : (if c < 224 then 2 else if c < 240 then 3 else 4) = z at *
    by_cases gl : l.length < z
    · simp -zeta only [gl, decide_true, if_true]
      refine done0 ?_
      rw [en]
      by_cases g1 : (acc2 c).1 ≤ l.getD 1 0 ∧ (l.getD 1 0) ≤ (acc2 c).2
      · rw [if_pos g1]
        have l1 := getD_pos g1.1 (by omega)
        by_cases g2 : c < 224
        · rw [if_pos g2] at ez; omega
        · rw [if_neg g2] at ez ⊢
          by_cases g3 : cont (l.getD 2 0) = true
          · rw [if_pos g3]
            have g3 : 128 ≤ l.getD 2 0 ∧ l.getD 2 0 < 192 := by simpa [cont] using g3
            have l2 := getD_pos g3.1 (by omega)
            by_cases g4 : c < 240
            · rw [if_pos g4] at ez; omega
            · rw [if_neg g4] at ez ⊢
              by_cases g5 : cont (l.getD 3 0) = true
              · have g5 : 128 ≤ l.getD 3 0 ∧ l.getD 3 0 < 192 := by simpa [cont] using g5
                have l3 := getD_pos g5.1 (by omega)
                omega
              · rw [if_neg g5]
          · rw [if_neg g3]
      · rw [if_neg g1]
    · simp -zeta only [gl, decide_false, Bool.false_eq_true, if_false]
      have z2 : 2 ≤ z := by rw [← ez]; split <;> first | omega | (split <;> omega)
      unfold s_utf8_decodeRuneSlow_9
      simp -zeta (disch := omega) only [GL, RL, hy' 1 (by omega), show ((1 : Int).toNat) = 1 from rfl]
      unfold s_utf8_decodeRuneSlow_10
      simp -zeta (disch := omega) only [GL, RL, acf0, acf1, b0, b1, ltN]
      have bad : ¬ ((acc2 c).1 ≤ l.getD 1 0 ∧ (l.getD 1 0) ≤ (acc2 c).2) → KK (.tuple #[.int .i32 65533, .int .i64 1]) H := fun q => done0 (by rw [en, if_neg q])
      by_cases ga : l.getD 1 0 < (acc2 c).1
      · simp -zeta only [ga, decide_true, Bool.true_eq_false, if_false, GL, if_true]
        exact bad (by omega)
      simp -zeta only [ga, decide_false, GL, if_true, ltN]
      by_cases gb : (acc2 c).2 < l.getD 1 0
      · simp -zeta only [gb, decide_true, if_true]
        exact bad (by omega)
      simp -zeta only [gb, decide_false, Bool.false_eq_true, if_false]
      rw [if_pos (show (acc2 c).1 ≤ l.getD 1 0 ∧ (l.getD 1 0) ≤ (acc2 c).2 by omega)] at en
      unfold s_utf8_decodeRuneSlow_11
      have dz2 : decide ((z : Int) ≤ 2) = decide (c < 224) := by
        rw [← ez, decide_eq_decide]
        by_cases q : c < 224
        · simp [q]
        · by_cases q2 : c < 240 <;> simp [q, q2]
      have dz3 : decide ((z : Int) ≤ 3) = decide (c < 240) := by
        rw [← ez, decide_eq_decide]
        by_cases q : c < 224
        · simp [q]; omega
        · by_cases q2 : c < 240 <;> simp [q, q2]
      simp -zeta only [GL, dz2]
      by_cases gc : c < 224
      · rw [if_pos gc] at en
        simp -zeta (disch := decide) only [gc, decide_true, if_true, GL, RL]
        have := done1
        rw [en] at this
        exact this _ (Nat.le_refl _)
      rw [if_neg gc] at en ez
      simp -zeta only [gc, decide_false, Bool.false_eq_true, if_false]
      have z3 : 3 ≤ z := by rw [← ez]; split <;> omega
      unfold s_utf8_decodeRuneSlow_12
      simp -zeta (disch := omega) only [GL, RL, hy' 2 (by omega), show ((2 : Int).toNat) = 2 from rfl]
      unfold s_utf8_decodeRuneSlow_13
      have bad2 : ¬ cont (l.getD 2 0) = true → KK (.tuple #[.int .i32 65533, .int .i64 1]) H := fun q => done0 (by rw [en, if_neg q])
      have dl2 : decide (((l.getD 2 0 : Nat) : Int) < 128) = decide (l.getD 2 0 < 128) := ltN _ 128
      have dh2 : decide ((191 : Int) < ((l.getD 2 0 : Nat) : Int)) = decide (191 < l.getD 2 0) := ltN 191 _
      simp -zeta only [GL, dl2]
      by_cases ga : l.getD 2 0 < 128
      · simp -zeta only [ga, decide_true, Bool.true_eq_false, if_false, GL, if_true]
        exact bad2 fun q => by simp only [cont, decide_eq_true_eq] at q; omega
      simp -zeta only [ga, decide_false, GL, if_true, dh2]
      by_cases gb : 191 < l.getD 2 0
      · simp -zeta only [gb, decide_true, if_true]
        exact bad2 fun q => by simp only [cont, decide_eq_true_eq] at q; omega
      simp -zeta only [gb, decide_false, Bool.false_eq_true, if_false]
      rw [if_pos (show cont (l.getD 2 0) = true by simp only [cont, decide_eq_true_eq]; omega)] at en
      unfold s_utf8_decodeRuneSlow_14
      simp -zeta only [GL, dz3]
      by_cases gd : c < 240
      · rw [if_pos gd] at en
        simp -zeta (disch := decide) only [gd, decide_true, if_true, GL, RL]
        have := done1
        rw [en] at this
        exact this _ (by omega)
      rw [if_neg gd] at en ez
      simp -zeta only [gd, decide_false, Bool.false_eq_true, if_false]
      unfold s_utf8_decodeRuneSlow_15
      simp -zeta (disch := omega) only [GL, RL, hy' 3 (by omega), show ((3 : Int).toNat) = 3 from rfl]
      unfold s_utf8_decodeRuneSlow_16
      have bad3 : ¬ cont (l.getD 3 0) = true → KK (.tuple #[.int .i32 65533, .int .i64 1]) H := fun q => done0 (by rw [en, if_neg q])
      have dl3 : decide (((l.getD 3 0 : Nat) : Int) < 128) = decide (l.getD 3 0 < 128) := ltN _ 128
      have dh3 : decide ((191 : Int) < ((l.getD 3 0 : Nat) : Int)) = decide (191 < l.getD 3 0) := ltN 191 _
      simp -zeta only [GL, dl3]
      by_cases ga : l.getD 3 0 < 128
      · simp -zeta only [ga, decide_true, Bool.true_eq_false, if_false, GL, if_true]
        exact bad3 fun q => by simp only [cont, decide_eq_true_eq] at q; omega
      simp -zeta only [ga, decide_false, GL, if_true, dh3]
      by_cases gb : 191 < l.getD 3 0
      · simp -zeta only [gb, decide_true, if_true]
        exact bad3 fun q => by simp only [cont, decide_eq_true_eq] at q; omega
      simp -zeta only [gb, decide_false, Bool.false_eq_true, if_false]
      rw [if_pos (show cont (l.getD 3 0) = true by simp only [cont, decide_eq_true_eq]; omega)] at en
      unfold s_utf8_decodeRuneSlow_17
      simp -zeta (disch := decide) only [GL, RL]
      unfold s_utf8_decodeRuneSlow_18
      have := done1
      rw [en] at this
      exact this _ (by omega)
theorem T_decSlowS {l : List Nat} (F : Fst h) (A : Acc h) (bl : Bytes l) (hl : l.length ≤ 9223372036854775807) (hn : 0 < l.length) (hc : 128 ≤ l.getD 0 0)
    (k0 : runeN l = 0 → K (.tuple #[.int .i32 65533, .int .i64 1]) h) (k1 : ∀ x : Int, 2 ≤ runeN l → K (.tuple #[.int .i32 x, .int .i64 ((runeN l : Nat) : Int)]) h) : Cn P n_utf8_decodeRuneInStringSlow #[.string (strL l)] h K := by
  refine Cn_wk (F_utf8_decodeRuneInStringSlow ?_)
  unfold s_utf8_decodeRuneInStringSlow s_utf8_decodeRuneInStringSlow_1
  have ix : ∀ (i : Nat) {K : Value → Prop} {H : Hp}, i < l.length → q P H (Instr.index t_string (.string (strL l)) (.int .i64 (i : Int))) K = K (.int .u8 ((l.getD i 0 : Nat) : Int)) := fun i {K H} hi => q_idxSt u_string bl hi
  have c0 := bl _ (getD_memB hn)
  have ix0 : ∀ {K : Value → Prop} {H : Hp}, q P H (Instr.index t_string (.string (strL l)) (.int .i64 0)) K = K (.int .u8 ((l.getD 0 0 : Nat) : Int)) := fun {K H} => ix 0 hn
  have en := runeN_eq l (List.length_pos_iff.1 hn)
  have sp := fst_spec _ c0 hc
  have f0 := F _ c0
  have dn : decide ((l.length : Int) < 1) = false := decide_eq_false (by omega)
  rw [q_lenSt u_string]
  unfold s_utf8_decodeRuneInStringSlow_2
  simp -zeta only [GL, dn, Bool.false_eq_true, if_false]
  unfold s_utf8_decodeRuneInStringSlow_3
  rw [ix0]
  unfold s_utf8_decodeRuneInStringSlow_4
  generalize ec : l.getD 0 0 = c at *
  simp -zeta (disch := omega) only [GL, RL, f0]
  unfold s_utf8_decodeRuneInStringSlow_5
  rw [if_neg (by omega)] at en
  by_cases g : c < 194 ∨ 245 ≤ c
  · rw [if_pos g] at en sp
    rw [sp]
    simp -zeta (disch := omega) only [GL, RL, show decide ((240 : Int) ≤ ((241 : Nat) : Int)) = true from rfl, if_true, show IntKind.i32.wrap ((241 : Nat) : Int) = 241 from by decide]
    simp -zeta only [show (IntKind.i32.wrap ((241 : Int) * 2 ^ min (31 : Int).toNat IntKind.i32.bits)).fdiv (2 ^ min (31 : Int).toNat IntKind.i32.bits) = -1 from by decide, ix0, GL, RL]
    rw [q_andNot, show IntKind.i32.wrap (c : Int) = (c : Int) from wi32 (by omega) (by omega)]
    simp -zeta only [GL, show iand .i32 65533 (-1) = 65533 from by decide, mask0 c c0]
    exact ⟨h, .refl _, k0 en⟩
  · rw [if_neg g] at en sp
    obtain ⟨s1, s2, s3, s4⟩ := sp
    have fl : fstT c < 256 := by omega
    have d240 : decide ((240 : Int) ≤ ((fstT c : Nat) : Int)) = false := decide_eq_false (by omega)
    simp -zeta only [GL, d240, Bool.false_eq_true, if_false]
    unfold s_utf8_decodeRuneInStringSlow_6
    have wsz : IntKind.i64.wrap ((fstT c % 8 : Nat) : Int) = ((fstT c % 8 : Nat) : Int) := wi64 (by omega) (by omega)
    simp -zeta only [GL, RL, and7 _ fl, wsz]
    unfold s_utf8_decodeRuneInStringSlow_7
    rw [q_shr _ _ _ _ _ (by decide), shr4 _ fl, q_idxA u_16_utf8_acceptRange z_utf8_acceptRange _ _ _ (by omega) (by omega)]
    obtain ⟨a0, a1⟩ := A _ (show fstT c / 16 < 16 by omega)
    rw [s3] at a0 a1
    simp -zeta only [GL, Int.toNat_natCast]
    rw [q_ldAgg (ys := [.int .u8 (((acc2 c).1 : Nat) : Int), .int .u8 (((acc2 c).2 : Nat) : Int)]) u_utf8_acceptRange rfl z_utf8_acceptRange (fun j x e => by
      match j, e with
      | 0, e => cases e; exact a0
      | 1, e => cases e; exact a1
      | n + 2, e => simp at e)]
    refine aw_allocL [.int .u8 0, .int .u8 0] zr_acc rfl fun r0 hr0 => ?_
    refine aw_storeRow (ys := [.int .u8 (((acc2 c).1 : Nat) : Int), .int .u8 (((acc2 c).2 : Nat) : Int)]) z_utf8_acceptRange (Hp.set_same ..) rfl (by intro y hy; simp at hy; rcases hy with rfl | rfl <;> rfl) (fun i _ q => Nat.not_lt_zero _ q.2) ?_
    rw [Hp.set_set]
    generalize hH : h.set r0 (.row t_utf8_acceptRange [.int .u8 (((acc2 c).1 : Nat) : Int), .int .u8 (((acc2 c).2 : Nat) : Int)] [Value.int .u8 0, .int .u8 0].length (some (0, 0))) = H
    have xt : Hp.ext h H := by rw [← hH]; exact ext_set _ hr0
    have b0 : H.cell ⟨r0, 0, none⟩ = some (.int .u8 (((acc2 c).1 : Nat) : Int)) := by rw [← hH, cell_row (Hp.set_same ..)]; rfl
    have b1 : H.cell ⟨r0, 1, none⟩ = some (.int .u8 (((acc2 c).2 : Nat) : Int)) := by rw [← hH, cell_row (Hp.set_same ..)]; rfl
    clear hH
    have done0 : runeN l = 0 → (fun v h' => ∃ h0, Hp.le h0 h' ∧ K v h0) (.tuple #[.int .i32 65533, .int .i64 1]) H := fun q => ⟨h, xt.le, k0 q⟩
    have done1 : ∀ x : Int, 2 ≤ runeN l → (fun v h' => ∃ h0, Hp.le h0 h' ∧ K v h0) (.tuple #[.int .i32 x, .int .i64 ((runeN l : Nat) : Int)]) H := fun x q => ⟨h, xt.le, k1 x q⟩
    generalize (fun v h' => ∃ h0, Hp.le h0 h' ∧ K v h0) = KK at *
    have acp := acc2_pos c
    rw [s4]
    unfold s_utf8_decodeRuneInStringSlow_8
    simp -zeta only [GL, ltN]
    generalize ez : (if c < 224 then 2 else if c < 240 then 3 else 4) = z at *
    by_cases gl : l.length < z
    · simp -zeta only [gl, decide_true, if_true]
      refine done0 ?_
      rw [en]
      by_cases g1 : (acc2 c).1 ≤ l.getD 1 0 ∧ (l.getD 1 0) ≤ (acc2 c).2
      · rw [if_pos g1]
        have l1 := getD_pos g1.1 (by omega)
        by_cases g2 : c < 224
        · rw [if_pos g2] at ez; omega
        · rw [if_neg g2] at ez ⊢
          by_cases g3 : cont (l.getD 2 0) = true
          · rw [if_pos g3]
            have g3 : 128 ≤ l.getD 2 0 ∧ l.getD 2 0 < 192 := by simpa [cont] using g3
            have l2 := getD_pos g3.1 (by omega)
            by_cases g4 : c < 240
            · rw [if_pos g4] at ez; omega
            · rw [if_neg g4] at ez ⊢
              by_cases g5 : cont (l.getD 3 0) = true
              · have g5 : 128 ≤ l.getD 3 0 ∧ l.getD 3 0 < 192 := by simpa [cont] using g5
                have l3 := getD_pos g5.1 (by omega)
                omega
              · rw [if_neg g5]
          · rw [if_neg g3]
      · rw [if_neg g1]
    · simp -zeta only [gl, decide_false, Bool.false_eq_true, if_false]
      have z2 : 2 ≤ z := by rw [← ez]; split <;> first | omega | (split <;> omega)
      unfold s_utf8_decodeRuneInStringSlow_9
      rw [show (1 : Int) = ((1 : Nat) : Int) from rfl, ix 1 (by omega)]
      unfold s_utf8_decodeRuneInStringSlow_10
      simp -zeta (disch := omega) only [GL, RL, acf0, acf1, b0, b1, ltN]
      have bad : ¬ ((acc2 c).1 ≤ l.getD 1 0 ∧ (l.getD 1 0) ≤ (acc2 c).2) → KK (.tuple #[.int .i32 65533, .int .i64 1]) H := fun q => done0 (by rw [en, if_neg q])
      by_cases ga : l.getD 1 0 < (acc2 c).1
      · simp -zeta only [ga, decide_true, Bool.true_eq_false, if_false, GL, if_true]
        exact bad (by omega)
      simp -zeta only [ga, decide_false, GL, if_true, ltN]
      by_cases gb : (acc2 c).2 < l.getD 1 0
      · simp -zeta only [gb, decide_true, if_true]
        exact bad (by omega)
      simp -zeta only [gb, decide_false, Bool.false_eq_true, if_false]
      rw [if_pos (show (acc2 c).1 ≤ l.getD 1 0 ∧ (l.getD 1 0) ≤ (acc2 c).2 by omega)] at en
      unfold s_utf8_decodeRuneInStringSlow_11
      have dz2 : decide ((z : Int) ≤ 2) = decide (c < 224) := by
        rw [← ez, decide_eq_decide]
        by_cases q : c < 224
        · simp [q]
        · by_cases q2 : c < 240 <;> simp [q, q2]
      have dz3 : decide ((z : Int) ≤ 3) = decide (c < 240) := by
        rw [← ez, decide_eq_decide]
        by_cases q : c < 224
        · simp [q]; omega
        · by_cases q2 : c < 240 <;> simp [q, q2]
      simp -zeta only [GL, dz2]
      by_cases gc : c < 224
      · rw [if_pos gc] at en
        simp -zeta (disch := decide) only [gc, decide_true, if_true, GL, RL]
        have := done1
        rw [en] at this
        exact this _ (Nat.le_refl _)
      rw [if_neg gc] at en ez
      simp -zeta only [gc, decide_false, Bool.false_eq_true, if_false]
      have z3 : 3 ≤ z := by rw [← ez]; split <;> omega
      unfold s_utf8_decodeRuneInStringSlow_12
      rw [show (2 : Int) = ((2 : Nat) : Int) from rfl, ix 2 (by omega)]
      unfold s_utf8_decodeRuneInStringSlow_13
      have bad2 : ¬ cont (l.getD 2 0) = true → KK (.tuple #[.int .i32 65533, .int .i64 1]) H := fun q => done0 (by rw [en, if_neg q])
      have dl2 : decide (((l.getD 2 0 : Nat) : Int) < 128) = decide (l.getD 2 0 < 128) := ltN _ 128
      have dh2 : decide ((191 : Int) < ((l.getD 2 0 : Nat) : Int)) = decide (191 < l.getD 2 0) := ltN 191 _
      simp -zeta only [GL, dl2]
      by_cases ga : l.getD 2 0 < 128
      · simp -zeta only [ga, decide_true, Bool.true_eq_false, if_false, GL, if_true]
        exact bad2 fun q => by simp only [cont, decide_eq_true_eq] at q; omega
      simp -zeta only [ga, decide_false, GL, if_true, dh2]
      by_cases gb : 191 < l.getD 2 0
      · simp -zeta only [gb, decide_true, if_true]
        exact bad2 fun q => by simp only [cont, decide_eq_true_eq] at q; omega
      simp -zeta only [gb, decide_false, Bool.false_eq_true, if_false]
      rw [if_pos (show cont (l.getD 2 0) = true by simp only [cont, decide_eq_true_eq]; omega)] at en
      unfold s_utf8_decodeRuneInStringSlow_14
      simp -zeta only [GL, dz3]
      by_cases gd : c < 240
      · rw [if_pos gd] at en
        simp -zeta (disch := decide) only [gd, decide_true, if_true, GL, RL]
        have := done1
        rw [en] at this
        exact this _ (by omega)
      rw [if_neg gd] at en ez
      simp -zeta only [gd, decide_false, Bool.false_eq_true, if_false]
      unfold s_utf8_decodeRuneInStringSlow_15
      rw [show (3 : Int) = ((3 : Nat) : Int) from rfl, ix 3 (by omega)]
      unfold s_utf8_decodeRuneInStringSlow_16
      have bad3 : ¬ cont (l.getD 3 0) = true → KK (.tuple #[.int .i32 65533, .int .i64 1]) H := fun q => done0 (by rw [en, if_neg q])
      have dl3 : decide (((l.getD 3 0 : Nat) : Int) < 128) = decide (l.getD 3 0 < 128) := ltN _ 128
      have dh3 : decide ((191 : Int) < ((l.getD 3 0 : Nat) : Int)) = decide (191 < l.getD 3 0) := ltN 191 _
      simp -zeta only [GL, dl3]
      by_cases ga : l.getD 3 0 < 128
      · simp -zeta only [ga, decide_true, Bool.true_eq_false, if_false, GL, if_true]
        exact bad3 fun q => by simp only [cont, decide_eq_true_eq] at q; omega
      simp -zeta only [ga, decide_false, GL, if_true, dh3]
      by_cases gb : 191 < l.getD 3 0
      · simp -zeta only [gb, decide_true, if_true]
        exact bad3 fun q => by simp only [cont, decide_eq_true_eq] at q; omega
      simp -zeta only [gb, decide_false, Bool.false_eq_true, if_false]
      rw [if_pos (show cont (l.getD 3 0) = true by simp only [cont, decide_eq_true_eq]; omega)] at en
      unfold s_utf8_decodeRuneInStringSlow_17
      simp -zeta (disch := decide) only [GL, RL]
      unfold s_utf8_decodeRuneInStringSlow_18
      have := done1
      rw [en] at this
      exact this _ (by omega)
theorem T_DecodeRune {v : Value} {l : List Nat} (F : Fst h) (A : Acc h) (rh : Rn h .u8 v l) (bl : Bytes l) (hl : l.length ≤ 9223372036854775807) (hn : 0 < l.length)
    (k0 : runeN l = 0 → K (.tuple #[.int .i32 65533, .int .i64 1]) h) (k1 : ∀ x : Int, 0 < runeN l → (runeN l = 1 → x < 128) → K (.tuple #[.int .i32 x, .int .i64 ((runeN l : Nat) : Int)]) h) : Cn P n_utf8_DecodeRune #[v] h K := by
  refine Cn_wk (F_utf8_DecodeRune ?_)
  unfold s_utf8_DecodeRune
  have rh0 := rh
  obtain ⟨av, cv, rfl, hcv⟩ := rh.shape
  obtain ⟨bb, o, rfl, hy⟩ := rh.pos hn
  have c0 := bl _ (getD_memB hn)
  have x0 := hy 0 hn
  have en := runeN_eq l (List.length_pos_iff.1 hn)
  simp -zeta only [RL]
  refine Lp_mk (fun m vs H => H = h ∧ vs = [.int .i32 0, .int .i64 0, .int .i64 0]) 0 ⟨rfl, rfl⟩ ?_
  rintro m vs H ⟨rfl, rfl⟩
  have d1 : decide ((0 : Int) < ((l.length : Nat) : Int)) = true := decide_eq_true (by omega)
  have d2 : decide (((l.getD 0 0 : Nat) : Int) < 128) = decide (l.getD 0 0 < 128) := ltN _ 128
  simp -zeta (disch := omega) only [GL, RL, d1, if_true, show ((0 : Int).toNat) = 0 from rfl, x0, d2]
  by_cases g : l.getD 0 0 < 128
  · rw [if_pos g] at en
    rw [if_pos (decide_eq_true g), show IntKind.i32.wrap ((l.getD 0 0 : Nat) : Int) = ((l.getD 0 0 : Nat) : Int) from wi32 (by omega) (by omega)]
    have := k1 ((l.getD 0 0 : Nat) : Int) (by omega) (by omega)
    rw [en] at this
    exact ⟨H, .refl _, this⟩
  · rw [if_neg (by simpa using g)]
    refine T_decSlow F A rh bl hl hn (by omega) (fun q => ?_) fun x q => ?_
    · rw [ext0, ext1]; exact ⟨H, .refl _, k0 q⟩
    · rw [ext0, ext1]; exact ⟨H, .refl _, k1 x (by omega) (by omega)⟩
theorem T_DecodeRuneS {l : List Nat} (F : Fst h) (A : Acc h) (bl : Bytes l) (hl : l.length ≤ 9223372036854775807) (hn : 0 < l.length)
    (k : ∀ (x : Int) (w : Nat), 1 ≤ w → w ≤ l.length → (l.getD 0 0 < 128 → x = (l.getD 0 0 : Nat)) → K (.tuple #[.int .i32 x, .int .i64 (w : Int)]) h) : Cn P n_utf8_DecodeRuneInString #[.string (strL l)] h K := by
  refine F_utf8_DecodeRuneInString ?_
  unfold s_utf8_DecodeRuneInString
  intro J3
  have c0 := bl _ (getD_memB hn)
  have ix0 : ∀ {K : Value → Prop} {H : Hp}, q P H (Instr.index t_string (.string (strL l)) (.int .i64 0)) K = K (.int .u8 ((l.getD 0 0 : Nat) : Int)) := fun {K H} => q_idxSt u_string bl hn
  have q3 : ∀ g : Bool, (g = decide (l.getD 0 0 < 128)) → J3 (.bool g) h := fun g eg => by
    simp -zeta only [J3]
    clear J3
    rw [cnd_bool]
    by_cases g1 : l.getD 0 0 < 128
    · rw [if_pos (by rw [eg]; exact decide_eq_true g1), ix0]
      simp -zeta only [RL]
      rw [show IntKind.i32.wrap ((l.getD 0 0 : Nat) : Int) = ((l.getD 0 0 : Nat) : Int) from wi32 (by omega) (by omega)]
      exact k _ 1 (by omega) hn fun _ => rfl
    · rw [if_neg (by rw [eg]; simpa using g1)]
      have rl := runeN_len l
      refine T_decSlowS F A bl hl hn (by omega) (fun q => ?_) fun x q => ?_
      · rw [ext0, ext1]; exact k _ 1 (by omega) hn fun q => absurd q g1
      · rw [ext0, ext1]; exact k x _ (by omega) rl fun q => absurd q g1
  clear_value J3
  rw [empS, q_neqSt _ _ bl (by intro x hx; cases hx)]
  have hne : l ≠ [] := List.length_pos_iff.1 hn
  simp -zeta only [GL, hne, decide_false, Bool.not_false, if_true]
  rw [ix0]
  have d2 : decide (((l.getD 0 0 : Nat) : Int) < 128) = decide (l.getD 0 0 < 128) := ltN _ 128
  simp -zeta only [GL, d2]
  exact q3 _ rfl
end
/-- A rune's bytes; of what isn't one, those of the rune that stands for it. -/
def encR (r : Nat) : List Nat := if 1114111 < r ∨ (55296 ≤ r ∧ r ≤ 57343) then [239, 191, 189] else enc r
theorem encR_b {r : Nat} : Bytes (encR r) ∧ 1 ≤ (encR r).length ∧ (encR r).length ≤ 4 := by
  unfold encR
  split
  · exact ⟨by unfold Bytes; decide, by decide, by decide⟩
  · rename_i q
    refine ⟨fun x hx => ?_, enc_len r⟩
    unfold enc at hx
    split at hx
    · simp at hx; omega
    · split at hx
      · simp at hx; omega
      · split at hx
        · simp at hx; omega
        · simp at hx; omega
theorem encR_hi {r : Nat} (h : 128 ≤ r) : ∃ x ∈ encR r, 128 ≤ x := by
  unfold encR
  split
  · exact ⟨239, by simp, by omega⟩
  · unfold enc
    rw [if_neg (by omega)]
    split
    · exact ⟨_, List.mem_cons_self .., by omega⟩
    · split
      · exact ⟨_, List.mem_cons_self .., by omega⟩
      · exact ⟨_, List.mem_cons_self .., by omega⟩
theorem encR_lo {r : Nat} (h : r < 128) : encR r = [r] := by
  unfold encR enc
  rw [if_neg (by omega), if_pos h]
theorem or128_256 : ∀ n : Nat, n < 256 → ior .u8 128 (iand .u8 (n : Int) 63) = ((128 + n % 64 : Nat) : Int) := by decide +kernel
theorem or128 (n : Nat) : ior .u8 128 (iand .u8 (IntKind.u8.wrap (n : Int)) 63) = ((128 + n % 64 : Nat) : Int) := by
  rw [wu8, or128_256 _ (Nat.mod_lt _ (by decide))]
  congr 2
  omega
theorem or192 {n : Nat} (h : n < 32) : ior .u8 192 (IntKind.u8.wrap (n : Int)) = ((192 + n : Nat) : Int) := by
  have : ∀ n : Nat, n < 32 → ior .u8 192 (IntKind.u8.wrap (n : Int)) = ((192 + n : Nat) : Int) := by decide +kernel
  exact this n h
theorem or224 {n : Nat} (h : n < 16) : ior .u8 224 (IntKind.u8.wrap (n : Int)) = ((224 + n : Nat) : Int) := by
  have : ∀ n : Nat, n < 16 → ior .u8 224 (IntKind.u8.wrap (n : Int)) = ((224 + n : Nat) : Int) := by decide +kernel
  exact this n h
theorem or240 {n : Nat} (h : n < 8) : ior .u8 240 (IntKind.u8.wrap (n : Int)) = ((240 + n : Nat) : Int) := by
  have : ∀ n : Nat, n < 8 → ior .u8 240 (IntKind.u8.wrap (n : Int)) = ((240 + n : Nat) : Int) := by decide +kernel
  exact this n h
theorem shN (r n : Nat) (i : Int) (m : Nat) (e : min i.toNat IntKind.i32.bits = n) (em : 2 ^ n = m) : (r : Int).fdiv (2 ^ min i.toNat IntKind.i32.bits) = ((r / m : Nat) : Int) := by
  rw [e, ← em]
  exact fdivp r n
section
variable {h : Hp} {K : Value → Hp → Prop}
theorem aw_lit2 (a b : Nat) (k : ∀ v h', Nn h t_uint8 .u8 v h' [a, b] → K v h') : aw P (Instr.buildSlice t_Sl_uint8 2 #[(0, .int .u8 (a : Int)), (1, .int .u8 (b : Int))]) K h :=
  aw_lit (ps := [(0, .int .u8 (a : Int)), (1, .int .u8 (b : Int))]) u_Sl_uint8 z_uint8 zr_uint8 rfl (by decide) (fun p hp => by simp at hp; rcases hp with rfl | rfl <;> exact ⟨rfl, by simp⟩) fun v h' n _ => k v h' n
theorem aw_lit3 (a b c : Nat) (k : ∀ v h', Nn h t_uint8 .u8 v h' [a, b, c] → K v h') : aw P (Instr.buildSlice t_Sl_uint8 3 #[(0, .int .u8 (a : Int)), (1, .int .u8 (b : Int)), (2, .int .u8 (c : Int))]) K h :=
  aw_lit (ps := [(0, .int .u8 (a : Int)), (1, .int .u8 (b : Int)), (2, .int .u8 (c : Int))]) u_Sl_uint8 z_uint8 zr_uint8 rfl (by decide) (fun p hp => by simp at hp; rcases hp with rfl | rfl | rfl <;> exact ⟨rfl, by simp⟩) fun v h' n _ => k v h' n
theorem aw_lit4 (a b c d : Nat) (k : ∀ v h', Nn h t_uint8 .u8 v h' [a, b, c, d] → K v h') : aw P (Instr.buildSlice t_Sl_uint8 4 #[(0, .int .u8 (a : Int)), (1, .int .u8 (b : Int)), (2, .int .u8 (c : Int)), (3, .int .u8 (d : Int))]) K h :=
  aw_lit (ps := [(0, .int .u8 (a : Int)), (1, .int .u8 (b : Int)), (2, .int .u8 (c : Int)), (3, .int .u8 (d : Int))]) u_Sl_uint8 z_uint8 zr_uint8 rfl (by decide) (fun p hp => by simp at hp; rcases hp with rfl | rfl | rfl | rfl <;> exact ⟨rfl, by simp⟩) fun v h' n _ => k v h' n
/-- A literal made just now is appended to a row that grows. -/
theorem aw_appL {h1 : Hp} {v w : Value} {xs ys : List Nat} {S : List Nat} (o : OutAt t_uint8 1 h v (nv .u8 xs) xs.length S) (n1 : Nn h t_uint8 .u8 w h1 ys) (l : xs.length + ys.length ≤ 70368744177664)
    (k : ∀ v' h' S', OutAt t_uint8 1 h' v' (nv .u8 (xs ++ ys)) (xs ++ ys).length S' → (∀ b o, b ∉ S → h b = some o → h' b = some o) → (∀ b o, b ∉ S → h b = some o → b ∉ S') → K v' h') :
    aw P (Builtin.append_ #[t_Sl_uint8, t_Sl_uint8] t_Sl_uint8 #[v, w]) K h1 := by
  have e1 := n1.ext
  refine aw_appO (out_grown o e1) n1.rn l fun v' h' S' o' kp fr => k v' h' S' o' (fun b o nb e => kp b o nb (e1 _ _ e)) fun b o nb e => fr b o nb (e1 _ _ e)
theorem T_AppendRune {v : Value} {xs : List Nat} {S : List Nat} (o : OutAt t_uint8 1 h v (nv .u8 xs) xs.length S) {r : Nat} (hr : r ≤ 4000000) (l : xs.length ≤ 70368744177600)
    (k : ∀ v' h' S', OutAt t_uint8 1 h' v' (nv .u8 (xs ++ encR r)) (xs ++ encR r).length S' → (∀ b o, b ∉ S → h b = some o → h' b = some o) → (∀ b o, b ∉ S → h b = some o → b ∉ S') → K v' h') :
    Cn P n_utf8_AppendRune #[v, .int .i32 (r : Int)] h K := by
  refine F_utf8_AppendRune ?_
  unfold s_utf8_AppendRune
  have w1 : IntKind.u32.wrap (r : Int) = (r : Int) := wu32i (by omega) (by omega)
  have d1 : decide ((r : Int) ≤ 127) = decide (r ≤ 127) := leN r 127
  have d2 : decide ((r : Int) ≤ 2047) = decide (r ≤ 2047) := leN r 2047
  have d3 : decide ((r : Int) < 55296) = decide (r < 55296) := ltN r 55296
  have d4 : decide ((57343 : Int) < (r : Int)) = decide (57343 < r) := ltN 57343 r
  have d5 : decide ((r : Int) ≤ 65535) = decide (r ≤ 65535) := leN r 65535
  have d6 : decide ((65535 : Int) < (r : Int)) = decide (65535 < r) := ltN 65535 r
  have d7 : decide ((r : Int) ≤ 1114111) = decide (r ≤ 1114111) := leN r 1114111
  have s6 := shN r 6 6 64 rfl rfl
  have s12 := shN r 12 12 4096 rfl rfl
  have s18 := shN r 18 18 262144 rfl rfl
  simp -zeta only [GL, RL, w1, d1]
  by_cases g1 : r ≤ 127
  · rw [if_pos (decide_eq_true g1), wu8i (by omega) (by omega)]
    refine aw_lit1 r fun w h1 n1 => aw_appL o n1 (by simp; omega) fun v' h' S' o' kp fr => ?_
    rw [← encR_lo (show r < 128 by omega)] at o'
    exact k v' h' S' o' kp fr
  · rw [if_neg (by simpa using g1)]
    refine F_utf8_appendRuneNonASCII ?_
    unfold s_utf8_appendRuneNonASCII
    simp -zeta only [GL, RL, w1, d2]
    by_cases g2 : r ≤ 2047
    · rw [if_pos (decide_eq_true g2)]
      have en : encR r = [192 + r / 64, 128 + r % 64] := by unfold encR enc; rw [if_neg (by omega), if_neg (by omega), if_pos (by omega)]
      simp -zeta (disch := decide) only [GL, RL, s6, or128]
      rw [or192 (show r / 64 < 32 by omega)]
      refine aw_lit2 _ _ fun w h1 n1 => aw_appL o n1 (by simp; omega) fun v' h' S' o' kp fr => ?_
      rw [← en] at o'
      exact k v' h' S' o' kp fr
    · rw [if_neg (by simpa using g2)]
      intro J5
      have q5 : ∀ g : Bool, (g = true ↔ r < 55296 ∨ (57343 < r ∧ r ≤ 65535)) → J5 (.bool g) h := fun g eg => by
        simp -zeta only [J5]
        clear J5
        rw [cnd_bool]
        by_cases g3 : r < 55296 ∨ (57343 < r ∧ r ≤ 65535)
        · rw [if_pos (eg.2 g3)]
          have en : encR r = [224 + r / 4096, 128 + r / 64 % 64, 128 + r % 64] := by unfold encR enc; rw [if_neg (by omega), if_neg (by omega), if_neg (by omega), if_pos (by omega)]
          simp -zeta (disch := decide) only [GL, RL, s6, s12, or128]
          rw [or224 (show r / 4096 < 16 by omega)]
          refine aw_lit3 _ _ _ fun w h1 n1 => aw_appL o n1 (by simp; omega) fun v' h' S' o' kp fr => ?_
          rw [← en] at o'
          exact k v' h' S' o' kp fr
        · rw [if_neg (fun q => g3 (eg.1 q))]
          intro J8
          have q8 : ∀ g : Bool, (g = true ↔ 65535 < r ∧ r ≤ 1114111) → J8 (.bool g) h := fun g eg => by
            simp -zeta only [J8]
            clear J8
            rw [cnd_bool]
            by_cases g4 : 65535 < r ∧ r ≤ 1114111
            · rw [if_pos (eg.2 g4)]
              have en : encR r = [240 + r / 262144, 128 + r / 4096 % 64, 128 + r / 64 % 64, 128 + r % 64] := by unfold encR enc; rw [if_neg (by omega), if_neg (by omega), if_neg (by omega), if_neg (by omega)]
              simp -zeta (disch := decide) only [GL, RL, s6, s12, s18, or128]
              rw [or240 (show r / 262144 < 8 by omega)]
              refine aw_lit4 _ _ _ _ fun w h1 n1 => aw_appL o n1 (by simp; omega) fun v' h' S' o' kp fr => ?_
              rw [← en] at o'
              exact k v' h' S' o' kp fr
            · rw [if_neg (fun q => g4 (eg.1 q))]
              have en : encR r = [239, 191, 189] := by unfold encR; rw [if_pos (by omega)]
              refine aw_lit3 239 191 189 fun w h1 n1 => aw_appL o n1 (by simp; omega) fun v' h' S' o' kp fr => ?_
              rw [← en] at o'
              exact k v' h' S' o' kp fr
          clear_value J8
          simp -zeta only [GL, d6]
          by_cases g6 : 65535 < r
          · simp -zeta only [g6, decide_true, if_true, GL, d7]
            exact q8 _ (by rw [decide_eq_true_eq]; omega)
          · simp -zeta only [g6, decide_false, Bool.false_eq_true, if_false]
            exact q8 _ ⟨fun q => (by cases q), fun q => absurd q.1 g6⟩
      clear_value J5
      simp -zeta only [GL, d3]
      by_cases g3 : r < 55296
      · simp -zeta only [g3, decide_true, if_true]
        exact q5 _ ⟨fun _ => .inl g3, fun _ => rfl⟩
      · simp -zeta only [g3, decide_false, Bool.false_eq_true, if_false, GL, d4]
        by_cases g4 : 57343 < r
        · simp -zeta only [g4, decide_true, if_true, GL, d5]
          exact q5 _ (by rw [decide_eq_true_eq]; omega)
        · simp -zeta only [g4, decide_false, Bool.false_eq_true, if_false]
          exact q5 _ ⟨fun q => (by cases q), fun q => by omega⟩
theorem T_RuneLen {r : Nat} (hr : r ≤ 4000000) (k : ∀ w : Int, (r < 128 → w = 1) → w = (if r < 128 then 1 else if r ≤ 2047 then 2 else if 55296 ≤ r ∧ r ≤ 57343 then -1 else if r ≤ 65535 then 3 else if r ≤ 1114111 then 4 else -1) → K (.int .i64 w) h) : Cn P n_utf8_RuneLen #[.int .i32 (r : Int)] h K := by
  refine F_utf8_RuneLen ?_
  unfold s_utf8_RuneLen
  have d0 : decide ((r : Int) < 0) = false := decide_eq_false (by omega)
  have d1 : decide ((r : Int) ≤ 127) = decide (r < 128) := by rw [decide_eq_decide]; omega
  have d2 : decide ((r : Int) ≤ 2047) = decide (r ≤ 2047) := leN r 2047
  have d3 : decide ((55296 : Int) ≤ (r : Int)) = decide (55296 ≤ r) := leN 55296 r
  have d4 : decide ((r : Int) ≤ 57343) = decide (r ≤ 57343) := leN r 57343
  have d5 : decide ((r : Int) ≤ 65535) = decide (r ≤ 65535) := leN r 65535
  have d7 : decide ((r : Int) ≤ 1114111) = decide (r ≤ 1114111) := leN r 1114111
  simp -zeta only [GL, d0, d1, Bool.false_eq_true, if_false]
  by_cases g1 : r < 128
  · rw [if_pos (decide_eq_true g1)]; exact k _ (fun _ => rfl) (by rw [if_pos g1])
  rw [if_neg (by simpa using g1)]
  rw [if_neg g1] at k
  simp -zeta only [GL, d2]
  by_cases g2 : r ≤ 2047
  · rw [if_pos (decide_eq_true g2)]; exact k _ (fun q => absurd q g1) (by rw [if_pos g2])
  rw [if_neg (by simpa using g2)]
  rw [if_neg g2] at k
  intro J9
  have q9 : ∀ g : Bool, (g = true ↔ 55296 ≤ r ∧ r ≤ 57343) → J9 (.bool g) h := fun g eg => by
    simp -zeta only [J9]
    clear J9
    rw [cnd_bool]
    by_cases g3 : 55296 ≤ r ∧ r ≤ 57343
    · rw [if_pos (eg.2 g3)]; exact k _ (fun q => absurd q g1) (by rw [if_pos g3])
    rw [if_neg (fun q => g3 (eg.1 q))]
    rw [if_neg g3] at k
    simp -zeta only [GL, d5]
    by_cases g4 : r ≤ 65535
    · rw [if_pos (decide_eq_true g4)]; exact k _ (fun q => absurd q g1) (by rw [if_pos g4])
    rw [if_neg (by simpa using g4)]
    rw [if_neg g4] at k
    simp -zeta only [GL, d7]
    by_cases g5 : r ≤ 1114111
    · rw [if_pos (decide_eq_true g5)]; exact k _ (fun q => absurd q g1) (by rw [if_pos g5])
    rw [if_neg (by simpa using g5)]
    exact k _ (fun q => absurd q g1) (by rw [if_neg g5])
  clear_value J9
  simp -zeta only [GL, d3]
  by_cases g3 : 55296 ≤ r
  · simp -zeta only [g3, decide_true, if_true, GL, d4]
    exact q9 _ (by rw [decide_eq_true_eq]; omega)
  · simp -zeta only [g3, decide_false, Bool.false_eq_true, if_false]
    exact q9 _ ⟨fun q => (by cases q), fun q => by omega⟩
end
abbrev cRow : Type := Nat × Nat × Int × Int × Int
/-- The library's table of letters in memory. -/
def Cas (h : Hp) : Prop := ∃ b o c : Nat, Go.Pinned.caseRows.length ≤ c ∧ h.cell ⟨gl_unicode_CaseRanges, 0, none⟩ = some (.slice (some ⟨b, o, none⟩) Go.Pinned.caseRows.length c) ∧ ∀ (i : Nat) (x : cRow), Go.Pinned.caseRows[i]? = some x →
  h.cell ⟨b, o + i * 5, none⟩ = some (.int .u32 (x.1 : Int)) ∧ h.cell ⟨b, o + i * 5 + 1, none⟩ = some (.int .u32 (x.2.1 : Int)) ∧ h.cell ⟨b, o + i * 5 + 3, none⟩ = some (.int .i32 x.2.2.2.1)
theorem Cas.mono {h h' : Hp} (a : Cas h) (x : Hp.cle h h') : Cas h' :=
  let ⟨b, o, c, l, g, r⟩ := a
  ⟨b, o, c, l, x _ _ g, fun i y e => ⟨x _ _ (r i y e).1, x _ _ (r i y e).2.1, x _ _ (r i y e).2.2⟩⟩
def caseOk (x : cRow) : Bool := decide (x.1 ≤ x.2.1 ∧ x.2.1 ≤ 1114111 ∧ (x.2.1 < 128 ∨ (x.2.2.2.1 = 1114112 ∧ 256 ≤ x.1) ∨ (-1000000 ≤ x.2.2.2.1 ∧ x.2.2.2.1 ≤ 1000000 ∧ 103 ≤ (max x.1 128 : Nat) + x.2.2.2.1)))
theorem case_ok : Go.Pinned.caseRows.all caseOk = true := by decide +kernel
theorem case_len : Go.Pinned.caseRows.length ≤ 1000 := by decide +kernel
theorem case_at {i : Nat} {x : cRow} (e : Go.Pinned.caseRows[i]? = some x) : x.1 ≤ x.2.1 ∧ x.2.1 ≤ 1114111 ∧ (x.2.1 < 128 ∨ (x.2.2.2.1 = 1114112 ∧ 256 ≤ x.1) ∨ (-1000000 ≤ x.2.2.2.1 ∧ x.2.2.2.1 ≤ 1000000 ∧ 103 ≤ ((max x.1 128 : Nat) : Int) + x.2.2.2.1)) := by
  have := List.all_eq_true.1 case_ok x (List.mem_of_getElem? e)
  simpa [caseOk] using this
theorem csf0 {h : Hp} {K : Value → Prop} (b o : Nat) : q P h (Instr.fieldAt t_unicode_CaseRange (.pointer (some ⟨b, o, none⟩)) 0) K = K (.pointer (some ⟨b, o, none⟩)) := q_of (by kernel_rfl) K
theorem csf1 {h : Hp} {K : Value → Prop} (b o : Nat) : q P h (Instr.fieldAt t_unicode_CaseRange (.pointer (some ⟨b, o, none⟩)) 1) K = K (.pointer (some ⟨b, o + 1, none⟩)) := q_of (by kernel_rfl) K
theorem csf2 {h : Hp} {K : Value → Prop} (b o : Nat) : q P h (Instr.fieldAt t_unicode_CaseRange (.pointer (some ⟨b, o, none⟩)) 2) K = K (.pointer (some ⟨b, o + 2, none⟩)) := q_of (by kernel_rfl) K
theorem q_neqPn {h : Hp} {K : Value → Prop} (x : Operand) (c : Value) (a : Option Addr) : q P h (eqop .neq t_Pt_unicode_CaseRange x (.const c) (.pointer a) (.pointer none)) K = K (.bool a.isSome) := q_of (by
  unfold eqop
  rw [peek_bind]
  have : peek P h (eqGuard .neq t_Pt_unicode_CaseRange x (.const c) (.pointer a) (.pointer none)) = some () := rfl
  rw [this, Option.bind_some]
  show peek P h (Sem.bind (Op.equal t_Pt_unicode_CaseRange (.pointer a) (.pointer none)) _) = _
  rw [peek_bind]
  have : peek P h (Op.equal t_Pt_unicode_CaseRange (.pointer a) (.pointer none)) = some a.isNone := by
    show peek P h (Sem.bind (underlying t_Pt_unicode_CaseRange) _) = _
    rw [peek_bind, pk_und u_Pt_unicode_CaseRange]
    cases a <;> rfl
  rw [this]
  cases a <;> rfl) K
theorem iand1 : iand .i64 1 1 = 1 := by decide
theorem andn_le {x : Nat} (hx : x < 2097152) : ∃ y : Nat, iandNot .i32 (x : Int) 1 = (y : Int) ∧ y ≤ x := by
  have h1 : (BitVec.ofInt 32 ((x : Nat) : Int)).toNat = x := bv_toNat 32 (by omega) (by omega)
  have h2 : (BitVec.ofInt 32 ((x : Nat) : Int) &&& ~~~BitVec.ofInt 32 1).toNat ≤ x := by
    rw [BitVec.toNat_and, h1]; exact Nat.and_le_left
  exact ⟨_, wi32 (x := (((BitVec.ofInt 32 ((x : Nat) : Int) &&& ~~~BitVec.ofInt 32 1).toNat : Nat) : Int)) (by omega) (by omega), h2⟩
theorem or1_le {y : Nat} (hy : y < 2097152) : ∃ z : Nat, ior .i32 (y : Int) 1 = (z : Int) ∧ z < 2097152 := by
  have h1 : (BitVec.ofInt 32 ((y : Nat) : Int)).toNat = y := bv_toNat 32 (by omega) (by omega)
  have h2 : (BitVec.ofInt 32 ((y : Nat) : Int) ||| BitVec.ofInt 32 1).toNat < 2 ^ 21 := by
    rw [BitVec.toNat_or, h1]
    exact Nat.or_lt_two_pow (by omega) (by decide)
  exact ⟨_, wi32 (x := (((BitVec.ofInt 32 ((y : Nat) : Int) ||| BitVec.ofInt 32 1).toNat : Nat) : Int)) (by omega) (by omega), by omega⟩
section
variable {h : Hp} {K : Value → Hp → Prop}
theorem T_lookupCase {b o c r : Nat} (hc : Go.Pinned.caseRows.length ≤ c) (hr : r ≤ 1114111) (C : ∀ (i : Nat) (x : cRow), Go.Pinned.caseRows[i]? = some x →
      h.cell ⟨b, o + i * 5, none⟩ = some (.int .u32 (x.1 : Int)) ∧ h.cell ⟨b, o + i * 5 + 1, none⟩ = some (.int .u32 (x.2.1 : Int)) ∧ h.cell ⟨b, o + i * 5 + 3, none⟩ = some (.int .i32 x.2.2.2.1))
    (k0 : K (.pointer none) h) (k1 : ∀ (i : Nat) (x : cRow), Go.Pinned.caseRows[i]? = some x → x.1 ≤ r → r ≤ x.2.1 → K (.pointer (some ⟨b, o + i * 5, none⟩)) h) :
    Cn P n_unicode_lookupCaseRange #[.int .i32 (r : Int), .slice (some ⟨b, o, none⟩) Go.Pinned.caseRows.length c] h K := by
  refine Cn_wk (F_unicode_lookupCaseRange ?_)
  unfold s_unicode_lookupCaseRange
  have cl := case_len
  generalize eL : Go.Pinned.caseRows.length = L at *
  simp -zeta only [RL]
  refine Lp_mk (fun m vs H => ∃ lo hi : Nat, lo + m = hi ∧ hi ≤ L ∧ H = h ∧ vs = [.pointer none, .int .i64 (hi : Int), .int .i64 (lo : Int)]) L ⟨0, L, by omega, Nat.le_refl _, rfl, rfl⟩ ?_
  rintro m vs H ⟨lo, hi, hm, hl, rfl, rfl⟩
  simp -zeta only [GL, ltN]
  by_cases g : lo < hi
  · have w1 : IntKind.i64.wrap ((lo : Int) + (hi : Int)) = ((lo + hi : Nat) : Int) := by rw [wi64 (by omega) (by omega)]; omega
    have w2 : IntKind.u64.wrap ((lo + hi : Nat) : Int) = ((lo + hi : Nat) : Int) := wu64i (by omega) (by omega)
    have w3 : (((lo + hi : Nat) : Int)).fdiv (2 ^ min (1 : Int).toNat IntKind.u64.bits) = (((lo + hi) / 2 : Nat) : Int) := by
      rw [show min (1 : Int).toNat IntKind.u64.bits = 1 from rfl]; exact fdivp _ 1
    have w4 : IntKind.i64.wrap (((lo + hi) / 2 : Nat) : Int) = (((lo + hi) / 2 : Nat) : Int) := wi64 (by omega) (by omega)
    obtain ⟨md, hmd⟩ : ∃ md, (lo + hi) / 2 = md := ⟨_, rfl⟩
    have w5 : IntKind.i64.wrap ((md : Int) + 1) = ((md + 1 : Nat) : Int) := by rw [wi64 (by omega) (by omega)]; omega
    have w6 : q P H = q P H := rfl
    simp -zeta (disch := decide) only [g, decide_true, if_true, GL, RL, w1, w2, w3, w4]
    rw [hmd, q_idxS u_Sl_unicode_CaseRange z_unicode_CaseRange _ _ _ _ _ (by omega) (by omega), Int.toNat_natCast, add_off]
    obtain ⟨x, hx⟩ : ∃ x, Go.Pinned.caseRows[md]? = some x := ⟨_, List.getElem?_eq_getElem (show md < Go.Pinned.caseRows.length by omega)⟩
    obtain ⟨c0, c1, _⟩ := C md x hx
    obtain ⟨p1, p2, _⟩ := case_at hx
    have wl : IntKind.i32.wrap (x.1 : Int) = (x.1 : Int) := wi32 (by omega) (by omega)
    have wh : IntKind.i32.wrap (x.2.1 : Int) = (x.2.1 : Int) := wi32 (by omega) (by omega)
    intro J10
    have q10 : J10 (.pointer none) H := by
      simp -zeta only [J10]
      clear J10
      simp -zeta only [GL, RL, csf0, c0, wl, ltN]
      by_cases g2 : r < x.1
      · rw [if_pos (decide_eq_true g2)]
        exact ⟨H, .refl _, md - lo, by omega, lo, md, by omega, by omega, rfl, rfl⟩
      · rw [if_neg (by simpa using g2)]
        simp -zeta only [GL, w5]
        exact ⟨H, .refl _, hi - (md + 1), by omega, md + 1, hi, by omega, by omega, rfl, rfl⟩
    clear_value J10
    simp -zeta only [GL, RL, csf0, csf1, c0, c1, wl, wh, leN]
    by_cases g2 : x.1 ≤ r
    · simp -zeta only [g2, decide_true, if_true, GL, RL, csf0, csf1, c0, c1, wl, wh, leN]
      by_cases g3 : r ≤ x.2.1
      · rw [if_pos (decide_eq_true g3)]
        exact ⟨H, .refl _, k1 md x hx g2 g3⟩
      · rw [if_neg (by simpa using g3)]
        exact q10
    · simp -zeta only [g2, decide_false, Bool.false_eq_true, if_false, GL]
      exact q10
  · rw [if_neg (by simpa using g)]
    exact ⟨H, .refl _, k0⟩
theorem T_convertCase {b o r i : Nat} {x : cRow} (hx : Go.Pinned.caseRows[i]? = some x) (h1 : x.1 ≤ r) (h2 : r ≤ x.2.1) (h3 : 128 ≤ r)
    (c0 : h.cell ⟨b, o, none⟩ = some (.int .u32 (x.1 : Int))) (c3 : h.cell ⟨b, o + 3, none⟩ = some (.int .i32 x.2.2.2.1)) (k : ∀ t : Nat, 103 ≤ t → t ≤ 4000000 → K (.int .i32 (t : Int)) h) :
    Cn P n_unicode_convertCase #[.int .i64 1, .int .i32 (r : Int), .pointer (some ⟨b, o, none⟩)] h K := by
  refine F_unicode_convertCase ?_
  unfold s_unicode_convertCase
  obtain ⟨p1, p2, p3⟩ := case_at hx
  have wl : IntKind.i32.wrap (x.1 : Int) = (x.1 : Int) := wi32 (by omega) (by omega)
  simp -zeta (disch := decide) only [GL, RL, csf2, show ((1 : Int).toNat) = 1 from rfl, c3, Nat.add_assoc, Nat.reduceAdd]
  by_cases g : (1114111 : Int) < x.2.2.2.1
  · rw [if_pos (decide_eq_true g)]
    have h256 : 256 ≤ x.1 := by omega
    have ws : IntKind.i32.wrap ((r : Int) - (x.1 : Int)) = ((r - x.1 : Nat) : Int) := by rw [wi32 (by omega) (by omega)]; omega
    obtain ⟨y, ey, hy⟩ := andn_le (x := r - x.1) (by omega)
    obtain ⟨z, ez, hz⟩ := or1_le (y := y) (by omega)
    have wz : IntKind.i32.wrap ((x.1 : Int) + (z : Int)) = ((x.1 + z : Nat) : Int) := by rw [wi32 (by omega) (by omega)]; omega
    simp -zeta only [GL, RL, csf0, c0, wl, ws, q_andNot, ey, iand1, show IntKind.i32.wrap (1 : Int) = 1 from by decide, ez, wz]
    exact k (x.1 + z) (by omega) (by omega)
  · rw [if_neg (by simpa using g)]
    have hd : -1000000 ≤ x.2.2.2.1 ∧ x.2.2.2.1 ≤ 1000000 ∧ 103 ≤ ((max x.1 128 : Nat) : Int) + x.2.2.2.1 := by omega
    have w : IntKind.i32.wrap ((r : Int) + x.2.2.2.1) = (((r : Int) + x.2.2.2.1).toNat : Int) := by rw [wi32 (by omega) (by omega)]; omega
    simp -zeta only [GL, w]
    exact k _ (by omega) (by omega)
theorem T_uTo {r : Nat} (hr : r ≤ 1114111) (h3 : 128 ≤ r) (C : Cas h) (k : ∀ t : Nat, 103 ≤ t → t ≤ 4000000 → K (.int .i32 (t : Int)) h) : Cn P n_unicode_To #[.int .i64 1, .int .i32 (r : Int)] h K := by
  refine F_unicode_To ?_
  unfold s_unicode_To
  obtain ⟨b, o, c, hc, cg, cc⟩ := C
  simp -zeta only [RL, cg, GL]
  refine F_unicode_to ?_
  unfold s_unicode_to
  intro J2
  have q2 : J2 h := by
    simp -zeta only [J2]
    clear J2
    refine T_lookupCase hc hr cc ?_ fun i x hx h1 h2 => ?_
    · simp -zeta only [q_neqPn, Option.isSome_none, GL, Bool.false_eq_true, if_false, ext0, ext1]
      exact k r (by omega) (by omega)
    · simp -zeta only [q_neqPn, Option.isSome_some, GL, if_true]
      refine T_convertCase hx h1 h2 h3 (cc i x hx).1 (cc i x hx).2.2 fun t t1 t2 => ?_
      rw [ext0, ext1]
      exact k t t1 t2
  clear_value J2
  simp -zeta only [GL, show decide ((1 : Int) < 0) = false from rfl, show decide ((3 : Int) ≤ 1) = false from rfl, Bool.false_eq_true, if_false, if_true]
  exact q2
def lowB (c : Nat) : Nat := if 65 ≤ c ∧ c ≤ 90 then c + 32 else c
theorem T_uToLower {r : Nat} (hr : r ≤ 1114111) (C : Cas h) (k : ∀ t : Nat, t ≤ 4000000 → (r < 128 → t = lowB r) → (128 ≤ r → 103 ≤ t) → K (.int .i32 (t : Int)) h) : Cn P n_unicode_ToLower #[.int .i32 (r : Int)] h K := by
  refine F_unicode_ToLower ?_
  unfold s_unicode_ToLower
  have d1 : decide ((r : Int) ≤ 127) = decide (r ≤ 127) := leN r 127
  have d2 : decide ((65 : Int) ≤ (r : Int)) = decide (65 ≤ r) := leN 65 r
  have d3 : decide ((r : Int) ≤ 90) = decide (r ≤ 90) := leN r 90
  have w : IntKind.i32.wrap ((r : Int) + 32) = ((r + 32 : Nat) : Int) := by rw [wi32 (by omega) (by omega)]; omega
  simp -zeta only [GL, d1]
  by_cases g1 : r ≤ 127
  · simp -zeta only [g1, decide_true, if_true, GL, d2]
    by_cases g2 : 65 ≤ r
    · simp -zeta only [g2, decide_true, if_true, GL, d3]
      by_cases g3 : r ≤ 90
      · simp -zeta only [g3, decide_true, if_true, GL, w]
        exact k _ (by omega) (fun _ => by unfold lowB; rw [if_pos ⟨g2, g3⟩]) (fun q => by omega)
      · simp -zeta only [g3, decide_false, Bool.false_eq_true, if_false]
        exact k _ (by omega) (fun _ => by unfold lowB; rw [if_neg (by omega)]) (fun q => by omega)
    · simp -zeta only [g2, decide_false, Bool.false_eq_true, if_false, GL]
      exact k _ (by omega) (fun _ => by unfold lowB; rw [if_neg (by omega)]) (fun q => by omega)
  · simp -zeta only [g1, decide_false, Bool.false_eq_true, if_false]
    exact T_uTo hr (by omega) C fun t t1 t2 => k t t2 (fun q => by omega) fun _ => t1
end
theorem getB {l : List Nat} (bl : Bytes l) {i : Nat} (hi : i < l.length) : ((strL l).get! i).toNat = l.getD i 0 := by
  have h1 : (strL l).data[i]? = some (UInt8.ofNat (l.getD i 0)) := by
    have := congrArg (fun l => l[i]?) (strL_data l)
    simp only [Array.getElem?_toList, List.getElem?_map] at this
    rw [this, List.getD_eq_getElem?_getD, List.getElem?_eq_getElem hi]
    rfl
  have h2 : (strL l).get! i = UInt8.ofNat (l.getD i 0) := by
    show (strL l).data[i]! = _
    rw [getElem!_def, h1]
  rw [h2]
  have := bl _ (getD_memB hi)
  simp [UInt8.toNat_ofNat]
  rw [List.getD_eq_getElem?_getD] at this
  omega
/-- How many bytes the library reckons a rune to have. -/
def rlen (r : Nat) : Int := if r < 128 then 1 else if r ≤ 2047 then 2 else if 55296 ≤ r ∧ r ≤ 57343 then -1 else if r ≤ 65535 then 3 else if r ≤ 1114111 then 4 else -1
theorem validN {c : Nat} : Utf8.valid (c : Int) = decide (c < 55296 ∨ (57344 ≤ c ∧ c ≤ 1114111)) := by
  unfold Utf8.valid
  rw [Bool.eq_iff_iff]
  simp only [Bool.or_eq_true, Bool.and_eq_true, decide_eq_true_eq]
  omega
theorem dec_spec {l : List Nat} (bl : Bytes l) {pos : Nat} (hp : pos < l.length) : ∃ c w : Nat, Utf8.decode (strL l) pos = (c, w) ∧ c ≤ 1114111 ∧ 1 ≤ w ∧ pos + w ≤ l.length ∧ (l.getD pos 0 < 128 → c = l.getD pos 0 ∧ w = 1) ∧ (128 ≤ l.getD pos 0 → 128 ≤ c) ∧ (c = 65533 ∨ rlen c = (w : Int)) := by
  have g0 := getB bl hp
  have b0 := bl _ (getD_memB hp)
  unfold Utf8.decode
  simp only [Nat.add_zero, g0, strL_size]
  by_cases g : l.getD pos 0 < 128
  · rw [if_pos g]
    exact ⟨_, _, rfl, by omega, by omega, by omega, fun _ => ⟨rfl, rfl⟩, fun q => by omega, .inr (by unfold rlen; rw [if_pos g]; rfl)⟩
  rw [if_neg g]
  have err : ∃ c w : Nat, (Utf8.runeError, 1) = (c, w) ∧ c ≤ 1114111 ∧ 1 ≤ w ∧ pos + w ≤ l.length ∧ (l.getD pos 0 < 128 → c = l.getD pos 0 ∧ w = 1) ∧ (128 ≤ l.getD pos 0 → 128 ≤ c) ∧ (c = 65533 ∨ rlen c = (w : Int)) :=
    ⟨65533, 1, rfl, by omega, by omega, by omega, fun q => absurd q g, fun _ => by omega, .inl rfl⟩
  split
  · rename_i h
    simp only [Bool.and_eq_true, decide_eq_true_eq] at h
    have g1 := getB bl h.2.1
    split
    · refine ⟨_, _, rfl, ?_, by omega, by omega, fun q => absurd q g, fun _ => by omega, .inr ?_⟩
      · omega
      · unfold rlen
        rw [if_neg (by omega), if_pos (by omega)]
        rfl
    · exact err
  · split
    · rename_i h
      simp only [Bool.and_eq_true, decide_eq_true_eq] at h
      split
      · rename_i h2
        rw [validN] at h2
        simp only [Bool.and_eq_true, decide_eq_true_eq] at h2
        refine ⟨_, _, rfl, ?_, by omega, by omega, fun q => absurd q g, fun _ => by omega, .inr ?_⟩
        · omega
        · unfold rlen
          rw [if_neg (by omega), if_neg (by omega), if_neg (by omega), if_pos (by omega)]
          rfl
      · exact err
    · split
      · rename_i h
        simp only [Bool.and_eq_true, decide_eq_true_eq] at h
        split
        · rename_i h2
          rw [validN] at h2
          simp only [Bool.and_eq_true, decide_eq_true_eq] at h2
          refine ⟨_, _, rfl, ?_, by omega, by omega, fun q => absurd q g, fun _ => by omega, .inr ?_⟩
          · omega
          · unfold rlen
            rw [if_neg (by omega), if_neg (by omega), if_neg (by omega), if_neg (by omega), if_pos (by omega)]
            rfl
        · exact err
      · exact err
section
variable {base h : Hp} {K : Value → Hp → Prop} {b : Nat} {So l : List Nat} {av : Value}
/-- An iterator over a text. -/
abbrev itO (l : List Nat) (pos : Nat) : AObj := .obj (.stringIter (strL l) pos)
theorem aw_rangeS (l : List Nat) (k : ∀ r, h r = none → K (selfB r) (h.set r (itO l 0))) : aw P (Instr.range t_string (.string (strL l))) K h := by
  refine aw_of ?_
  show awp P (Sem.bind (underlying t_string) _) K h
  rw [awp_bind, peek_awp P _ _ _ (pk_und u_string)]
  exact fun r hr => k r hr
theorem aw_nextS {l : List Nat} (bl : Bytes l) {r pos : Nat} (hr : h r = some (itO l pos)) (k0 : ¬ pos < l.length → K (.tuple #[.bool false]) h)
    (k : ∀ c w : Nat, pos < l.length → c ≤ 1114111 → 1 ≤ w → pos + w ≤ l.length → (l.getD pos 0 < 128 → c = l.getD pos 0 ∧ w = 1) → (128 ≤ l.getD pos 0 → 128 ≤ c) → (c = 65533 ∨ rlen c = (w : Int)) →
      K (.tuple #[.bool true, .int .i64 (pos : Int), .int .i32 (c : Int)]) (h.set r (itO l (pos + w)))) : aw P (Instr.next (selfB r) true 0) K h := by
  refine aw_of ?_
  show awp P (Sem.bind (getObj r) _) K h
  rw [awp_bind]
  have hg : peek P h (getObj r) = some (.stringIter (strL l) pos) := by
    unfold getObj
    simp [peek, hr]
  rw [peek_awp P _ _ _ hg]
  show awp P (if pos < (strL l).size then _ else _) K h
  rw [strL_size]
  by_cases g : pos < l.length
  · rw [if_pos g]
    obtain ⟨c, w, e, h1, h2, h3, h4, h5, h6⟩ := dec_spec bl g
    rw [e]
    show (match h r with | some (.obj _) => isCells _ = false ∧ awp P (.pure _) K _ | _ => False)
    rw [hr]
    exact ⟨rfl, k c w g h1 h2 h3 h4 h5 h6⟩
  · rw [if_neg g]
    exact k0 g
/-- A block beside is made, or changed. -/
theorem BlA.new (a : BlA base h b So l av) {r : Nat} (hr : h r = none) (o : AObj) : BlA (base.set r o) (h.set r o) b So l av := by
  obtain ⟨x, nb, nS, bS, bv, row, oo⟩ := a
  have hb : b ≠ r := by rintro rfl; rw [hr] at row; cases row
  have ho : ∀ y, y ∈ So → y ≠ r := fun y hy q => by
    subst q
    rcases oo with ⟨_, _, _, rfl⟩ | ⟨b', c, f, hb', _, _, _, rfl, _⟩
    · cases hy
    · rw [List.mem_singleton.1 hy] at hr; rw [hr] at hb'; cases hb'
  refine ⟨fun y oy e => ?_, by rw [Hp.set_ne _ _ hb]; exact nb, fun y hy => by rw [Hp.set_ne _ _ (ho y hy)]; exact nS y hy, bS, bv, by rw [Hp.set_ne _ _ hb]; exact row, oo.keep fun y hy => Hp.set_ne _ _ (ho y hy)⟩
  by_cases q : y = r
  · subst q; rw [Hp.set_same] at e ⊢; exact e
  · rw [Hp.set_ne _ _ q] at e ⊢; exact x y oy e
theorem BlA.upd (a : BlA base h b So l av) {r : Nat} {o0 : AObj} (hr : base r = some o0) (o : AObj) : BlA (base.set r o) (h.set r o) b So l av := by
  obtain ⟨x, nb, nS, bS, bv, row, oo⟩ := a
  have hb : b ≠ r := by rintro rfl; rw [nb] at hr; cases hr
  have ho : ∀ y, y ∈ So → y ≠ r := fun y hy q => by subst q; rw [nS y hy] at hr; cases hr
  refine ⟨fun y oy e => ?_, by rw [Hp.set_ne _ _ hb]; exact nb, fun y hy => by rw [Hp.set_ne _ _ (ho y hy)]; exact nS y hy, bS, bv, by rw [Hp.set_ne _ _ hb]; exact row, oo.keep fun y hy => Hp.set_ne _ _ (ho y hy)⟩
  by_cases q : y = r
  · subst q; rw [Hp.set_same] at e ⊢; exact e
  · rw [Hp.set_ne _ _ q] at e ⊢; exact x y oy e
theorem T_WriteRune (hav : av = .pointer none ∨ av = selfB b) (a : BlA base h b So l av) {r : Nat} (hr : r ≤ 4000000) (hl : l.length ≤ 1000000) (k : ∀ (n : Int) h' So', BlA base h' b So' (l ++ encR r) (selfB b) → K (.tuple #[.int .i64 n, .nilIface]) h') :
    Cn P n_strings_Builder_WriteRune #[selfB b, .int .i32 (r : Int)] h K := by
  refine F_strings_Builder_WriteRune ?_
  unfold s_strings_Builder_WriteRune
  refine T_copyCheck hav a fun h1 a1 _ => ?_
  have a1' := a1
  obtain ⟨x, nb, nS, bS, bv, row, o⟩ := a1
  have c1 : h1.cell ⟨b, 1, none⟩ = some bv := by rw [cell_row row]; rfl
  have ol := o.rds
  obtain ⟨_, av1, cv1, rfl, hcv, _⟩ := ol
  simp -zeta only [GL, RL, bdf1, c1]
  refine T_AppendRune o hr (by omega) fun v' h2 So' o' kp fr => ?_
  refine bl_put a1' o' kp fr fun h3 a3 => ?_
  have a3' := a3
  obtain ⟨x3, nb3, nS3, bS3, bv3, row3, o3⟩ := a3
  have c3 : h3.cell ⟨b, 1, none⟩ = some bv3 := by rw [cell_row row3]; rfl
  have ol3 := o3.rds
  obtain ⟨_, av3, cv3, rfl, _, _⟩ := ol3
  simp -zeta only [GL, RL, bdf1, c3]
  exact k _ _ _ a3'
theorem q_capS {K : Value → Prop} (a : Option Addr) (n c : Nat) : q P h (Builtin.cap_ #[t_Sl_uint8] t_int #[.slice a n c]) K = K (.int .i64 (c : Int)) := q_of (by
  show peek P h (Sem.bind (underlying t_Sl_uint8) _) = _
  rw [peek_bind, pk_und u_Sl_uint8]
  rfl) K
/-- What a builder has room for. -/
theorem T_bCap (a : BlA base h b So l av) (k : ∀ c : Nat, l.length ≤ c → (So = [] → c = 0) → K (.int .i64 (c : Int)) h) : Cn P n_strings_Builder_Cap #[selfB b] h K := by
  refine F_strings_Builder_Cap ?_
  unfold s_strings_Builder_Cap
  obtain ⟨x, nb, nS, bS, bv, row, o⟩ := a
  have c1 : h.cell ⟨b, 1, none⟩ = some bv := by rw [cell_row row]; rfl
  have ol := o.rds
  obtain ⟨_, av1, cv1, rfl, hcv, _⟩ := ol
  simp -zeta only [GL, RL, bdf1, c1, q_capS]
  refine k _ hcv fun hq => ?_
  rcases o with ⟨q, _⟩ | ⟨b', c, f, hb, q, _, _, z, _⟩
  · simp only [Value.slice.injEq] at q; exact q.2.2
  · rw [z] at hq; cases hq
theorem hxl_103 {x : Nat} (h : 103 ≤ x) : hxl x = none := by
  unfold hxl
  rw [if_neg (by omega), if_neg (by omega)]
theorem encR_non {r : Nat} (h : 103 ≤ r) : ∃ x ∈ encR r, hxl x = none := by
  by_cases g : r < 128
  · rw [encR_lo g]; exact ⟨r, by simp, hxl_103 h⟩
  · obtain ⟨x, hx, q⟩ := encR_hi (show 128 ≤ r by omega)
    exact ⟨x, hx, hxl_103 (by omega)⟩
theorem extB_low : extB P n_unicode_ToLower = false := by kernel_rfl
theorem T_Map2 {b : Nat} {base H : Hp} {So out s : List Nat} {J : Hp → Prop} {K : Value → Hp → Prop} {rr : Nat} (C : Cas base) (bs : Bytes s) (ls : s.length ≤ 1000) (hr : base rr = some (itO s 0)) (a : BlA base H b So out (selfB b)) (bo : Bytes out) (lo : out.length ≤ 10000)
    (hx : (∃ x ∈ out, hxl x = none) ∨ ∃ x ∈ s, 128 ≤ x) (k : ∀ t : List Nat, Bytes t → t.length ≤ 20000 → (∃ x ∈ t, hxl x = none) → K (.string (strL t)) (base.set rr (itO s s.length))) :
    Lp [] H fun nx29 vs29 h =>
      aw P (Instr.next (selfB rr) true 0) (fun t69 h => q P h (Instr.extract t69 0) fun t70 => cnd t70 (q P h (Instr.extract t69 2) fun t71 => callP P (.func (.func n_unicode_ToLower) #[] #[]) [t71] h fun t74 h => q P h (binOp .geq t_int32 t74 (Value.int .i32 0)) fun t76 => cnd t76 (q P h (binOp .lss t_int32 t74 (Value.int .i32 128)) fun t78 => cnd t78 (q P h (convert t_int32 t_uint8 t74) fun t80 => Cn P n_strings_Builder_WriteByte #[selfB b, t80] h fun t81 h => nx29 [] h) (Cn P n_strings_Builder_WriteRune #[selfB b, t74] h fun t83 h => nx29 [] h)) (nx29 [] h)) (Cn P n_strings_Builder_String #[selfB b] h fun t84 h => K t84 h)) h := by
  refine Lp_mk (fun m vs G => ∃ (pos : Nat) (out : List Nat) (So : List Nat), pos + m = s.length ∧ BlA (base.set rr (itO s pos)) G b So out (selfB b) ∧ Bytes out ∧ out.length ≤ 10000 + 4 * pos ∧ ((∃ x ∈ out, hxl x = none) ∨ ∃ x ∈ s.drop pos, 128 ≤ x) ∧ vs = []) s.length
    ⟨0, out, So, by omega, by rw [Hp.set_id hr]; exact a, bo, by omega, hx, rfl⟩ ?_
  rintro m vs G ⟨pos, out, So, hm, a, bo, lo, hx, rfl⟩
  have hG : G rr = some (itO s pos) := a.1 _ _ (Hp.set_same ..)
  refine aw_nextS bs hG (fun hn => ?_) fun c w hp hc h1 hw hlo hhi hrl => ?_
  · rw [q_ext _ 0 (.bool false) rfl, cnd_bool, if_neg (by decide)]
    have ep : pos = s.length := by omega
    rw [List.drop_of_length_le (by omega)] at hx
    refine T_bString a bo (by omega) ?_
    rw [ep]
    exact k out bo (by omega) (hx.resolve_right (by rintro ⟨x, hx, _⟩; cases hx))
  · rw [q_ext _ 0 (.bool true) rfl, cnd_bool, if_pos rfl, q_ext _ 2 (.int .i32 (c : Int)) rfl]
    have a1 := a.upd (Hp.set_same ..) (itO s (pos + w))
    rw [Hp.set_set] at a1
    have C1 : Cas (G.set rr (itO s (pos + w))) := by
      refine C.mono fun ad v e => ?_
      refine a1.1.cle ad v ?_
      unfold Hp.cell at e ⊢
      by_cases q : ad.block = rr
      · rw [q, hr] at e; split at e <;> cases e
      · rw [Hp.set_ne _ _ q]; exact e
    refine callP_cn extB_low (T_uToLower hc C1 fun t t1 t2 t3 => ?_)
    have d0 : decide ((0 : Int) ≤ (t : Int)) = true := decide_eq_true (by omega)
    have d1 : decide ((t : Int) < 128) = decide (t < 128) := ltN t 128
    simp -zeta only [GL, d0, d1, if_true]
    have rest : ∀ o2 : List Nat, (103 ≤ t → ∃ x ∈ o2, hxl x = none) → (∃ x ∈ out ++ o2, hxl x = none) ∨ ∃ x ∈ s.drop (pos + w), 128 ≤ x := fun o2 ho2 => by
      rcases hx with ⟨x, hx, q⟩ | ⟨x, hx, q⟩
      · exact .inl ⟨x, by simp [hx], q⟩
      · by_cases g : s.getD pos 0 < 128
        · obtain ⟨e1, rfl⟩ := hlo g
          rw [drop_consD hp] at hx
          rcases List.mem_cons.1 hx with rfl | hx
          · omega
          · exact .inr ⟨x, hx, q⟩
        · obtain ⟨y, hy, e⟩ := ho2 (t3 (hhi (by omega)))
          exact .inl ⟨y, by simp [hy], e⟩
    by_cases g : t < 128
    · rw [if_pos (decide_eq_true g)]
      have wt : IntKind.u8.wrap (t : Int) = (t : Int) := wu8i (by omega) (by omega)
      simp -zeta only [RL, wt]
      refine T_WriteByte (.inr rfl) a1 (by omega) fun h' So' a2 => ?_
      refine ⟨h', .refl _, m - w, by omega, pos + w, out ++ [t], So', by omega, a2, ?_, by simp; omega, rest _ fun q => ⟨t, by simp, hxl_103 q⟩, trivial⟩
      intro x hx
      rcases List.mem_append.1 hx with q | q
      · exact bo x q
      · rw [List.mem_singleton.1 q]; omega
    · rw [if_neg (by simpa using g)]
      refine T_WriteRune (.inr rfl) a1 t1 (by omega) fun n h' So' a2 => ?_
      obtain ⟨be, l1, l4⟩ := encR_b (r := t)
      refine ⟨h', .refl _, m - w, by omega, pos + w, out ++ encR t, So', by omega, a2, ?_, by simp; omega, rest _ encR_non, trivial⟩
      intro x hx
      rcases List.mem_append.1 hx with q | q
      · exact bo x q
      · exact be x q
theorem T_MapLower {l : List Nat} (F : Fst h) (A : Acc h) (C : Cas h) (bl : Bytes l) (ll : l.length ≤ 1000) (hx : ∃ x ∈ l, 128 ≤ x) {K : Value → Hp → Prop}
    (k : ∀ t : List Nat, Bytes t → t.length ≤ 20000 → (∃ x ∈ t, hxl x = none) → K (.string (strL t)) h) : Cn P n_strings_Map #[.func (.func n_unicode_ToLower) #[] #[], .string (strL l)] h K := by
  refine Cn_wk (F_strings_Map ?_)
  unfold s_strings_Map
  refine aw_newBl fun b hb a0 eb => ?_
  intro J3
  have q3a : ∀ (base H : Hp), Hp.ext h base → BlA base H b [] [] (.pointer none) → J3 (.string (strL l)) H := fun base H x a => by
    simp -zeta only [J3]
    clear J3
    refine T_bCap a fun c _ hc => ?_
    rw [hc rfl]
    simp -zeta only [GL, show ((((0 : Nat) : Int)) == 0) = true from rfl, if_true]
    obtain ⟨y, hy, q⟩ := hx
    exact ⟨h, (x.trans a.1).le, k l bl (by omega) ⟨y, hy, hxl_103 (by omega)⟩⟩
  have q3b : ∀ (base H : Hp) (So out s : List Nat), Hp.ext h base → BlA base H b So out (selfB b) → Bytes s → s.length ≤ 1000 → Bytes out → out.length ≤ 10000 → out ≠ [] → ((∃ x ∈ out, hxl x = none) ∨ ∃ x ∈ s, 128 ≤ x) → J3 (.string (strL s)) H := fun base H So out s x a bs ls bo lo ho hx => by
    simp -zeta only [J3]
    clear J3 q3a
    refine T_bCap a fun c hc _ => ?_
    have hc0 : 0 < out.length := List.length_pos_iff.2 ho
    have dc : (((c : Nat) : Int) == 0) = false := by rw [beq_eq_false_iff_ne]; omega
    simp -zeta only [GL, dc, Bool.false_eq_true, if_false]
    refine aw_rangeS s fun rr hrr => ?_
    have a1 := a.new hrr (itO s 0)
    have x1 : Hp.ext h (base.set rr (itO s 0)) := x.trans (ext_set _ (a.1.none hrr))
    refine T_Map2 (base := base.set rr (itO s 0)) (s := s) (J := fun _ => True) (C.mono x1.cle) bs ls (Hp.set_same ..) a1 bo lo hx fun t bt lt ht => ?_
    refine ⟨h, ?_, k t bt lt ht⟩
    rw [Hp.set_set]
    exact (x.trans (ext_set _ (a.1.none hrr))).le
  clear_value J3
  refine aw_rangeS l fun ri hri => ?_
  have nri : h ri = none := a0.1.none hri
  refine Lp_mk (fun m vs H => ∃ pos : Nat, pos + m = l.length ∧ BlA (h.set ri (itO l pos)) H b [] [] (.pointer none) ∧ vs = [.string (strL l)]) l.length ⟨0, by omega, a0.new hri _, rfl⟩ ?_
  rintro m vs H ⟨pos, hm, a, rfl⟩
  have hG : H ri = some (itO l pos) := a.1 _ _ (Hp.set_same ..)
  refine aw_nextS bl hG (fun hn => ?_) fun c w hp hc h1 hw hlo hhi hrl => ?_
  · rw [q_ext _ 0 (.bool false) rfl, cnd_bool, if_neg (by decide)]
    exact q3a _ H (ext_set _ nri) a
  · rw [q_ext _ 0 (.bool true) rfl, cnd_bool, if_pos rfl, q_ext _ 1 (.int .i64 (pos : Int)) rfl, q_ext _ 2 (.int .i32 (c : Int)) rfl]
    have a1 := a.upd (Hp.set_same ..) (itO l (pos + w))
    rw [Hp.set_set] at a1
    have x1 : Hp.ext h (h.set ri (itO l (pos + w))) := ext_set _ nri
    have C1 : Cas (H.set ri (itO l (pos + w))) := C.mono (x1.trans a1.1).cle
    have F1 : Fst (H.set ri (itO l (pos + w))) := F.mono (x1.trans a1.1).cle
    have A1 : Acc (H.set ri (itO l (pos + w))) := A.mono (x1.trans a1.1).cle
    generalize hH2 : H.set ri (itO l (pos + w)) = H2 at *
    refine callP_cn extB_low (T_uToLower hc C1 fun t t1 t2 t3 => ?_)
    have again : ∃ h0 : Hp, Hp.le h0 H2 ∧ ∃ m', m' < m ∧ ∃ pos : Nat, pos + m' = l.length ∧ BlA (h.set ri (itO l pos)) h0 b [] [] (.pointer none) ∧ True := ⟨H2, .refl _, m - w, by omega, pos + w, by omega, a1, trivial⟩
    intro J10
    have q10 : J10 H2 := by
      simp -zeta only [J10]
      clear J10
      intro J13
      have q13 : ∀ (x : Value) (w' : Nat), 1 ≤ w' → pos + w' ≤ l.length → (l.getD pos 0 < 128 → w' = 1) → J13 x (.int .i64 (w' : Int)) H2 := fun x w' w1 w2 w3 => by
        simp -zeta only [J13]
        clear J13
        have wa : IntKind.i64.wrap (((l.length : Nat) : Int) + 4) = ((l.length + 4 : Nat) : Int) := by rw [wi64 (by omega) (by omega)]; omega
        have wb : IntKind.i64.wrap ((pos : Int) + (w' : Int)) = ((pos + w' : Nat) : Int) := by rw [wi64 (by omega) (by omega)]; omega
        rw [List.getD_cons_zero, q_lenSt u_string]
        simp -zeta only [GL, wa]
        refine T_Grow0 (by omega) a1 fun h3 So3 a3 => ?_
        rw [q_slStH u_string l (by omega)]
        refine T_WriteString (.inr rfl) a3 (fun x hx => bl x (List.mem_of_mem_take hx)) (by simp; omega) fun h4 So4 a4 => ?_
        have d0 : decide ((0 : Int) ≤ (t : Int)) = true := decide_eq_true (by omega)
        simp -zeta only [GL, d0, if_true]
        refine T_WriteRune (.inr rfl) a4 t1 (by simp; omega) fun n h5 So5 a5 => ?_
        simp -zeta only [GL, wb]
        rw [q_slStL u_string l (by omega)]
        obtain ⟨be, l1, l4⟩ := encR_b (r := t)
        rw [List.nil_append] at a5
        refine q3b _ h5 So5 _ _ x1 a5 (fun x hx => bl x (List.mem_of_mem_drop hx)) (by simp; omega) (fun x hx => ?_) (by simp; omega) (fun q => ?_) ?_
        · rcases List.mem_append.1 hx with q | q
          · exact bl x (List.mem_of_mem_take q)
          · exact be x q
        · have := congrArg List.length q
          simp at this
          rw [this.2] at l1
          simp at l1
        · obtain ⟨y, hy, q⟩ := hx
          rw [← List.take_append_drop pos l] at hy
          rcases List.mem_append.1 hy with hy | hy
          · exact .inl ⟨y, List.mem_append_left _ hy, hxl_103 (by omega)⟩
          · by_cases g : l.getD pos 0 < 128
            · rw [drop_consD hp] at hy
              rcases List.mem_cons.1 hy with rfl | hy
              · omega
              · rw [w3 g]; exact .inr ⟨y, hy, q⟩
            · obtain ⟨z, hz, e⟩ := encR_non (t3 (hhi (by omega)))
              exact .inl ⟨z, List.mem_append_right _ hz, e⟩
      clear_value J13
      have dc : (((c : Nat) : Int) == 65533) = decide (c = 65533) := by rw [Bool.eq_iff_iff, beq_iff_eq, decide_eq_true_eq]; omega
      simp -zeta only [GL, dc]
      by_cases gc : c = 65533
      · rw [if_pos (decide_eq_true gc), q_slStL u_string l (by omega)]
        refine T_DecodeRuneS F1 A1 (fun x hx => bl x (List.mem_of_mem_drop hx)) (by simp; omega) (by simp; omega) fun x w' w1 w2 w3 => ?_
        rw [List.length_drop] at w2
        have dw : ((((w' : Nat) : Int)) != 1) = decide (w' ≠ 1) := by rw [Bool.eq_iff_iff, bne_iff_ne, decide_eq_true_eq]; omega
        rw [ext0, ext1]
        have ng : ¬ l.getD pos 0 < 128 := fun q => by have := (hlo q).1; omega
        have fin := q13 (.int .i32 x) w' w1 (by omega) fun q => absurd q ng
        simp -zeta only [GL, dw]
        by_cases g1 : w' ≠ 1
        · simp -zeta only [g1, decide_true, if_true, GL, ne_eq, not_false_eq_true]
          by_cases g2 : (((t : Nat) : Int) == x) = true
          · rw [if_pos g2]; exact again
          · rw [if_neg g2]; exact fin
        · simp -zeta only [g1, decide_false, Bool.false_eq_true, if_false, GL]
          exact fin
      · rw [if_neg (by simpa using gc)]
        have hrl := hrl.resolve_left gc
        refine T_RuneLen (by omega) fun w' _ e => ?_
        have e2 : w' = (w : Int) := by rw [e, ← hrl]; rfl
        rw [e2]
        exact q13 _ w h1 hw fun q => (hlo q).2
    clear_value J10
    have dc : (((c : Nat) : Int) != 65533) = decide (c ≠ 65533) := by rw [Bool.eq_iff_iff, bne_iff_ne, decide_eq_true_eq]; omega
    simp -zeta only [GL, dc, beqN]
    by_cases g : t = c
    · simp -zeta only [g, beq_self_eq_true, if_true, GL, dc]
      by_cases g1 : c ≠ 65533
      · simp -zeta only [g1, decide_true, if_true, ne_eq, not_false_eq_true]
        exact again
      · simp -zeta only [g1, decide_false, Bool.false_eq_true, if_false]
        exact q10
    · have : (t == c) = false := by simpa using g
      simp -zeta only [this, Bool.false_eq_true, if_false, GL]
      exact q10
theorem lowB_ascii {l : List Nat} (h : ∀ x ∈ l, ¬ (65 ≤ x ∧ x ≤ 90)) : l.map lowB = l := by
  induction l with
  | nil => rfl
  | cons a l ih =>
    have ha := h a (by simp)
    rw [List.map_cons, ih fun x hx => h x (by simp [hx])]
    unfold lowB
    rw [if_neg ha]
end
end Go.Proofs.YtolcmaipjpkidaaGreatDoor
