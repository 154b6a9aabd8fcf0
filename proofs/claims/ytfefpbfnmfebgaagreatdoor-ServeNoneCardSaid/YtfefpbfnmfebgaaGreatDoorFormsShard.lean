/- Part of a proof (its text FormsShard): what is proved stands in the text Card. -/
import Derived.Test.YtfefpbfnmfebgaaGreatDoorBase
set_option linter.all false
namespace Go.Proofs.Tryz
open Go Go.Lad
set_option autoImplicit false
set_option linter.unusedVariables false
set_option maxRecDepth 100000
/-! 194 lading/shard.short -/
def sh_shard_short (a0 : Value) (w : World) (K : Value → World → Prop) : Prop :=
 CallF pg n_octet_PutShort [a0] w fun t1 w =>
 Ext t1 0 fun t2 =>
 Ext t1 1 fun t3 =>
 K t2 w
theorem ln_shard_short {a0 : Value} {w : World} {K : Value → World → Prop} (h : sh_shard_short a0 w K) : CallF pg n_shard_short [a0] w K :=
  callF_eq (draw_sound follows) (lvOf []) (n := 11) (rs := [.tmp 2]) (c := bodyOf Tryz.f194) (S := sh_shard_short a0 w K) Tryz.func194 (by kernel_rfl) (by kernel_rfl) (by kernel_rfl) (by kernel_rfl) (by kernel_rfl) (by kernel_rfl) h
/-! 193 lading/shard.laid -/
def sh_shard_laid_j1 (k1 : List Value → World → Prop) (x0 : Value) (x1 : Value) (x2 : Value) (x8 : Value) (x9 : Value) (x10 : Value) (w : World) (K : Value → World → Prop) : Prop :=
 CallF pg n_csr_Csr_Targets [x0, x10] w fun t11 w =>
 Ext t11 0 fun t12 =>
 Ext t11 1 fun t13 =>
 CallF pg n_csr_Csr_Nodes [x0] w fun t14 w =>
 CallF pg n_gap_Put [t14, x10, t12] w fun t15 w =>
 Ext t15 0 fun t16 =>
 Ext t15 1 fun t17 =>
 CallF pg n_strings_Builder_WriteString [x9, t16] w fun t18 w =>
 Bin .add .i64 x10 (N 1) fun t19 =>
 k1 [x0, x1, x2, x8, x9, t19] w
def sh_shard_laid (a0 : Value) (a1 : Value) (a2 : Value) (w : World) (K : Value → World → Prop) : Prop :=
 New [(.pointer none), (.slice none 0 0)] ty_strings_Builder w fun t1 w =>
 New [(.pointer none), (.slice none 0 0)] ty_strings_Builder w fun t2 w =>
 LoopV [0, 1, 2, 8, 9, 10] [a0, a1, a2, t1, t2, a1] (fun k1 T1 w =>
 Bin .add .i64 (T1 1) (T1 2) fun t3 =>
 Bin .lss .i64 (T1 10) t3 fun t4 =>
 IfV t4 (
 Bin .sub .i64 (T1 10) (T1 1) fun t5 =>
 Bin .rem .i64 t5 (N 8) fun t6 =>
 Bin .eql .i64 t6 (N 0) fun t7 =>
 IfV t7 (
 CallF pg n_strings_Builder_Len [(T1 9)] w fun t8 w =>
 CallF pg n_shard_short [t8] w fun t9 w =>
 CallF pg n_strings_Builder_WriteString [(T1 8), t9] w fun t10 w =>
 sh_shard_laid_j1 k1 (T1 0) (T1 1) (T1 2) (T1 8) (T1 9) (T1 10) w K) (
 sh_shard_laid_j1 k1 (T1 0) (T1 1) (T1 2) (T1 8) (T1 9) (T1 10) w K)) (
 CallF pg n_strings_Builder_String [(T1 8)] w fun t20 w =>
 CallF pg n_strings_Builder_String [(T1 9)] w fun t21 w =>
 K (.tuple #[t20, t21]) w)) w
theorem ln_shard_laid {a0 a1 a2 : Value} {w : World} {K : Value → World → Prop} (h : sh_shard_laid a0 a1 a2 w K) : CallF pg n_shard_laid [a0, a1, a2] w K :=
  callF_eq (draw_sound follows) (lvOf [(58, [0, 1, 2, 8, 9, 10])]) (n := 49) (rs := [.tmp 6, .tmp 7]) (c := bodyOf Tryz.f193) (S := sh_shard_laid a0 a1 a2 w K) Tryz.func193 (by kernel_rfl) (by kernel_rfl) (by kernel_rfl) (by kernel_rfl) (by kernel_rfl) (by kernel_rfl) h
/-! 135 lading/shard.Put -/
def sh_shard_Put (a0 : Value) (a1 : Value) (a2 : Value) (w : World) (K : Value → World → Prop) : Prop :=
 EqNil .ptr a0 fun t1 =>
 IfV t1 (
 K (.tuple #[(Str []), (.iface ty_api_Errno (N 1))]) w) (
 Bin .lss .i64 a1 (N 0) fun t2 =>
 IfV t2 (
 K (.tuple #[(Str []), (.iface ty_api_Errno (N 2))]) w) (
 Bin .lss .i64 a2 (N 1) fun t3 =>
 IfV t3 (
 K (.tuple #[(Str []), (.iface ty_api_Errno (N 2))]) w) (
 CallF pg n_csr_Csr_Nodes [a0] w fun t4 w =>
 Bin .gtr .i64 a1 t4 fun t5 =>
 IfV t5 (
 K (.tuple #[(Str []), (.iface ty_api_Errno (N 2))]) w) (
 CallF pg n_csr_Csr_Nodes [a0] w fun t6 w =>
 Bin .sub .i64 t6 a1 fun t7 =>
 Bin .gtr .i64 a2 t7 fun t8 =>
 IfV t8 (
 K (.tuple #[(Str []), (.iface ty_api_Errno (N 2))]) w) (
 CallF pg n_shard_laid [a0, a1, a2] w fun t9 w =>
 Ext t9 0 fun t10 =>
 Ext t9 1 fun t11 =>
 CallF pg n_shard_short [a1] w fun t12 w =>
 CallF pg n_shard_short [a2] w fun t13 w =>
 BinS .add t12 t13 fun t14 =>
 BinS .add t14 t10 fun t15 =>
 BinS .add t15 t11 fun t16 =>
 K (.tuple #[t16, .nilIface]) w)))))
theorem ln_shard_Put {a0 a1 a2 : Value} {w : World} {K : Value → World → Prop} (h : sh_shard_Put a0 a1 a2 w K) : CallF pg n_shard_Put [a0, a1, a2] w K :=
  callF_eq (draw_sound follows) (lvOf []) (n := 52) (rs := [.tmp 6, .tmp 7]) (c := bodyOf Tryz.f135) (S := sh_shard_Put a0 a1 a2 w K) Tryz.func135 (by kernel_rfl) (by kernel_rfl) (by kernel_rfl) (by kernel_rfl) (by kernel_rfl) (by kernel_rfl) h
/-! 140 lading/shard.wrong -/
def sh_shard_wrong (a0 : Value) (a1 : Value) (w : World) (K : Value → World → Prop) : Prop :=
 V pg (Instr.build ty_api_Fault [(0, a0), (1, a1)].toArray) w fun t1 w =>
 K (.iface ty_api_Fault t1) w
theorem ln_shard_wrong {a0 a1 : Value} {w : World} {K : Value → World → Prop} (h : sh_shard_wrong a0 a1 w K) : CallF pg n_shard_wrong [a0, a1] w K :=
  callF_eq (draw_sound follows) (lvOf []) (n := 9) (rs := [.tmp 4]) (c := bodyOf Tryz.f140) (S := sh_shard_wrong a0 a1 w K) Tryz.func140 (by kernel_rfl) (by kernel_rfl) (by kernel_rfl) (by kernel_rfl) (by kernel_rfl) (by kernel_rfl) h
/-! 181 lading/shard.heads -/
def sh_shard_heads (a0 : Value) (a1 : Value) (w : World) (K : Value → World → Prop) : Prop :=
 New [(N 0), (N 0), (N 0)] ty_shard_head w fun t1 w =>
 Bin .lss .i64 a1 (N 0) fun t2 =>
 IfV t2 (
 V pg (Instr.build ty_shard_head [].toArray) w fun t3 w =>
 StN t1 t3 3 w fun t4 w =>
 LdN t1 3 w fun t5 _ =>
 K (.tuple #[t5, (.iface ty_api_Errno (N 1))]) w) (
 Bin .gtr .i64 a1 (N 4096) fun t6 =>
 IfV t6 (
 V pg (Instr.build ty_shard_head [].toArray) w fun t7 w =>
 StN t1 t7 3 w fun t8 w =>
 LdN t1 3 w fun t9 _ =>
 K (.tuple #[t9, (.iface ty_api_Errno (N 1))]) w) (
 CallF pg n_octet_Short [a0, (N 0)] w fun t10 w =>
 Ext t10 0 fun t11 =>
 Ext t10 1 fun t12 =>
 Ext t10 2 fun t13 =>
 NeNil .iface t13 fun t14 =>
 IfV t14 (
 V pg (Instr.build ty_shard_head [].toArray) w fun t15 w =>
 StN t1 t15 3 w fun t16 w =>
 LdN t1 3 w fun t17 _ =>
 K (.tuple #[t17, t13]) w) (
 CallF pg n_octet_Short [a0, t12] w fun t18 w =>
 Ext t18 0 fun t19 =>
 Ext t18 1 fun t20 =>
 Ext t18 2 fun t21 =>
 NeNil .iface t21 fun t22 =>
 IfV t22 (
 V pg (Instr.build ty_shard_head [].toArray) w fun t23 w =>
 StN t1 t23 3 w fun t24 w =>
 LdN t1 3 w fun t25 _ =>
 K (.tuple #[t25, t21]) w) (
 Bin .lss .i64 t19 (N 1) fun t26 =>
 IfV t26 (
 V pg (Instr.build ty_shard_head [].toArray) w fun t27 w =>
 CallF pg n_shard_wrong [t12, (.iface ty_api_Errno (N 4))] w fun t28 w =>
 StN t1 t27 3 w fun t29 w =>
 LdN t1 3 w fun t30 _ =>
 K (.tuple #[t30, t28]) w) (
 Bin .gtr .i64 t11 a1 fun t31 =>
 IfV t31 (
 V pg (Instr.build ty_shard_head [].toArray) w fun t32 w =>
 CallF pg n_shard_wrong [t12, (.iface ty_api_Errno (N 4))] w fun t33 w =>
 StN t1 t32 3 w fun t34 w =>
 LdN t1 3 w fun t35 _ =>
 K (.tuple #[t35, t33]) w) (
 Bin .sub .i64 a1 t11 fun t36 =>
 Bin .gtr .i64 t19 t36 fun t37 =>
 IfV t37 (
 V pg (Instr.build ty_shard_head [].toArray) w fun t38 w =>
 CallF pg n_shard_wrong [t12, (.iface ty_api_Errno (N 4))] w fun t39 w =>
 StN t1 t38 3 w fun t40 w =>
 LdN t1 3 w fun t41 _ =>
 K (.tuple #[t41, t39]) w) (
 V pg (Instr.build ty_shard_head [(0, t11), (1, t19), (2, t20)].toArray) w fun t42 w =>
 StN t1 t42 3 w fun t43 w =>
 LdN t1 3 w fun t44 _ =>
 K (.tuple #[t44, .nilIface]) w)))))))
theorem ln_shard_heads {a0 a1 : Value} {w : World} {K : Value → World → Prop} (h : sh_shard_heads a0 a1 w K) : CallF pg n_shard_heads [a0, a1] w K :=
  callF_eq (draw_sound follows) (lvOf []) (n := 64) (rs := [.cell 4 289, .tmp 5]) (c := bodyOf Tryz.f181) (S := sh_shard_heads a0 a1 w K) Tryz.func181 (by kernel_rfl) (by kernel_rfl) (by kernel_rfl) (by kernel_rfl) (by kernel_rfl) (by kernel_rfl) h
/-! 199 (lading/shard.head).marks -/
def sh_shard_head_marks (a0 : Value) (w : World) (K : Value → World → Prop) : Prop :=
 New (Value.cells a0).toList ty_shard_head w fun t1 w =>
 FA t1 1 fun t2 =>
 Ld t2 w fun t3 w =>
 Bin .add .i64 t3 (N 8) fun t4 =>
 Bin .sub .i64 t4 (N 1) fun t5 =>
 Bin .quo .i64 t5 (N 8) fun t6 =>
 K t6 w
theorem ln_shard_head_marks {a0 : Value} {w : World} {K : Value → World → Prop} (h : sh_shard_head_marks a0 w K) : CallF pg n_shard_head_marks [a0] w K :=
  callF_eq (draw_sound follows) (lvOf []) (n := 8) (rs := [.tmp 2]) (c := bodyOf Tryz.f199) (S := sh_shard_head_marks a0 w K) Tryz.func199 (by kernel_rfl) (by kernel_rfl) (by kernel_rfl) (by kernel_rfl) (by kernel_rfl) (by kernel_rfl) h
/-! 198 (lading/shard.head).index -/
def sh_shard_head_index (a0 : Value) (a1 : Value) (a2 : Value) (w : World) (K : Value → World → Prop) : Prop :=
 New (Value.cells a0).toList ty_shard_head w fun t1 w =>
 FA t1 2 fun t2 =>
 Ld t2 w fun t3 w =>
 LoopV [1, 10, 11, 12, 18, 19] [a1, (.slice none 0 0), (.slice none 0 0), t3, a2, (N 0)] (fun k1 T1 w =>
 Bin .lss .i64 (T1 19) (T1 18) fun t4 =>
 IfV t4 (
 CallF pg n_octet_Short [(T1 1), (T1 12)] w fun t5 w =>
 Ext t5 0 fun t6 =>
 Ext t5 1 fun t7 =>
 Ext t5 2 fun t8 =>
 NeNil .iface t8 fun t9 =>
 IfV t9 (
 K (.tuple #[(.slice none 0 0), (.slice none 0 0), (N 0), t8]) w) (
 V pg (Instr.buildSlice ty_s_int 1 [(0, t6)].toArray) w fun t10 w =>
 V pg (Builtin.append_ #[ty_s_int, ty_s_int] ty_s_int [(T1 10), t10].toArray) w fun t11 w =>
 V pg (Instr.buildSlice ty_s_int 1 [(0, (T1 12))].toArray) w fun t12 w =>
 V pg (Builtin.append_ #[ty_s_int, ty_s_int] ty_s_int [(T1 11), t12].toArray) w fun t13 w =>
 Bin .add .i64 (T1 19) (N 1) fun t14 =>
 k1 [(T1 1), t11, t13, t7, (T1 18), t14] w)) (
 K (.tuple #[(T1 10), (T1 11), (T1 12), .nilIface]) w)) w
theorem ln_shard_head_index {a0 a1 a2 : Value} {w : World} {K : Value → World → Prop} (h : sh_shard_head_index a0 a1 a2 w K) : CallF pg n_shard_head_index [a0, a1, a2] w K :=
  callF_eq (draw_sound follows) (lvOf [(122, [1, 10, 11, 12, 18, 19])]) (n := 44) (rs := [.tmp 6, .tmp 7, .tmp 8, .tmp 9]) (c := bodyOf Tryz.f198) (S := sh_shard_head_index a0 a1 a2 w K) Tryz.func198 (by kernel_rfl) (by kernel_rfl) (by kernel_rfl) (by kernel_rfl) (by kernel_rfl) (by kernel_rfl) h
/-! 139 lading/shard.Get -/
def sh_shard_Get (a0 : Value) (a1 : Value) (w : World) (K : Value → World → Prop) : Prop :=
 New [(N 0), (.slice none 0 0)] ty_shard_Shard w fun t1 w =>
 CallF pg n_shard_heads [a0, a1] w fun t2 w =>
 Ext t2 0 fun t3 =>
 Ext t2 1 fun t4 =>
 New [(N 0), (N 0), (N 0)] ty_shard_head w fun t5 w =>
 StN t5 t3 3 w fun t6 w =>
 NeNil .iface t4 fun t7 =>
 IfV t7 (
 V pg (Instr.build ty_shard_Shard [].toArray) w fun t8 w =>
 StN t1 t8 2 w fun t9 w =>
 LdN t1 2 w fun t10 _ =>
 K (.tuple #[t10, t4]) w) (
 Drew w fun w =>
 LdN t5 3 w fun t11 w1 =>
(w1 = w) ∧ (
 LdN t5 3 w fun t12 w1 =>
(w1 = w) ∧ (
 CallF pg n_shard_head_marks [t12] w fun t13 w =>
((LdN t5 3 w fun t78 w1 => w1 = w ∧ t78 = t11) ∧ True) ∧ (
 CallF pg n_shard_head_index [t11, a0, t13] w fun t14 w =>
(True) ∧ (
 Ext t14 0 fun t15 =>
 Ext t14 1 fun t16 =>
 Ext t14 2 fun t17 =>
 Ext t14 3 fun t18 =>
 NeNil .iface t18 fun t19 =>
 IfV t19 (
 V pg (Instr.build ty_shard_Shard [].toArray) w fun t20 w =>
 StN t1 t20 2 w fun t21 w =>
 LdN t1 2 w fun t22 _ =>
 K (.tuple #[t22, t18]) w) (
 FA t5 0 fun t23 =>
 Ld t23 w fun t24 w =>
 V pg (Instr.build ty_shard_Shard [(0, t24)].toArray) w fun t25 w =>
 New [(N 0), (.slice none 0 0)] ty_shard_Shard w fun t26 w =>
 StN t26 t25 2 w fun t27 w =>
 FA t5 0 fun t28 =>
 Ld t28 w fun t29 w =>
 LoopV [0, 1, 4, 6, 8, 9, 10, 11, 12, 13, 14] [a0, a1, t1, t5, t15, t16, t17, t26, t17, (.slice none 0 0), t29] (fun k1 T1 w =>
 FA (T1 6) 0 fun t30 =>
 Ld t30 w fun t31 w =>
 FA (T1 6) 1 fun t32 =>
 Ld t32 w fun t33 w =>
 Bin .add .i64 t31 t33 fun t34 =>
 Bin .lss .i64 (T1 14) t34 fun t35 =>
 IfV t35 (
 Bin .sub .i64 (T1 12) (T1 10) fun t36 =>
 V pg (Instr.buildSlice ty_s_int 1 [(0, t36)].toArray) w fun t37 w =>
 V pg (Builtin.append_ #[ty_s_int, ty_s_int] ty_s_int [(T1 13), t37].toArray) w fun t38 w =>
 CallF pg n_gap_Get [(T1 0), (T1 12), (T1 1), (T1 14)] w fun t39 w =>
 Ext t39 0 fun t40 =>
 Ext t39 1 fun t41 =>
 Ext t39 2 fun t42 =>
 NeNil .iface t42 fun t43 =>
 IfV t43 (
 V pg (Instr.build ty_shard_Shard [].toArray) w fun t44 w =>
 StN (T1 4) t44 2 w fun t45 w =>
 LdN (T1 4) 2 w fun t46 _ =>
 K (.tuple #[t46, t42]) w) (
 FA (T1 11) 1 fun t47 =>
 Ld t47 w fun t48 w =>
 V pg (Instr.buildSlice ty_s_s_int 1 [(0, t40)].toArray) w fun t49 w =>
 V pg (Builtin.append_ #[ty_s_s_int, ty_s_s_int] ty_s_s_int [t48, t49].toArray) w fun t50 w =>
 FA (T1 11) 1 fun t51 =>
 St t51 t50 w fun t52 w =>
 Bin .add .i64 (T1 14) (N 1) fun t53 =>
 k1 [(T1 0), (T1 1), (T1 4), (T1 6), (T1 8), (T1 9), (T1 10), (T1 11), t41, t38, t53] w)) (
 LenL (T1 8) fun t54 =>
 LoopV [0, 4, 9, 11, 12, 13, 85, 86, 87] [(T1 0), (T1 4), (T1 9), (T1 11), (T1 12), (T1 13), (T1 8), t54, (N 0)] (fun k2 T2 w =>
 Bin .lss .i64 (T2 87) (T2 86) fun t55 =>
 IfV t55 (
 IxS (T2 85) (T2 87) 1 fun t56 =>
 Ld t56 w fun t57 w =>
 Bin .mul .i64 (T2 87) (N 8) fun t58 =>
 IxS (T2 13) t58 1 fun t59 =>
 Ld t59 w fun t60 w =>
 Bin .neq .i64 t57 t60 fun t61 =>
 IfV t61 (
 V pg (Instr.build ty_shard_Shard [].toArray) w fun t62 w =>
 IxS (T2 9) (T2 87) 1 fun t63 =>
 Ld t63 w fun t64 w =>
 CallF pg n_shard_wrong [t64, (.iface ty_api_Errno (N 4))] w fun t65 w =>
 StN (T2 4) t62 2 w fun t66 w =>
 LdN (T2 4) 2 w fun t67 _ =>
 K (.tuple #[t67, t65]) w) (
 Bin .add .i64 (T2 87) (N 1) fun t68 =>
 k2 [(T2 0), (T2 4), (T2 9), (T2 11), (T2 12), (T2 13), (T2 85), (T2 86), t68] w)) (
 LenS (T2 0) fun t69 =>
 Bin .lss .i64 (T2 12) t69 fun t70 =>
 IfV t70 (
 V pg (Instr.build ty_shard_Shard [].toArray) w fun t71 w =>
 CallF pg n_shard_wrong [(T2 12), (.iface ty_api_Errno (N 4))] w fun t72 w =>
 StN (T2 4) t71 2 w fun t73 w =>
 LdN (T2 4) 2 w fun t74 _ =>
 K (.tuple #[t74, t72]) w) (
 LdN (T2 11) 2 w fun t75 w =>
 StN (T2 4) t75 2 w fun t76 w =>
 LdN (T2 4) 2 w fun t77 _ =>
 K (.tuple #[t77, .nilIface]) w))) w)) w))))))
theorem ln_shard_Get {a0 a1 : Value} {w : World} {K : Value → World → Prop} (h : sh_shard_Get a0 a1 w K) : CallF pg n_shard_Get [a0, a1] w K :=
  callF_eq (draw_sound follows) (lvOf [(4090, [0, 1, 4, 6, 8, 9, 10, 11, 12, 13, 14]), (8186, [0, 4, 9, 11, 12, 13, 85, 86, 87])]) (n := 116) (rs := [.cell 4 244, .tmp 5]) (c := bodyOf Tryz.f139) (S := sh_shard_Get a0 a1 w K) Tryz.func139 (by kernel_rfl) (by kernel_rfl) (by kernel_rfl) (by kernel_rfl) (by kernel_rfl) (by kernel_rfl) h
/-! 93 lading/shard.Split -/
def sh_shard_Split_j2 (x0 : Value) (x1 : Value) (w : World) (K : Value → World → Prop) : Prop :=
 LoopV [0, 1, 6, 7] [x0, x1, (.slice none 0 0), (N 0)] (fun k1 T1 w =>
 CallF pg n_csr_Csr_Nodes [(T1 0)] w fun t8 w =>
 Bin .lss .i64 (T1 7) t8 fun t9 =>
 IfV t9 (
 CallF pg n_csr_Csr_Nodes [(T1 0)] w fun t10 w =>
 Bin .sub .i64 t10 (T1 7) fun t11 =>
 V pg (Builtin.min_ #[3, 3] 3 [(T1 1), t11].toArray) w fun t12 w =>
 CallF pg n_shard_Put [(T1 0), (T1 7), t12] w fun t13 w =>
 Ext t13 0 fun t14 =>
 Ext t13 1 fun t15 =>
 NeNil .iface t15 fun t16 =>
 IfV t16 (
 K (.tuple #[(.slice none 0 0), t15]) w) (
 V pg (Instr.buildSlice ty_s_string 1 [(0, t14)].toArray) w fun t17 w =>
 V pg (Builtin.append_ #[ty_s_string, ty_s_string] ty_s_string [(T1 6), t17].toArray) w fun t18 w =>
 V pg (Builtin.min_ #[3, 3] 3 [(T1 1), (N 4096)].toArray) w fun t19 w =>
 Bin .add .i64 (T1 7) t19 fun t20 =>
 k1 [(T1 0), (T1 1), t18, t20] w)) (
 K (.tuple #[(T1 6), .nilIface]) w)) w
def sh_shard_Split_j1 (x0 : Value) (x1 : Value) (x10 : Value) (w : World) (K : Value → World → Prop) : Prop :=
 IfV x10 (
 K (.tuple #[(.slice none 0 0), (.iface ty_api_Errno (N 1))]) w) (
 Bin .lss .i64 x1 (N 4096) fun t2 =>
 IfV t2 (
 CallF pg n_csr_Csr_Nodes [x0] w fun t3 w =>
 Bin .add .i64 t3 x1 fun t4 =>
 Bin .sub .i64 t4 (N 1) fun t5 =>
 Bin .quo .i64 t5 x1 fun t6 =>
 Bin .gtr .i64 t6 (N 64) fun t7 =>
 IfV t7 (
 K (.tuple #[(.slice none 0 0), (.iface ty_api_Errno (N 6))]) w) (
 sh_shard_Split_j2 x0 x1 w K)) (
 sh_shard_Split_j2 x0 x1 w K))
def sh_shard_Split (a0 : Value) (a1 : Value) (w : World) (K : Value → World → Prop) : Prop :=
 EqNil .ptr a0 fun t1 =>
 IfV t1 (
 sh_shard_Split_j1 a0 a1 (.bool true) w K) (
 Bin .lss .i64 a1 (N 1) fun t21 =>
 sh_shard_Split_j1 a0 a1 t21 w K)
theorem ln_shard_Split {a0 a1 : Value} {w : World} {K : Value → World → Prop} (h : sh_shard_Split a0 a1 w K) : CallF pg n_shard_Split [a0, a1] w K :=
  callF_eq (draw_sound follows) (lvOf [(122, [0, 1, 6, 7])]) (n := 60) (rs := [.tmp 4, .tmp 5]) (c := bodyOf Tryz.f93) (S := sh_shard_Split a0 a1 w K) Tryz.func93 (by kernel_rfl) (by kernel_rfl) (by kernel_rfl) (by kernel_rfl) (by kernel_rfl) (by kernel_rfl) h
/-! 95 lading/shard.Table -/
def sh_shard_Table (a0 : Value) (a1 : Value) (w : World) (K : Value → World → Prop) : Prop :=
 LenL a1 fun t1 =>
 LoopV [0, 6, 11, 12, 13] [a0, (.slice none 0 0), a1, t1, (N 0)] (fun k1 T1 w =>
 Bin .lss .i64 (T1 13) (T1 12) fun t2 =>
 IfV t2 (
 IxS (T1 11) (T1 13) 1 fun t3 =>
 Ld t3 w fun t4 w =>
 CallF pg n_shard_Get [t4, (T1 0)] w fun t5 w =>
 Ext t5 0 fun t6 =>
 Ext t5 1 fun t7 =>
 New [(N 0), (.slice none 0 0)] ty_shard_Shard w fun t8 w =>
 StN t8 t6 2 w fun t9 w =>
 NeNil .iface t7 fun t10 =>
 IfV t10 (
 CallF pg n_shard_wrong [(T1 13), t7] w fun t11 w =>
 K (.tuple #[(.slice none 0 0), t11]) w) (
 FA t8 0 fun t12 =>
 Ld t12 w fun t13 w =>
 LenS t4 fun t14 =>
 V pg (Instr.build ty_api_Shard [(0, t13), (1, t14)].toArray) w fun t15 w =>
 V pg (Instr.buildSlice ty_s_api_Shard 1 [(0, t15)].toArray) w fun t16 w =>
 V pg (Builtin.append_ #[ty_s_api_Shard, ty_s_api_Shard] ty_s_api_Shard [(T1 6), t16].toArray) w fun t17 w =>
 Bin .add .i64 (T1 13) (N 1) fun t18 =>
 k1 [(T1 0), t17, (T1 11), (T1 12), t18] w)) (
 K (.tuple #[(T1 6), .nilIface]) w)) w
theorem ln_shard_Table {a0 a1 : Value} {w : World} {K : Value → World → Prop} (h : sh_shard_Table a0 a1 w K) : CallF pg n_shard_Table [a0, a1] w K :=
  callF_eq (draw_sound follows) (lvOf [(58, [0, 6, 11, 12, 13])]) (n := 39) (rs := [.tmp 4, .tmp 5]) (c := bodyOf Tryz.f95) (S := sh_shard_Table a0 a1 w K) Tryz.func95 (by kernel_rfl) (by kernel_rfl) (by kernel_rfl) (by kernel_rfl) (by kernel_rfl) (by kernel_rfl) h
/-! 219 (lading/shard.head).behind -/
def sh_shard_head_behind (a0 : Value) (a1 : Value) (w : World) (K : Value → World → Prop) : Prop :=
 New (Value.cells a0).toList ty_shard_head w fun t1 w =>
 FA t1 2 fun t2 =>
 Ld t2 w fun t3 w =>
 LdN t1 3 w fun t4 w =>
 CallF pg n_shard_head_marks [t4] w fun t5 w =>
 LoopV [1, 6, 13, 14] [a1, t3, t5, (N 0)] (fun k1 T1 w =>
 Bin .lss .i64 (T1 14) (T1 13) fun t6 =>
 IfV t6 (
 CallF pg n_octet_Short [(T1 1), (T1 6)] w fun t7 w =>
 Ext t7 0 fun t8 =>
 Ext t7 1 fun t9 =>
 Ext t7 2 fun t10 =>
 NeNil .iface t10 fun t11 =>
 IfV t11 (
 K (.tuple #[(N 0), t10]) w) (
 Bin .add .i64 (T1 14) (N 1) fun t12 =>
 k1 [(T1 1), t9, (T1 13), t12] w)) (
 K (.tuple #[(T1 6), .nilIface]) w)) w
theorem ln_shard_head_behind {a0 a1 : Value} {w : World} {K : Value → World → Prop} (h : sh_shard_head_behind a0 a1 w K) : CallF pg n_shard_head_behind [a0, a1] w K :=
  callF_eq (draw_sound follows) (lvOf [(58, [1, 6, 13, 14])]) (n := 29) (rs := [.tmp 4, .tmp 5]) (c := bodyOf Tryz.f219) (S := sh_shard_head_behind a0 a1 w K) Tryz.func219 (by kernel_rfl) (by kernel_rfl) (by kernel_rfl) (by kernel_rfl) (by kernel_rfl) (by kernel_rfl) h
/-! 182 (lading/shard.head).place -/
def sh_shard_head_place (a0 : Value) (a1 : Value) (a2 : Value) (a3 : Value) (w : World) (K : Value → World → Prop) : Prop :=
 New (Value.cells a0).toList ty_shard_head w fun t1 w =>
 FA t1 0 fun t2 =>
 Ld t2 w fun t3 w =>
 Bin .sub .i64 a3 t3 fun t4 =>
 Bin .quo .i64 t4 (N 8) fun t5 =>
 LdN t1 3 w fun t6 w =>
 Bin .add .i64 t5 (N 1) fun t7 =>
 CallF pg n_shard_head_index [t6, a1, t7] w fun t8 w =>
 Ext t8 0 fun t9 =>
 Ext t8 1 fun t10 =>
 Ext t8 2 fun t11 =>
 Ext t8 3 fun t12 =>
 NeNil .iface t12 fun t13 =>
 IfV t13 (
 K (.tuple #[(N 0), t12]) w) (
 LdN t1 3 w fun t14 w =>
 CallF pg n_shard_head_behind [t14, a1] w fun t15 w =>
 Ext t15 0 fun t16 =>
 Ext t15 1 fun t17 =>
 NeNil .iface t17 fun t18 =>
 IfV t18 (
 K (.tuple #[(N 0), t17]) w) (
 IxS t9 t5 1 fun t19 =>
 Ld t19 w fun t20 w =>
 LenS a1 fun t21 =>
 Bin .sub .i64 t21 t16 fun t22 =>
 Bin .gtr .i64 t20 t22 fun t23 =>
 IfV t23 (
 IxS t10 t5 1 fun t24 =>
 Ld t24 w fun t25 w =>
 CallF pg n_shard_wrong [t25, (.iface ty_api_Errno (N 4))] w fun t26 w =>
 K (.tuple #[(N 0), t26]) w) (
 IxS t9 t5 1 fun t27 =>
 Ld t27 w fun t28 w =>
 Bin .add .i64 t16 t28 fun t29 =>
 FA t1 0 fun t30 =>
 Ld t30 w fun t31 w =>
 Bin .sub .i64 a3 t31 fun t32 =>
 Bin .rem .i64 t32 (N 8) fun t33 =>
 LoopV [1, 2, 16, 71, 72] [a1, a2, t29, t33, (N 0)] (fun k1 T1 w =>
 Bin .lss .i64 (T1 72) (T1 71) fun t34 =>
 IfV t34 (
 CallF pg n_gap_Skip [(T1 1), (T1 16), (T1 2)] w fun t35 w =>
 Ext t35 0 fun t36 =>
 Ext t35 1 fun t37 =>
 NeNil .iface t37 fun t38 =>
 IfV t38 (
 K (.tuple #[(N 0), t37]) w) (
 Bin .add .i64 (T1 72) (N 1) fun t39 =>
 k1 [(T1 1), (T1 2), t36, (T1 71), t39] w)) (
 K (.tuple #[(T1 16), .nilIface]) w)) w)))
theorem ln_shard_head_place {a0 a1 a2 a3 : Value} {w : World} {K : Value → World → Prop} (h : sh_shard_head_place a0 a1 a2 a3 w K) : CallF pg n_shard_head_place [a0, a1, a2, a3] w K :=
  callF_eq (draw_sound follows) (lvOf [(2042, [1, 2, 16, 71, 72])]) (n := 86) (rs := [.tmp 8, .tmp 9]) (c := bodyOf Tryz.f182) (S := sh_shard_head_place a0 a1 a2 a3 w K) Tryz.func182 (by kernel_rfl) (by kernel_rfl) (by kernel_rfl) (by kernel_rfl) (by kernel_rfl) (by kernel_rfl) h
/-! 126 lading/shard.sought -/
def sh_shard_sought (a0 : Value) (a1 : Value) (a2 : Value) (w : World) (K : Value → World → Prop) : Prop :=
 CallF pg n_shard_heads [a0, a1] w fun t1 w =>
 Ext t1 0 fun t2 =>
 Ext t1 1 fun t3 =>
 New [(N 0), (N 0), (N 0)] ty_shard_head w fun t4 w =>
 StN t4 t2 3 w fun t5 w =>
 NeNil .iface t3 fun t6 =>
 IfV t6 (
 K (.tuple #[(N 0), t3]) w) (
 FA t4 0 fun t7 =>
 Ld t7 w fun t8 w =>
 Bin .lss .i64 a2 t8 fun t9 =>
 IfV t9 (
 K (.tuple #[(N 0), (.iface ty_api_Errno (N 2))]) w) (
 FA t4 0 fun t10 =>
 Ld t10 w fun t11 w =>
 FA t4 1 fun t12 =>
 Ld t12 w fun t13 w =>
 Bin .add .i64 t11 t13 fun t14 =>
 Bin .geq .i64 a2 t14 fun t15 =>
 IfV t15 (
 K (.tuple #[(N 0), (.iface ty_api_Errno (N 2))]) w) (
 LdN t4 3 w fun t16 w =>
 CallF pg n_shard_head_place [t16, a0, a1, a2] w fun t17 w =>
 Ext t17 0 fun t18 =>
 Ext t17 1 fun t19 =>
 K (.tuple #[t18, t19]) w)))
theorem ln_shard_sought {a0 a1 a2 : Value} {w : World} {K : Value → World → Prop} (h : sh_shard_sought a0 a1 a2 w K) : CallF pg n_shard_sought [a0, a1, a2] w K :=
  callF_eq (draw_sound follows) (lvOf []) (n := 42) (rs := [.tmp 6, .tmp 7]) (c := bodyOf Tryz.f126) (S := sh_shard_sought a0 a1 a2 w K) Tryz.func126 (by kernel_rfl) (by kernel_rfl) (by kernel_rfl) (by kernel_rfl) (by kernel_rfl) (by kernel_rfl) h
/-! 83 lading/shard.Find -/
def sh_shard_Find (a0 : Value) (a1 : Value) (a2 : Value) (w : World) (K : Value → World → Prop) : Prop :=
 CallF pg n_shard_sought [a0, a1, a2] w fun t1 w =>
 Ext t1 0 fun t2 =>
 Ext t1 1 fun t3 =>
 NeNil .iface t3 fun t4 =>
 IfV t4 (
 K (.tuple #[(.slice none 0 0), t3]) w) (
 CallF pg n_gap_Get [a0, t2, a1, a2] w fun t5 w =>
 Ext t5 0 fun t6 =>
 Ext t5 1 fun t7 =>
 Ext t5 2 fun t8 =>
 K (.tuple #[t6, t8]) w)
theorem ln_shard_Find {a0 a1 a2 : Value} {w : World} {K : Value → World → Prop} (h : sh_shard_Find a0 a1 a2 w K) : CallF pg n_shard_Find [a0, a1, a2] w K :=
  callF_eq (draw_sound follows) (lvOf []) (n := 33) (rs := [.tmp 6, .tmp 7]) (c := bodyOf Tryz.f83) (S := sh_shard_Find a0 a1 a2 w K) Tryz.func83 (by kernel_rfl) (by kernel_rfl) (by kernel_rfl) (by kernel_rfl) (by kernel_rfl) (by kernel_rfl) h
/-! 85 lading/shard.Degree -/
def sh_shard_Degree (a0 : Value) (a1 : Value) (a2 : Value) (w : World) (K : Value → World → Prop) : Prop :=
 CallF pg n_shard_sought [a0, a1, a2] w fun t1 w =>
 Ext t1 0 fun t2 =>
 Ext t1 1 fun t3 =>
 NeNil .iface t3 fun t4 =>
 IfV t4 (
 K (.tuple #[(N 0), t3]) w) (
 CallF pg n_gap_Count [a0, t2, a1] w fun t5 w =>
 Ext t5 0 fun t6 =>
 Ext t5 1 fun t7 =>
 K (.tuple #[t6, t7]) w)
theorem ln_shard_Degree {a0 a1 a2 : Value} {w : World} {K : Value → World → Prop} (h : sh_shard_Degree a0 a1 a2 w K) : CallF pg n_shard_Degree [a0, a1, a2] w K :=
  callF_eq (draw_sound follows) (lvOf []) (n := 26) (rs := [.tmp 6, .tmp 7]) (c := bodyOf Tryz.f85) (S := sh_shard_Degree a0 a1 a2 w K) Tryz.func85 (by kernel_rfl) (by kernel_rfl) (by kernel_rfl) (by kernel_rfl) (by kernel_rfl) (by kernel_rfl) h
end Go.Proofs.Tryz

