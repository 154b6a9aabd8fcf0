/- Part of a proof (its text FormsSha): what is proved stands in the text Card. -/
import Derived.Test.YtfefpbfnmfebgaaGreatDoorBase
set_option linter.all false
namespace Go.Proofs.Tryz
open Go Go.Lad
set_option autoImplicit false
set_option linter.unusedVariables false
set_option maxRecDepth 100000
/-! 119 lading/sha.Sum -/
def sh_sha_Sum (a0 : Value) (w : World) (K : Value → World → Prop) : Prop :=
 CallF pg n_sha_New [] w fun t1 w =>
 CallF pg n_sha_State_Write [t1, a0] w fun t2 w =>
 CallF pg n_sha_State_Sum [t1] w fun t3 w =>
 K t3 w
theorem ln_sha_Sum {a0 : Value} {w : World} {K : Value → World → Prop} (h : sh_sha_Sum a0 w K) : CallF pg n_sha_Sum [a0] w K :=
  callF_eq (draw_sound follows) (lvOf []) (n := 10) (rs := [.tmp 2]) (c := bodyOf Tryz.f119) (S := sh_sha_Sum a0 w K) Tryz.func119 (by kernel_rfl) (by kernel_rfl) (by kernel_rfl) (by kernel_rfl) (by kernel_rfl) (by kernel_rfl) h
/-! 173 lading/sha.New -/
def sh_sha_New (w : World) (K : Value → World → Prop) : Prop :=
 V pg (Instr.build ty_sha_chain [(0, (W 1779033703)), (1, (W 3144134277)), (2, (W 1013904242)), (3, (W 2773480762)), (4, (W 1359893119)), (5, (W 2600822924)), (6, (W 528734635)), (7, (W 1541459225))].toArray) w fun t1 w =>
 CallF pg n_sha_k [] w fun t2 w =>
 V pg (Instr.build ty_sha_State [(0, t1), (1, t2)].toArray) w fun t3 w =>
 New (Value.cells t3).toList ty_sha_State w fun t4 w =>
 K t4 w
theorem ln_sha_New {u : Value} {w : World} {K : Value → World → Prop} (h : sh_sha_New  w K) : CallF pg n_sha_New [] w K :=
  callF_eq (draw_sound follows) (lvOf []) (n := 5) (rs := [.tmp 0]) (c := bodyOf Tryz.f173) (S := sh_sha_New  w K) Tryz.func173 (by kernel_rfl) (by kernel_rfl) (by kernel_rfl) (by kernel_rfl) (by kernel_rfl) (by kernel_rfl) h
/-! 174 (*lading/sha.State).Write -/
def sh_sha_State_Write_j1 (k1 : List Value → World → Prop) (x0 : Value) (x6 : Value) (x7 : Value) (x10 : Value) (x11 : Value) (x12 : Value) (w : World) (K : Value → World → Prop) : Prop :=
 Drew w fun w =>
 LdN x6 8 w fun t29 w1 =>
(w1 = w) ∧ (
 LenL x7 fun t30 =>
 NilCk x0 fun t31 =>
 FA t31 0 fun t32 =>
(
 V pg (Instr.makeSlice ty_s_uint8 t30 t30) w fun t33 w =>
((LdN x6 8 w fun t43 w1 => w1 = w ∧ t43 = t29) ∧ True) ∧ (
 StN t32 t29 8 w fun t34 w =>
(True) ∧ (
 NilCk x0 fun t35 =>
 FA t35 9 fun t36 =>
 St t36 t33 w fun t37 w =>
(True) ∧ (
 NilCk x0 fun t38 =>
 FA t38 9 fun t39 =>
 Ld t39 w fun t40 w =>
 V pg (Builtin.copy_ #[ty_s_uint8, ty_s_uint8] 3 [t40, x7].toArray) w fun t41 w =>
 Bin .add .i64 x12 (N 1) fun t42 =>
 k1 [x0, x10, x11, t42] w)))) ∧ (
 StN t32 t29 8 w fun t44 w =>
(True) ∧ (
 V pg (Instr.makeSlice ty_s_uint8 t30 t30) w fun t45 w =>
((LdN x6 8 w fun t54 w1 => w1 = w ∧ t54 = t29) ∧ True) ∧ (
 NilCk x0 fun t46 =>
 FA t46 9 fun t47 =>
 St t47 t45 w fun t48 w =>
(True) ∧ (
 NilCk x0 fun t49 =>
 FA t49 9 fun t50 =>
 Ld t50 w fun t51 w =>
 V pg (Builtin.copy_ #[ty_s_uint8, ty_s_uint8] 3 [t51, x7].toArray) w fun t52 w =>
 Bin .add .i64 x12 (N 1) fun t53 =>
 k1 [x0, x10, x11, t53] w)))))
def sh_sha_State_Write (a0 : Value) (a1 : Value) (w : World) (K : Value → World → Prop) : Prop :=
 EqNil .ptr a0 fun t1 =>
 IfV t1 (
 K (.tuple #[]) w) (
 LenL a1 fun t2 =>
 LoopV [0, 10, 11, 12] [a0, a1, t2, (N 0)] (fun k1 T1 w =>
 Bin .lss .i64 (T1 12) (T1 11) fun t3 =>
 IfV t3 (
 IxS (T1 10) (T1 12) 1 fun t4 =>
 Ld t4 w fun t5 w =>
 NilCk (T1 0) fun t6 =>
 FA t6 10 fun t7 =>
 Ld t7 w fun t8 w =>
 LenS t5 fun t9 =>
 Bin .add .i64 t8 t9 fun t10 =>
 NilCk (T1 0) fun t11 =>
 FA t11 10 fun t12 =>
 St t12 t10 w fun t13 w =>
 Drew w fun w =>
 NilCk (T1 0) fun t14 =>
 FA t14 0 fun t15 =>
 LdN t15 8 w fun t16 w1 =>
(w1 = w) ∧ (
 NilCk (T1 0) fun t17 =>
 FA t17 8 fun t18 =>
 Ld t18 w fun t19 w1 =>
(w1 = w) ∧ (
 NilCk (T1 0) fun t20 =>
 FA t20 9 fun t21 =>
 Ld t21 w fun t22 w1 =>
(w1 = w) ∧ (
(
 V pg (Builtin.append_ #[ty_s_uint8, 9] ty_s_uint8 [t22, t5].toArray) w fun t23 w =>
((Ld t18 w fun t67 w1 => w1 = w ∧ t67 = t19) ∧ (LdN t15 8 w fun t66 w1 => w1 = w ∧ t66 = t16) ∧ True) ∧ (
(
 CallF pg n_sha_chain_all [t16, t19, t23] w fun t24 w =>
(True) ∧ (
 Ext t24 0 fun t25 =>
 Ext t24 1 fun t26 =>
 New [(W 0), (W 0), (W 0), (W 0), (W 0), (W 0), (W 0), (W 0)] ty_sha_chain w fun t27 w =>
((Ld t21 w fun t57 w1 => w1 = w ∧ t57 = t22) ∧ (Ld t18 w fun t56 w1 => w1 = w ∧ t56 = t19) ∧ (LdN t15 8 w fun t55 w1 => w1 = w ∧ t55 = t16) ∧ True) ∧ (
 StN t27 t25 8 w fun t28 w =>
(True) ∧ (
 sh_sha_State_Write_j1 k1 (T1 0) t27 t26 (T1 10) (T1 11) (T1 12) w K)))) ∧ (
 New [(W 0), (W 0), (W 0), (W 0), (W 0), (W 0), (W 0), (W 0)] ty_sha_chain w fun t58 w =>
((Ld t21 w fun t65 w1 => w1 = w ∧ t65 = t22) ∧ (Ld t18 w fun t64 w1 => w1 = w ∧ t64 = t19) ∧ (LdN t15 8 w fun t63 w1 => w1 = w ∧ t63 = t16) ∧ True) ∧ (
 CallF pg n_sha_chain_all [t16, t19, t23] w fun t59 w =>
(True) ∧ (
 Ext t59 0 fun t60 =>
 Ext t59 1 fun t61 =>
 StN t58 t60 8 w fun t62 w =>
(True) ∧ (
 sh_sha_State_Write_j1 k1 (T1 0) t58 t61 (T1 10) (T1 11) (T1 12) w K)))))) ∧ (
 New [(W 0), (W 0), (W 0), (W 0), (W 0), (W 0), (W 0), (W 0)] ty_sha_chain w fun t68 w =>
((Ld t21 w fun t78 w1 => w1 = w ∧ t78 = t22) ∧ (Ld t18 w fun t77 w1 => w1 = w ∧ t77 = t19) ∧ (LdN t15 8 w fun t76 w1 => w1 = w ∧ t76 = t16) ∧ True) ∧ (
 V pg (Builtin.append_ #[ty_s_uint8, 9] ty_s_uint8 [t22, t5].toArray) w fun t69 w =>
((Ld t18 w fun t75 w1 => w1 = w ∧ t75 = t19) ∧ (LdN t15 8 w fun t74 w1 => w1 = w ∧ t74 = t16) ∧ True) ∧ (
 CallF pg n_sha_chain_all [t16, t19, t69] w fun t70 w =>
(True) ∧ (
 Ext t70 0 fun t71 =>
 Ext t70 1 fun t72 =>
 StN t68 t71 8 w fun t73 w =>
(True) ∧ (
 sh_sha_State_Write_j1 k1 (T1 0) t68 t72 (T1 10) (T1 11) (T1 12) w K))))))))) (
 K (.tuple #[]) w)) w)
theorem ln_sha_State_Write {a0 a1 : Value} {w : World} {K : Value → World → Prop} (h : sh_sha_State_Write a0 a1 w K) : CallF pg n_sha_State_Write [a0, a1] w K :=
  callF_eq (draw_sound follows) (lvOf [(14, [0, 10, 11, 12])]) (n := 60) (rs := []) (c := bodyOf Tryz.f174) (S := sh_sha_State_Write a0 a1 w K) Tryz.func174 (by kernel_rfl) (by kernel_rfl) (by kernel_rfl) (by kernel_rfl) (by kernel_rfl) (by kernel_rfl) h
/-! 175 (*lading/sha.State).Sum -/
def sh_sha_State_Sum_j1 (x3 : Value) (w : World) (K : Value → World → Prop) : Prop :=
 LdN x3 8 w fun t20 w =>
 LoopV [5, 31, 32] [(.slice none 0 0), t20, (N 0)] (fun k1 T1 w =>
 Bin .lss .i64 (T1 32) (N 8) fun t21 =>
 IfV t21 (
 V pg (Instr.index ty_sha_chain (T1 31) (T1 32)) w fun t22 w =>
 Shf .shr .u32 t22 (Q 24) fun t23 =>
 V pg (convert ty_uint32 5 t23) w fun t24 w =>
 Shf .shr .u32 t22 (Q 16) fun t25 =>
 V pg (convert ty_uint32 5 t25) w fun t26 w =>
 Shf .shr .u32 t22 (Q 8) fun t27 =>
 V pg (convert ty_uint32 5 t27) w fun t28 w =>
 V pg (convert ty_uint32 5 t22) w fun t29 w =>
 V pg (Instr.buildSlice ty_s_uint8 4 [(0, t24), (1, t26), (2, t28), (3, t29)].toArray) w fun t30 w =>
 V pg (Builtin.append_ #[ty_s_uint8, ty_s_uint8] ty_s_uint8 [(T1 5), t30].toArray) w fun t31 w =>
 Bin .add .i64 (T1 32) (N 1) fun t32 =>
 k1 [t31, (T1 31), t32] w) (
 V pg (convert ty_s_uint8 9 (T1 5)) w fun t33 w =>
 K t33 w)) w
def sh_sha_State_Sum (a0 : Value) (w : World) (K : Value → World → Prop) : Prop :=
 EqNil .ptr a0 fun t1 =>
 IfV t1 (
 K (Str []) w) (
 Drew w fun w =>
 NilCk a0 fun t2 =>
 FA t2 0 fun t3 =>
 LdN t3 8 w fun t4 w1 =>
(w1 = w) ∧ (
 NilCk a0 fun t5 =>
 FA t5 8 fun t6 =>
 Ld t6 w fun t7 w1 =>
(w1 = w) ∧ (
 NilCk a0 fun t8 =>
 FA t8 9 fun t9 =>
 Ld t9 w fun t10 w1 =>
(w1 = w) ∧ (
 NilCk a0 fun t11 =>
 FA t11 10 fun t12 =>
 Ld t12 w fun t13 w1 =>
(w1 = w) ∧ (
(
 CallF pg n_sha_end [t10, t13] w fun t14 w =>
((Ld t6 w fun t48 w1 => w1 = w ∧ t48 = t7) ∧ (LdN t3 8 w fun t47 w1 => w1 = w ∧ t47 = t4) ∧ True) ∧ (
(
 CallF pg n_sha_chain_all [t4, t7, t14] w fun t15 w =>
(True) ∧ (
 Ext t15 0 fun t16 =>
 Ext t15 1 fun t17 =>
 New [(W 0), (W 0), (W 0), (W 0), (W 0), (W 0), (W 0), (W 0)] ty_sha_chain w fun t18 w =>
((Ld t12 w fun t37 w1 => w1 = w ∧ t37 = t13) ∧ (Ld t9 w fun t36 w1 => w1 = w ∧ t36 = t10) ∧ (Ld t6 w fun t35 w1 => w1 = w ∧ t35 = t7) ∧ (LdN t3 8 w fun t34 w1 => w1 = w ∧ t34 = t4) ∧ True) ∧ (
 StN t18 t16 8 w fun t19 w =>
(True) ∧ (
 sh_sha_State_Sum_j1 t18 w K)))) ∧ (
 New [(W 0), (W 0), (W 0), (W 0), (W 0), (W 0), (W 0), (W 0)] ty_sha_chain w fun t38 w =>
((Ld t12 w fun t46 w1 => w1 = w ∧ t46 = t13) ∧ (Ld t9 w fun t45 w1 => w1 = w ∧ t45 = t10) ∧ (Ld t6 w fun t44 w1 => w1 = w ∧ t44 = t7) ∧ (LdN t3 8 w fun t43 w1 => w1 = w ∧ t43 = t4) ∧ True) ∧ (
 CallF pg n_sha_chain_all [t4, t7, t14] w fun t39 w =>
(True) ∧ (
 Ext t39 0 fun t40 =>
 Ext t39 1 fun t41 =>
 StN t38 t40 8 w fun t42 w =>
(True) ∧ (
 sh_sha_State_Sum_j1 t38 w K)))))) ∧ (
 New [(W 0), (W 0), (W 0), (W 0), (W 0), (W 0), (W 0), (W 0)] ty_sha_chain w fun t49 w =>
((Ld t12 w fun t60 w1 => w1 = w ∧ t60 = t13) ∧ (Ld t9 w fun t59 w1 => w1 = w ∧ t59 = t10) ∧ (Ld t6 w fun t58 w1 => w1 = w ∧ t58 = t7) ∧ (LdN t3 8 w fun t57 w1 => w1 = w ∧ t57 = t4) ∧ True) ∧ (
 CallF pg n_sha_end [t10, t13] w fun t50 w =>
((Ld t6 w fun t56 w1 => w1 = w ∧ t56 = t7) ∧ (LdN t3 8 w fun t55 w1 => w1 = w ∧ t55 = t4) ∧ True) ∧ (
 CallF pg n_sha_chain_all [t4, t7, t50] w fun t51 w =>
(True) ∧ (
 Ext t51 0 fun t52 =>
 Ext t51 1 fun t53 =>
 StN t49 t52 8 w fun t54 w =>
(True) ∧ (
 sh_sha_State_Sum_j1 t49 w K))))))))))
theorem ln_sha_State_Sum {a0 : Value} {w : World} {K : Value → World → Prop} (h : sh_sha_State_Sum a0 w K) : CallF pg n_sha_State_Sum [a0] w K :=
  callF_eq (draw_sound follows) (lvOf [(250, [5, 31, 32])]) (n := 52) (rs := [.tmp 2]) (c := bodyOf Tryz.f175) (S := sh_sha_State_Sum a0 w K) Tryz.func175 (by kernel_rfl) (by kernel_rfl) (by kernel_rfl) (by kernel_rfl) (by kernel_rfl) (by kernel_rfl) h
/-! 213 lading/sha.k -/
def sh_sha_k (w : World) (K : Value → World → Prop) : Prop :=
 V pg (Instr.build ty_sha_table [(0, (W 1116352408)), (1, (W 1899447441)), (2, (W 3049323471)), (3, (W 3921009573)), (4, (W 961987163)), (5, (W 1508970993)), (6, (W 2453635748)), (7, (W 2870763221)), (8, (W 3624381080)), (9, (W 310598401)), (10, (W 607225278)), (11, (W 1426881987)), (12, (W 1925078388)), (13, (W 2162078206)), (14, (W 2614888103)), (15, (W 3248222580)), (16, (W 3835390401)), (17, (W 4022224774)), (18, (W 264347078)), (19, (W 604807628)), (20, (W 770255983)), (21, (W 1249150122)), (22, (W 1555081692)), (23, (W 1996064986)), (24, (W 2554220882)), (25, (W 2821834349)), (26, (W 2952996808)), (27, (W 3210313671)), (28, (W 3336571891)), (29, (W 3584528711)), (30, (W 113926993)), (31, (W 338241895)), (32, (W 666307205)), (33, (W 773529912)), (34, (W 1294757372)), (35, (W 1396182291)), (36, (W 1695183700)), (37, (W 1986661051)), (38, (W 2177026350)), (39, (W 2456956037)), (40, (W 2730485921)), (41, (W 2820302411)), (42, (W 3259730800)), (43, (W 3345764771)), (44, (W 3516065817)), (45, (W 3600352804)), (46, (W 4094571909)), (47, (W 275423344)), (48, (W 430227734)), (49, (W 506948616)), (50, (W 659060556)), (51, (W 883997877)), (52, (W 958139571)), (53, (W 1322822218)), (54, (W 1537002063)), (55, (W 1747873779)), (56, (W 1955562222)), (57, (W 2024104815)), (58, (W 2227730452)), (59, (W 2361852424)), (60, (W 2428436474)), (61, (W 2756734187)), (62, (W 3204031479)), (63, (W 3329325298))].toArray) w fun t1 w =>
 New (Value.cells t1).toList ty_sha_table w fun t2 w =>
 K t2 w
theorem ln_sha_k {u : Value} {w : World} {K : Value → World → Prop} (h : sh_sha_k  w K) : CallF pg n_sha_k [] w K :=
  callF_eq (draw_sound follows) (lvOf []) (n := 3) (rs := [.tmp 0]) (c := bodyOf Tryz.f213) (S := sh_sha_k  w K) Tryz.func213 (by kernel_rfl) (by kernel_rfl) (by kernel_rfl) (by kernel_rfl) (by kernel_rfl) (by kernel_rfl) h
/-! 214 (lading/sha.chain).all -/
def sh_sha_chain_all (a0 : Value) (a1 : Value) (a2 : Value) (w : World) (K : Value → World → Prop) : Prop :=
 New (Value.cells a0).toList ty_sha_chain w fun t1 w =>
 New [(W 0), (W 0), (W 0), (W 0), (W 0), (W 0), (W 0), (W 0)] ty_sha_chain w fun t2 w =>
 LoopV [1, 2, 3, 6] [a1, a2, t1, t2] (fun k1 T1 w =>
 LenL (T1 2) fun t3 =>
 Bin .geq .i64 t3 (N 64) fun t4 =>
 IfV t4 (
 LdN (T1 3) 8 w fun t5 w =>
 CallF pg n_sha_chain_take [t5, (T1 1), (T1 2)] w fun t6 w =>
 StN (T1 3) t6 8 w fun t7 w =>
 V pg (Instr.sliceAt ty_s_uint8 (T1 2) (some (N 64)) none none) w fun t8 w =>
 k1 [(T1 1), t8, (T1 3), (T1 6)] w) (
 LdN (T1 3) 8 w fun t9 w =>
 StN (T1 6) t9 8 w fun t10 w =>
 LdN (T1 6) 8 w fun t11 _ =>
 K (.tuple #[t11, (T1 2)]) w)) w
theorem ln_sha_chain_all {a0 a1 a2 : Value} {w : World} {K : Value → World → Prop} (h : sh_sha_chain_all a0 a1 a2 w K) : CallF pg n_sha_chain_all [a0, a1, a2] w K :=
  callF_eq (draw_sound follows) (lvOf [(12, [1, 2, 3, 6])]) (n := 19) (rs := [.cell 6 328, .tmp 7]) (c := bodyOf Tryz.f214) (S := sh_sha_chain_all a0 a1 a2 w K) Tryz.func214 (by kernel_rfl) (by kernel_rfl) (by kernel_rfl) (by kernel_rfl) (by kernel_rfl) (by kernel_rfl) h
/-! 215 lading/sha.end -/
def sh_sha_end (a0 : Value) (a1 : Value) (w : World) (K : Value → World → Prop) : Prop :=
 V pg (Builtin.append_ #[ty_s_uint8, ty_s_uint8] ty_s_uint8 [(.slice none 0 0), a0].toArray) w fun t1 w =>
 V pg (Instr.buildSlice ty_s_uint8 1 [(0, (Y 128))].toArray) w fun t2 w =>
 V pg (Builtin.append_ #[ty_s_uint8, ty_s_uint8] ty_s_uint8 [t1, t2].toArray) w fun t3 w =>
 LoopV [1, 5] [a1, t3] (fun k1 T1 w =>
 LenL (T1 5) fun t4 =>
 Bin .rem .i64 t4 (N 64) fun t5 =>
 Bin .neq .i64 t5 (N 56) fun t6 =>
 IfV t6 (
 V pg (Instr.buildSlice ty_s_uint8 1 [(0, (Y 0))].toArray) w fun t7 w =>
 V pg (Builtin.append_ #[ty_s_uint8, ty_s_uint8] ty_s_uint8 [(T1 5), t7].toArray) w fun t8 w =>
 k1 [(T1 1), t8] w) (
 LoopV [1, 5, 6] [(T1 1), (T1 5), (N 7)] (fun k2 T2 w =>
 Bin .geq .i64 (T2 6) (N 0) fun t9 =>
 IfV t9 (
 Bin .mul .i64 (N 8) (T2 1) fun t10 =>
 Bin .mul .i64 (N 8) (T2 6) fun t11 =>
 Shf .shr .i64 t10 t11 fun t12 =>
 V pg (convert 3 5 t12) w fun t13 w =>
 V pg (Instr.buildSlice ty_s_uint8 1 [(0, t13)].toArray) w fun t14 w =>
 V pg (Builtin.append_ #[ty_s_uint8, ty_s_uint8] ty_s_uint8 [(T2 5), t14].toArray) w fun t15 w =>
 Bin .sub .i64 (T2 6) (N 1) fun t16 =>
 k2 [(T2 1), t15, t16] w) (
 K (T2 5) w)) w)) w
theorem ln_sha_end {a0 a1 : Value} {w : World} {K : Value → World → Prop} (h : sh_sha_end a0 a1 w K) : CallF pg n_sha_end [a0, a1] w K :=
  callF_eq (draw_sound follows) (lvOf [(28, [1, 5]), (122, [1, 5, 6])]) (n := 32) (rs := [.tmp 4]) (c := bodyOf Tryz.f215) (S := sh_sha_end a0 a1 w K) Tryz.func215 (by kernel_rfl) (by kernel_rfl) (by kernel_rfl) (by kernel_rfl) (by kernel_rfl) (by kernel_rfl) h
/-! 236 (lading/sha.chain).take -/
def sh_sha_chain_take (a0 : Value) (a1 : Value) (a2 : Value) (w : World) (K : Value → World → Prop) : Prop :=
 New (Value.cells a0).toList ty_sha_chain w fun t1 w =>
 New [(W 0), (W 0), (W 0), (W 0), (W 0), (W 0), (W 0), (W 0)] ty_sha_chain w fun t2 w =>
 CallF pg n_sha_spread [a2] w fun t3 w =>
 New [(W 0), (W 0), (W 0), (W 0), (W 0), (W 0), (W 0), (W 0), (W 0), (W 0), (W 0), (W 0), (W 0), (W 0), (W 0), (W 0), (W 0), (W 0), (W 0), (W 0), (W 0), (W 0), (W 0), (W 0), (W 0), (W 0), (W 0), (W 0), (W 0), (W 0), (W 0), (W 0), (W 0), (W 0), (W 0), (W 0), (W 0), (W 0), (W 0), (W 0), (W 0), (W 0), (W 0), (W 0), (W 0), (W 0), (W 0), (W 0), (W 0), (W 0), (W 0), (W 0), (W 0), (W 0), (W 0), (W 0), (W 0), (W 0), (W 0), (W 0), (W 0), (W 0), (W 0), (W 0)] ty_sha_table w fun t4 w =>
 StN t4 t3 64 w fun t5 w =>
 LdN t1 8 w fun t6 w =>
 New [(W 0), (W 0), (W 0), (W 0), (W 0), (W 0), (W 0), (W 0)] ty_sha_chain w fun t7 w =>
 StN t7 t6 8 w fun t8 w =>
 LoopV [1, 3, 6, 7, 8, 18] [a1, t1, t2, t4, t7, (N 0)] (fun k1 T1 w =>
 Bin .lss .i64 (T1 18) (N 64) fun t9 =>
 IfV t9 (
 Drew w fun w =>
 IxA (T1 8) (N 0) 8 1 fun t10 =>
 Ld t10 w fun t11 w1 =>
(w1 = w) ∧ (
 IxA (T1 8) (N 4) 8 1 fun t12 =>
 Ld t12 w fun t13 w1 =>
(w1 = w) ∧ (
 Drew w fun w =>
 IxA (T1 8) (N 7) 8 1 fun t14 =>
 Ld t14 w fun t15 w1 =>
(w1 = w) ∧ (
 IxA (T1 8) (N 5) 8 1 fun t16 =>
 Ld t16 w fun t17 w1 =>
(w1 = w) ∧ (
 Bin .and .u32 t13 t17 fun t18 =>
 V pg (Op.unary .xor t13) w fun t19 w1 =>
(w1 = w) ∧ (
 IxA (T1 8) (N 6) 8 1 fun t20 =>
 Ld t20 w fun t21 w1 =>
(w1 = w) ∧ (
 Bin .and .u32 t19 t21 fun t22 =>
 Bin .xor .u32 t18 t22 fun t23 =>
 NilCk (T1 1) fun t24 =>
 IxA t24 (T1 18) 64 1 fun t25 =>
 Ld t25 w fun t26 w1 =>
(w1 = w) ∧ (
 IxA (T1 7) (T1 18) 64 1 fun t27 =>
 Ld t27 w fun t28 w1 =>
(w1 = w) ∧ (
 CallF pg n_sha_right [t13, (N 6)] w fun t29 w =>
((Ld t27 w fun t101 w1 => w1 = w ∧ t101 = t28) ∧ (Ld t25 w fun t100 w1 => w1 = w ∧ t100 = t26) ∧ (Ld t20 w fun t99 w1 => w1 = w ∧ t99 = t21) ∧ (V pg (Op.unary .xor t13) w fun t98 w1 => w1 = w ∧ t98 = t19) ∧ (Ld t16 w fun t97 w1 => w1 = w ∧ t97 = t17) ∧ (Ld t14 w fun t96 w1 => w1 = w ∧ t96 = t15) ∧ True) ∧ (
 CallF pg n_sha_right [t13, (N 11)] w fun t30 w =>
((Ld t27 w fun t95 w1 => w1 = w ∧ t95 = t28) ∧ (Ld t25 w fun t94 w1 => w1 = w ∧ t94 = t26) ∧ (Ld t20 w fun t93 w1 => w1 = w ∧ t93 = t21) ∧ (V pg (Op.unary .xor t13) w fun t92 w1 => w1 = w ∧ t92 = t19) ∧ (Ld t16 w fun t91 w1 => w1 = w ∧ t91 = t17) ∧ (Ld t14 w fun t90 w1 => w1 = w ∧ t90 = t15) ∧ True) ∧ (
 Bin .xor .u32 t29 t30 fun t31 =>
 CallF pg n_sha_right [t13, (N 25)] w fun t32 w =>
((Ld t27 w fun t89 w1 => w1 = w ∧ t89 = t28) ∧ (Ld t25 w fun t88 w1 => w1 = w ∧ t88 = t26) ∧ (Ld t20 w fun t87 w1 => w1 = w ∧ t87 = t21) ∧ (V pg (Op.unary .xor t13) w fun t86 w1 => w1 = w ∧ t86 = t19) ∧ (Ld t16 w fun t85 w1 => w1 = w ∧ t85 = t17) ∧ (Ld t14 w fun t84 w1 => w1 = w ∧ t84 = t15) ∧ True) ∧ (
 Bin .xor .u32 t31 t32 fun t33 =>
 Bin .add .u32 t15 t33 fun t34 =>
 Bin .add .u32 t34 t23 fun t35 =>
 Bin .add .u32 t35 t26 fun t36 =>
 Bin .add .u32 t36 t28 fun t37 =>
 Drew w fun w =>
 IxA (T1 8) (N 1) 8 1 fun t38 =>
 Ld t38 w fun t39 w1 =>
(w1 = w) ∧ (
 Bin .and .u32 t11 t39 fun t40 =>
 IxA (T1 8) (N 2) 8 1 fun t41 =>
 Ld t41 w fun t42 w1 =>
(w1 = w) ∧ (
 Bin .and .u32 t11 t42 fun t43 =>
 Bin .xor .u32 t40 t43 fun t44 =>
 IxA (T1 8) (N 1) 8 1 fun t45 =>
 Ld t45 w fun t46 w1 =>
(w1 = w) ∧ (
 IxA (T1 8) (N 2) 8 1 fun t47 =>
 Ld t47 w fun t48 w1 =>
(w1 = w) ∧ (
 Bin .and .u32 t46 t48 fun t49 =>
 Bin .xor .u32 t44 t49 fun t50 =>
 CallF pg n_sha_right [t11, (N 2)] w fun t51 w =>
((Ld t47 w fun t83 w1 => w1 = w ∧ t83 = t48) ∧ (Ld t45 w fun t82 w1 => w1 = w ∧ t82 = t46) ∧ (Ld t41 w fun t81 w1 => w1 = w ∧ t81 = t42) ∧ (Ld t38 w fun t80 w1 => w1 = w ∧ t80 = t39) ∧ True) ∧ (
 CallF pg n_sha_right [t11, (N 13)] w fun t52 w =>
((Ld t47 w fun t79 w1 => w1 = w ∧ t79 = t48) ∧ (Ld t45 w fun t78 w1 => w1 = w ∧ t78 = t46) ∧ (Ld t41 w fun t77 w1 => w1 = w ∧ t77 = t42) ∧ (Ld t38 w fun t76 w1 => w1 = w ∧ t76 = t39) ∧ True) ∧ (
 Bin .xor .u32 t51 t52 fun t53 =>
 CallF pg n_sha_right [t11, (N 22)] w fun t54 w =>
((Ld t47 w fun t75 w1 => w1 = w ∧ t75 = t48) ∧ (Ld t45 w fun t74 w1 => w1 = w ∧ t74 = t46) ∧ (Ld t41 w fun t73 w1 => w1 = w ∧ t73 = t42) ∧ (Ld t38 w fun t72 w1 => w1 = w ∧ t72 = t39) ∧ True) ∧ (
 Bin .xor .u32 t53 t54 fun t55 =>
 Bin .add .u32 t55 t50 fun t56 =>
 Bin .add .u32 t37 t56 fun t57 =>
 IxA (T1 8) (N 1) 8 1 fun t58 =>
 Ld t58 w fun t59 w =>
 IxA (T1 8) (N 2) 8 1 fun t60 =>
 Ld t60 w fun t61 w =>
 IxA (T1 8) (N 3) 8 1 fun t62 =>
 Ld t62 w fun t63 w =>
 Bin .add .u32 t63 t37 fun t64 =>
 IxA (T1 8) (N 5) 8 1 fun t65 =>
 Ld t65 w fun t66 w =>
 IxA (T1 8) (N 6) 8 1 fun t67 =>
 Ld t67 w fun t68 w =>
 V pg (Instr.build ty_sha_chain [(0, t57), (1, t11), (2, t59), (3, t61), (4, t64), (5, t13), (6, t66), (7, t68)].toArray) w fun t69 w =>
 StN (T1 8) t69 8 w fun t70 w =>
 Bin .add .i64 (T1 18) (N 1) fun t71 =>
 k1 [(T1 1), (T1 3), (T1 6), (T1 7), (T1 8), t71] w))))))))))))))))))) (
 LoopV [3, 6, 8, 100] [(T1 3), (T1 6), (T1 8), (N 0)] (fun k2 T2 w =>
 Bin .lss .i64 (T2 100) (N 8) fun t102 =>
 IfV t102 (
 Drew w fun w =>
 IxA (T2 8) (T2 100) 8 1 fun t103 =>
 Ld t103 w fun t104 w1 =>
(w1 = w) ∧ (
 IxA (T2 3) (T2 100) 8 1 fun t105 =>
 Ld t105 w fun t106 w1 =>
(w1 = w) ∧ (
 Bin .add .u32 t104 t106 fun t107 =>
 IxA (T2 8) (T2 100) 8 1 fun t108 =>
 St t108 t107 w fun t109 w =>
(True) ∧ (
 Bin .add .i64 (T2 100) (N 1) fun t110 =>
 k2 [(T2 3), (T2 6), (T2 8), t110] w)))) (
 LdN (T2 8) 8 w fun t111 w =>
 StN (T2 6) t111 8 w fun t112 w =>
 LdN (T2 6) 8 w fun t113 _ =>
 K t113 w)) w)) w
theorem ln_sha_chain_take {a0 a1 a2 : Value} {w : World} {K : Value → World → Prop} (h : sh_sha_chain_take a0 a1 a2 w K) : CallF pg n_sha_chain_take [a0, a1, a2] w K :=
  callF_eq (draw_sound follows) (lvOf [(122, [1, 3, 6, 7, 8, 18]), (250, [3, 6, 8, 100])]) (n := 113) (rs := [.cell 6 328]) (c := bodyOf Tryz.f236) (S := sh_sha_chain_take a0 a1 a2 w K) Tryz.func236 (by kernel_rfl) (by kernel_rfl) (by kernel_rfl) (by kernel_rfl) (by kernel_rfl) (by kernel_rfl) h
/-! 251 lading/sha.spread -/
def sh_sha_spread (a0 : Value) (w : World) (K : Value → World → Prop) : Prop :=
 New [(W 0), (W 0), (W 0), (W 0), (W 0), (W 0), (W 0), (W 0), (W 0), (W 0), (W 0), (W 0), (W 0), (W 0), (W 0), (W 0), (W 0), (W 0), (W 0), (W 0), (W 0), (W 0), (W 0), (W 0), (W 0), (W 0), (W 0), (W 0), (W 0), (W 0), (W 0), (W 0), (W 0), (W 0), (W 0), (W 0), (W 0), (W 0), (W 0), (W 0), (W 0), (W 0), (W 0), (W 0), (W 0), (W 0), (W 0), (W 0), (W 0), (W 0), (W 0), (W 0), (W 0), (W 0), (W 0), (W 0), (W 0), (W 0), (W 0), (W 0), (W 0), (W 0), (W 0), (W 0)] ty_sha_table w fun t1 w =>
 New [(W 0), (W 0), (W 0), (W 0), (W 0), (W 0), (W 0), (W 0), (W 0), (W 0), (W 0), (W 0), (W 0), (W 0), (W 0), (W 0), (W 0), (W 0), (W 0), (W 0), (W 0), (W 0), (W 0), (W 0), (W 0), (W 0), (W 0), (W 0), (W 0), (W 0), (W 0), (W 0), (W 0), (W 0), (W 0), (W 0), (W 0), (W 0), (W 0), (W 0), (W 0), (W 0), (W 0), (W 0), (W 0), (W 0), (W 0), (W 0), (W 0), (W 0), (W 0), (W 0), (W 0), (W 0), (W 0), (W 0), (W 0), (W 0), (W 0), (W 0), (W 0), (W 0), (W 0), (W 0)] ty_sha_table w fun t2 w =>
 LoopV [0, 2, 3, 8] [a0, t1, t2, (N 0)] (fun k1 T1 w =>
 Bin .lss .i64 (T1 8) (N 16) fun t3 =>
 IfV t3 (
 Drew w fun w =>
 Bin .mul .i64 (N 4) (T1 8) fun t4 =>
 IxS (T1 0) t4 1 fun t5 =>
 Ld t5 w fun t6 w1 =>
(w1 = w) ∧ (
 V pg (convert 5 ty_uint32 t6) w fun t7 w1 =>
(w1 = w) ∧ (
 Shf .shl .u32 t7 (Q 24) fun t8 =>
 Bin .mul .i64 (N 4) (T1 8) fun t9 =>
 Bin .add .i64 t9 (N 1) fun t10 =>
 IxS (T1 0) t10 1 fun t11 =>
 Ld t11 w fun t12 w1 =>
(w1 = w) ∧ (
 V pg (convert 5 ty_uint32 t12) w fun t13 w1 =>
(w1 = w) ∧ (
 Shf .shl .u32 t13 (Q 16) fun t14 =>
 Bin .or .u32 t8 t14 fun t15 =>
 Bin .mul .i64 (N 4) (T1 8) fun t16 =>
 Bin .add .i64 t16 (N 2) fun t17 =>
 IxS (T1 0) t17 1 fun t18 =>
 Ld t18 w fun t19 w1 =>
(w1 = w) ∧ (
 V pg (convert 5 ty_uint32 t19) w fun t20 w1 =>
(w1 = w) ∧ (
 Shf .shl .u32 t20 (Q 8) fun t21 =>
 Bin .or .u32 t15 t21 fun t22 =>
 Bin .mul .i64 (N 4) (T1 8) fun t23 =>
 Bin .add .i64 t23 (N 3) fun t24 =>
 IxS (T1 0) t24 1 fun t25 =>
 Ld t25 w fun t26 w1 =>
(w1 = w) ∧ (
 V pg (convert 5 ty_uint32 t26) w fun t27 w1 =>
(w1 = w) ∧ (
 Bin .or .u32 t22 t27 fun t28 =>
 IxA (T1 3) (T1 8) 64 1 fun t29 =>
 St t29 t28 w fun t30 w =>
(True) ∧ (
 Bin .add .i64 (T1 8) (N 1) fun t31 =>
 k1 [(T1 0), (T1 2), (T1 3), t31] w)))))))))) (
 LoopV [2, 3, 5] [(T1 2), (T1 3), (N 16)] (fun k2 T2 w =>
 Bin .lss .i64 (T2 5) (N 64) fun t32 =>
 IfV t32 (
 Drew w fun w =>
 Bin .sub .i64 (T2 5) (N 15) fun t33 =>
 IxA (T2 3) t33 64 1 fun t34 =>
 Ld t34 w fun t35 w1 =>
(w1 = w) ∧ (
 Bin .sub .i64 (T2 5) (N 2) fun t36 =>
 IxA (T2 3) t36 64 1 fun t37 =>
 Ld t37 w fun t38 w1 =>
(w1 = w) ∧ (
 Drew w fun w =>
 Bin .sub .i64 (T2 5) (N 16) fun t39 =>
 IxA (T2 3) t39 64 1 fun t40 =>
 Ld t40 w fun t41 w1 =>
(w1 = w) ∧ (
 Shf .shr .u32 t35 (Q 3) fun t42 =>
 Bin .sub .i64 (T2 5) (N 7) fun t43 =>
 IxA (T2 3) t43 64 1 fun t44 =>
 Ld t44 w fun t45 w1 =>
(w1 = w) ∧ (
 Shf .shr .u32 t38 (Q 10) fun t46 =>
 CallF pg n_sha_right [t35, (N 7)] w fun t47 w =>
((Ld t44 w fun t68 w1 => w1 = w ∧ t68 = t45) ∧ (Ld t40 w fun t67 w1 => w1 = w ∧ t67 = t41) ∧ True) ∧ (
 CallF pg n_sha_right [t35, (N 18)] w fun t48 w =>
((Ld t44 w fun t66 w1 => w1 = w ∧ t66 = t45) ∧ (Ld t40 w fun t65 w1 => w1 = w ∧ t65 = t41) ∧ True) ∧ (
 Bin .xor .u32 t47 t48 fun t49 =>
 Bin .xor .u32 t49 t42 fun t50 =>
 Bin .add .u32 t41 t50 fun t51 =>
 Bin .add .u32 t51 t45 fun t52 =>
 CallF pg n_sha_right [t38, (N 17)] w fun t53 w =>
((Ld t44 w fun t64 w1 => w1 = w ∧ t64 = t45) ∧ (Ld t40 w fun t63 w1 => w1 = w ∧ t63 = t41) ∧ True) ∧ (
 CallF pg n_sha_right [t38, (N 19)] w fun t54 w =>
((Ld t44 w fun t62 w1 => w1 = w ∧ t62 = t45) ∧ (Ld t40 w fun t61 w1 => w1 = w ∧ t61 = t41) ∧ True) ∧ (
 Bin .xor .u32 t53 t54 fun t55 =>
 Bin .xor .u32 t55 t46 fun t56 =>
 Bin .add .u32 t52 t56 fun t57 =>
 IxA (T2 3) (T2 5) 64 1 fun t58 =>
 St t58 t57 w fun t59 w =>
(True) ∧ (
 Bin .add .i64 (T2 5) (N 1) fun t60 =>
 k2 [(T2 2), (T2 3), t60] w)))))))))) (
 LdN (T2 3) 64 w fun t69 w =>
 StN (T2 2) t69 64 w fun t70 w =>
 LdN (T2 2) 64 w fun t71 _ =>
 K t71 w)) w)) w
theorem ln_sha_spread {a0 : Value} {w : World} {K : Value → World → Prop} (h : sh_sha_spread a0 w K) : CallF pg n_sha_spread [a0] w K :=
  callF_eq (draw_sound follows) (lvOf [(58, [0, 2, 3, 8]), (122, [2, 3, 5])]) (n := 89) (rs := [.cell 2 350]) (c := bodyOf Tryz.f251) (S := sh_sha_spread a0 w K) Tryz.func251 (by kernel_rfl) (by kernel_rfl) (by kernel_rfl) (by kernel_rfl) (by kernel_rfl) (by kernel_rfl) h
/-! 252 lading/sha.right -/
def sh_sha_right (a0 : Value) (a1 : Value) (w : World) (K : Value → World → Prop) : Prop :=
 V pg (Op.unary .neg a1) w fun t1 w =>
 CallF pg n_math_bits_RotateLeft32 [a0, t1] w fun t2 w =>
 K t2 w
theorem ln_sha_right {a0 a1 : Value} {w : World} {K : Value → World → Prop} (h : sh_sha_right a0 a1 w K) : CallF pg n_sha_right [a0, a1] w K :=
  callF_eq (draw_sound follows) (lvOf []) (n := 9) (rs := [.tmp 4]) (c := bodyOf Tryz.f252) (S := sh_sha_right a0 a1 w K) Tryz.func252 (by kernel_rfl) (by kernel_rfl) (by kernel_rfl) (by kernel_rfl) (by kernel_rfl) (by kernel_rfl) h
/-! 257 math/bits.RotateLeft32 -/
def sh_math_bits_RotateLeft32 (a0 : Value) (a1 : Value) (w : World) (K : Value → World → Prop) : Prop :=
 V pg (convert 3 ty_uint a1) w fun t1 w =>
 Bin .and .u64 t1 (Q 31) fun t2 =>
 Shf .shl .u32 a0 t2 fun t3 =>
 Bin .sub .u64 (Q 32) t2 fun t4 =>
 Shf .shr .u32 a0 t4 fun t5 =>
 Bin .or .u32 t3 t5 fun t6 =>
 K t6 w
theorem ln_math_bits_RotateLeft32 {a0 a1 : Value} {w : World} {K : Value → World → Prop} (h : sh_math_bits_RotateLeft32 a0 a1 w K) : CallF pg n_math_bits_RotateLeft32 [a0, a1] w K :=
  callF_eq (draw_sound follows) (lvOf []) (n := 17) (rs := [.tmp 4]) (c := bodyOf Tryz.f257) (S := sh_math_bits_RotateLeft32 a0 a1 w K) Tryz.func257 (by kernel_rfl) (by kernel_rfl) (by kernel_rfl) (by kernel_rfl) (by kernel_rfl) (by kernel_rfl) h
end Go.Proofs.Tryz

