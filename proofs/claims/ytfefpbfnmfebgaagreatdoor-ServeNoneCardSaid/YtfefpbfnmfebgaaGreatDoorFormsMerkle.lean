/- Part of a proof (its text FormsMerkle): what is proved stands in the text Card. -/
import Derived.Test.YtfefpbfnmfebgaaGreatDoorBase
set_option linter.all false
namespace Go.Proofs.Tryz
open Go Go.Lad
set_option autoImplicit false
set_option linter.unusedVariables false
set_option maxRecDepth 100000
/-! 72 lading/merkle.Leaf -/
def sh_merkle_Leaf (a0 : Value) (w : World) (K : Value → World → Prop) : Prop :=
 V pg (Instr.buildSlice ty_s_string 2 [(0, (Str [0])), (1, a0)].toArray) w fun t1 w =>
 CallF pg n_sha_Sum [t1] w fun t2 w =>
 K t2 w
theorem ln_merkle_Leaf {a0 : Value} {w : World} {K : Value → World → Prop} (h : sh_merkle_Leaf a0 w K) : CallF pg n_merkle_Leaf [a0] w K :=
  callF_eq (draw_sound follows) (lvOf []) (n := 6) (rs := [.tmp 2]) (c := bodyOf Tryz.f72) (S := sh_merkle_Leaf a0 w K) Tryz.func72 (by kernel_rfl) (by kernel_rfl) (by kernel_rfl) (by kernel_rfl) (by kernel_rfl) (by kernel_rfl) h
/-! 231 lading/merkle.Node -/
def sh_merkle_Node (a0 : Value) (a1 : Value) (w : World) (K : Value → World → Prop) : Prop :=
 V pg (Instr.buildSlice ty_s_string 3 [(0, (Str [1])), (1, a0), (2, a1)].toArray) w fun t1 w =>
 CallF pg n_sha_Sum [t1] w fun t2 w =>
 K t2 w
theorem ln_merkle_Node {a0 a1 : Value} {w : World} {K : Value → World → Prop} (h : sh_merkle_Node a0 a1 w K) : CallF pg n_merkle_Node [a0, a1] w K :=
  callF_eq (draw_sound follows) (lvOf []) (n := 9) (rs := [.tmp 4]) (c := bodyOf Tryz.f231) (S := sh_merkle_Node a0 a1 w K) Tryz.func231 (by kernel_rfl) (by kernel_rfl) (by kernel_rfl) (by kernel_rfl) (by kernel_rfl) (by kernel_rfl) h
/-! 148 lading/merkle.split -/
def sh_merkle_split (a0 : Value) (w : World) (K : Value → World → Prop) : Prop :=
 Bin .sub .i64 a0 (N 1) fun t1 =>
 V pg (convert 3 ty_uint t1) w fun t2 w =>
 CallF pg n_math_bits_Len [t2] w fun t3 w =>
 Bin .sub .i64 t3 (N 1) fun t4 =>
 Shf .shl .i64 (N 1) t4 fun t5 =>
 K t5 w
theorem ln_merkle_split {a0 : Value} {w : World} {K : Value → World → Prop} (h : sh_merkle_split a0 w K) : CallF pg n_merkle_split [a0] w K :=
  callF_eq (draw_sound follows) (lvOf []) (n := 9) (rs := [.tmp 2]) (c := bodyOf Tryz.f148) (S := sh_merkle_split a0 w K) Tryz.func148 (by kernel_rfl) (by kernel_rfl) (by kernel_rfl) (by kernel_rfl) (by kernel_rfl) (by kernel_rfl) h
/-! 141 lading/merkle.New -/
def sh_merkle_New (a0 : Value) (w : World) (K : Value → World → Prop) : Prop :=
 V pg (Instr.makeMap ty_m_merkle_span_string none) w fun t1 w =>
 V pg (Instr.build ty_merkle_Tree [(1, t1)].toArray) w fun t2 w =>
 New (Value.cells t2).toList ty_merkle_Tree w fun t3 w =>
 LenL a0 fun t4 =>
 LoopV [0, 3, 9, 10, 11] [a0, t3, a0, t4, (N 0)] (fun k1 T1 w =>
 Bin .lss .i64 (T1 11) (T1 10) fun t5 =>
 IfV t5 (
 IxS (T1 9) (T1 11) 1 fun t6 =>
 Ld t6 w fun t7 w =>
 Drew w fun w =>
 NilCk (T1 3) fun t8 =>
 FA t8 0 fun t9 =>
 Ld t9 w fun t10 w1 =>
(w1 = w) ∧ (
 CallF pg n_merkle_Leaf [t7] w fun t11 w =>
((Ld t9 w fun t19 w1 => w1 = w ∧ t19 = t10) ∧ True) ∧ (
 V pg (Instr.buildSlice ty_s_string 1 [(0, t11)].toArray) w fun t12 w =>
((Ld t9 w fun t18 w1 => w1 = w ∧ t18 = t10) ∧ True) ∧ (
 V pg (Builtin.append_ #[ty_s_string, ty_s_string] ty_s_string [t10, t12].toArray) w fun t13 w =>
(True) ∧ (
 NilCk (T1 3) fun t14 =>
 FA t14 0 fun t15 =>
 St t15 t13 w fun t16 w =>
(True) ∧ (
 Bin .add .i64 (T1 11) (N 1) fun t17 =>
 k1 [(T1 0), (T1 3), (T1 9), (T1 10), t17] w)))))) (
 LenL (T1 0) fun t20 =>
 Bin .gtr .i64 t20 (N 0) fun t21 =>
 IfV t21 (
 LenL (T1 0) fun t22 =>
 V pg (Instr.build ty_merkle_span [(0, (N 0)), (1, t22)].toArray) w fun t23 w =>
 CallF pg n_merkle_Tree_fill [(T1 3), t23] w fun t24 w =>
 K (T1 3) w) (
 K (T1 3) w))) w
theorem ln_merkle_New {a0 : Value} {w : World} {K : Value → World → Prop} (h : sh_merkle_New a0 w K) : CallF pg n_merkle_New [a0] w K :=
  callF_eq (draw_sound follows) (lvOf [(58, [0, 3, 9, 10, 11])]) (n := 36) (rs := [.tmp 2]) (c := bodyOf Tryz.f141) (S := sh_merkle_New a0 w K) Tryz.func141 (by kernel_rfl) (by kernel_rfl) (by kernel_rfl) (by kernel_rfl) (by kernel_rfl) (by kernel_rfl) h
/-! 200 (*lading/merkle.Tree).fill -/
def sh_merkle_Tree_fill (a0 : Value) (a1 : Value) (w : World) (K : Value → World → Prop) : Prop :=
 New (Value.cells a1).toList ty_merkle_span w fun t1 w =>
 FA t1 1 fun t2 =>
 Ld t2 w fun t3 w =>
 Bin .eql .i64 t3 (N 1) fun t4 =>
 IfV t4 (
 Drew w fun w =>
 NilCk a0 fun t5 =>
 FA t5 0 fun t6 =>
 Ld t6 w fun t7 w1 =>
(w1 = w) ∧ (
 FA t1 0 fun t8 =>
 Ld t8 w fun t9 w1 =>
(w1 = w) ∧ (
 IxS t7 t9 1 fun t10 =>
 Ld t10 w fun t11 w1 =>
(w1 = w) ∧ (
 Drew w fun w =>
 NilCk a0 fun t12 =>
 FA t12 1 fun t13 =>
 Ld t13 w fun t14 w1 =>
(w1 = w) ∧ (
 LdN t1 2 w fun t15 w1 =>
(w1 = w) ∧ (
 U pg (Instr.mapUpdate ty_m_merkle_span_string t14 t15 t11) w fun t16 w =>
(True) ∧ (
 K t11 w))))))) (
 FA t1 1 fun t17 =>
 Ld t17 w fun t18 w =>
 CallF pg n_merkle_split [t18] w fun t19 w =>
 Drew w fun w =>
 FA t1 0 fun t20 =>
 Ld t20 w fun t21 w1 =>
(w1 = w) ∧ (
 V pg (Instr.build ty_merkle_span [(0, t21), (1, t19)].toArray) w fun t22 w1 =>
(w1 = w) ∧ (
 FA t1 0 fun t23 =>
 Ld t23 w fun t24 w1 =>
(w1 = w) ∧ (
 Bin .add .i64 t24 t19 fun t25 =>
 FA t1 1 fun t26 =>
 Ld t26 w fun t27 w1 =>
(w1 = w) ∧ (
 Bin .sub .i64 t27 t19 fun t28 =>
 V pg (Instr.build ty_merkle_span [(0, t25), (1, t28)].toArray) w fun t29 w1 =>
(w1 = w) ∧ (
 CallF pg n_merkle_Tree_fill [a0, t22] w fun t30 w =>
((V pg (Instr.build ty_merkle_span [(0, t25), (1, t28)].toArray) w fun t40 w1 => w1 = w ∧ t40 = t29) ∧ (Ld t26 w fun t39 w1 => w1 = w ∧ t39 = t27) ∧ (Ld t23 w fun t38 w1 => w1 = w ∧ t38 = t24) ∧ True) ∧ (
 CallF pg n_merkle_Tree_fill [a0, t29] w fun t31 w =>
(True) ∧ (
 CallF pg n_merkle_Node [t30, t31] w fun t32 w =>
(True) ∧ (
 Drew w fun w =>
 NilCk a0 fun t33 =>
 FA t33 1 fun t34 =>
 Ld t34 w fun t35 w1 =>
(w1 = w) ∧ (
 LdN t1 2 w fun t36 w1 =>
(w1 = w) ∧ (
 U pg (Instr.mapUpdate ty_m_merkle_span_string t35 t36 t32) w fun t37 w =>
(True) ∧ (
 K t32 w))))))))))))
theorem ln_merkle_Tree_fill {a0 a1 : Value} {w : World} {K : Value → World → Prop} (h : sh_merkle_Tree_fill a0 a1 w K) : CallF pg n_merkle_Tree_fill [a0, a1] w K :=
  callF_eq (draw_sound follows) (lvOf []) (n := 47) (rs := [.tmp 4]) (c := bodyOf Tryz.f200) (S := sh_merkle_Tree_fill a0 a1 w K) Tryz.func200 (by kernel_rfl) (by kernel_rfl) (by kernel_rfl) (by kernel_rfl) (by kernel_rfl) (by kernel_rfl) h
/-! 142 (*lading/merkle.Tree).Root -/
def sh_merkle_Tree_Root (a0 : Value) (w : World) (K : Value → World → Prop) : Prop :=
 EqNil .ptr a0 fun t1 =>
 IfV t1 (
 K (Str []) w) (
 NilCk a0 fun t2 =>
 FA t2 0 fun t3 =>
 Ld t3 w fun t4 w =>
 LenL t4 fun t5 =>
 Bin .eql .i64 t5 (N 0) fun t6 =>
 IfV t6 (
 V pg (Instr.buildSlice ty_s_string 1 [(0, (Str [2]))].toArray) w fun t7 w =>
 CallF pg n_sha_Sum [t7] w fun t8 w =>
 K t8 w) (
 Drew w fun w =>
 NilCk a0 fun t9 =>
 FA t9 1 fun t10 =>
 Ld t10 w fun t11 w1 =>
(w1 = w) ∧ (
 NilCk a0 fun t12 =>
 FA t12 0 fun t13 =>
 Ld t13 w fun t14 w1 =>
(w1 = w) ∧ (
 LenL t14 fun t15 =>
 V pg (Instr.build ty_merkle_span [(0, (N 0)), (1, t15)].toArray) w fun t16 w1 =>
(w1 = w) ∧ (
 V pg (Instr.lookup ty_m_merkle_span_string t11 t16 false) w fun t17 w1 =>
(w1 = w) ∧ (
 K t17 w))))))
theorem ln_merkle_Tree_Root {a0 : Value} {w : World} {K : Value → World → Prop} (h : sh_merkle_Tree_Root a0 w K) : CallF pg n_merkle_Tree_Root [a0] w K :=
  callF_eq (draw_sound follows) (lvOf []) (n := 26) (rs := [.tmp 2]) (c := bodyOf Tryz.f142) (S := sh_merkle_Tree_Root a0 w K) Tryz.func142 (by kernel_rfl) (by kernel_rfl) (by kernel_rfl) (by kernel_rfl) (by kernel_rfl) (by kernel_rfl) h
/-! 97 lading/merkle.Root -/
def sh_merkle_Root (a0 : Value) (w : World) (K : Value → World → Prop) : Prop :=
 CallF pg n_merkle_New [a0] w fun t1 w =>
 CallF pg n_merkle_Tree_Root [t1] w fun t2 w =>
 K t2 w
theorem ln_merkle_Root {a0 : Value} {w : World} {K : Value → World → Prop} (h : sh_merkle_Root a0 w K) : CallF pg n_merkle_Root [a0] w K :=
  callF_eq (draw_sound follows) (lvOf []) (n := 6) (rs := [.tmp 2]) (c := bodyOf Tryz.f97) (S := sh_merkle_Root a0 w K) Tryz.func97 (by kernel_rfl) (by kernel_rfl) (by kernel_rfl) (by kernel_rfl) (by kernel_rfl) (by kernel_rfl) h
/-! 102 (*lading/merkle.Tree).Proof -/
def sh_merkle_Tree_Proof_j1 (k1 : List Value → World → Prop) (x0 : Value) (x1 : Value) (x6 : Value) (x7 : Value) (x8 : Value) (x9 : Value) (x10 : Value) (w : World) (K : Value → World → Prop) : Prop :=
 FA x7 0 fun t35 =>
 Ld t35 w fun t36 w =>
 Bin .add .i64 t36 x8 fun t37 =>
 Bin .lss .i64 x1 t37 fun t38 =>
 IfV t38 (
 Drew w fun w =>
 NilCk x0 fun t39 =>
 FA t39 1 fun t40 =>
 Ld t40 w fun t41 w1 =>
(w1 = w) ∧ (
 LdN x10 2 w fun t42 w1 =>
(w1 = w) ∧ (
 V pg (Instr.lookup ty_m_merkle_span_string t41 t42 false) w fun t43 w1 =>
(w1 = w) ∧ (
 LdN x9 2 w fun t44 w1 =>
(w1 = w) ∧ (
 V pg (Instr.buildSlice ty_s_string 1 [(0, t43)].toArray) w fun t45 w =>
((LdN x9 2 w fun t52 w1 => w1 = w ∧ t52 = t44) ∧ True) ∧ (
 V pg (Builtin.append_ #[ty_s_string, ty_s_string] ty_s_string [t45, x6].toArray) w fun t46 w =>
((LdN x9 2 w fun t51 w1 => w1 = w ∧ t51 = t44) ∧ True) ∧ (
 StN x7 t44 2 w fun t47 w =>
(True) ∧ (
 LdN x7 2 w fun t48 w =>
 New [(N 0), (N 0)] ty_merkle_span w fun t49 w =>
 StN t49 t48 2 w fun t50 w =>
 k1 [x0, x1, t46, t49] w)))))))) (
 Drew w fun w =>
 NilCk x0 fun t53 =>
 FA t53 1 fun t54 =>
 Ld t54 w fun t55 w1 =>
(w1 = w) ∧ (
 LdN x9 2 w fun t56 w1 =>
(w1 = w) ∧ (
 V pg (Instr.lookup ty_m_merkle_span_string t55 t56 false) w fun t57 w1 =>
(w1 = w) ∧ (
 LdN x10 2 w fun t58 w1 =>
(w1 = w) ∧ (
 V pg (Instr.buildSlice ty_s_string 1 [(0, t57)].toArray) w fun t59 w =>
((LdN x10 2 w fun t66 w1 => w1 = w ∧ t66 = t58) ∧ True) ∧ (
 V pg (Builtin.append_ #[ty_s_string, ty_s_string] ty_s_string [t59, x6].toArray) w fun t60 w =>
((LdN x10 2 w fun t65 w1 => w1 = w ∧ t65 = t58) ∧ True) ∧ (
 StN x7 t58 2 w fun t61 w =>
(True) ∧ (
 LdN x7 2 w fun t62 w =>
 New [(N 0), (N 0)] ty_merkle_span w fun t63 w =>
 StN t63 t62 2 w fun t64 w =>
 k1 [x0, x1, t60, t63] w))))))))
def sh_merkle_Tree_Proof (a0 : Value) (a1 : Value) (w : World) (K : Value → World → Prop) : Prop :=
 EqNil .ptr a0 fun t1 =>
 IfV t1 (
 K (.tuple #[(.slice none 0 0), (.iface ty_api_Errno (N 1))]) w) (
 Bin .lss .i64 a1 (N 0) fun t2 =>
 IfV t2 (
 K (.tuple #[(.slice none 0 0), (.iface ty_api_Errno (N 2))]) w) (
 NilCk a0 fun t3 =>
 FA t3 0 fun t4 =>
 Ld t4 w fun t5 w =>
 LenL t5 fun t6 =>
 Bin .geq .i64 a1 t6 fun t7 =>
 IfV t7 (
 K (.tuple #[(.slice none 0 0), (.iface ty_api_Errno (N 2))]) w) (
 NilCk a0 fun t8 =>
 FA t8 0 fun t9 =>
 Ld t9 w fun t10 w =>
 LenL t10 fun t11 =>
 V pg (Instr.build ty_merkle_span [(0, (N 0)), (1, t11)].toArray) w fun t12 w =>
 New [(N 0), (N 0)] ty_merkle_span w fun t13 w =>
 StN t13 t12 2 w fun t14 w =>
 LoopV [0, 1, 6, 7] [a0, a1, (.slice none 0 0), t13] (fun k1 T1 w =>
 FA (T1 7) 1 fun t15 =>
 Ld t15 w fun t16 w =>
 Bin .gtr .i64 t16 (N 1) fun t17 =>
 IfV t17 (
 FA (T1 7) 1 fun t18 =>
 Ld t18 w fun t19 w =>
 CallF pg n_merkle_split [t19] w fun t20 w =>
 Drew w fun w =>
 FA (T1 7) 0 fun t21 =>
 Ld t21 w fun t22 w1 =>
(w1 = w) ∧ (
 V pg (Instr.build ty_merkle_span [(0, t22), (1, t20)].toArray) w fun t23 w1 =>
(w1 = w) ∧ (
 FA (T1 7) 0 fun t24 =>
 Ld t24 w fun t25 w1 =>
(w1 = w) ∧ (
 Bin .add .i64 t25 t20 fun t26 =>
 FA (T1 7) 1 fun t27 =>
 Ld t27 w fun t28 w1 =>
(w1 = w) ∧ (
 Bin .sub .i64 t28 t20 fun t29 =>
 V pg (Instr.build ty_merkle_span [(0, t26), (1, t29)].toArray) w fun t30 w1 =>
(w1 = w) ∧ (
(
 New [(N 0), (N 0)] ty_merkle_span w fun t31 w =>
((V pg (Instr.build ty_merkle_span [(0, t26), (1, t29)].toArray) w fun t79 w1 => w1 = w ∧ t79 = t30) ∧ (Ld t27 w fun t78 w1 => w1 = w ∧ t78 = t28) ∧ (Ld t24 w fun t77 w1 => w1 = w ∧ t77 = t25) ∧ (V pg (Instr.build ty_merkle_span [(0, t22), (1, t20)].toArray) w fun t76 w1 => w1 = w ∧ t76 = t23) ∧ (Ld t21 w fun t75 w1 => w1 = w ∧ t75 = t22) ∧ True) ∧ (
 New [(N 0), (N 0)] ty_merkle_span w fun t32 w =>
((V pg (Instr.build ty_merkle_span [(0, t26), (1, t29)].toArray) w fun t74 w1 => w1 = w ∧ t74 = t30) ∧ (Ld t27 w fun t73 w1 => w1 = w ∧ t73 = t28) ∧ (Ld t24 w fun t72 w1 => w1 = w ∧ t72 = t25) ∧ (V pg (Instr.build ty_merkle_span [(0, t22), (1, t20)].toArray) w fun t71 w1 => w1 = w ∧ t71 = t23) ∧ (Ld t21 w fun t70 w1 => w1 = w ∧ t70 = t22) ∧ True) ∧ (
 StN t31 t23 2 w fun t33 w =>
((V pg (Instr.build ty_merkle_span [(0, t26), (1, t29)].toArray) w fun t69 w1 => w1 = w ∧ t69 = t30) ∧ (Ld t27 w fun t68 w1 => w1 = w ∧ t68 = t28) ∧ (Ld t24 w fun t67 w1 => w1 = w ∧ t67 = t25) ∧ True) ∧ (
 StN t32 t30 2 w fun t34 w =>
(True) ∧ (
 sh_merkle_Tree_Proof_j1 k1 (T1 0) (T1 1) (T1 6) (T1 7) t20 t31 t32 w K))))) ∧ (
 New [(N 0), (N 0)] ty_merkle_span w fun t80 w =>
((V pg (Instr.build ty_merkle_span [(0, t26), (1, t29)].toArray) w fun t96 w1 => w1 = w ∧ t96 = t30) ∧ (Ld t27 w fun t95 w1 => w1 = w ∧ t95 = t28) ∧ (Ld t24 w fun t94 w1 => w1 = w ∧ t94 = t25) ∧ (V pg (Instr.build ty_merkle_span [(0, t22), (1, t20)].toArray) w fun t93 w1 => w1 = w ∧ t93 = t23) ∧ (Ld t21 w fun t92 w1 => w1 = w ∧ t92 = t22) ∧ True) ∧ (
 New [(N 0), (N 0)] ty_merkle_span w fun t81 w =>
((V pg (Instr.build ty_merkle_span [(0, t26), (1, t29)].toArray) w fun t91 w1 => w1 = w ∧ t91 = t30) ∧ (Ld t27 w fun t90 w1 => w1 = w ∧ t90 = t28) ∧ (Ld t24 w fun t89 w1 => w1 = w ∧ t89 = t25) ∧ (V pg (Instr.build ty_merkle_span [(0, t22), (1, t20)].toArray) w fun t88 w1 => w1 = w ∧ t88 = t23) ∧ (Ld t21 w fun t87 w1 => w1 = w ∧ t87 = t22) ∧ True) ∧ (
 StN t81 t23 2 w fun t82 w =>
((V pg (Instr.build ty_merkle_span [(0, t26), (1, t29)].toArray) w fun t86 w1 => w1 = w ∧ t86 = t30) ∧ (Ld t27 w fun t85 w1 => w1 = w ∧ t85 = t28) ∧ (Ld t24 w fun t84 w1 => w1 = w ∧ t84 = t25) ∧ True) ∧ (
 StN t80 t30 2 w fun t83 w =>
(True) ∧ (
 sh_merkle_Tree_Proof_j1 k1 (T1 0) (T1 1) (T1 6) (T1 7) t20 t81 t80 w K))))))))))) (
 K (.tuple #[(T1 6), .nilIface]) w)) w)))
theorem ln_merkle_Tree_Proof {a0 a1 : Value} {w : World} {K : Value → World → Prop} (h : sh_merkle_Tree_Proof a0 a1 w K) : CallF pg n_merkle_Tree_Proof [a0, a1] w K :=
  callF_eq (draw_sound follows) (lvOf [(122, [0, 1, 6, 7])]) (n := 81) (rs := [.tmp 4, .tmp 5]) (c := bodyOf Tryz.f102) (S := sh_merkle_Tree_Proof a0 a1 w K) Tryz.func102 (by kernel_rfl) (by kernel_rfl) (by kernel_rfl) (by kernel_rfl) (by kernel_rfl) (by kernel_rfl) h
/-! 234 lading/merkle.sides -/
def sh_merkle_sides (a0 : Value) (a1 : Value) (w : World) (K : Value → World → Prop) : Prop :=
 LoopV [0, 1, 5] [a0, a1, (.slice none 0 0)] (fun k1 T1 w =>
 Bin .gtr .i64 (T1 1) (N 1) fun t1 =>
 IfV t1 (
 CallF pg n_merkle_split [(T1 1)] w fun t2 w =>
 Bin .lss .i64 (T1 0) t2 fun t3 =>
 IfV t3 (
 V pg (Instr.buildSlice ty_s_bool 1 [(0, (.bool true))].toArray) w fun t4 w =>
 V pg (Builtin.append_ #[ty_s_bool, ty_s_bool] ty_s_bool [(T1 5), t4].toArray) w fun t5 w =>
 k1 [(T1 0), t2, t5] w) (
 V pg (Instr.buildSlice ty_s_bool 1 [(0, (.bool false))].toArray) w fun t6 w =>
 V pg (Builtin.append_ #[ty_s_bool, ty_s_bool] ty_s_bool [(T1 5), t6].toArray) w fun t7 w =>
 Bin .sub .i64 (T1 0) t2 fun t8 =>
 Bin .sub .i64 (T1 1) t2 fun t9 =>
 k1 [t8, t9, t7] w)) (
 K (T1 5) w)) w
theorem ln_merkle_sides {a0 a1 : Value} {w : World} {K : Value → World → Prop} (h : sh_merkle_sides a0 a1 w K) : CallF pg n_merkle_sides [a0, a1] w K :=
  callF_eq (draw_sound follows) (lvOf [(28, [0, 1, 5])]) (n := 28) (rs := [.tmp 4]) (c := bodyOf Tryz.f234) (S := sh_merkle_sides a0 a1 w K) Tryz.func234 (by kernel_rfl) (by kernel_rfl) (by kernel_rfl) (by kernel_rfl) (by kernel_rfl) (by kernel_rfl) h
/-! 233 lading/merkle.there -/
def sh_merkle_there (a0 : Value) (a1 : Value) (w : World) (K : Value → World → Prop) : Prop :=
 Bin .geq .i64 a0 (N 0) fun t1 =>
 IfV t1 (
 Bin .lss .i64 a0 a1 fun t2 =>
 IfV t2 (
 Bin .leq .i64 a1 (N 1048576) fun t3 =>
 K t3 w) (
 K (.bool false) w)) (
 K (.bool false) w)
theorem ln_merkle_there {a0 a1 : Value} {w : World} {K : Value → World → Prop} (h : sh_merkle_there a0 a1 w K) : CallF pg n_merkle_there [a0, a1] w K :=
  callF_eq (draw_sound follows) (lvOf []) (n := 16) (rs := [.tmp 4]) (c := bodyOf Tryz.f233) (S := sh_merkle_there a0 a1 w K) Tryz.func233 (by kernel_rfl) (by kernel_rfl) (by kernel_rfl) (by kernel_rfl) (by kernel_rfl) (by kernel_rfl) h
/-! 204 lading/merkle.Up -/
def sh_merkle_Up (a0 : Value) (a1 : Value) (a2 : Value) (a3 : Value) (w : World) (K : Value → World → Prop) : Prop :=
 CallF pg n_merkle_there [a0, a1] w fun t1 w =>
 NotV t1 fun t2 =>
 IfV t2 (
 K (.tuple #[(Str []), (.iface ty_api_Errno (N 2))]) w) (
 CallF pg n_merkle_sides [a0, a1] w fun t3 w =>
 LenL a3 fun t4 =>
 LenL t3 fun t5 =>
 Bin .neq .i64 t4 t5 fun t6 =>
 IfV t6 (
 K (.tuple #[(Str []), (.iface ty_api_Errno (N 11))]) w) (
 LenS a2 fun t7 =>
 Bin .neq .i64 t7 (N 32) fun t8 =>
 IfV t8 (
 K (.tuple #[(Str []), (.iface ty_api_Errno (N 11))]) w) (
 LenL a3 fun t9 =>
 LoopV [10, 11, 34, 35, 36] [t3, a2, a3, t9, (N 0)] (fun k1 T1 w =>
 Bin .lss .i64 (T1 36) (T1 35) fun t10 =>
 IfV t10 (
 IxS (T1 34) (T1 36) 1 fun t11 =>
 Ld t11 w fun t12 w =>
 LenS t12 fun t13 =>
 Bin .neq .i64 t13 (N 32) fun t14 =>
 IfV t14 (
 K (.tuple #[(Str []), (.iface ty_api_Errno (N 11))]) w) (
 LenL (T1 10) fun t15 =>
 Bin .sub .i64 t15 (N 1) fun t16 =>
 Bin .sub .i64 t16 (T1 36) fun t17 =>
 IxS (T1 10) t17 1 fun t18 =>
 Ld t18 w fun t19 w =>
 IfV t19 (
 CallF pg n_merkle_Node [(T1 11), t12] w fun t20 w =>
 Bin .add .i64 (T1 36) (N 1) fun t21 =>
 k1 [(T1 10), t20, (T1 34), (T1 35), t21] w) (
 CallF pg n_merkle_Node [t12, (T1 11)] w fun t22 w =>
 Bin .add .i64 (T1 36) (N 1) fun t23 =>
 k1 [(T1 10), t22, (T1 34), (T1 35), t23] w))) (
 K (.tuple #[(T1 11), .nilIface]) w)) w)))
theorem ln_merkle_Up {a0 a1 a2 a3 : Value} {w : World} {K : Value → World → Prop} (h : sh_merkle_Up a0 a1 a2 a3 w K) : CallF pg n_merkle_Up [a0, a1, a2, a3] w K :=
  callF_eq (draw_sound follows) (lvOf [(506, [10, 11, 34, 35, 36])]) (n := 63) (rs := [.tmp 8, .tmp 9]) (c := bodyOf Tryz.f204) (S := sh_merkle_Up a0 a1 a2 a3 w K) Tryz.func204 (by kernel_rfl) (by kernel_rfl) (by kernel_rfl) (by kernel_rfl) (by kernel_rfl) (by kernel_rfl) h
/-! 149 lading/merkle.Check -/
def sh_merkle_Check (a0 : Value) (a1 : Value) (a2 : Value) (a3 : Value) (a4 : Value) (w : World) (K : Value → World → Prop) : Prop :=
 CallF pg n_merkle_Leaf [a3] w fun t1 w =>
 CallF pg n_merkle_Up [a1, a2, t1, a4] w fun t2 w =>
 Ext t2 0 fun t3 =>
 Ext t2 1 fun t4 =>
 NeNil .iface t4 fun t5 =>
 IfV t5 (
 K t4 w) (
 BinS .neq t3 a0 fun t6 =>
 IfV t6 (
 V pg (Instr.build ty_api_Fault [(0, a1), (1, (.iface ty_api_Errno (N 11)))].toArray) w fun t7 w =>
 K (.iface ty_api_Fault t7) w) (
 K .nilIface w))
theorem ln_merkle_Check {a0 a1 a2 a3 a4 : Value} {w : World} {K : Value → World → Prop} (h : sh_merkle_Check a0 a1 a2 a3 a4 w K) : CallF pg n_merkle_Check [a0, a1, a2, a3, a4] w K :=
  callF_eq (draw_sound follows) (lvOf []) (n := 34) (rs := [.tmp 10]) (c := bodyOf Tryz.f149) (S := sh_merkle_Check a0 a1 a2 a3 a4 w K) Tryz.func149 (by kernel_rfl) (by kernel_rfl) (by kernel_rfl) (by kernel_rfl) (by kernel_rfl) (by kernel_rfl) h
end Go.Proofs.Tryz

