/- Part of a proof (its text FormsA): what is proved stands in the text Card. -/
import Derived.Test.YtfefpbfnmfebgaaGreatDoorBase
set_option linter.all false
namespace Go.Proofs.Tryz
open Go Go.Lad
set_option autoImplicit false
set_option linter.unusedVariables false
set_option maxRecDepth 100000
/-! 229 (*strings.Builder).copyCheck -/
def sh_strings_Builder_copyCheck (a0 : Value) (w : World) (K : Value → World → Prop) : Prop :=
 NilCk a0 fun t1 =>
 FA t1 0 fun t2 =>
 Ld t2 w fun t3 w =>
 EqNil .ptr t3 fun t4 =>
 IfV t4 (
 V pg (convert ty_p_strings_Builder ty_unsafe_Pointer a0) w fun t5 w =>
 CallX pg n_internal_abi_NoEscape [t5] w fun t6 w =>
 V pg (convert ty_unsafe_Pointer ty_p_strings_Builder t6) w fun t7 w =>
 NilCk a0 fun t8 =>
 FA t8 0 fun t9 =>
 St t9 t7 w fun t10 w =>
 K (.tuple #[]) w) (
 NilCk a0 fun t11 =>
 FA t11 0 fun t12 =>
 Ld t12 w fun t13 w =>
 V pg (do eqGuard .neq ty_p_strings_Builder (.tmp 17) (.tmp 18) t13 a0; binOp .neq ty_p_strings_Builder t13 a0) w fun t14 w =>
 IfV t14 (
 False) (
 K (.tuple #[]) w))
theorem ln_strings_Builder_copyCheck {a0 : Value} {w : World} {K : Value → World → Prop} (h : sh_strings_Builder_copyCheck a0 w K) : CallF pg n_strings_Builder_copyCheck [a0] w K :=
  callF_eq (draw_sound follows) (lvOf []) (n := 20) (rs := []) (c := bodyOf Tryz.f229) (S := sh_strings_Builder_copyCheck a0 w K) Tryz.func229 (by kernel_rfl) (by kernel_rfl) (by kernel_rfl) (by kernel_rfl) (by kernel_rfl) (by kernel_rfl) h
/-! 196 (*strings.Builder).WriteString -/
def sh_strings_Builder_WriteString (a0 : Value) (a1 : Value) (w : World) (K : Value → World → Prop) : Prop :=
 CallF pg n_strings_Builder_copyCheck [a0] w fun t1 w =>
 NilCk a0 fun t2 =>
 FA t2 1 fun t3 =>
 Ld t3 w fun t4 w =>
 V pg (Builtin.append_ #[ty_s_uint8, 9] ty_s_uint8 [t4, a1].toArray) w fun t5 w =>
 NilCk a0 fun t6 =>
 FA t6 1 fun t7 =>
 St t7 t5 w fun t8 w =>
 LenS a1 fun t9 =>
 K (.tuple #[t9, .nilIface]) w
theorem ln_strings_Builder_WriteString {a0 a1 : Value} {w : World} {K : Value → World → Prop} (h : sh_strings_Builder_WriteString a0 a1 w K) : CallF pg n_strings_Builder_WriteString [a0, a1] w K :=
  callF_eq (draw_sound follows) (lvOf []) (n := 19) (rs := [.tmp 4, .tmp 5]) (c := bodyOf Tryz.f196) (S := sh_strings_Builder_WriteString a0 a1 w K) Tryz.func196 (by kernel_rfl) (by kernel_rfl) (by kernel_rfl) (by kernel_rfl) (by kernel_rfl) (by kernel_rfl) h
end Go.Proofs.Tryz

namespace Go.Proofs.Tryz
open Go Go.Lad
set_option autoImplicit false
set_option linter.unusedVariables false
set_option maxRecDepth 100000
/-! 226 (*strings.Builder).Len -/
def sh_strings_Builder_Len (a0 : Value) (w : World) (K : Value → World → Prop) : Prop :=
 NilCk a0 fun t1 =>
 FA t1 1 fun t2 =>
 Ld t2 w fun t3 w =>
 LenL t3 fun t4 =>
 K t4 w
theorem ln_strings_Builder_Len {a0 : Value} {w : World} {K : Value → World → Prop} (h : sh_strings_Builder_Len a0 w K) : CallF pg n_strings_Builder_Len [a0] w K :=
  callF_eq (draw_sound follows) (lvOf []) (n := 8) (rs := [.tmp 2]) (c := bodyOf Tryz.f226) (S := sh_strings_Builder_Len a0 w K) Tryz.func226 (by kernel_rfl) (by kernel_rfl) (by kernel_rfl) (by kernel_rfl) (by kernel_rfl) (by kernel_rfl) h
/-! 197 (*strings.Builder).String -/
def sh_strings_Builder_String (a0 : Value) (w : World) (K : Value → World → Prop) : Prop :=
 Drew w fun w =>
 NilCk a0 fun t1 =>
 FA t1 1 fun t2 =>
 Ld t2 w fun t3 w1 =>
(w1 = w) ∧ (
 NilCk a0 fun t4 =>
 FA t4 1 fun t5 =>
 Ld t5 w fun t6 w1 =>
(w1 = w) ∧ (
 LenL t6 fun t7 =>
 V pg (Builtin.unsafeSliceData_ #[ty_s_uint8] ty_p_uint8 [t3].toArray) w fun t8 w =>
((Ld t5 w fun t10 w1 => w1 = w ∧ t10 = t6) ∧ True) ∧ (
 V pg (Builtin.unsafeString_ #[ty_p_uint8, 3] 9 [t8, t7].toArray) w fun t9 w =>
(True) ∧ (
 K t9 w))))
theorem ln_strings_Builder_String {a0 : Value} {w : World} {K : Value → World → Prop} (h : sh_strings_Builder_String a0 w K) : CallF pg n_strings_Builder_String [a0] w K :=
  callF_eq (draw_sound follows) (lvOf []) (n := 14) (rs := [.tmp 2]) (c := bodyOf Tryz.f197) (S := sh_strings_Builder_String a0 w K) Tryz.func197 (by kernel_rfl) (by kernel_rfl) (by kernel_rfl) (by kernel_rfl) (by kernel_rfl) (by kernel_rfl) h
end Go.Proofs.Tryz

namespace Go.Proofs.Tryz
open Go Go.Lad
set_option autoImplicit false
set_option linter.unusedVariables false
set_option maxRecDepth 100000
/-! 224 cmp.Or[int] -/
def sh_cmp_Or_int (a0 : Value) (w : World) (K : Value → World → Prop) : Prop :=
 LenL a0 fun t1 =>
 LoopV [3, 6, 7, 8] [(N 0), a0, t1, (N 0)] (fun k1 T1 w =>
 Bin .lss .i64 (T1 8) (T1 7) fun t2 =>
 IfV t2 (
 IxS (T1 6) (T1 8) 1 fun t3 =>
 Ld t3 w fun t4 w =>
 Bin .neq .i64 t4 (T1 3) fun t5 =>
 IfV t5 (
 K t4 w) (
 Bin .add .i64 (T1 8) (N 1) fun t6 =>
 k1 [(T1 3), (T1 6), (T1 7), t6] w)) (
 K (T1 3) w)) w
theorem ln_cmp_Or_int {a0 : Value} {w : World} {K : Value → World → Prop} (h : sh_cmp_Or_int a0 w K) : CallF pg n_cmp_Or_int [a0] w K :=
  callF_eq (draw_sound follows) (lvOf [(58, [3, 6, 7, 8])]) (n := 18) (rs := [.tmp 2]) (c := bodyOf Tryz.f224) (S := sh_cmp_Or_int a0 w K) Tryz.func224 (by kernel_rfl) (by kernel_rfl) (by kernel_rfl) (by kernel_rfl) (by kernel_rfl) (by kernel_rfl) h
/-! 225 cmp.Compare[int] -/
def sh_cmp_Compare_int (a0 : Value) (a1 : Value) (w : World) (K : Value → World → Prop) : Prop :=
 CallF pg n_cmp_isNaN_int [a0] w fun t1 w =>
 CallF pg n_cmp_isNaN_int [a1] w fun t2 w =>
 IfV t1 (
 IfV t2 (
 K (N 0) w) (
 K (.int .i64 (-1)) w)) (
 IfV t2 (
 K (N 1) w) (
 Bin .lss .i64 a0 a1 fun t3 =>
 IfV t3 (
 K (.int .i64 (-1)) w) (
 Bin .gtr .i64 a0 a1 fun t4 =>
 IfV t4 (
 K (N 1) w) (
 K (N 0) w))))
theorem ln_cmp_Compare_int {a0 a1 : Value} {w : World} {K : Value → World → Prop} (h : sh_cmp_Compare_int a0 a1 w K) : CallF pg n_cmp_Compare_int [a0, a1] w K :=
  callF_eq (draw_sound follows) (lvOf []) (n := 20) (rs := [.tmp 4]) (c := bodyOf Tryz.f225) (S := sh_cmp_Compare_int a0 a1 w K) Tryz.func225 (by kernel_rfl) (by kernel_rfl) (by kernel_rfl) (by kernel_rfl) (by kernel_rfl) (by kernel_rfl) h
/-! 212 cmp.isNaN[int] -/
def sh_cmp_isNaN_int (a0 : Value) (w : World) (K : Value → World → Prop) : Prop :=
 Bin .neq .i64 a0 a0 fun t1 =>
 K t1 w
theorem ln_cmp_isNaN_int {a0 : Value} {w : World} {K : Value → World → Prop} (h : sh_cmp_isNaN_int a0 w K) : CallF pg n_cmp_isNaN_int [a0] w K :=
  callF_eq (draw_sound follows) (lvOf []) (n := 6) (rs := [.tmp 2]) (c := bodyOf Tryz.f212) (S := sh_cmp_isNaN_int a0 w K) Tryz.func212 (by kernel_rfl) (by kernel_rfl) (by kernel_rfl) (by kernel_rfl) (by kernel_rfl) (by kernel_rfl) h
end Go.Proofs.Tryz

namespace Go.Proofs.Tryz
open Go Go.Lad
set_option autoImplicit false
set_option linter.unusedVariables false
set_option maxRecDepth 100000
/-! 188 lading/edges.Check -/
def sh_edges_Check (a0 : Value) (a1 : Value) (w : World) (K : Value → World → Prop) : Prop :=
 Bin .lss .i64 a0 (N 0) fun t1 =>
 IfV t1 (
 CallF pg n_edges_wrong [(.int .i64 (-1)), (.iface ty_api_Errno (N 10))] w fun t2 w =>
 K t2 w) (
 Bin .gtr .i64 a0 (N 4096) fun t3 =>
 IfV t3 (
 CallF pg n_edges_wrong [(.int .i64 (-1)), (.iface ty_api_Errno (N 10))] w fun t4 w =>
 K t4 w) (
 LenL a1 fun t5 =>
 Bin .gtr .i64 t5 (N 20000) fun t6 =>
 IfV t6 (
 CallF pg n_edges_wrong [(N 20000), (.iface ty_api_Errno (N 10))] w fun t7 w =>
 K t7 w) (
 LenL a1 fun t8 =>
 LoopV [0, 22, 23, 24] [a0, a1, t8, (N 0)] (fun k1 T1 w =>
 Bin .lss .i64 (T1 24) (T1 23) fun t9 =>
 IfV t9 (
 IxS (T1 22) (T1 24) 2 fun t10 =>
 LdN t10 2 w fun t11 w =>
 New [(N 0), (N 0)] ty_api_Edge w fun t12 w =>
 StN t12 t11 2 w fun t13 w =>
 FA t12 0 fun t14 =>
 Ld t14 w fun t15 w =>
 FA t12 1 fun t16 =>
 Ld t16 w fun t17 w =>
 V pg (Builtin.min_ #[3, 3] 3 [t15, t17].toArray) w fun t18 w =>
 Bin .lss .i64 t18 (N 0) fun t19 =>
 IfV t19 (
 CallF pg n_edges_wrong [(T1 24), (.iface ty_api_Errno (N 10))] w fun t20 w =>
 K t20 w) (
 FA t12 0 fun t21 =>
 Ld t21 w fun t22 w =>
 FA t12 1 fun t23 =>
 Ld t23 w fun t24 w =>
 V pg (Builtin.max_ #[3, 3] 3 [t22, t24].toArray) w fun t25 w =>
 Bin .geq .i64 t25 (T1 0) fun t26 =>
 IfV t26 (
 CallF pg n_edges_wrong [(T1 24), (.iface ty_api_Errno (N 10))] w fun t27 w =>
 K t27 w) (
 Bin .add .i64 (T1 24) (N 1) fun t28 =>
 k1 [(T1 0), (T1 22), (T1 23), t28] w))) (
 K .nilIface w)) w)))
theorem ln_edges_Check {a0 a1 : Value} {w : World} {K : Value → World → Prop} (h : sh_edges_Check a0 a1 w K) : CallF pg n_edges_Check [a0, a1] w K :=
  callF_eq (draw_sound follows) (lvOf [(58, [0, 22, 23, 24])]) (n := 48) (rs := [.tmp 4]) (c := bodyOf Tryz.f188) (S := sh_edges_Check a0 a1 w K) Tryz.func188 (by kernel_rfl) (by kernel_rfl) (by kernel_rfl) (by kernel_rfl) (by kernel_rfl) (by kernel_rfl) h
/-! 222 lading/edges.wrong -/
def sh_edges_wrong (a0 : Value) (a1 : Value) (w : World) (K : Value → World → Prop) : Prop :=
 V pg (Instr.build ty_api_Fault [(0, a0), (1, a1)].toArray) w fun t1 w =>
 K (.iface ty_api_Fault t1) w
theorem ln_edges_wrong {a0 a1 : Value} {w : World} {K : Value → World → Prop} (h : sh_edges_wrong a0 a1 w K) : CallF pg n_edges_wrong [a0, a1] w K :=
  callF_eq (draw_sound follows) (lvOf []) (n := 9) (rs := [.tmp 4]) (c := bodyOf Tryz.f222) (S := sh_edges_wrong a0 a1 w K) Tryz.func222 (by kernel_rfl) (by kernel_rfl) (by kernel_rfl) (by kernel_rfl) (by kernel_rfl) (by kernel_rfl) h
/-! 191 lading/edges.order -/
def sh_edges_order (a0 : Value) (a1 : Value) (w : World) (K : Value → World → Prop) : Prop :=
 New (Value.cells a0).toList ty_api_Edge w fun t1 w =>
 New (Value.cells a1).toList ty_api_Edge w fun t2 w =>
 Drew w fun w =>
 FA t1 0 fun t3 =>
 Ld t3 w fun t4 w1 =>
(w1 = w) ∧ (
 FA t2 0 fun t5 =>
 Ld t5 w fun t6 w1 =>
(w1 = w) ∧ (
 FA t1 1 fun t7 =>
 Ld t7 w fun t8 w1 =>
(w1 = w) ∧ (
 FA t2 1 fun t9 =>
 Ld t9 w fun t10 w1 =>
(w1 = w) ∧ (
 CallF pg n_cmp_Compare_int [t4, t6] w fun t11 w =>
((Ld t9 w fun t16 w1 => w1 = w ∧ t16 = t10) ∧ (Ld t7 w fun t15 w1 => w1 = w ∧ t15 = t8) ∧ True) ∧ (
 CallF pg n_cmp_Compare_int [t8, t10] w fun t12 w =>
(True) ∧ (
 V pg (Instr.buildSlice ty_s_int 2 [(0, t11), (1, t12)].toArray) w fun t13 w =>
(True) ∧ (
 CallF pg n_cmp_Or_int [t13] w fun t14 w =>
(True) ∧ (
 K t14 w))))))))
theorem ln_edges_order {a0 a1 : Value} {w : World} {K : Value → World → Prop} (h : sh_edges_order a0 a1 w K) : CallF pg n_edges_order [a0, a1] w K :=
  callF_eq (draw_sound follows) (lvOf []) (n := 17) (rs := [.tmp 4]) (c := bodyOf Tryz.f191) (S := sh_edges_order a0 a1 w K) Tryz.func191 (by kernel_rfl) (by kernel_rfl) (by kernel_rfl) (by kernel_rfl) (by kernel_rfl) (by kernel_rfl) h
end Go.Proofs.Tryz

namespace Go.Proofs.Tryz
open Go Go.Lad
set_option autoImplicit false
set_option linter.unusedVariables false
set_option maxRecDepth 100000
/-! 238 slices.insertionSortCmpFunc[lading/api.Edge] -/
def sh_slices_insertionSortCmpFunc_Edge (a0 : Value) (a1 : Value) (a2 : Value) (a3 : Value) (w : World) (K : Value → World → Prop) : Prop :=
 Bin .add .i64 a1 (N 1) fun t1 =>
 LoopV [0, 1, 2, 3, 8] [a0, a1, a2, a3, t1] (fun k1 T1 w =>
 Bin .lss .i64 (T1 8) (T1 2) fun t2 =>
 IfV t2 (
 LoopV [0, 1, 2, 3, 8, 9] [(T1 0), (T1 1), (T1 2), (T1 3), (T1 8), (T1 8)] (fun k2 T2 w =>
 Drew w fun w =>
 Bin .gtr .i64 (T2 9) (T2 1) fun t3 =>
 IfV t3 (
 IxS (T2 0) (T2 9) 2 fun t4 =>
 LdN t4 2 w fun t5 w1 =>
(w1 = w) ∧ (
 Bin .sub .i64 (T2 9) (N 1) fun t6 =>
 IxS (T2 0) t6 2 fun t7 =>
 LdN t7 2 w fun t8 w1 =>
(w1 = w) ∧ (
 CallV pg (T2 3) [t5, t8] w fun t9 w =>
(True) ∧ (
 Bin .lss .i64 t9 (N 0) fun t10 =>
 IfV t10 (
 Drew w fun w =>
 Bin .sub .i64 (T2 9) (N 1) fun t11 =>
 Bin .sub .i64 (T2 9) (N 1) fun t12 =>
 IxS (T2 0) t12 2 fun t13 =>
 LdN t13 2 w fun t14 w1 =>
(w1 = w) ∧ (
 IxS (T2 0) (T2 9) 2 fun t15 =>
 LdN t15 2 w fun t16 w1 =>
(w1 = w) ∧ (
 IxS (T2 0) (T2 9) 2 fun t17 =>
 StN t17 t14 2 w fun t18 w =>
(True) ∧ (
 IxS (T2 0) t11 2 fun t19 =>
 StN t19 t16 2 w fun t20 w =>
(True) ∧ (
 Bin .sub .i64 (T2 9) (N 1) fun t21 =>
 k2 [(T2 0), (T2 1), (T2 2), (T2 3), (T2 8), t21] w))))) (
 Bin .add .i64 (T2 8) (N 1) fun t22 =>
 k1 [(T2 0), (T2 1), (T2 2), (T2 3), t22] w))))) (
 Bin .add .i64 (T2 8) (N 1) fun t23 =>
 k1 [(T2 0), (T2 1), (T2 2), (T2 3), t23] w)) w) (
 K (.tuple #[]) w)) w
theorem ln_slices_insertionSortCmpFunc_Edge {a0 a1 a2 a3 : Value} {w : World} {K : Value → World → Prop} (h : sh_slices_insertionSortCmpFunc_Edge a0 a1 a2 a3 w K) : CallF pg n_slices_insertionSortCmpFunc_Edge [a0, a1, a2, a3] w K :=
  callF_eq (draw_sound follows) (lvOf [(6, [0, 1, 2, 3, 8]), (402, [0, 1, 2, 3, 8, 9])]) (n := 53) (rs := []) (c := bodyOf Tryz.f238) (S := sh_slices_insertionSortCmpFunc_Edge a0 a1 a2 a3 w K) Tryz.func238 (by kernel_rfl) (by kernel_rfl) (by kernel_rfl) (by kernel_rfl) (by kernel_rfl) (by kernel_rfl) h
/-! 223 slices.pdqsortCmpFunc[lading/api.Edge] -/
def sh_slices_pdqsortCmpFunc_Edge_j4 (k1 : List Value → World → Prop) (x0 : Value) (x1 : Value) (x2 : Value) (x3 : Value) (x4 : Value) (x12 : Value) (x13 : Value) (w : World) (K : Value → World → Prop) : Prop :=
 CallF pg n_slices_partitionCmpFunc_Edge [x0, x1, x2, x13, x4] w fun t29 w =>
 Ext t29 0 fun t30 =>
 Ext t29 1 fun t31 =>
 Bin .sub .i64 t30 x1 fun t32 =>
 Bin .sub .i64 x2 t30 fun t33 =>
 Bin .quo .i64 x12 (N 8) fun t34 =>
 Bin .lss .i64 t32 t33 fun t35 =>
 IfV t35 (
 Bin .geq .i64 t32 t34 fun t36 =>
 CallF pg n_slices_pdqsortCmpFunc_Edge [x0, x1, t30, x3, x4] w fun t37 w =>
 Bin .add .i64 t30 (N 1) fun t38 =>
 k1 [x0, t38, x2, x3, x4, t36, t31] w) (
 Bin .geq .i64 t33 t34 fun t39 =>
 Bin .add .i64 t30 (N 1) fun t40 =>
 CallF pg n_slices_pdqsortCmpFunc_Edge [x0, t40, x2, x3, x4] w fun t41 w =>
 k1 [x0, x1, t30, x3, x4, t39, t31] w)
def sh_slices_pdqsortCmpFunc_Edge_j3 (k1 : List Value → World → Prop) (x0 : Value) (x1 : Value) (x2 : Value) (x3 : Value) (x4 : Value) (x10 : Value) (x11 : Value) (x12 : Value) (x13 : Value) (w : World) (K : Value → World → Prop) : Prop :=
 Drew w fun w =>
 Bin .gtr .i64 x1 (N 0) fun t19 =>
 IfV t19 (
 Bin .sub .i64 x1 (N 1) fun t20 =>
 IxS x0 t20 2 fun t21 =>
 LdN t21 2 w fun t22 w1 =>
(w1 = w) ∧ (
 IxS x0 x13 2 fun t23 =>
 LdN t23 2 w fun t24 w1 =>
(w1 = w) ∧ (
 CallV pg x4 [t22, t24] w fun t25 w =>
(True) ∧ (
 Bin .lss .i64 t25 (N 0) fun t26 =>
 NotV t26 fun t27 =>
 IfV t27 (
 CallF pg n_slices_partitionEqualCmpFunc_Edge [x0, x1, x2, x13, x4] w fun t28 w =>
 k1 [x0, t28, x2, x3, x4, x10, x11] w) (
 sh_slices_pdqsortCmpFunc_Edge_j4 k1 x0 x1 x2 x3 x4 x12 x13 w K))))) (
 sh_slices_pdqsortCmpFunc_Edge_j4 k1 x0 x1 x2 x3 x4 x12 x13 w K)
def sh_slices_pdqsortCmpFunc_Edge_j2 (k1 : List Value → World → Prop) (x0 : Value) (x1 : Value) (x2 : Value) (x3 : Value) (x4 : Value) (x10 : Value) (x11 : Value) (x12 : Value) (x13 : Value) (x14 : Value) (w : World) (K : Value → World → Prop) : Prop :=
 IfV x10 (
 IfV x11 (
 Bin .eql .i64 x14 (N 1) fun t17 =>
 IfV t17 (
 CallF pg n_slices_partialInsertionSortCmpFunc_Edge [x0, x1, x2, x4] w fun t18 w =>
 IfV t18 (
 K (.tuple #[]) w) (
 sh_slices_pdqsortCmpFunc_Edge_j3 k1 x0 x1 x2 x3 x4 x10 x11 x12 x13 w K)) (
 sh_slices_pdqsortCmpFunc_Edge_j3 k1 x0 x1 x2 x3 x4 x10 x11 x12 x13 w K)) (
 sh_slices_pdqsortCmpFunc_Edge_j3 k1 x0 x1 x2 x3 x4 x10 x11 x12 x13 w K)) (
 sh_slices_pdqsortCmpFunc_Edge_j3 k1 x0 x1 x2 x3 x4 x10 x11 x12 x13 w K)
def sh_slices_pdqsortCmpFunc_Edge_j1 (k1 : List Value → World → Prop) (x0 : Value) (x1 : Value) (x2 : Value) (x3 : Value) (x4 : Value) (x10 : Value) (x11 : Value) (x12 : Value) (w : World) (K : Value → World → Prop) : Prop :=
 CallF pg n_slices_choosePivotCmpFunc_Edge [x0, x1, x2, x4] w fun t9 w =>
 Ext t9 0 fun t10 =>
 Ext t9 1 fun t11 =>
 Bin .eql .i64 t11 (N 2) fun t12 =>
 IfV t12 (
 CallF pg n_slices_reverseRangeCmpFunc_Edge [x0, x1, x2, x4] w fun t13 w =>
 Bin .sub .i64 x2 (N 1) fun t14 =>
 Bin .sub .i64 t10 x1 fun t15 =>
 Bin .sub .i64 t14 t15 fun t16 =>
 sh_slices_pdqsortCmpFunc_Edge_j2 k1 x0 x1 x2 x3 x4 x10 x11 x12 t16 (N 1) w K) (
 sh_slices_pdqsortCmpFunc_Edge_j2 k1 x0 x1 x2 x3 x4 x10 x11 x12 t10 t11 w K)
def sh_slices_pdqsortCmpFunc_Edge (a0 : Value) (a1 : Value) (a2 : Value) (a3 : Value) (a4 : Value) (w : World) (K : Value → World → Prop) : Prop :=
 LoopV [0, 1, 2, 3, 4, 10, 11] [a0, a1, a2, a3, a4, (.bool true), (.bool true)] (fun k1 T1 w =>
 Bin .sub .i64 (T1 2) (T1 1) fun t1 =>
 Bin .leq .i64 t1 (N 12) fun t2 =>
 IfV t2 (
 CallF pg n_slices_insertionSortCmpFunc_Edge [(T1 0), (T1 1), (T1 2), (T1 4)] w fun t3 w =>
 K (.tuple #[]) w) (
 Bin .eql .i64 (T1 3) (N 0) fun t4 =>
 IfV t4 (
 CallF pg n_slices_heapSortCmpFunc_Edge [(T1 0), (T1 1), (T1 2), (T1 4)] w fun t5 w =>
 K (.tuple #[]) w) (
 NotV (T1 10) fun t6 =>
 IfV t6 (
 CallF pg n_slices_breakPatternsCmpFunc_Edge [(T1 0), (T1 1), (T1 2), (T1 4)] w fun t7 w =>
 Bin .sub .i64 (T1 3) (N 1) fun t8 =>
 sh_slices_pdqsortCmpFunc_Edge_j1 k1 (T1 0) (T1 1) (T1 2) t8 (T1 4) (T1 10) (T1 11) t1 w K) (
 sh_slices_pdqsortCmpFunc_Edge_j1 k1 (T1 0) (T1 1) (T1 2) (T1 3) (T1 4) (T1 10) (T1 11) t1 w K)))) w
theorem ln_slices_pdqsortCmpFunc_Edge {a0 a1 a2 a3 a4 : Value} {w : World} {K : Value → World → Prop} (h : sh_slices_pdqsortCmpFunc_Edge a0 a1 a2 a3 a4 w K) : CallF pg n_slices_pdqsortCmpFunc_Edge [a0, a1, a2, a3, a4] w K :=
  callF_eq (draw_sound follows) (lvOf [(14, [0, 1, 2, 3, 4, 10, 11])]) (n := 148) (rs := []) (c := bodyOf Tryz.f223) (S := sh_slices_pdqsortCmpFunc_Edge a0 a1 a2 a3 a4 w K) Tryz.func223 (by kernel_rfl) (by kernel_rfl) (by kernel_rfl) (by kernel_rfl) (by kernel_rfl) (by kernel_rfl) h
end Go.Proofs.Tryz

namespace Go.Proofs.Tryz
open Go Go.Lad
set_option autoImplicit false
set_option linter.unusedVariables false
set_option maxRecDepth 100000
/-! 137 lading/block.Count -/
def sh_block_Count (a0 : Value) (w : World) (K : Value → World → Prop) : Prop :=
 Bin .lss .i64 a0 (N 1) fun t1 =>
 IfV t1 (
 K (N 0) w) (
 Bin .sub .i64 a0 (N 1) fun t2 =>
 Bin .quo .i64 t2 (N 64) fun t3 =>
 Bin .add .i64 t3 (N 1) fun t4 =>
 K t4 w)
theorem ln_block_Count {a0 : Value} {w : World} {K : Value → World → Prop} (h : sh_block_Count a0 w K) : CallF pg n_block_Count [a0] w K :=
  callF_eq (draw_sound follows) (lvOf []) (n := 9) (rs := [.tmp 2]) (c := bodyOf Tryz.f137) (S := sh_block_Count a0 w K) Tryz.func137 (by kernel_rfl) (by kernel_rfl) (by kernel_rfl) (by kernel_rfl) (by kernel_rfl) (by kernel_rfl) h
/-! 138 lading/block.Size -/
def sh_block_Size (a0 : Value) (a1 : Value) (w : World) (K : Value → World → Prop) : Prop :=
 Bin .lss .i64 a1 (N 0) fun t1 =>
 IfV t1 (
 K (N 0) w) (
 CallF pg n_block_Count [a0] w fun t2 w =>
 Bin .geq .i64 a1 t2 fun t3 =>
 IfV t3 (
 K (N 0) w) (
 Bin .mul .i64 a1 (N 64) fun t4 =>
 Bin .sub .i64 a0 t4 fun t5 =>
 V pg (Builtin.min_ #[3, 3] 3 [(N 64), t5].toArray) w fun t6 w =>
 K t6 w))
theorem ln_block_Size {a0 a1 : Value} {w : World} {K : Value → World → Prop} (h : sh_block_Size a0 a1 w K) : CallF pg n_block_Size [a0, a1] w K :=
  callF_eq (draw_sound follows) (lvOf []) (n := 18) (rs := [.tmp 4]) (c := bodyOf Tryz.f138) (S := sh_block_Size a0 a1 w K) Tryz.func138 (by kernel_rfl) (by kernel_rfl) (by kernel_rfl) (by kernel_rfl) (by kernel_rfl) (by kernel_rfl) h
/-! 94 lading/block.Cut -/
def sh_block_Cut (a0 : Value) (w : World) (K : Value → World → Prop) : Prop :=
 CallF pg n_strings_Join [a0, (Str [])] w fun t1 w =>
 LenS t1 fun t2 =>
 CallF pg n_block_Count [t2] w fun t3 w =>
 LoopV [3, 4, 10, 11] [t1, (.slice none 0 0), t3, (N 0)] (fun k1 T1 w =>
 Bin .lss .i64 (T1 11) (T1 10) fun t4 =>
 IfV t4 (
 Bin .mul .i64 (T1 11) (N 64) fun t5 =>
 Bin .mul .i64 (T1 11) (N 64) fun t6 =>
 LenS (T1 3) fun t7 =>
 CallF pg n_block_Size [t7, (T1 11)] w fun t8 w =>
 Bin .add .i64 t6 t8 fun t9 =>
 V pg (Instr.sliceAt 9 (T1 3) (some t5) (some t9) none) w fun t10 w =>
 V pg (Instr.buildSlice ty_s_string 1 [(0, t10)].toArray) w fun t11 w =>
 V pg (Builtin.append_ #[ty_s_string, ty_s_string] ty_s_string [(T1 4), t11].toArray) w fun t12 w =>
 Bin .add .i64 (T1 11) (N 1) fun t13 =>
 k1 [(T1 3), t12, (T1 10), t13] w) (
 K (T1 4) w)) w
theorem ln_block_Cut {a0 : Value} {w : World} {K : Value → World → Prop} (h : sh_block_Cut a0 w K) : CallF pg n_block_Cut [a0] w K :=
  callF_eq (draw_sound follows) (lvOf [(122, [3, 4, 10, 11])]) (n := 30) (rs := [.tmp 2]) (c := bodyOf Tryz.f94) (S := sh_block_Cut a0 w K) Tryz.func94 (by kernel_rfl) (by kernel_rfl) (by kernel_rfl) (by kernel_rfl) (by kernel_rfl) (by kernel_rfl) h
/-! 136 strings.Join -/
def sh_strings_Join_j1 (x0 : Value) (x1 : Value) (x5 : Value) (w : World) (K : Value → World → Prop) : Prop :=
 LenL x0 fun t18 =>
 LoopV [0, 1, 5, 39, 40, 41] [x0, x1, x5, x0, t18, (N 0)] (fun k1 T1 w =>
 Bin .lss .i64 (T1 41) (T1 40) fun t19 =>
 IfV t19 (
 IxS (T1 39) (T1 41) 1 fun t20 =>
 Ld t20 w fun t21 w =>
 LenS t21 fun t22 =>
 Bin .sub .i64 (N 9223372036854775807) (T1 5) fun t23 =>
 Bin .gtr .i64 t22 t23 fun t24 =>
 IfV t24 (
 False) (
 LenS t21 fun t25 =>
 Bin .add .i64 (T1 5) t25 fun t26 =>
 Bin .add .i64 (T1 41) (N 1) fun t27 =>
 k1 [(T1 0), (T1 1), t26, (T1 39), (T1 40), t27] w)) (
 New [(.pointer none), (.slice none 0 0)] ty_strings_Builder w fun t28 w =>
 CallF pg n_strings_Builder_Grow [t28, (T1 5)] w fun t29 w =>
 IxS (T1 0) (N 0) 1 fun t30 =>
 Ld t30 w fun t31 w =>
 CallF pg n_strings_Builder_WriteString [t28, t31] w fun t32 w =>
 V pg (Instr.sliceAt ty_s_string (T1 0) (some (N 1)) none none) w fun t33 w =>
 LenL t33 fun t34 =>
 LoopV [1, 8, 63, 64, 65] [(T1 1), t28, t33, t34, (N 0)] (fun k2 T2 w =>
 Bin .lss .i64 (T2 65) (T2 64) fun t35 =>
 IfV t35 (
 IxS (T2 63) (T2 65) 1 fun t36 =>
 Ld t36 w fun t37 w =>
 CallF pg n_strings_Builder_WriteString [(T2 8), (T2 1)] w fun t38 w =>
 CallF pg n_strings_Builder_WriteString [(T2 8), t37] w fun t39 w =>
 Bin .add .i64 (T2 65) (N 1) fun t40 =>
 k2 [(T2 1), (T2 8), (T2 63), (T2 64), t40] w) (
 CallF pg n_strings_Builder_String [(T2 8)] w fun t41 w =>
 K t41 w)) w)) w
def sh_strings_Join (a0 : Value) (a1 : Value) (w : World) (K : Value → World → Prop) : Prop :=
 LenL a0 fun t1 =>
 Bin .eql .i64 t1 (N 0) fun t2 =>
 IfV t2 (
 K (Str []) w) (
 Bin .eql .i64 t1 (N 1) fun t3 =>
 IfV t3 (
 IxS a0 (N 0) 1 fun t4 =>
 Ld t4 w fun t5 w =>
 K t5 w) (
 LenS a1 fun t6 =>
 Bin .gtr .i64 t6 (N 0) fun t7 =>
 IfV t7 (
 LenS a1 fun t8 =>
 LenL a0 fun t9 =>
 Bin .sub .i64 t9 (N 1) fun t10 =>
 Bin .quo .i64 (N 9223372036854775807) t10 fun t11 =>
 Bin .geq .i64 t8 t11 fun t12 =>
 IfV t12 (
 False) (
 LenS a1 fun t13 =>
 LenL a0 fun t14 =>
 Bin .sub .i64 t14 (N 1) fun t15 =>
 Bin .mul .i64 t13 t15 fun t16 =>
 Bin .add .i64 (N 0) t16 fun t17 =>
 sh_strings_Join_j1 a0 a1 t17 w K)) (
 sh_strings_Join_j1 a0 a1 (N 0) w K)))
theorem ln_strings_Join {a0 a1 : Value} {w : World} {K : Value → World → Prop} (h : sh_strings_Join a0 a1 w K) : CallF pg n_strings_Join [a0, a1] w K :=
  callF_eq (draw_sound follows) (lvOf [(250, [0, 1, 5, 39, 40, 41]), (4090, [1, 8, 63, 64, 65])]) (n := 75) (rs := [.tmp 4]) (c := bodyOf Tryz.f136) (S := sh_strings_Join a0 a1 w K) Tryz.func136 (by kernel_rfl) (by kernel_rfl) (by kernel_rfl) (by kernel_rfl) (by kernel_rfl) (by kernel_rfl) h
end Go.Proofs.Tryz

