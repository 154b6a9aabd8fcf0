/- Part of a proof (its text FormsManifest): what is proved stands in the text Card. -/
import Derived.Test.YtfefpbfnmfebgaaGreatDoorBase
set_option linter.all false
namespace Go.Proofs.Tryz
open Go Go.Lad
set_option autoImplicit false
set_option linter.unusedVariables false
set_option maxRecDepth 100000
/-! 51 lading/manifest.Make -/
def sh_manifest_Make (a0 : Value) (a1 : Value) (a2 : Value) (a3 : Value) (w : World) (K : Value → World → Prop) : Prop :=
 Bin .lss .i64 a0 (N 1) fun t1 =>
 IfV t1 (
 K (.tuple #[(.pointer none), (.iface ty_api_Errno (N 13))]) w) (
 Bin .gtr .i64 a0 (N 1099511627776) fun t2 =>
 IfV t2 (
 K (.tuple #[(.pointer none), (.iface ty_api_Errno (N 13))]) w) (
 CallF pg n_csr_Build [a1, a3] w fun t3 w =>
 Ext t3 0 fun t4 =>
 Ext t3 1 fun t5 =>
 NeNil .iface t5 fun t6 =>
 IfV t6 (
 K (.tuple #[(.pointer none), t5]) w) (
 CallF pg n_shard_Split [t4, a2] w fun t7 w =>
 Ext t7 0 fun t8 =>
 Ext t7 1 fun t9 =>
 NeNil .iface t9 fun t10 =>
 IfV t10 (
 K (.tuple #[(.pointer none), t9]) w) (
 CallF pg n_block_Cut [t8] w fun t11 w =>
 LenL t11 fun t12 =>
 Bin .gtr .i64 t12 (N 2048) fun t13 =>
 IfV t13 (
 K (.tuple #[(.pointer none), (.iface ty_api_Errno (N 7))]) w) (
 CallF pg n_shard_Table [a1, t8] w fun t14 w =>
 Ext t14 0 fun t15 =>
 Ext t14 1 fun t16 =>
 NeNil .iface t16 fun t17 =>
 IfV t17 (
 K (.tuple #[(.pointer none), t16]) w) (
 CallF pg n_csr_Csr_Edges [t4] w fun t18 w =>
 LenL t11 fun t19 =>
 CallF pg n_merkle_Root [t11] w fun t20 w =>
 V pg (Instr.build ty_api_Manifest [(0, a0), (1, a1), (2, t18), (3, t15), (4, t19), (5, t20)].toArray) w fun t21 w =>
 New [(N 0), (N 0), (N 0), (.slice none 0 0), (N 0), (Str [])] ty_api_Manifest w fun t22 w =>
 StN t22 t21 6 w fun t23 w =>
 LdN t22 6 w fun t24 w =>
 V pg (Instr.build ty_manifest_Version [(0, t24), (1, t11)].toArray) w fun t25 w =>
 New (Value.cells t25).toList ty_manifest_Version w fun t26 w =>
 K (.tuple #[t26, .nilIface]) w))))))
theorem ln_manifest_Make {a0 a1 a2 a3 : Value} {w : World} {K : Value → World → Prop} (h : sh_manifest_Make a0 a1 a2 a3 w K) : CallF pg n_manifest_Make [a0, a1, a2, a3] w K :=
  callF_eq (draw_sound follows) (lvOf []) (n := 70) (rs := [.tmp 8, .tmp 9]) (c := bodyOf Tryz.f51) (S := sh_manifest_Make a0 a1 a2 a3 w K) Tryz.func51 (by kernel_rfl) (by kernel_rfl) (by kernel_rfl) (by kernel_rfl) (by kernel_rfl) (by kernel_rfl) h
/-! 101 (*lading/manifest.Version).Tree -/
def sh_manifest_Version_Tree (a0 : Value) (w : World) (K : Value → World → Prop) : Prop :=
 EqNil .ptr a0 fun t1 =>
 IfV t1 (
 K (.pointer none) w) (
 NilCk a0 fun t2 =>
 FA t2 6 fun t3 =>
 Ld t3 w fun t4 w =>
 CallF pg n_merkle_New [t4] w fun t5 w =>
 K t5 w)
theorem ln_manifest_Version_Tree {a0 : Value} {w : World} {K : Value → World → Prop} (h : sh_manifest_Version_Tree a0 w K) : CallF pg n_manifest_Version_Tree [a0] w K :=
  callF_eq (draw_sound follows) (lvOf []) (n := 10) (rs := [.tmp 2]) (c := bodyOf Tryz.f101) (S := sh_manifest_Version_Tree a0 w K) Tryz.func101 (by kernel_rfl) (by kernel_rfl) (by kernel_rfl) (by kernel_rfl) (by kernel_rfl) (by kernel_rfl) h
/-! 178 lading/manifest.Total -/
def sh_manifest_Total (a0 : Value) (w : World) (K : Value → World → Prop) : Prop :=
 New (Value.cells a0).toList ty_api_Manifest w fun t1 w =>
 FA t1 3 fun t2 =>
 Ld t2 w fun t3 w =>
 LenL t3 fun t4 =>
 LoopV [3, 7, 8, 9] [(N 0), t3, t4, (N 0)] (fun k1 T1 w =>
 Bin .lss .i64 (T1 9) (T1 8) fun t5 =>
 IfV t5 (
 IxS (T1 7) (T1 9) 2 fun t6 =>
 LdN t6 2 w fun t7 w =>
 New [(N 0), (N 0)] ty_api_Shard w fun t8 w =>
 StN t8 t7 2 w fun t9 w =>
 FA t8 1 fun t10 =>
 Ld t10 w fun t11 w =>
 Bin .add .i64 (T1 3) t11 fun t12 =>
 Bin .add .i64 (T1 9) (N 1) fun t13 =>
 k1 [t12, (T1 7), (T1 8), t13] w) (
 K (T1 3) w)) w
theorem ln_manifest_Total {a0 : Value} {w : World} {K : Value → World → Prop} (h : sh_manifest_Total a0 w K) : CallF pg n_manifest_Total [a0] w K :=
  callF_eq (draw_sound follows) (lvOf [(58, [3, 7, 8, 9])]) (n := 19) (rs := [.tmp 2]) (c := bodyOf Tryz.f178) (S := sh_manifest_Total a0 w K) Tryz.func178 (by kernel_rfl) (by kernel_rfl) (by kernel_rfl) (by kernel_rfl) (by kernel_rfl) (by kernel_rfl) h
/-! 216 lading/manifest.in -/
def sh_manifest_in (a0 : Value) (a1 : Value) (a2 : Value) (w : World) (K : Value → World → Prop) : Prop :=
 Bin .geq .i64 a0 a1 fun t1 =>
 IfV t1 (
 Bin .leq .i64 a0 a2 fun t2 =>
 K t2 w) (
 K (.bool false) w)
theorem ln_manifest_in {a0 a1 a2 : Value} {w : World} {K : Value → World → Prop} (h : sh_manifest_in a0 a1 a2 w K) : CallF pg n_manifest_in [a0, a1, a2] w K :=
  callF_eq (draw_sound follows) (lvOf []) (n := 15) (rs := [.tmp 6]) (c := bodyOf Tryz.f216) (S := sh_manifest_in a0 a1 a2 w K) Tryz.func216 (by kernel_rfl) (by kernel_rfl) (by kernel_rfl) (by kernel_rfl) (by kernel_rfl) (by kernel_rfl) h
/-! 176 lading/manifest.heads -/
def sh_manifest_heads (a0 : Value) (w : World) (K : Value → World → Prop) : Prop :=
 New (Value.cells a0).toList ty_api_Manifest w fun t1 w =>
 FA t1 0 fun t2 =>
 Ld t2 w fun t3 w =>
 CallF pg n_manifest_in [t3, (N 1), (N 1099511627776)] w fun t4 w =>
 NotV t4 fun t5 =>
 IfV t5 (
 K (N 0) w) (
 FA t1 1 fun t6 =>
 Ld t6 w fun t7 w =>
 CallF pg n_manifest_in [t7, (N 0), (N 4096)] w fun t8 w =>
 NotV t8 fun t9 =>
 IfV t9 (
 K (N 1) w) (
 FA t1 2 fun t10 =>
 Ld t10 w fun t11 w =>
 CallF pg n_manifest_in [t11, (N 0), (N 20000)] w fun t12 w =>
 NotV t12 fun t13 =>
 IfV t13 (
 K (N 2) w) (
 FA t1 3 fun t14 =>
 Ld t14 w fun t15 w =>
 LenL t15 fun t16 =>
 Bin .gtr .i64 t16 (N 64) fun t17 =>
 IfV t17 (
 K (N 3) w) (
 FA t1 3 fun t18 =>
 Ld t18 w fun t19 w =>
 LenL t19 fun t20 =>
 Bin .eql .i64 t20 (N 0) fun t21 =>
 FA t1 1 fun t22 =>
 Ld t22 w fun t23 w =>
 Bin .eql .i64 t23 (N 0) fun t24 =>
 V pg (do eqGuard .neq 4 (.tmp 27) (.tmp 30) t21 t24; binOp .neq 4 t21 t24) w fun t25 w =>
 IfV t25 (
 K (N 3) w) (
 K (.int .i64 (-1)) w)))))
theorem ln_manifest_heads {a0 : Value} {w : World} {K : Value → World → Prop} (h : sh_manifest_heads a0 w K) : CallF pg n_manifest_heads [a0] w K :=
  callF_eq (draw_sound follows) (lvOf []) (n := 33) (rs := [.tmp 2]) (c := bodyOf Tryz.f176) (S := sh_manifest_heads a0 w K) Tryz.func176 (by kernel_rfl) (by kernel_rfl) (by kernel_rfl) (by kernel_rfl) (by kernel_rfl) (by kernel_rfl) h
/-! 177 lading/manifest.tables -/
def sh_manifest_tables_j1 (k1 : List Value → World → Prop) (x1 : Value) (x3 : Value) (x4 : Value) (x5 : Value) (x7 : Value) (x8 : Value) (x9 : Value) (w : World) (K : Value → World → Prop) : Prop :=
 NotV x5 fun t27 =>
 IfV t27 (
 Bin .mul .i64 (N 2) x3 fun t28 =>
 Bin .add .i64 (N 4) t28 fun t29 =>
 K t29 w) (
 FA x4 1 fun t30 =>
 Ld t30 w fun t31 w =>
 CallF pg n_manifest_in [t31, (N 3), (N 1048576)] w fun t32 w =>
 NotV t32 fun t33 =>
 IfV t33 (
 Bin .mul .i64 (N 2) x3 fun t34 =>
 Bin .add .i64 (N 5) t34 fun t35 =>
 K t35 w) (
 Bin .add .i64 x9 (N 1) fun t36 =>
 k1 [x1, x7, x8, t36] w))
def sh_manifest_tables (a0 : Value) (w : World) (K : Value → World → Prop) : Prop :=
 New (Value.cells a0).toList ty_api_Manifest w fun t1 w =>
 FA t1 3 fun t2 =>
 Ld t2 w fun t3 w =>
 LenL t3 fun t4 =>
 LoopV [1, 7, 8, 9] [t1, t3, t4, (N 0)] (fun k1 T1 w =>
 Bin .lss .i64 (T1 9) (T1 8) fun t5 =>
 IfV t5 (
 IxS (T1 7) (T1 9) 2 fun t6 =>
 LdN t6 2 w fun t7 w =>
 New [(N 0), (N 0)] ty_api_Shard w fun t8 w =>
 StN t8 t7 2 w fun t9 w =>
 FA t8 0 fun t10 =>
 Ld t10 w fun t11 w =>
 Bin .eql .i64 t11 (N 0) fun t12 =>
 Bin .gtr .i64 (T1 9) (N 0) fun t13 =>
 IfV t13 (
 Drew w fun w =>
 FA t8 0 fun t14 =>
 Ld t14 w fun t15 w1 =>
(w1 = w) ∧ (
 FA (T1 1) 3 fun t16 =>
 Ld t16 w fun t17 w1 =>
(w1 = w) ∧ (
 Bin .sub .i64 (T1 9) (N 1) fun t18 =>
 IxS t17 t18 2 fun t19 =>
 FA t19 0 fun t20 =>
 Ld t20 w fun t21 w1 =>
(w1 = w) ∧ (
 Bin .add .i64 t21 (N 1) fun t22 =>
 FA (T1 1) 1 fun t23 =>
 Ld t23 w fun t24 w1 =>
(w1 = w) ∧ (
 Bin .sub .i64 t24 (N 1) fun t25 =>
 CallF pg n_manifest_in [t15, t22, t25] w fun t26 w =>
(True) ∧ (
 sh_manifest_tables_j1 k1 (T1 1) (T1 9) t8 t26 (T1 7) (T1 8) (T1 9) w K)))))) (
 sh_manifest_tables_j1 k1 (T1 1) (T1 9) t8 t12 (T1 7) (T1 8) (T1 9) w K)) (
 K (.int .i64 (-1)) w)) w
theorem ln_manifest_tables {a0 : Value} {w : World} {K : Value → World → Prop} (h : sh_manifest_tables a0 w K) : CallF pg n_manifest_tables [a0] w K :=
  callF_eq (draw_sound follows) (lvOf [(26, [1, 7, 8, 9])]) (n := 48) (rs := [.tmp 2]) (c := bodyOf Tryz.f177) (S := sh_manifest_tables a0 w K) Tryz.func177 (by kernel_rfl) (by kernel_rfl) (by kernel_rfl) (by kernel_rfl) (by kernel_rfl) (by kernel_rfl) h
/-! 123 lading/manifest.place -/
def sh_manifest_place (a0 : Value) (w : World) (K : Value → World → Prop) : Prop :=
 New (Value.cells a0).toList ty_api_Manifest w fun t1 w =>
 LdN t1 6 w fun t2 w =>
 CallF pg n_manifest_heads [t2] w fun t3 w =>
 Bin .geq .i64 t3 (N 0) fun t4 =>
 IfV t4 (
 K t3 w) (
 LdN t1 6 w fun t5 w =>
 CallF pg n_manifest_tables [t5] w fun t6 w =>
 Bin .geq .i64 t6 (N 0) fun t7 =>
 IfV t7 (
 K t6 w) (
 FA t1 3 fun t8 =>
 Ld t8 w fun t9 w =>
 LenL t9 fun t10 =>
 Bin .mul .i64 (N 2) t10 fun t11 =>
 Bin .add .i64 (N 4) t11 fun t12 =>
 Drew w fun w =>
 FA t1 4 fun t13 =>
 Ld t13 w fun t14 w1 =>
(w1 = w) ∧ (
 LdN t1 6 w fun t15 w1 =>
(w1 = w) ∧ (
 CallF pg n_manifest_Total [t15] w fun t16 w =>
((Ld t13 w fun t28 w1 => w1 = w ∧ t28 = t14) ∧ True) ∧ (
 CallF pg n_block_Count [t16] w fun t17 w =>
((Ld t13 w fun t27 w1 => w1 = w ∧ t27 = t14) ∧ True) ∧ (
 Bin .neq .i64 t14 t17 fun t18 =>
 IfV t18 (
 K t12 w) (
 FA t1 4 fun t19 =>
 Ld t19 w fun t20 w1 =>
(w1 = w) ∧ (
 Bin .gtr .i64 t20 (N 2048) fun t21 =>
 IfV t21 (
 K t12 w) (
 FA t1 5 fun t22 =>
 Ld t22 w fun t23 w =>
 LenS t23 fun t24 =>
 Bin .neq .i64 t24 (N 32) fun t25 =>
 IfV t25 (
 Bin .add .i64 t12 (N 1) fun t26 =>
 K t26 w) (
 K (.int .i64 (-1)) w))))))))))
theorem ln_manifest_place {a0 : Value} {w : World} {K : Value → World → Prop} (h : sh_manifest_place a0 w K) : CallF pg n_manifest_place [a0] w K :=
  callF_eq (draw_sound follows) (lvOf []) (n := 41) (rs := [.tmp 2]) (c := bodyOf Tryz.f123) (S := sh_manifest_place a0 w K) Tryz.func123 (by kernel_rfl) (by kernel_rfl) (by kernel_rfl) (by kernel_rfl) (by kernel_rfl) (by kernel_rfl) h
/-! 80 lading/manifest.Check -/
def sh_manifest_Check (a0 : Value) (w : World) (K : Value → World → Prop) : Prop :=
 New (Value.cells a0).toList ty_api_Manifest w fun t1 w =>
 LdN t1 6 w fun t2 w =>
 CallF pg n_manifest_place [t2] w fun t3 w =>
 Bin .geq .i64 t3 (N 0) fun t4 =>
 IfV t4 (
 V pg (Instr.build ty_api_Fault [(0, t3), (1, (.iface ty_api_Errno (N 4)))].toArray) w fun t5 w =>
 K (.iface ty_api_Fault t5) w) (
 K .nilIface w)
theorem ln_manifest_Check {a0 : Value} {w : World} {K : Value → World → Prop} (h : sh_manifest_Check a0 w K) : CallF pg n_manifest_Check [a0] w K :=
  callF_eq (draw_sound follows) (lvOf []) (n := 12) (rs := [.tmp 2]) (c := bodyOf Tryz.f80) (S := sh_manifest_Check a0 w K) Tryz.func80 (by kernel_rfl) (by kernel_rfl) (by kernel_rfl) (by kernel_rfl) (by kernel_rfl) (by kernel_rfl) h
/-! 98 lading/manifest.Put -/
def sh_manifest_Put (a0 : Value) (w : World) (K : Value → World → Prop) : Prop :=
 New (Value.cells a0).toList ty_api_Manifest w fun t1 w =>
 LdN t1 6 w fun t2 w =>
 CallF pg n_manifest_Check [t2] w fun t3 w =>
 NeNil .iface t3 fun t4 =>
 IfV t4 (
 K (.tuple #[(Str []), t3]) w) (
 FA t1 0 fun t5 =>
 Ld t5 w fun t6 w =>
 FA t1 1 fun t7 =>
 Ld t7 w fun t8 w =>
 FA t1 2 fun t9 =>
 Ld t9 w fun t10 w =>
 FA t1 3 fun t11 =>
 Ld t11 w fun t12 w =>
 LenL t12 fun t13 =>
 V pg (Instr.buildSlice ty_s_int 4 [(0, t6), (1, t8), (2, t10), (3, t13)].toArray) w fun t14 w =>
 FA t1 3 fun t15 =>
 Ld t15 w fun t16 w =>
 LenL t16 fun t17 =>
 LoopV [1, 5, 29, 30, 31] [t1, t14, t16, t17, (N 0)] (fun k1 T1 w =>
 Bin .lss .i64 (T1 31) (T1 30) fun t18 =>
 IfV t18 (
 IxS (T1 29) (T1 31) 2 fun t19 =>
 LdN t19 2 w fun t20 w =>
 New [(N 0), (N 0)] ty_api_Shard w fun t21 w =>
 StN t21 t20 2 w fun t22 w =>
 FA t21 0 fun t23 =>
 Ld t23 w fun t24 w =>
 FA t21 1 fun t25 =>
 Ld t25 w fun t26 w =>
 V pg (Instr.buildSlice ty_s_int 2 [(0, t24), (1, t26)].toArray) w fun t27 w =>
 V pg (Builtin.append_ #[ty_s_int, ty_s_int] ty_s_int [(T1 5), t27].toArray) w fun t28 w =>
 Bin .add .i64 (T1 31) (N 1) fun t29 =>
 k1 [(T1 1), t28, (T1 29), (T1 30), t29] w) (
 FA (T1 1) 4 fun t30 =>
 Ld t30 w fun t31 w =>
 V pg (Instr.buildSlice ty_s_int 1 [(0, t31)].toArray) w fun t32 w =>
 V pg (Builtin.append_ #[ty_s_int, ty_s_int] ty_s_int [(T1 5), t32].toArray) w fun t33 w =>
 LenL t33 fun t34 =>
 LoopV [1, 8, 47, 48, 49] [(T1 1), (Str []), t33, t34, (N 0)] (fun k2 T2 w =>
 Bin .lss .i64 (T2 49) (T2 48) fun t35 =>
 IfV t35 (
 IxS (T2 47) (T2 49) 1 fun t36 =>
 Ld t36 w fun t37 w =>
 CallF pg n_octet_PutShort [t37] w fun t38 w =>
 Ext t38 0 fun t39 =>
 Ext t38 1 fun t40 =>
 BinS .add (T2 8) t39 fun t41 =>
 Bin .add .i64 (T2 49) (N 1) fun t42 =>
 k2 [(T2 1), t41, (T2 47), (T2 48), t42] w) (
 FA (T2 1) 5 fun t43 =>
 Ld t43 w fun t44 w =>
 V pg (Instr.buildSlice ty_s_string 1 [(0, t44)].toArray) w fun t45 w =>
 CallF pg n_octet_PutText [t45] w fun t46 w =>
 BinS .add (T2 8) t46 fun t47 =>
 K (.tuple #[t47, .nilIface]) w)) w)) w)
theorem ln_manifest_Put {a0 : Value} {w : World} {K : Value → World → Prop} (h : sh_manifest_Put a0 w K) : CallF pg n_manifest_Put [a0] w K :=
  callF_eq (draw_sound follows) (lvOf [(122, [1, 5, 29, 30, 31]), (506, [1, 8, 47, 48, 49])]) (n := 68) (rs := [.tmp 2, .tmp 3]) (c := bodyOf Tryz.f98) (S := sh_manifest_Put a0 w K) Tryz.func98 (by kernel_rfl) (by kernel_rfl) (by kernel_rfl) (by kernel_rfl) (by kernel_rfl) (by kernel_rfl) h
/-! 110 (*lading/manifest.reader).short -/
def sh_manifest_reader_short (a0 : Value) (w : World) (K : Value → World → Prop) : Prop :=
 NilCk a0 fun t1 =>
 FA t1 2 fun t2 =>
 Ld t2 w fun t3 w =>
 NeNil .iface t3 fun t4 =>
 IfV t4 (
 K (N 0) w) (
 Drew w fun w =>
 NilCk a0 fun t5 =>
 FA t5 0 fun t6 =>
 Ld t6 w fun t7 w1 =>
(w1 = w) ∧ (
 NilCk a0 fun t8 =>
 FA t8 1 fun t9 =>
 Ld t9 w fun t10 w1 =>
(w1 = w) ∧ (
 CallF pg n_octet_Short [t7, t10] w fun t11 w =>
(True) ∧ (
 Ext t11 0 fun t12 =>
 Ext t11 1 fun t13 =>
 Ext t11 2 fun t14 =>
 NilCk a0 fun t15 =>
 FA t15 1 fun t16 =>
 St t16 t13 w fun t17 w =>
(True) ∧ (
 NilCk a0 fun t18 =>
 FA t18 2 fun t19 =>
 St t19 t14 w fun t20 w =>
(True) ∧ (
 K t12 w))))))
theorem ln_manifest_reader_short {a0 : Value} {w : World} {K : Value → World → Prop} (h : sh_manifest_reader_short a0 w K) : CallF pg n_manifest_reader_short [a0] w K :=
  callF_eq (draw_sound follows) (lvOf []) (n := 29) (rs := [.tmp 2]) (c := bodyOf Tryz.f110) (S := sh_manifest_reader_short a0 w K) Tryz.func110 (by kernel_rfl) (by kernel_rfl) (by kernel_rfl) (by kernel_rfl) (by kernel_rfl) (by kernel_rfl) h
/-! 61 lading/manifest.Get -/
def sh_manifest_Get_j2 (k1 : List Value → World → Prop) (x0 : Value) (x2 : Value) (x4 : Value) (x5 : Value) (w : World) (K : Value → World → Prop) : Prop :=
 NilCk x4 fun t60 =>
 FA t60 2 fun t61 =>
 Ld t61 w fun t62 w =>
 NeNil .iface t62 fun t63 =>
 IfV t63 (
 Drew w fun w =>
 V pg (Instr.build ty_api_Manifest [].toArray) w fun t64 w1 =>
(w1 = w) ∧ (
 NilCk x4 fun t65 =>
 FA t65 2 fun t66 =>
 Ld t66 w fun t67 w1 =>
(w1 = w) ∧ (
 StN x2 t64 6 w fun t68 w =>
((Ld t66 w fun t70 w1 => w1 = w ∧ t70 = t67) ∧ True) ∧ (
 LdN x2 6 w fun t69 _ =>
 K (.tuple #[t69, t67]) w)))) (
 NilCk x4 fun t71 =>
 FA t71 1 fun t72 =>
 Ld t72 w fun t73 w =>
 LenS x0 fun t74 =>
 Bin .lss .i64 t73 t74 fun t75 =>
 IfV t75 (
 Drew w fun w =>
 V pg (Instr.build ty_api_Manifest [].toArray) w fun t76 w1 =>
(w1 = w) ∧ (
 NilCk x4 fun t77 =>
 FA t77 1 fun t78 =>
 Ld t78 w fun t79 w1 =>
(w1 = w) ∧ (
 V pg (Instr.build ty_api_Fault [(0, t79), (1, (.iface ty_api_Errno (N 4)))].toArray) w fun t80 w1 =>
(w1 = w) ∧ (
 StN x2 t76 6 w fun t81 w =>
((V pg (Instr.build ty_api_Fault [(0, t79), (1, (.iface ty_api_Errno (N 4)))].toArray) w fun t84 w1 => w1 = w ∧ t84 = t80) ∧ (Ld t78 w fun t83 w1 => w1 = w ∧ t83 = t79) ∧ True) ∧ (
 LdN x2 6 w fun t82 _ =>
 K (.tuple #[t82, (.iface ty_api_Fault t80)]) w))))) (
 LdN x5 6 w fun t85 w =>
 CallF pg n_manifest_Check [t85] w fun t86 w =>
 NeNil .iface t86 fun t87 =>
 IfV t87 (
 V pg (Instr.build ty_api_Manifest [].toArray) w fun t88 w =>
 StN x2 t88 6 w fun t89 w =>
 LdN x2 6 w fun t90 _ =>
 K (.tuple #[t90, t86]) w) (
 LdN x5 6 w fun t91 w =>
 StN x2 t91 6 w fun t92 w =>
 LdN x2 6 w fun t93 _ =>
 K (.tuple #[t93, .nilIface]) w)))
def sh_manifest_Get_j1 (x0 : Value) (x2 : Value) (x4 : Value) (x5 : Value) (x6 : Value) (w : World) (K : Value → World → Prop) : Prop :=
 LoopV [0, 2, 4, 5, 34, 35] [x0, x2, x4, x5, x6, (N 0)] (fun k1 T1 w =>
 Bin .lss .i64 (T1 35) (T1 34) fun t24 =>
 IfV t24 (
 Drew w fun w =>
 FA (T1 5) 3 fun t25 =>
 Ld t25 w fun t26 w1 =>
(w1 = w) ∧ (
 CallF pg n_manifest_reader_short [(T1 4)] w fun t27 w =>
((Ld t25 w fun t37 w1 => w1 = w ∧ t37 = t26) ∧ True) ∧ (
 CallF pg n_manifest_reader_short [(T1 4)] w fun t28 w =>
((Ld t25 w fun t36 w1 => w1 = w ∧ t36 = t26) ∧ True) ∧ (
 V pg (Instr.build ty_api_Shard [(0, t27), (1, t28)].toArray) w fun t29 w1 =>
(w1 = w) ∧ (
 V pg (Instr.buildSlice ty_s_api_Shard 1 [(0, t29)].toArray) w fun t30 w =>
((Ld t25 w fun t35 w1 => w1 = w ∧ t35 = t26) ∧ True) ∧ (
 V pg (Builtin.append_ #[ty_s_api_Shard, ty_s_api_Shard] ty_s_api_Shard [t26, t30].toArray) w fun t31 w =>
(True) ∧ (
 FA (T1 5) 3 fun t32 =>
 St t32 t31 w fun t33 w =>
(True) ∧ (
 Bin .add .i64 (T1 35) (N 1) fun t34 =>
 k1 [(T1 0), (T1 2), (T1 4), (T1 5), (T1 34), t34] w)))))))) (
 CallF pg n_manifest_reader_short [(T1 4)] w fun t38 w =>
 FA (T1 5) 4 fun t39 =>
 St t39 t38 w fun t40 w =>
 NilCk (T1 4) fun t41 =>
 FA t41 2 fun t42 =>
 Ld t42 w fun t43 w =>
 EqNil .iface t43 fun t44 =>
 IfV t44 (
 NilCk (T1 4) fun t45 =>
 FA t45 1 fun t46 =>
 Ld t46 w fun t47 w =>
 CallF pg n_octet_Text [(T1 0), t47, (N 72057594037927935)] w fun t48 w =>
 Ext t48 0 fun t49 =>
 Ext t48 1 fun t50 =>
 Ext t48 2 fun t51 =>
 FA (T1 5) 5 fun t52 =>
 St t52 t49 w fun t53 w =>
 NilCk (T1 4) fun t54 =>
 FA t54 1 fun t55 =>
 St t55 t50 w fun t56 w =>
 NilCk (T1 4) fun t57 =>
 FA t57 2 fun t58 =>
 St t58 t51 w fun t59 w =>
 sh_manifest_Get_j2 k1 (T1 0) (T1 2) (T1 4) (T1 5) w K) (
 sh_manifest_Get_j2 k1 (T1 0) (T1 2) (T1 4) (T1 5) w K))) w
def sh_manifest_Get (a0 : Value) (w : World) (K : Value → World → Prop) : Prop :=
 New [(N 0), (N 0), (N 0), (.slice none 0 0), (N 0), (Str [])] ty_api_Manifest w fun t1 w =>
 V pg (Instr.build ty_manifest_reader [(0, a0)].toArray) w fun t2 w =>
 New (Value.cells t2).toList ty_manifest_reader w fun t3 w =>
 CallF pg n_manifest_reader_short [t3] w fun t4 w =>
 CallF pg n_manifest_reader_short [t3] w fun t5 w =>
 CallF pg n_manifest_reader_short [t3] w fun t6 w =>
 V pg (Instr.build ty_api_Manifest [(0, t4), (1, t5), (2, t6)].toArray) w fun t7 w =>
 New [(N 0), (N 0), (N 0), (.slice none 0 0), (N 0), (Str [])] ty_api_Manifest w fun t8 w =>
 StN t8 t7 6 w fun t9 w =>
 CallF pg n_manifest_reader_short [t3] w fun t10 w =>
 NilCk t3 fun t11 =>
 FA t11 2 fun t12 =>
 Ld t12 w fun t13 w =>
 EqNil .iface t13 fun t14 =>
 IfV t14 (
 Bin .gtr .i64 t10 (N 64) fun t15 =>
 IfV t15 (
 V pg (Instr.makeSlice ty_s_api_Shard (N 65) (N 65)) w fun t16 w =>
 FA t8 3 fun t17 =>
 St t17 t16 w fun t18 w =>
 V pg (Instr.build ty_api_Manifest [].toArray) w fun t19 w =>
 LdN t8 6 w fun t20 w =>
 CallF pg n_manifest_Check [t20] w fun t21 w =>
 StN t1 t19 6 w fun t22 w =>
 LdN t1 6 w fun t23 _ =>
 K (.tuple #[t23, t21]) w) (
 sh_manifest_Get_j1 a0 t1 t3 t8 t10 w K)) (
 sh_manifest_Get_j1 a0 t1 t3 t8 t10 w K)
theorem ln_manifest_Get {a0 : Value} {w : World} {K : Value → World → Prop} (h : sh_manifest_Get a0 w K) : CallF pg n_manifest_Get [a0] w K :=
  callF_eq (draw_sound follows) (lvOf [(506, [0, 2, 4, 5, 34, 35])]) (n := 107) (rs := [.cell 2 81, .tmp 3]) (c := bodyOf Tryz.f61) (S := sh_manifest_Get a0 w K) Tryz.func61 (by kernel_rfl) (by kernel_rfl) (by kernel_rfl) (by kernel_rfl) (by kernel_rfl) (by kernel_rfl) h
/-! 124 lading/manifest.Where -/
def sh_manifest_Where (a0 : Value) (a1 : Value) (w : World) (K : Value → World → Prop) : Prop :=
 New (Value.cells a0).toList ty_api_Manifest w fun t1 w =>
 LdN t1 6 w fun t2 w =>
 CallF pg n_manifest_Check [t2] w fun t3 w =>
 NeNil .iface t3 fun t4 =>
 IfV t4 (
 K (.tuple #[(N 0), (N 0), t3]) w) (
 Bin .lss .i64 a1 (N 0) fun t5 =>
 IfV t5 (
 K (.tuple #[(N 0), (N 0), (.iface ty_api_Errno (N 2))]) w) (
 FA t1 1 fun t6 =>
 Ld t6 w fun t7 w =>
 Bin .geq .i64 a1 t7 fun t8 =>
 IfV t8 (
 K (.tuple #[(N 0), (N 0), (.iface ty_api_Errno (N 2))]) w) (
 LoopV [1, 2, 8, 9] [a1, t1, (N 0), (N 0)] (fun k1 T1 w =>
 Bin .add .i64 (T1 8) (N 1) fun t9 =>
 FA (T1 2) 3 fun t10 =>
 Ld t10 w fun t11 w =>
 LenL t11 fun t12 =>
 Bin .lss .i64 t9 t12 fun t13 =>
 IfV t13 (
 FA (T1 2) 3 fun t14 =>
 Ld t14 w fun t15 w =>
 Bin .add .i64 (T1 8) (N 1) fun t16 =>
 IxS t15 t16 2 fun t17 =>
 FA t17 0 fun t18 =>
 Ld t18 w fun t19 w =>
 Bin .leq .i64 t19 (T1 1) fun t20 =>
 IfV t20 (
 FA (T1 2) 3 fun t21 =>
 Ld t21 w fun t22 w =>
 IxS t22 (T1 8) 2 fun t23 =>
 FA t23 1 fun t24 =>
 Ld t24 w fun t25 w =>
 Bin .add .i64 (T1 9) t25 fun t26 =>
 Bin .add .i64 (T1 8) (N 1) fun t27 =>
 k1 [(T1 1), (T1 2), t27, t26] w) (
 K (.tuple #[(T1 8), (T1 9), .nilIface]) w)) (
 K (.tuple #[(T1 8), (T1 9), .nilIface]) w)) w)))
theorem ln_manifest_Where {a0 a1 : Value} {w : World} {K : Value → World → Prop} (h : sh_manifest_Where a0 a1 w K) : CallF pg n_manifest_Where [a0, a1] w K :=
  callF_eq (draw_sound follows) (lvOf [(124, [1, 2, 8, 9])]) (n := 53) (rs := [.tmp 4, .tmp 5, .tmp 6]) (c := bodyOf Tryz.f124) (S := sh_manifest_Where a0 a1 w K) Tryz.func124 (by kernel_rfl) (by kernel_rfl) (by kernel_rfl) (by kernel_rfl) (by kernel_rfl) (by kernel_rfl) h
/-! 99 lading/manifest.Same -/
def sh_manifest_Same (a0 : Value) (a1 : Value) (w : World) (K : Value → World → Prop) : Prop :=
 New (Value.cells a0).toList ty_api_Manifest w fun t1 w =>
 New (Value.cells a1).toList ty_api_Manifest w fun t2 w =>
 FA t1 0 fun t3 =>
 Ld t3 w fun t4 w =>
 FA t2 0 fun t5 =>
 Ld t5 w fun t6 w =>
 Bin .eql .i64 t4 t6 fun t7 =>
 IfV t7 (
 FA t1 1 fun t8 =>
 Ld t8 w fun t9 w =>
 FA t2 1 fun t10 =>
 Ld t10 w fun t11 w =>
 Bin .eql .i64 t9 t11 fun t12 =>
 IfV t12 (
 FA t1 2 fun t13 =>
 Ld t13 w fun t14 w =>
 FA t2 2 fun t15 =>
 Ld t15 w fun t16 w =>
 Bin .eql .i64 t14 t16 fun t17 =>
 IfV t17 (
 FA t1 4 fun t18 =>
 Ld t18 w fun t19 w =>
 FA t2 4 fun t20 =>
 Ld t20 w fun t21 w =>
 Bin .eql .i64 t19 t21 fun t22 =>
 IfV t22 (
 FA t1 5 fun t23 =>
 Ld t23 w fun t24 w =>
 FA t2 5 fun t25 =>
 Ld t25 w fun t26 w =>
 BinS .eql t24 t26 fun t27 =>
 IfV t27 (
 FA t1 3 fun t28 =>
 Ld t28 w fun t29 w =>
 FA t2 3 fun t30 =>
 Ld t30 w fun t31 w =>
 CallF pg n_slices_Equal_Shard [t29, t31] w fun t32 w =>
 K t32 w) (
 K (.bool false) w)) (
 K (.bool false) w)) (
 K (.bool false) w)) (
 K (.bool false) w)) (
 K (.bool false) w)
theorem ln_manifest_Same {a0 a1 : Value} {w : World} {K : Value → World → Prop} (h : sh_manifest_Same a0 a1 w K) : CallF pg n_manifest_Same [a0, a1] w K :=
  callF_eq (draw_sound follows) (lvOf []) (n := 45) (rs := [.tmp 4]) (c := bodyOf Tryz.f99) (S := sh_manifest_Same a0 a1 w K) Tryz.func99 (by kernel_rfl) (by kernel_rfl) (by kernel_rfl) (by kernel_rfl) (by kernel_rfl) (by kernel_rfl) h
/-! 79 lading/manifest.Copy -/
def sh_manifest_Copy (a0 : Value) (w : World) (K : Value → World → Prop) : Prop :=
 New (Value.cells a0).toList ty_api_Manifest w fun t1 w =>
 New [(N 0), (N 0), (N 0), (.slice none 0 0), (N 0), (Str [])] ty_api_Manifest w fun t2 w =>
 FA t1 3 fun t3 =>
 Ld t3 w fun t4 w =>
 CallF pg n_slices_Clone_Shard [t4] w fun t5 w =>
 FA t1 3 fun t6 =>
 St t6 t5 w fun t7 w =>
 LdN t1 6 w fun t8 w =>
 StN t2 t8 6 w fun t9 w =>
 LdN t2 6 w fun t10 _ =>
 K t10 w
theorem ln_manifest_Copy {a0 : Value} {w : World} {K : Value → World → Prop} (h : sh_manifest_Copy a0 w K) : CallF pg n_manifest_Copy [a0] w K :=
  callF_eq (draw_sound follows) (lvOf []) (n := 8) (rs := [.cell 2 81]) (c := bodyOf Tryz.f79) (S := sh_manifest_Copy a0 w K) Tryz.func79 (by kernel_rfl) (by kernel_rfl) (by kernel_rfl) (by kernel_rfl) (by kernel_rfl) (by kernel_rfl) h
end Go.Proofs.Tryz

