/- Part of a proof (its text FormsC): what is proved stands in the text Card. -/
import Derived.Test.YtfefpbfnmfebgaaGreatDoorBase
set_option linter.all false
namespace Go.Proofs.Tryz
open Go Go.Lad
set_option autoImplicit false
set_option linter.unusedVariables false
set_option maxRecDepth 100000
/-! 189 slices.Clone[[]lading/api.Edge,lading/api.Edge] -/
def sh_slices_Clone_Edge (a0 : Value) (w : World) (K : Value → World → Prop) : Prop :=
 V pg (do eqGuard .eql ty_s_api_Edge (.tmp 3) (.const (.slice none 0 0)) a0 (.slice none 0 0); binOp .eql ty_s_api_Edge a0 (.slice none 0 0)) w fun t1 w =>
 IfV t1 (
 K (.slice none 0 0) w) (
 V pg (Instr.buildSlice ty_s_api_Edge 0 [].toArray) w fun t2 w =>
 V pg (Builtin.append_ #[ty_s_api_Edge, ty_s_api_Edge] ty_s_api_Edge [t2, a0].toArray) w fun t3 w =>
 K t3 w)
theorem ln_slices_Clone_Edge {a0 : Value} {w : World} {K : Value → World → Prop} (h : sh_slices_Clone_Edge a0 w K) : CallF pg n_slices_Clone_Edge [a0] w K :=
  callF_eq (draw_sound follows) (lvOf []) (n := 8) (rs := [.tmp 2]) (c := bodyOf Tryz.f189) (S := sh_slices_Clone_Edge a0 w K) Tryz.func189 (by kernel_rfl) (by kernel_rfl) (by kernel_rfl) (by kernel_rfl) (by kernel_rfl) (by kernel_rfl) h
/-! 192 slices.Compact[[]lading/api.Edge,lading/api.Edge] -/
def sh_slices_Compact_Edge (a0 : Value) (w : World) (K : Value → World → Prop) : Prop :=
 LenL a0 fun t1 =>
 Bin .lss .i64 t1 (N 2) fun t2 =>
 IfV t2 (
 K a0 w) (
 LoopV [0, 3] [a0, (N 1)] (fun k1 T1 w =>
 LenL (T1 0) fun t3 =>
 Bin .lss .i64 (T1 3) t3 fun t4 =>
 IfV t4 (
 Drew w fun w =>
 IxS (T1 0) (T1 3) 2 fun t5 =>
 LdN t5 2 w fun t6 w1 =>
(w1 = w) ∧ (
 Bin .sub .i64 (T1 3) (N 1) fun t7 =>
 IxS (T1 0) t7 2 fun t8 =>
 LdN t8 2 w fun t9 w1 =>
(w1 = w) ∧ (
 V pg (do eqGuard .eql ty_api_Edge (.tmp 19) (.tmp 24) t6 t9; binOp .eql ty_api_Edge t6 t9) w fun t10 w1 =>
(w1 = w) ∧ (
 IfV t10 (
 V pg (Instr.sliceAt ty_s_api_Edge (T1 0) (some (T1 3)) none none) w fun t11 w =>
 LoopV [0, 3, 4, 5] [(T1 0), (T1 3), t11, (N 1)] (fun k2 T2 w =>
 LenL (T2 4) fun t12 =>
 Bin .lss .i64 (T2 5) t12 fun t13 =>
 IfV t13 (
 Drew w fun w =>
 IxS (T2 4) (T2 5) 2 fun t14 =>
 LdN t14 2 w fun t15 w1 =>
(w1 = w) ∧ (
 Bin .sub .i64 (T2 5) (N 1) fun t16 =>
 IxS (T2 4) t16 2 fun t17 =>
 LdN t17 2 w fun t18 w1 =>
(w1 = w) ∧ (
 V pg (do eqGuard .neq ty_api_Edge (.tmp 38) (.tmp 43) t15 t18; binOp .neq ty_api_Edge t15 t18) w fun t19 w1 =>
(w1 = w) ∧ (
 IfV t19 (
 IxS (T2 4) (T2 5) 2 fun t20 =>
 LdN t20 2 w fun t21 w =>
 IxS (T2 0) (T2 3) 2 fun t22 =>
 StN t22 t21 2 w fun t23 w =>
 Bin .add .i64 (T2 3) (N 1) fun t24 =>
 Bin .add .i64 (T2 5) (N 1) fun t25 =>
 k2 [(T2 0), t24, (T2 4), t25] w) (
 Bin .add .i64 (T2 5) (N 1) fun t26 =>
 k2 [(T2 0), (T2 3), (T2 4), t26] w))))) (
 V pg (Instr.sliceAt ty_s_api_Edge (T2 0) (some (T2 3)) none none) w fun t27 w =>
 V pg (Builtin.clear_ #[ty_s_api_Edge] 0 [t27].toArray) w fun t28 w =>
 V pg (Instr.sliceAt ty_s_api_Edge (T2 0) none (some (T2 3)) none) w fun t29 w =>
 K t29 w)) w) (
 Bin .add .i64 (T1 3) (N 1) fun t30 =>
 k1 [(T1 0), t30] w))))) (
 K (T1 0) w)) w)
theorem ln_slices_Compact_Edge {a0 : Value} {w : World} {K : Value → World → Prop} (h : sh_slices_Compact_Edge a0 w K) : CallF pg n_slices_Compact_Edge [a0] w K :=
  callF_eq (draw_sound follows) (lvOf [(58, [0, 3]), (59690, [0, 3, 4, 5])]) (n := 61) (rs := [.tmp 2]) (c := bodyOf Tryz.f192) (S := sh_slices_Compact_Edge a0 w K) Tryz.func192 (by kernel_rfl) (by kernel_rfl) (by kernel_rfl) (by kernel_rfl) (by kernel_rfl) (by kernel_rfl) h
/-! 247 slices.Clone[[]int,int] -/
def sh_slices_Clone_int (a0 : Value) (w : World) (K : Value → World → Prop) : Prop :=
 V pg (do eqGuard .eql ty_s_int (.tmp 3) (.const (.slice none 0 0)) a0 (.slice none 0 0); binOp .eql ty_s_int a0 (.slice none 0 0)) w fun t1 w =>
 IfV t1 (
 K (.slice none 0 0) w) (
 V pg (Instr.buildSlice ty_s_int 0 [].toArray) w fun t2 w =>
 V pg (Builtin.append_ #[ty_s_int, ty_s_int] ty_s_int [t2, a0].toArray) w fun t3 w =>
 K t3 w)
theorem ln_slices_Clone_int {a0 : Value} {w : World} {K : Value → World → Prop} (h : sh_slices_Clone_int a0 w K) : CallF pg n_slices_Clone_int [a0] w K :=
  callF_eq (draw_sound follows) (lvOf []) (n := 8) (rs := [.tmp 2]) (c := bodyOf Tryz.f247) (S := sh_slices_Clone_int a0 w K) Tryz.func247 (by kernel_rfl) (by kernel_rfl) (by kernel_rfl) (by kernel_rfl) (by kernel_rfl) (by kernel_rfl) h
/-! 60 slices.Clone[[]string,string] -/
def sh_slices_Clone_string (a0 : Value) (w : World) (K : Value → World → Prop) : Prop :=
 V pg (do eqGuard .eql ty_s_string (.tmp 3) (.const (.slice none 0 0)) a0 (.slice none 0 0); binOp .eql ty_s_string a0 (.slice none 0 0)) w fun t1 w =>
 IfV t1 (
 K (.slice none 0 0) w) (
 V pg (Instr.buildSlice ty_s_string 0 [].toArray) w fun t2 w =>
 V pg (Builtin.append_ #[ty_s_string, ty_s_string] ty_s_string [t2, a0].toArray) w fun t3 w =>
 K t3 w)
theorem ln_slices_Clone_string {a0 : Value} {w : World} {K : Value → World → Prop} (h : sh_slices_Clone_string a0 w K) : CallF pg n_slices_Clone_string [a0] w K :=
  callF_eq (draw_sound follows) (lvOf []) (n := 8) (rs := [.tmp 2]) (c := bodyOf Tryz.f60) (S := sh_slices_Clone_string a0 w K) Tryz.func60 (by kernel_rfl) (by kernel_rfl) (by kernel_rfl) (by kernel_rfl) (by kernel_rfl) (by kernel_rfl) h
/-! 122 slices.Clone[[]lading/api.Shard,lading/api.Shard] -/
def sh_slices_Clone_Shard (a0 : Value) (w : World) (K : Value → World → Prop) : Prop :=
 V pg (do eqGuard .eql ty_s_api_Shard (.tmp 3) (.const (.slice none 0 0)) a0 (.slice none 0 0); binOp .eql ty_s_api_Shard a0 (.slice none 0 0)) w fun t1 w =>
 IfV t1 (
 K (.slice none 0 0) w) (
 V pg (Instr.buildSlice ty_s_api_Shard 0 [].toArray) w fun t2 w =>
 V pg (Builtin.append_ #[ty_s_api_Shard, ty_s_api_Shard] ty_s_api_Shard [t2, a0].toArray) w fun t3 w =>
 K t3 w)
theorem ln_slices_Clone_Shard {a0 : Value} {w : World} {K : Value → World → Prop} (h : sh_slices_Clone_Shard a0 w K) : CallF pg n_slices_Clone_Shard [a0] w K :=
  callF_eq (draw_sound follows) (lvOf []) (n := 8) (rs := [.tmp 2]) (c := bodyOf Tryz.f122) (S := sh_slices_Clone_Shard a0 w K) Tryz.func122 (by kernel_rfl) (by kernel_rfl) (by kernel_rfl) (by kernel_rfl) (by kernel_rfl) (by kernel_rfl) h
/-! 87 slices.Clone[[]lading/ask.Met,lading/ask.Met] -/
def sh_slices_Clone_Met (a0 : Value) (w : World) (K : Value → World → Prop) : Prop :=
 V pg (do eqGuard .eql ty_s_ask_Met (.tmp 3) (.const (.slice none 0 0)) a0 (.slice none 0 0); binOp .eql ty_s_ask_Met a0 (.slice none 0 0)) w fun t1 w =>
 IfV t1 (
 K (.slice none 0 0) w) (
 V pg (Instr.buildSlice ty_s_ask_Met 0 [].toArray) w fun t2 w =>
 V pg (Builtin.append_ #[ty_s_ask_Met, ty_s_ask_Met] ty_s_ask_Met [t2, a0].toArray) w fun t3 w =>
 K t3 w)
theorem ln_slices_Clone_Met {a0 : Value} {w : World} {K : Value → World → Prop} (h : sh_slices_Clone_Met a0 w K) : CallF pg n_slices_Clone_Met [a0] w K :=
  callF_eq (draw_sound follows) (lvOf []) (n := 8) (rs := [.tmp 2]) (c := bodyOf Tryz.f87) (S := sh_slices_Clone_Met a0 w K) Tryz.func87 (by kernel_rfl) (by kernel_rfl) (by kernel_rfl) (by kernel_rfl) (by kernel_rfl) (by kernel_rfl) h
/-! 190 slices.SortFunc[[]lading/api.Edge,lading/api.Edge] -/
def sh_slices_SortFunc_Edge (a0 : Value) (a1 : Value) (w : World) (K : Value → World → Prop) : Prop :=
 LenL a0 fun t1 =>
 V pg (convert 3 ty_uint t1) w fun t2 w =>
 CallF pg n_math_bits_Len [t2] w fun t3 w =>
 CallF pg n_slices_pdqsortCmpFunc_Edge [a0, (N 0), t1, t3, a1] w fun t4 w =>
 K (.tuple #[]) w
theorem ln_slices_SortFunc_Edge {a0 a1 : Value} {w : World} {K : Value → World → Prop} (h : sh_slices_SortFunc_Edge a0 a1 w K) : CallF pg n_slices_SortFunc_Edge [a0, a1] w K :=
  callF_eq (draw_sound follows) (lvOf []) (n := 14) (rs := []) (c := bodyOf Tryz.f190) (S := sh_slices_SortFunc_Edge a0 a1 w K) Tryz.func190 (by kernel_rfl) (by kernel_rfl) (by kernel_rfl) (by kernel_rfl) (by kernel_rfl) (by kernel_rfl) h
/-! 145 slices.Equal[[]lading/api.Shard,lading/api.Shard] -/
def sh_slices_Equal_Shard (a0 : Value) (a1 : Value) (w : World) (K : Value → World → Prop) : Prop :=
 LenL a0 fun t1 =>
 LenL a1 fun t2 =>
 Bin .neq .i64 t1 t2 fun t3 =>
 IfV t3 (
 K (.bool false) w) (
 LenL a0 fun t4 =>
 LoopV [0, 1, 12, 13] [a0, a1, t4, (N 0)] (fun k1 T1 w =>
 Bin .lss .i64 (T1 13) (T1 12) fun t5 =>
 IfV t5 (
 Drew w fun w =>
 IxS (T1 0) (T1 13) 2 fun t6 =>
 LdN t6 2 w fun t7 w1 =>
(w1 = w) ∧ (
 IxS (T1 1) (T1 13) 2 fun t8 =>
 LdN t8 2 w fun t9 w1 =>
(w1 = w) ∧ (
 V pg (do eqGuard .neq ty_api_Shard (.tmp 19) (.tmp 23) t7 t9; binOp .neq ty_api_Shard t7 t9) w fun t10 w1 =>
(w1 = w) ∧ (
 IfV t10 (
 K (.bool false) w) (
 Bin .add .i64 (T1 13) (N 1) fun t11 =>
 k1 [(T1 0), (T1 1), (T1 12), t11] w))))) (
 K (.bool true) w)) w)
theorem ln_slices_Equal_Shard {a0 a1 : Value} {w : World} {K : Value → World → Prop} (h : sh_slices_Equal_Shard a0 a1 w K) : CallF pg n_slices_Equal_Shard [a0, a1] w K :=
  callF_eq (draw_sound follows) (lvOf [(58, [0, 1, 12, 13])]) (n := 26) (rs := [.tmp 4]) (c := bodyOf Tryz.f145) (S := sh_slices_Equal_Shard a0 a1 w K) Tryz.func145 (by kernel_rfl) (by kernel_rfl) (by kernel_rfl) (by kernel_rfl) (by kernel_rfl) (by kernel_rfl) h
/-! 91 slices.Contains[[]int,int] -/
def sh_slices_Contains_int (a0 : Value) (a1 : Value) (w : World) (K : Value → World → Prop) : Prop :=
 CallF pg n_slices_Index_int [a0, a1] w fun t1 w =>
 Bin .geq .i64 t1 (N 0) fun t2 =>
 K t2 w
theorem ln_slices_Contains_int {a0 a1 : Value} {w : World} {K : Value → World → Prop} (h : sh_slices_Contains_int a0 a1 w K) : CallF pg n_slices_Contains_int [a0, a1] w K :=
  callF_eq (draw_sound follows) (lvOf []) (n := 9) (rs := [.tmp 4]) (c := bodyOf Tryz.f91) (S := sh_slices_Contains_int a0 a1 w K) Tryz.func91 (by kernel_rfl) (by kernel_rfl) (by kernel_rfl) (by kernel_rfl) (by kernel_rfl) (by kernel_rfl) h
/-! 131 slices.Index[[]int,int] -/
def sh_slices_Index_int (a0 : Value) (a1 : Value) (w : World) (K : Value → World → Prop) : Prop :=
 LenL a0 fun t1 =>
 LoopV [0, 1, 7, 8] [a0, a1, t1, (N 0)] (fun k1 T1 w =>
 Bin .lss .i64 (T1 8) (T1 7) fun t2 =>
 IfV t2 (
 IxS (T1 0) (T1 8) 1 fun t3 =>
 Ld t3 w fun t4 w =>
 Bin .eql .i64 (T1 1) t4 fun t5 =>
 IfV t5 (
 K (T1 8) w) (
 Bin .add .i64 (T1 8) (N 1) fun t6 =>
 k1 [(T1 0), (T1 1), (T1 7), t6] w)) (
 K (.int .i64 (-1)) w)) w
theorem ln_slices_Index_int {a0 a1 : Value} {w : World} {K : Value → World → Prop} (h : sh_slices_Index_int a0 a1 w K) : CallF pg n_slices_Index_int [a0, a1] w K :=
  callF_eq (draw_sound follows) (lvOf [(26, [0, 1, 7, 8])]) (n := 19) (rs := [.tmp 4]) (c := bodyOf Tryz.f131) (S := sh_slices_Index_int a0 a1 w K) Tryz.func131 (by kernel_rfl) (by kernel_rfl) (by kernel_rfl) (by kernel_rfl) (by kernel_rfl) (by kernel_rfl) h
/-! 90 slices.IndexFunc[[]int,int] -/
def sh_slices_IndexFunc_int (a0 : Value) (a1 : Value) (w : World) (K : Value → World → Prop) : Prop :=
 LenL a0 fun t1 =>
 LoopV [0, 1, 7, 8] [a0, a1, t1, (N 0)] (fun k1 T1 w =>
 Bin .lss .i64 (T1 8) (T1 7) fun t2 =>
 IfV t2 (
 IxS (T1 0) (T1 8) 1 fun t3 =>
 Ld t3 w fun t4 w =>
 CallV pg (T1 1) [t4] w fun t5 w =>
 IfV t5 (
 K (T1 8) w) (
 Bin .add .i64 (T1 8) (N 1) fun t6 =>
 k1 [(T1 0), (T1 1), (T1 7), t6] w)) (
 K (.int .i64 (-1)) w)) w
theorem ln_slices_IndexFunc_int {a0 a1 : Value} {w : World} {K : Value → World → Prop} (h : sh_slices_IndexFunc_int a0 a1 w K) : CallF pg n_slices_IndexFunc_int [a0, a1] w K :=
  callF_eq (draw_sound follows) (lvOf [(26, [0, 1, 7, 8])]) (n := 19) (rs := [.tmp 4]) (c := bodyOf Tryz.f90) (S := sh_slices_IndexFunc_int a0 a1 w K) Tryz.func90 (by kernel_rfl) (by kernel_rfl) (by kernel_rfl) (by kernel_rfl) (by kernel_rfl) (by kernel_rfl) h
/-! 49 slices.DeleteFunc[[]int,int] -/
def sh_slices_DeleteFunc_int (a0 : Value) (a1 : Value) (w : World) (K : Value → World → Prop) : Prop :=
 CallF pg n_slices_IndexFunc_int [a0, a1] w fun t1 w =>
 Bin .eql .i64 t1 (.int .i64 (-1)) fun t2 =>
 IfV t2 (
 K a0 w) (
 Bin .add .i64 t1 (N 1) fun t3 =>
 LoopV [0, 1, 5, 6] [a0, a1, t1, t3] (fun k1 T1 w =>
 LenL (T1 0) fun t4 =>
 Bin .lss .i64 (T1 6) t4 fun t5 =>
 IfV t5 (
 IxS (T1 0) (T1 6) 1 fun t6 =>
 Ld t6 w fun t7 w =>
 CallV pg (T1 1) [t7] w fun t8 w =>
 NotV t8 fun t9 =>
 IfV t9 (
 IxS (T1 0) (T1 5) 1 fun t10 =>
 St t10 t7 w fun t11 w =>
 Bin .add .i64 (T1 5) (N 1) fun t12 =>
 Bin .add .i64 (T1 6) (N 1) fun t13 =>
 k1 [(T1 0), (T1 1), t12, t13] w) (
 Bin .add .i64 (T1 6) (N 1) fun t14 =>
 k1 [(T1 0), (T1 1), (T1 5), t14] w)) (
 V pg (Instr.sliceAt ty_s_int (T1 0) (some (T1 5)) none none) w fun t15 w =>
 V pg (Builtin.clear_ #[ty_s_int] 0 [t15].toArray) w fun t16 w =>
 V pg (Instr.sliceAt ty_s_int (T1 0) none (some (T1 5)) none) w fun t17 w =>
 K t17 w)) w)
theorem ln_slices_DeleteFunc_int {a0 a1 : Value} {w : World} {K : Value → World → Prop} (h : sh_slices_DeleteFunc_int a0 a1 w K) : CallF pg n_slices_DeleteFunc_int [a0, a1] w K :=
  callF_eq (draw_sound follows) (lvOf [(122, [0, 1, 5, 6])]) (n := 42) (rs := [.tmp 4]) (c := bodyOf Tryz.f49) (S := sh_slices_DeleteFunc_int a0 a1 w K) Tryz.func49 (by kernel_rfl) (by kernel_rfl) (by kernel_rfl) (by kernel_rfl) (by kernel_rfl) (by kernel_rfl) h
end Go.Proofs.Tryz

namespace Go.Proofs.Tryz
open Go Go.Lad
set_option autoImplicit false
set_option linter.unusedVariables false
set_option maxRecDepth 100000
/-! 183 lading/gap.may -/
def sh_gap_may_j1 (x0 : Value) (x1 : Value) (x5 : Value) (w : World) (K : Value → World → Prop) : Prop :=
 IfV x5 (
 K (.iface ty_api_Errno (N 1)) w) (
 Bin .lss .i64 x1 (N 0) fun t2 =>
 IfV t2 (
 K (.iface ty_api_Errno (N 2)) w) (
 Bin .geq .i64 x1 x0 fun t3 =>
 IfV t3 (
 K (.iface ty_api_Errno (N 2)) w) (
 K .nilIface w)))
def sh_gap_may (a0 : Value) (a1 : Value) (w : World) (K : Value → World → Prop) : Prop :=
 Bin .lss .i64 a0 (N 0) fun t1 =>
 IfV t1 (
 sh_gap_may_j1 a0 a1 (.bool true) w K) (
 Bin .gtr .i64 a0 (N 4096) fun t4 =>
 sh_gap_may_j1 a0 a1 t4 w K)
theorem ln_gap_may {a0 a1 : Value} {w : World} {K : Value → World → Prop} (h : sh_gap_may a0 a1 w K) : CallF pg n_gap_may [a0, a1] w K :=
  callF_eq (draw_sound follows) (lvOf []) (n := 22) (rs := [.tmp 4]) (c := bodyOf Tryz.f183) (S := sh_gap_may a0 a1 w K) Tryz.func183 (by kernel_rfl) (by kernel_rfl) (by kernel_rfl) (by kernel_rfl) (by kernel_rfl) (by kernel_rfl) h
/-! 184 lading/gap.wrong -/
def sh_gap_wrong (a0 : Value) (a1 : Value) (w : World) (K : Value → World → Prop) : Prop :=
 V pg (Instr.build ty_api_Fault [(0, a0), (1, a1)].toArray) w fun t1 w =>
 K (.iface ty_api_Fault t1) w
theorem ln_gap_wrong {a0 a1 : Value} {w : World} {K : Value → World → Prop} (h : sh_gap_wrong a0 a1 w K) : CallF pg n_gap_wrong [a0, a1] w K :=
  callF_eq (draw_sound follows) (lvOf []) (n := 9) (rs := [.tmp 4]) (c := bodyOf Tryz.f184) (S := sh_gap_wrong a0 a1 w K) Tryz.func184 (by kernel_rfl) (by kernel_rfl) (by kernel_rfl) (by kernel_rfl) (by kernel_rfl) (by kernel_rfl) h
/-! 228 lading/gap.Put -/
def sh_gap_Put (a0 : Value) (a1 : Value) (a2 : Value) (w : World) (K : Value → World → Prop) : Prop :=
 CallF pg n_gap_may [a0, a1] w fun t1 w =>
 NeNil .iface t1 fun t2 =>
 IfV t2 (
 K (.tuple #[(Str []), t1]) w) (
 LenL a2 fun t3 =>
 LoopV [0, 1, 2, 9, 23, 24, 25] [a0, a1, a2, (.int .i64 (-1)), a2, t3, (N 0)] (fun k1 T1 w =>
 Bin .lss .i64 (T1 25) (T1 24) fun t4 =>
 IfV t4 (
 IxS (T1 23) (T1 25) 1 fun t5 =>
 Ld t5 w fun t6 w =>
 Bin .leq .i64 t6 (T1 9) fun t7 =>
 IfV t7 (
 CallF pg n_gap_wrong [(T1 25), (.iface ty_api_Errno (N 10))] w fun t8 w =>
 K (.tuple #[(Str []), t8]) w) (
 Bin .geq .i64 t6 (T1 0) fun t9 =>
 IfV t9 (
 CallF pg n_gap_wrong [(T1 25), (.iface ty_api_Errno (N 10))] w fun t10 w =>
 K (.tuple #[(Str []), t10]) w) (
 Bin .add .i64 (T1 25) (N 1) fun t11 =>
 k1 [(T1 0), (T1 1), (T1 2), t6, (T1 23), (T1 24), t11] w))) (
 LenL (T1 2) fun t12 =>
 CallF pg n_octet_PutShort [t12] w fun t13 w =>
 Ext t13 0 fun t14 =>
 Ext t13 1 fun t15 =>
 LenL (T1 2) fun t16 =>
 LoopV [1, 2, 12, 49, 50, 51] [(T1 1), (T1 2), t14, (T1 2), t16, (N 0)] (fun k2 T2 w =>
 Bin .lss .i64 (T2 51) (T2 50) fun t17 =>
 IfV t17 (
 IxS (T2 49) (T2 51) 1 fun t18 =>
 Ld t18 w fun t19 w =>
 Bin .eql .i64 (T2 51) (N 0) fun t20 =>
 IfV t20 (
 Bin .sub .i64 t19 (T2 1) fun t21 =>
 CallF pg n_octet_PutTurned [t21] w fun t22 w =>
 Ext t22 0 fun t23 =>
 Ext t22 1 fun t24 =>
 BinS .add (T2 12) t23 fun t25 =>
 Bin .add .i64 (T2 51) (N 1) fun t26 =>
 k2 [(T2 1), (T2 2), t25, (T2 49), (T2 50), t26] w) (
 Bin .sub .i64 (T2 51) (N 1) fun t27 =>
 IxS (T2 2) t27 1 fun t28 =>
 Ld t28 w fun t29 w =>
 Bin .sub .i64 t19 t29 fun t30 =>
 Bin .sub .i64 t30 (N 1) fun t31 =>
 CallF pg n_octet_PutShort [t31] w fun t32 w =>
 Ext t32 0 fun t33 =>
 Ext t32 1 fun t34 =>
 BinS .add (T2 12) t33 fun t35 =>
 Bin .add .i64 (T2 51) (N 1) fun t36 =>
 k2 [(T2 1), (T2 2), t35, (T2 49), (T2 50), t36] w)) (
 K (.tuple #[(T2 12), .nilIface]) w)) w)) w)
theorem ln_gap_Put {a0 a1 a2 : Value} {w : World} {K : Value → World → Prop} (h : sh_gap_Put a0 a1 a2 w K) : CallF pg n_gap_Put [a0, a1, a2] w K :=
  callF_eq (draw_sound follows) (lvOf [(122, [0, 1, 2, 9, 23, 24, 25]), (506, [1, 2, 12, 49, 50, 51])]) (n := 83) (rs := [.tmp 6, .tmp 7]) (c := bodyOf Tryz.f228) (S := sh_gap_Put a0 a1 a2 w K) Tryz.func228 (by kernel_rfl) (by kernel_rfl) (by kernel_rfl) (by kernel_rfl) (by kernel_rfl) (by kernel_rfl) h
/-! 185 lading/gap.count -/
def sh_gap_count (a0 : Value) (a1 : Value) (a2 : Value) (w : World) (K : Value → World → Prop) : Prop :=
 CallF pg n_octet_Short [a0, a1] w fun t1 w =>
 Ext t1 0 fun t2 =>
 Ext t1 1 fun t3 =>
 Ext t1 2 fun t4 =>
 NeNil .iface t4 fun t5 =>
 IfV t5 (
 K (.tuple #[(N 0), a1, t4]) w) (
 Bin .gtr .i64 t2 a2 fun t6 =>
 IfV t6 (
 CallF pg n_gap_wrong [a1, (.iface ty_api_Errno (N 4))] w fun t7 w =>
 K (.tuple #[(N 0), a1, t7]) w) (
 K (.tuple #[t2, t3, .nilIface]) w))
theorem ln_gap_count {a0 a1 a2 : Value} {w : World} {K : Value → World → Prop} (h : sh_gap_count a0 a1 a2 w K) : CallF pg n_gap_count [a0, a1, a2] w K :=
  callF_eq (draw_sound follows) (lvOf []) (n := 34) (rs := [.tmp 6, .tmp 7, .tmp 8]) (c := bodyOf Tryz.f185) (S := sh_gap_count a0 a1 a2 w K) Tryz.func185 (by kernel_rfl) (by kernel_rfl) (by kernel_rfl) (by kernel_rfl) (by kernel_rfl) (by kernel_rfl) h
/-! 186 (*lading/gap.reader).step -/
def sh_gap_reader_step_j1 (x0 : Value) (x5 : Value) (x6 : Value) (x7 : Value) (w : World) (K : Value → World → Prop) : Prop :=
 NeNil .iface x7 fun t11 =>
 IfV t11 (
 K x7 w) (
 Drew w fun w =>
 NilCk x0 fun t12 =>
 FA t12 3 fun t13 =>
 Ld t13 w fun t14 w1 =>
(w1 = w) ∧ (
 V pg (Op.unary .neg t14) w fun t15 w1 =>
(w1 = w) ∧ (
 Bin .lss .i64 x5 t15 fun t16 =>
 IfV t16 (
 NilCk x0 fun t17 =>
 FA t17 1 fun t18 =>
 Ld t18 w fun t19 w =>
 CallF pg n_gap_wrong [t19, (.iface ty_api_Errno (N 4))] w fun t20 w =>
 K t20 w) (
 NilCk x0 fun t21 =>
 FA t21 2 fun t22 =>
 Ld t22 w fun t23 w1 =>
(w1 = w) ∧ (
 NilCk x0 fun t24 =>
 FA t24 3 fun t25 =>
 Ld t25 w fun t26 w1 =>
(w1 = w) ∧ (
 Bin .sub .i64 t23 t26 fun t27 =>
 Bin .geq .i64 x5 t27 fun t28 =>
 IfV t28 (
 NilCk x0 fun t29 =>
 FA t29 1 fun t30 =>
 Ld t30 w fun t31 w =>
 CallF pg n_gap_wrong [t31, (.iface ty_api_Errno (N 4))] w fun t32 w =>
 K t32 w) (
 NilCk x0 fun t33 =>
 FA t33 3 fun t34 =>
 Ld t34 w fun t35 w =>
 Bin .add .i64 t35 x5 fun t36 =>
 NilCk x0 fun t37 =>
 FA t37 3 fun t38 =>
 St t38 t36 w fun t39 w =>
 NilCk x0 fun t40 =>
 FA t40 1 fun t41 =>
 St t41 x6 w fun t42 w =>
 K .nilIface w)))))))
def sh_gap_reader_step (a0 : Value) (a1 : Value) (w : World) (K : Value → World → Prop) : Prop :=
 IfV a1 (
 Drew w fun w =>
 NilCk a0 fun t1 =>
 FA t1 0 fun t2 =>
 Ld t2 w fun t3 w1 =>
(w1 = w) ∧ (
 NilCk a0 fun t4 =>
 FA t4 1 fun t5 =>
 Ld t5 w fun t6 w1 =>
(w1 = w) ∧ (
 CallF pg n_octet_Turned [t3, t6] w fun t7 w =>
(True) ∧ (
 Ext t7 0 fun t8 =>
 Ext t7 1 fun t9 =>
 Ext t7 2 fun t10 =>
 sh_gap_reader_step_j1 a0 t8 t9 t10 w K)))) (
 Drew w fun w =>
 NilCk a0 fun t43 =>
 FA t43 0 fun t44 =>
 Ld t44 w fun t45 w1 =>
(w1 = w) ∧ (
 NilCk a0 fun t46 =>
 FA t46 1 fun t47 =>
 Ld t47 w fun t48 w1 =>
(w1 = w) ∧ (
 CallF pg n_octet_Short [t45, t48] w fun t49 w =>
(True) ∧ (
 Ext t49 0 fun t50 =>
 Ext t49 1 fun t51 =>
 Ext t49 2 fun t52 =>
 Bin .add .i64 t50 (N 1) fun t53 =>
 sh_gap_reader_step_j1 a0 t53 t51 t52 w K))))
theorem ln_gap_reader_step {a0 a1 : Value} {w : World} {K : Value → World → Prop} (h : sh_gap_reader_step a0 a1 w K) : CallF pg n_gap_reader_step [a0, a1] w K :=
  callF_eq (draw_sound follows) (lvOf []) (n := 80) (rs := [.tmp 4]) (c := bodyOf Tryz.f186) (S := sh_gap_reader_step a0 a1 w K) Tryz.func186 (by kernel_rfl) (by kernel_rfl) (by kernel_rfl) (by kernel_rfl) (by kernel_rfl) (by kernel_rfl) h
/-! 127 lading/gap.Get -/
def sh_gap_Get (a0 : Value) (a1 : Value) (a2 : Value) (a3 : Value) (w : World) (K : Value → World → Prop) : Prop :=
 CallF pg n_gap_may [a2, a3] w fun t1 w =>
 NeNil .iface t1 fun t2 =>
 IfV t2 (
 CallF pg n_gap_wrong [a1, t1] w fun t3 w =>
 K (.tuple #[(.slice none 0 0), a1, t3]) w) (
 CallF pg n_gap_count [a0, a1, a2] w fun t4 w =>
 Ext t4 0 fun t5 =>
 Ext t4 1 fun t6 =>
 Ext t4 2 fun t7 =>
 NeNil .iface t7 fun t8 =>
 IfV t8 (
 K (.tuple #[(.slice none 0 0), a1, t7]) w) (
 V pg (Instr.build ty_gap_reader [(0, a0), (1, t6), (2, a2), (3, a3)].toArray) w fun t9 w =>
 New (Value.cells t9).toList ty_gap_reader w fun t10 w =>
 LoopV [1, 15, 16, 46, 47] [a1, t10, (.slice none 0 0), t5, (N 0)] (fun k1 T1 w =>
 Bin .lss .i64 (T1 47) (T1 46) fun t11 =>
 IfV t11 (
 Bin .eql .i64 (T1 47) (N 0) fun t12 =>
 CallF pg n_gap_reader_step [(T1 15), t12] w fun t13 w =>
 NeNil .iface t13 fun t14 =>
 IfV t14 (
 K (.tuple #[(.slice none 0 0), (T1 1), t13]) w) (
 NilCk (T1 15) fun t15 =>
 FA t15 3 fun t16 =>
 Ld t16 w fun t17 w =>
 V pg (Instr.buildSlice ty_s_int 1 [(0, t17)].toArray) w fun t18 w =>
 V pg (Builtin.append_ #[ty_s_int, ty_s_int] ty_s_int [(T1 16), t18].toArray) w fun t19 w =>
 Bin .add .i64 (T1 47) (N 1) fun t20 =>
 k1 [(T1 1), (T1 15), t19, (T1 46), t20] w)) (
 Drew w fun w =>
 NilCk (T1 15) fun t21 =>
 FA t21 1 fun t22 =>
 Ld t22 w fun t23 w1 =>
(w1 = w) ∧ (
 K (.tuple #[(T1 16), t23, .nilIface]) w))) w))
theorem ln_gap_Get {a0 a1 a2 a3 : Value} {w : World} {K : Value → World → Prop} (h : sh_gap_Get a0 a1 a2 a3 w K) : CallF pg n_gap_Get [a0, a1, a2, a3] w K :=
  callF_eq (draw_sound follows) (lvOf [(1018, [1, 15, 16, 46, 47])]) (n := 71) (rs := [.tmp 8, .tmp 9, .tmp 10]) (c := bodyOf Tryz.f127) (S := sh_gap_Get a0 a1 a2 a3 w K) Tryz.func127 (by kernel_rfl) (by kernel_rfl) (by kernel_rfl) (by kernel_rfl) (by kernel_rfl) (by kernel_rfl) h
/-! 187 lading/gap.nodesFit -/
def sh_gap_nodesFit (a0 : Value) (a1 : Value) (w : World) (K : Value → World → Prop) : Prop :=
 Bin .lss .i64 a1 (N 0) fun t1 =>
 IfV t1 (
 CallF pg n_gap_wrong [a0, (.iface ty_api_Errno (N 1))] w fun t2 w =>
 K t2 w) (
 Bin .gtr .i64 a1 (N 4096) fun t3 =>
 IfV t3 (
 CallF pg n_gap_wrong [a0, (.iface ty_api_Errno (N 1))] w fun t4 w =>
 K t4 w) (
 K .nilIface w))
theorem ln_gap_nodesFit {a0 a1 : Value} {w : World} {K : Value → World → Prop} (h : sh_gap_nodesFit a0 a1 w K) : CallF pg n_gap_nodesFit [a0, a1] w K :=
  callF_eq (draw_sound follows) (lvOf []) (n := 14) (rs := [.tmp 4]) (c := bodyOf Tryz.f187) (S := sh_gap_nodesFit a0 a1 w K) Tryz.func187 (by kernel_rfl) (by kernel_rfl) (by kernel_rfl) (by kernel_rfl) (by kernel_rfl) (by kernel_rfl) h
/-! 129 lading/gap.Count -/
def sh_gap_Count (a0 : Value) (a1 : Value) (a2 : Value) (w : World) (K : Value → World → Prop) : Prop :=
 CallF pg n_gap_nodesFit [a1, a2] w fun t1 w =>
 NeNil .iface t1 fun t2 =>
 IfV t2 (
 K (.tuple #[(N 0), t1]) w) (
 CallF pg n_gap_count [a0, a1, a2] w fun t3 w =>
 Ext t3 0 fun t4 =>
 Ext t3 1 fun t5 =>
 Ext t3 2 fun t6 =>
 K (.tuple #[t4, t6]) w)
theorem ln_gap_Count {a0 a1 a2 : Value} {w : World} {K : Value → World → Prop} (h : sh_gap_Count a0 a1 a2 w K) : CallF pg n_gap_Count [a0, a1, a2] w K :=
  callF_eq (draw_sound follows) (lvOf []) (n := 28) (rs := [.tmp 6, .tmp 7]) (c := bodyOf Tryz.f129) (S := sh_gap_Count a0 a1 a2 w K) Tryz.func129 (by kernel_rfl) (by kernel_rfl) (by kernel_rfl) (by kernel_rfl) (by kernel_rfl) (by kernel_rfl) h
/-! 220 lading/gap.Skip -/
def sh_gap_Skip (a0 : Value) (a1 : Value) (a2 : Value) (w : World) (K : Value → World → Prop) : Prop :=
 CallF pg n_gap_nodesFit [a1, a2] w fun t1 w =>
 NeNil .iface t1 fun t2 =>
 IfV t2 (
 K (.tuple #[a1, t1]) w) (
 CallF pg n_gap_count [a0, a1, a2] w fun t3 w =>
 Ext t3 0 fun t4 =>
 Ext t3 1 fun t5 =>
 Ext t3 2 fun t6 =>
 LoopV [0, 1, 10, 11, 27, 28] [a0, a1, t5, t6, t4, (N 0)] (fun k1 T1 w =>
 Bin .lss .i64 (T1 28) (T1 27) fun t7 =>
 IfV t7 (
 CallF pg n_octet_Short [(T1 0), (T1 10)] w fun t8 w =>
 Ext t8 0 fun t9 =>
 Ext t8 1 fun t10 =>
 Ext t8 2 fun t11 =>
 NeNil .iface t11 fun t12 =>
 IfV t12 (
 K (.tuple #[(T1 1), t11]) w) (
 Bin .add .i64 (T1 28) (N 1) fun t13 =>
 k1 [(T1 0), (T1 1), t10, t11, (T1 27), t13] w)) (
 NeNil .iface (T1 11) fun t14 =>
 IfV t14 (
 K (.tuple #[(T1 1), (T1 11)]) w) (
 K (.tuple #[(T1 10), .nilIface]) w))) w)
theorem ln_gap_Skip {a0 a1 a2 : Value} {w : World} {K : Value → World → Prop} (h : sh_gap_Skip a0 a1 a2 w K) : CallF pg n_gap_Skip [a0, a1, a2] w K :=
  callF_eq (draw_sound follows) (lvOf [(122, [0, 1, 10, 11, 27, 28])]) (n := 47) (rs := [.tmp 6, .tmp 7]) (c := bodyOf Tryz.f220) (S := sh_gap_Skip a0 a1 a2 w K) Tryz.func220 (by kernel_rfl) (by kernel_rfl) (by kernel_rfl) (by kernel_rfl) (by kernel_rfl) (by kernel_rfl) h
end Go.Proofs.Tryz

