/- Part of a proof (its text FormsB): what is proved stands in the text Card. -/
import Derived.Test.YtfefpbfnmfebgaaGreatDoorBase
set_option linter.all false
namespace Go.Proofs.Tryz
open Go Go.Lad
set_option autoImplicit false
set_option linter.unusedVariables false
set_option maxRecDepth 100000
/-! 206 lading/frame.step -/
def sh_frame_step (a0 : Value) (a1 : Value) (w : World) (K : Value → World → Prop) : Prop :=
 V pg (convert 5 ty_uint32 a1) w fun t1 w =>
 Bin .xor .u32 a0 t1 fun t2 =>
 LoopV [0, 10] [t2, (N 0)] (fun k1 T1 w =>
 Bin .lss .i64 (T1 10) (N 8) fun t3 =>
 IfV t3 (
 Bin .and .u32 (T1 0) (W 1) fun t4 =>
 Shf .shr .u32 (T1 0) (Q 1) fun t5 =>
 Bin .eql .u32 t4 (W 1) fun t6 =>
 IfV t6 (
 Bin .xor .u32 t5 (W 2197175160) fun t7 =>
 Bin .add .i64 (T1 10) (N 1) fun t8 =>
 k1 [t7, t8] w) (
 Bin .add .i64 (T1 10) (N 1) fun t9 =>
 k1 [t5, t9] w)) (
 K (T1 0) w)) w
theorem ln_frame_step {a0 a1 : Value} {w : World} {K : Value → World → Prop} (h : sh_frame_step a0 a1 w K) : CallF pg n_frame_step [a0, a1] w K :=
  callF_eq (draw_sound follows) (lvOf [(58, [0, 10])]) (n := 22) (rs := [.tmp 4]) (c := bodyOf Tryz.f206) (S := sh_frame_step a0 a1 w K) Tryz.func206 (by kernel_rfl) (by kernel_rfl) (by kernel_rfl) (by kernel_rfl) (by kernel_rfl) (by kernel_rfl) h
/-! 158 lading/frame.Sum -/
def sh_frame_Sum (a0 : Value) (w : World) (K : Value → World → Prop) : Prop :=
 LenL a0 fun t1 =>
 LoopV [3, 7, 8, 9] [(W 4294967295), a0, t1, (N 0)] (fun k1 T1 w =>
 Bin .lss .i64 (T1 9) (T1 8) fun t2 =>
 IfV t2 (
 IxS (T1 7) (T1 9) 1 fun t3 =>
 Ld t3 w fun t4 w =>
 LenS t4 fun t5 =>
 LoopV [3, 5, 7, 8, 9, 14, 15] [(T1 3), t4, (T1 7), (T1 8), (T1 9), t5, (N 0)] (fun k2 T2 w =>
 Bin .lss .i64 (T2 15) (T2 14) fun t6 =>
 IfV t6 (
 IxStr (T2 5) (T2 15) fun t7 =>
 CallF pg n_frame_step [(T2 3), t7] w fun t8 w =>
 Bin .add .i64 (T2 15) (N 1) fun t9 =>
 k2 [t8, (T2 5), (T2 7), (T2 8), (T2 9), (T2 14), t9] w) (
 Bin .add .i64 (T2 9) (N 1) fun t10 =>
 k1 [(T2 3), (T2 7), (T2 8), t10] w)) w) (
 V pg (Op.unary .xor (T1 3)) w fun t11 w =>
 V pg (convert ty_uint32 3 t11) w fun t12 w =>
 K t12 w)) w
theorem ln_frame_Sum {a0 : Value} {w : World} {K : Value → World → Prop} (h : sh_frame_Sum a0 w K) : CallF pg n_frame_Sum [a0] w K :=
  callF_eq (draw_sound follows) (lvOf [(58, [3, 7, 8, 9]), (14950, [3, 5, 7, 8, 9, 14, 15])]) (n := 28) (rs := [.tmp 2]) (c := bodyOf Tryz.f158) (S := sh_frame_Sum a0 w K) Tryz.func158 (by kernel_rfl) (by kernel_rfl) (by kernel_rfl) (by kernel_rfl) (by kernel_rfl) (by kernel_rfl) h
/-! 146 lading/frame.Seal -/
def sh_frame_Seal (a0 : Value) (w : World) (K : Value → World → Prop) : Prop :=
 LenS a0 fun t1 =>
 Bin .gtr .i64 t1 (N 60000) fun t2 =>
 IfV t2 (
 K (.tuple #[(Str []), (.iface ty_api_Errno (N 6))]) w) (
 LenS a0 fun t3 =>
 CallF pg n_octet_PutFixed [(N 2), t3] w fun t4 w =>
 Ext t4 0 fun t5 =>
 Ext t4 1 fun t6 =>
 V pg (Instr.buildSlice ty_s_string 2 [(0, t5), (1, a0)].toArray) w fun t7 w =>
 CallF pg n_frame_Sum [t7] w fun t8 w =>
 CallF pg n_octet_PutFixed [(N 4), t8] w fun t9 w =>
 Ext t9 0 fun t10 =>
 Ext t9 1 fun t11 =>
 BinS .add t10 t5 fun t12 =>
 BinS .add t12 a0 fun t13 =>
 K (.tuple #[t13, .nilIface]) w)
theorem ln_frame_Seal {a0 : Value} {w : World} {K : Value → World → Prop} (h : sh_frame_Seal a0 w K) : CallF pg n_frame_Seal [a0] w K :=
  callF_eq (draw_sound follows) (lvOf []) (n := 31) (rs := [.tmp 2, .tmp 3]) (c := bodyOf Tryz.f146) (S := sh_frame_Seal a0 w K) Tryz.func146 (by kernel_rfl) (by kernel_rfl) (by kernel_rfl) (by kernel_rfl) (by kernel_rfl) (by kernel_rfl) h
/-! 107 lading/frame.Next -/
def sh_frame_Next_j1 (x0 : Value) (x3 : Value) (x7 : Value) (x15 : Value) (w : World) (K : Value → World → Prop) : Prop :=
 IfV x15 (
 CallV pg x7 [(.iface ty_api_Errno (N 1))] w fun t4 w =>
 Ext t4 0 fun t5 =>
 Ext t4 1 fun t6 =>
 Ext t4 2 fun t7 =>
 K (.tuple #[t5, t6, t7]) w) (
 LenS x0 fun t8 =>
 Ld x3 w fun t9 w =>
 Bin .sub .i64 t8 t9 fun t10 =>
 Bin .lss .i64 t10 (N 6) fun t11 =>
 IfV t11 (
 CallV pg x7 [(.iface ty_api_Errno (N 3))] w fun t12 w =>
 Ext t12 0 fun t13 =>
 Ext t12 1 fun t14 =>
 Ext t12 2 fun t15 =>
 K (.tuple #[t13, t14, t15]) w) (
 Ld x3 w fun t16 w =>
 CallF pg n_octet_Fixed [x0, t16, (N 4)] w fun t17 w =>
 Ext t17 0 fun t18 =>
 Ext t17 1 fun t19 =>
 Ext t17 2 fun t20 =>
 CallF pg n_octet_Fixed [x0, t19, (N 2)] w fun t21 w =>
 Ext t21 0 fun t22 =>
 Ext t21 1 fun t23 =>
 Ext t21 2 fun t24 =>
 Bin .gtr .i64 t22 (N 60000) fun t25 =>
 IfV t25 (
 CallV pg x7 [(.iface ty_api_Errno (N 6))] w fun t26 w =>
 Ext t26 0 fun t27 =>
 Ext t26 1 fun t28 =>
 Ext t26 2 fun t29 =>
 K (.tuple #[t27, t28, t29]) w) (
 LenS x0 fun t30 =>
 Bin .sub .i64 t30 t23 fun t31 =>
 Bin .gtr .i64 t22 t31 fun t32 =>
 IfV t32 (
 CallV pg x7 [(.iface ty_api_Errno (N 3))] w fun t33 w =>
 Ext t33 0 fun t34 =>
 Ext t33 1 fun t35 =>
 Ext t33 2 fun t36 =>
 K (.tuple #[t34, t35, t36]) w) (
 Bin .add .i64 t23 t22 fun t37 =>
 V pg (Instr.sliceAt 9 x0 (some t19) (some t37) none) w fun t38 w =>
 V pg (Instr.buildSlice ty_s_string 1 [(0, t38)].toArray) w fun t39 w =>
 CallF pg n_frame_Sum [t39] w fun t40 w =>
 Bin .neq .i64 t40 t18 fun t41 =>
 IfV t41 (
 CallV pg x7 [(.iface ty_api_Errno (N 5))] w fun t42 w =>
 Ext t42 0 fun t43 =>
 Ext t42 1 fun t44 =>
 Ext t42 2 fun t45 =>
 K (.tuple #[t43, t44, t45]) w) (
 Bin .add .i64 t23 t22 fun t46 =>
 V pg (Instr.sliceAt 9 x0 (some t23) (some t46) none) w fun t47 w =>
 Bin .add .i64 t23 t22 fun t48 =>
 K (.tuple #[t47, t48, .nilIface]) w)))))
def sh_frame_Next (a0 : Value) (a1 : Value) (w : World) (K : Value → World → Prop) : Prop :=
 New (Value.cells a1).toList 3 w fun t1 w =>
 Ld t1 w fun t2 w =>
 Bin .lss .i64 t2 (N 0) fun t3 =>
 IfV t3 (
 sh_frame_Next_j1 a0 t1 (.func (.func n_frame_Next_c1) #[] #[t1]) (.bool true) w K) (
 Ld t1 w fun t49 w =>
 LenS a0 fun t50 =>
 Bin .gtr .i64 t49 t50 fun t51 =>
 sh_frame_Next_j1 a0 t1 (.func (.func n_frame_Next_c1) #[] #[t1]) t51 w K)
theorem ln_frame_Next {a0 a1 : Value} {w : World} {K : Value → World → Prop} (h : sh_frame_Next a0 a1 w K) : CallF pg n_frame_Next [a0, a1] w K :=
  callF_eq (draw_sound follows) (lvOf []) (n := 104) (rs := [.tmp 4, .tmp 5, .tmp 6]) (c := bodyOf Tryz.f107) (S := sh_frame_Next a0 a1 w K) Tryz.func107 (by kernel_rfl) (by kernel_rfl) (by kernel_rfl) (by kernel_rfl) (by kernel_rfl) (by kernel_rfl) h
/-! 156 lading/frame.Next$1 -/
def sh_frame_Next_c1 (a0 : Value) (a1 : Value) (w : World) (K : Value → World → Prop) : Prop :=
 Drew w fun w =>
 Ld a1 w fun t1 w1 =>
(w1 = w) ∧ (
 Ld a1 w fun t2 w1 =>
(w1 = w) ∧ (
 V pg (Instr.build ty_api_Fault [(0, t2), (1, a0)].toArray) w fun t3 w1 =>
(w1 = w) ∧ (
 K (.tuple #[(Str []), t1, (.iface ty_api_Fault t3)]) w)))
theorem ln_frame_Next_c1 {a0 a1 : Value} {w : World} {K : Value → World → Prop} (h : sh_frame_Next_c1 a0 a1 w K) : CallF pg n_frame_Next_c1 [a0, a1] w K :=
  callF_eq (draw_sound follows) (lvOf []) (n := 11) (rs := [.tmp 3, .tmp 4, .tmp 5]) (c := bodyOf Tryz.f156) (S := sh_frame_Next_c1 a0 a1 w K) Tryz.func156 (by kernel_rfl) (by kernel_rfl) (by kernel_rfl) (by kernel_rfl) (by kernel_rfl) (by kernel_rfl) h
/-! 56 lading/frame.All -/
def sh_frame_All (a0 : Value) (w : World) (K : Value → World → Prop) : Prop :=
 LoopV [0, 4, 5] [a0, (.slice none 0 0), (N 0)] (fun k1 T1 w =>
 CallF pg n_frame_Next [(T1 0), (T1 5)] w fun t1 w =>
 Ext t1 0 fun t2 =>
 Ext t1 1 fun t3 =>
 Ext t1 2 fun t4 =>
 NeNil .iface t4 fun t5 =>
 IfV t5 (
 K (.tuple #[(T1 4), (T1 5)]) w) (
 V pg (Instr.buildSlice ty_s_string 1 [(0, t2)].toArray) w fun t6 w =>
 V pg (Builtin.append_ #[ty_s_string, ty_s_string] ty_s_string [(T1 4), t6].toArray) w fun t7 w =>
 k1 [(T1 0), t7, t3] w)) w
theorem ln_frame_All {a0 : Value} {w : World} {K : Value → World → Prop} (h : sh_frame_All a0 w K) : CallF pg n_frame_All [a0] w K :=
  callF_eq (draw_sound follows) (lvOf [(30, [0, 4, 5])]) (n := 25) (rs := [.tmp 2, .tmp 3]) (c := bodyOf Tryz.f56) (S := sh_frame_All a0 w K) Tryz.func56 (by kernel_rfl) (by kernel_rfl) (by kernel_rfl) (by kernel_rfl) (by kernel_rfl) (by kernel_rfl) h
end Go.Proofs.Tryz

namespace Go.Proofs.Tryz
open Go Go.Lad
set_option autoImplicit false
set_option linter.unusedVariables false
set_option maxRecDepth 100000
/-! 25 lading/journal.Open -/
def sh_journal_Open_j2 (x0 : Value) (x5 : Value) (x6 : Value) (x7 : Value) (w : World) (K : Value → World → Prop) : Prop :=
 NeNil .iface x5 fun t15 =>
 IfV t15 (
 K (.tuple #[(.pointer none), x5]) w) (
 V pg (Instr.build ty_journal_Journal [(0, x0), (1, x6), (2, x7)].toArray) w fun t16 w =>
 New (Value.cells t16).toList ty_journal_Journal w fun t17 w =>
 K (.tuple #[t17, .nilIface]) w)
def sh_journal_Open_j1 (x0 : Value) (x5 : Value) (x6 : Value) (x7 : Value) (w : World) (K : Value → World → Prop) : Prop :=
 EqNil .iface x5 fun t11 =>
 IfV t11 (
 CallF pg n_disk_Disk_Waits [x0] w fun t12 w =>
 Bin .gtr .i64 t12 (N 0) fun t13 =>
 IfV t13 (
 CallF pg n_disk_Disk_Sync [x0] w fun t14 w =>
 sh_journal_Open_j2 x0 t14 x6 x7 w K) (
 sh_journal_Open_j2 x0 x5 x6 x7 w K)) (
 sh_journal_Open_j2 x0 x5 x6 x7 w K)
def sh_journal_Open (a0 : Value) (w : World) (K : Value → World → Prop) : Prop :=
 CallF pg n_disk_Disk_Log [a0] w fun t1 w =>
 Ext t1 0 fun t2 =>
 Ext t1 1 fun t3 =>
 NeNil .iface t3 fun t4 =>
 IfV t4 (
 K (.tuple #[(.pointer none), t3]) w) (
 CallF pg n_frame_All [t2] w fun t5 w =>
 Ext t5 0 fun t6 =>
 Ext t5 1 fun t7 =>
 LenS t2 fun t8 =>
 Bin .lss .i64 t7 t8 fun t9 =>
 IfV t9 (
 CallF pg n_disk_Disk_Cut [a0, t7] w fun t10 w =>
 sh_journal_Open_j1 a0 t10 t6 t7 w K) (
 sh_journal_Open_j1 a0 t3 t6 t7 w K))
theorem ln_journal_Open {a0 : Value} {w : World} {K : Value → World → Prop} (h : sh_journal_Open a0 w K) : CallF pg n_journal_Open [a0] w K :=
  callF_eq (draw_sound follows) (lvOf []) (n := 45) (rs := [.tmp 2, .tmp 3]) (c := bodyOf Tryz.f25) (S := sh_journal_Open a0 w K) Tryz.func25 (by kernel_rfl) (by kernel_rfl) (by kernel_rfl) (by kernel_rfl) (by kernel_rfl) (by kernel_rfl) h
/-! 100 (*lading/journal.Journal).Put -/
def sh_journal_Journal_Put (a0 : Value) (a1 : Value) (w : World) (K : Value → World → Prop) : Prop :=
 EqNil .ptr a0 fun t1 =>
 IfV t1 (
 K (.iface ty_api_Errno (N 1)) w) (
 LenL a1 fun t2 =>
 LoopV [0, 1, 5, 14, 15, 16] [a0, a1, (Str []), a1, t2, (N 0)] (fun k1 T1 w =>
 Bin .lss .i64 (T1 16) (T1 15) fun t3 =>
 IfV t3 (
 IxS (T1 14) (T1 16) 1 fun t4 =>
 Ld t4 w fun t5 w =>
 CallF pg n_frame_Seal [t5] w fun t6 w =>
 Ext t6 0 fun t7 =>
 Ext t6 1 fun t8 =>
 NeNil .iface t8 fun t9 =>
 IfV t9 (
 K t8 w) (
 BinS .add (T1 5) t7 fun t10 =>
 Bin .add .i64 (T1 16) (N 1) fun t11 =>
 k1 [(T1 0), (T1 1), t10, (T1 14), (T1 15), t11] w)) (
 NilCk (T1 0) fun t12 =>
 FA t12 0 fun t13 =>
 Ld t13 w fun t14 w =>
 CallF pg n_disk_Disk_Append [t14, (T1 5)] w fun t15 w =>
 NeNil .iface t15 fun t16 =>
 IfV t16 (
 K t15 w) (
 NilCk (T1 0) fun t17 =>
 FA t17 1 fun t18 =>
 Ld t18 w fun t19 w =>
 V pg (Builtin.append_ #[ty_s_string, ty_s_string] ty_s_string [t19, (T1 1)].toArray) w fun t20 w =>
 NilCk (T1 0) fun t21 =>
 FA t21 1 fun t22 =>
 St t22 t20 w fun t23 w =>
 NilCk (T1 0) fun t24 =>
 FA t24 2 fun t25 =>
 Ld t25 w fun t26 w =>
 LenS (T1 5) fun t27 =>
 Bin .add .i64 t26 t27 fun t28 =>
 NilCk (T1 0) fun t29 =>
 FA t29 2 fun t30 =>
 St t30 t28 w fun t31 w =>
 K .nilIface w))) w)
theorem ln_journal_Journal_Put {a0 a1 : Value} {w : World} {K : Value → World → Prop} (h : sh_journal_Journal_Put a0 a1 w K) : CallF pg n_journal_Journal_Put [a0, a1] w K :=
  callF_eq (draw_sound follows) (lvOf [(122, [0, 1, 5, 14, 15, 16])]) (n := 59) (rs := [.tmp 4]) (c := bodyOf Tryz.f100) (S := sh_journal_Journal_Put a0 a1 w K) Tryz.func100 (by kernel_rfl) (by kernel_rfl) (by kernel_rfl) (by kernel_rfl) (by kernel_rfl) (by kernel_rfl) h
/-! 153 (*lading/journal.Journal).Flush -/
def sh_journal_Journal_Flush (a0 : Value) (w : World) (K : Value → World → Prop) : Prop :=
 EqNil .ptr a0 fun t1 =>
 IfV t1 (
 K (.iface ty_api_Errno (N 1)) w) (
 NilCk a0 fun t2 =>
 FA t2 0 fun t3 =>
 Ld t3 w fun t4 w =>
 CallF pg n_disk_Disk_Sync [t4] w fun t5 w =>
 K t5 w)
theorem ln_journal_Journal_Flush {a0 : Value} {w : World} {K : Value → World → Prop} (h : sh_journal_Journal_Flush a0 w K) : CallF pg n_journal_Journal_Flush [a0] w K :=
  callF_eq (draw_sound follows) (lvOf []) (n := 11) (rs := [.tmp 2]) (c := bodyOf Tryz.f153) (S := sh_journal_Journal_Flush a0 w K) Tryz.func153 (by kernel_rfl) (by kernel_rfl) (by kernel_rfl) (by kernel_rfl) (by kernel_rfl) (by kernel_rfl) h
/-! 154 (*lading/journal.Journal).Write -/
def sh_journal_Journal_Write (a0 : Value) (a1 : Value) (w : World) (K : Value → World → Prop) : Prop :=
 CallF pg n_journal_Journal_Put [a0, a1] w fun t1 w =>
 NeNil .iface t1 fun t2 =>
 IfV t2 (
 K t1 w) (
 CallF pg n_journal_Journal_Flush [a0] w fun t3 w =>
 K t3 w)
theorem ln_journal_Journal_Write {a0 a1 : Value} {w : World} {K : Value → World → Prop} (h : sh_journal_Journal_Write a0 a1 w K) : CallF pg n_journal_Journal_Write [a0, a1] w K :=
  callF_eq (draw_sound follows) (lvOf []) (n := 14) (rs := [.tmp 4]) (c := bodyOf Tryz.f154) (S := sh_journal_Journal_Write a0 a1 w K) Tryz.func154 (by kernel_rfl) (by kernel_rfl) (by kernel_rfl) (by kernel_rfl) (by kernel_rfl) (by kernel_rfl) h
/-! 26 (*lading/journal.Journal).All -/
def sh_journal_Journal_All (a0 : Value) (w : World) (K : Value → World → Prop) : Prop :=
 EqNil .ptr a0 fun t1 =>
 IfV t1 (
 K (.slice none 0 0) w) (
 NilCk a0 fun t2 =>
 FA t2 1 fun t3 =>
 Ld t3 w fun t4 w =>
 CallF pg n_slices_Clone_string [t4] w fun t5 w =>
 K t5 w)
theorem ln_journal_Journal_All {a0 : Value} {w : World} {K : Value → World → Prop} (h : sh_journal_Journal_All a0 w K) : CallF pg n_journal_Journal_All [a0] w K :=
  callF_eq (draw_sound follows) (lvOf []) (n := 10) (rs := [.tmp 2]) (c := bodyOf Tryz.f26) (S := sh_journal_Journal_All a0 w K) Tryz.func26 (by kernel_rfl) (by kernel_rfl) (by kernel_rfl) (by kernel_rfl) (by kernel_rfl) (by kernel_rfl) h
end Go.Proofs.Tryz

namespace Go.Proofs.Tryz
open Go Go.Lad
set_option autoImplicit false
set_option linter.unusedVariables false
set_option maxRecDepth 100000
/-! 132 lading/edges.Norm -/
def sh_edges_Norm (a0 : Value) (a1 : Value) (w : World) (K : Value → World → Prop) : Prop :=
 CallF pg n_edges_Check [a0, a1] w fun t1 w =>
 NeNil .iface t1 fun t2 =>
 IfV t2 (
 K (.tuple #[(.slice none 0 0), t1]) w) (
 CallF pg n_slices_Clone_Edge [a1] w fun t3 w =>
 CallF pg n_slices_SortFunc_Edge [t3, (.func (.func n_edges_order) #[] #[])] w fun t4 w =>
 CallF pg n_slices_Compact_Edge [t3] w fun t5 w =>
 K (.tuple #[t5, .nilIface]) w)
theorem ln_edges_Norm {a0 a1 : Value} {w : World} {K : Value → World → Prop} (h : sh_edges_Norm a0 a1 w K) : CallF pg n_edges_Norm [a0, a1] w K :=
  callF_eq (draw_sound follows) (lvOf []) (n := 20) (rs := [.tmp 4, .tmp 5]) (c := bodyOf Tryz.f132) (S := sh_edges_Norm a0 a1 w K) Tryz.func132 (by kernel_rfl) (by kernel_rfl) (by kernel_rfl) (by kernel_rfl) (by kernel_rfl) (by kernel_rfl) h
/-! 133 lading/csr.rows -/
def sh_csr_rows (a0 : Value) (a1 : Value) (w : World) (K : Value → World → Prop) : Prop :=
 Bin .add .i64 a0 (N 1) fun t1 =>
 V pg (Instr.makeSlice ty_s_int t1 t1) w fun t2 w =>
 V pg (Instr.build ty_csr_Csr [(0, t2)].toArray) w fun t3 w =>
 New (Value.cells t3).toList ty_csr_Csr w fun t4 w =>
 LenL a1 fun t5 =>
 LoopV [0, 5, 14, 15, 16] [a0, t4, a1, t5, (N 0)] (fun k1 T1 w =>
 Bin .lss .i64 (T1 16) (T1 15) fun t6 =>
 IfV t6 (
 IxS (T1 14) (T1 16) 2 fun t7 =>
 LdN t7 2 w fun t8 w =>
 New [(N 0), (N 0)] ty_api_Edge w fun t9 w =>
 StN t9 t8 2 w fun t10 w =>
 Drew w fun w =>
 NilCk (T1 5) fun t11 =>
 FA t11 0 fun t12 =>
 Ld t12 w fun t13 w1 =>
(w1 = w) ∧ (
 FA t9 0 fun t14 =>
 Ld t14 w fun t15 w1 =>
(w1 = w) ∧ (
 Bin .add .i64 t15 (N 1) fun t16 =>
 IxS t13 t16 1 fun t17 =>
 Ld t17 w fun t18 w1 =>
(w1 = w) ∧ (
 Bin .add .i64 t18 (N 1) fun t19 =>
 IxS t13 t16 1 fun t20 =>
 St t20 t19 w fun t21 w =>
(True) ∧ (
 Drew w fun w =>
 NilCk (T1 5) fun t22 =>
 FA t22 1 fun t23 =>
 Ld t23 w fun t24 w1 =>
(w1 = w) ∧ (
 FA t9 1 fun t25 =>
 Ld t25 w fun t26 w1 =>
(w1 = w) ∧ (
 V pg (Instr.buildSlice ty_s_int 1 [(0, t26)].toArray) w fun t27 w =>
((Ld t23 w fun t33 w1 => w1 = w ∧ t33 = t24) ∧ True) ∧ (
 V pg (Builtin.append_ #[ty_s_int, ty_s_int] ty_s_int [t24, t27].toArray) w fun t28 w =>
(True) ∧ (
 NilCk (T1 5) fun t29 =>
 FA t29 1 fun t30 =>
 St t30 t28 w fun t31 w =>
(True) ∧ (
 Bin .add .i64 (T1 16) (N 1) fun t32 =>
 k1 [(T1 0), (T1 5), (T1 14), (T1 15), t32] w)))))))))) (
 LoopV [5, 43, 44] [(T1 5), (T1 0), (N 0)] (fun k2 T2 w =>
 Bin .lss .i64 (T2 44) (T2 43) fun t34 =>
 IfV t34 (
 Drew w fun w =>
 NilCk (T2 5) fun t35 =>
 FA t35 0 fun t36 =>
 Ld t36 w fun t37 w1 =>
(w1 = w) ∧ (
 Bin .add .i64 (T2 44) (N 1) fun t38 =>
 IxS t37 t38 1 fun t39 =>
 Ld t39 w fun t40 w1 =>
(w1 = w) ∧ (
 NilCk (T2 5) fun t41 =>
 FA t41 0 fun t42 =>
 Ld t42 w fun t43 w1 =>
(w1 = w) ∧ (
 IxS t43 (T2 44) 1 fun t44 =>
 Ld t44 w fun t45 w1 =>
(w1 = w) ∧ (
 Bin .add .i64 t40 t45 fun t46 =>
 IxS t37 t38 1 fun t47 =>
 St t47 t46 w fun t48 w =>
(True) ∧ (
 Bin .add .i64 (T2 44) (N 1) fun t49 =>
 k2 [(T2 5), (T2 43), t49] w)))))) (
 K (T2 5) w)) w)) w
theorem ln_csr_rows {a0 a1 : Value} {w : World} {K : Value → World → Prop} (h : sh_csr_rows a0 a1 w K) : CallF pg n_csr_rows [a0, a1] w K :=
  callF_eq (draw_sound follows) (lvOf [(58, [0, 5, 14, 15, 16]), (122, [5, 43, 44])]) (n := 66) (rs := [.tmp 4]) (c := bodyOf Tryz.f133) (S := sh_csr_rows a0 a1 w K) Tryz.func133 (by kernel_rfl) (by kernel_rfl) (by kernel_rfl) (by kernel_rfl) (by kernel_rfl) (by kernel_rfl) h
/-! 92 lading/csr.Build -/
def sh_csr_Build (a0 : Value) (a1 : Value) (w : World) (K : Value → World → Prop) : Prop :=
 CallF pg n_edges_Norm [a0, a1] w fun t1 w =>
 Ext t1 0 fun t2 =>
 Ext t1 1 fun t3 =>
 NeNil .iface t3 fun t4 =>
 IfV t4 (
 K (.tuple #[(.pointer none), t3]) w) (
 CallF pg n_csr_rows [a0, t2] w fun t5 w =>
 K (.tuple #[t5, .nilIface]) w)
theorem ln_csr_Build {a0 a1 : Value} {w : World} {K : Value → World → Prop} (h : sh_csr_Build a0 a1 w K) : CallF pg n_csr_Build [a0, a1] w K :=
  callF_eq (draw_sound follows) (lvOf []) (n := 20) (rs := [.tmp 4, .tmp 5]) (c := bodyOf Tryz.f92) (S := sh_csr_Build a0 a1 w K) Tryz.func92 (by kernel_rfl) (by kernel_rfl) (by kernel_rfl) (by kernel_rfl) (by kernel_rfl) (by kernel_rfl) h
/-! 134 (*lading/csr.Csr).Nodes -/
def sh_csr_Csr_Nodes (a0 : Value) (w : World) (K : Value → World → Prop) : Prop :=
 EqNil .ptr a0 fun t1 =>
 IfV t1 (
 K (N 0) w) (
 NilCk a0 fun t2 =>
 FA t2 0 fun t3 =>
 Ld t3 w fun t4 w =>
 LenL t4 fun t5 =>
 Bin .sub .i64 t5 (N 1) fun t6 =>
 K t6 w)
theorem ln_csr_Csr_Nodes {a0 : Value} {w : World} {K : Value → World → Prop} (h : sh_csr_Csr_Nodes a0 w K) : CallF pg n_csr_Csr_Nodes [a0] w K :=
  callF_eq (draw_sound follows) (lvOf []) (n := 11) (rs := [.tmp 2]) (c := bodyOf Tryz.f134) (S := sh_csr_Csr_Nodes a0 w K) Tryz.func134 (by kernel_rfl) (by kernel_rfl) (by kernel_rfl) (by kernel_rfl) (by kernel_rfl) (by kernel_rfl) h
/-! 96 (*lading/csr.Csr).Edges -/
def sh_csr_Csr_Edges (a0 : Value) (w : World) (K : Value → World → Prop) : Prop :=
 EqNil .ptr a0 fun t1 =>
 IfV t1 (
 K (N 0) w) (
 NilCk a0 fun t2 =>
 FA t2 1 fun t3 =>
 Ld t3 w fun t4 w =>
 LenL t4 fun t5 =>
 K t5 w)
theorem ln_csr_Csr_Edges {a0 : Value} {w : World} {K : Value → World → Prop} (h : sh_csr_Csr_Edges a0 w K) : CallF pg n_csr_Csr_Edges [a0] w K :=
  callF_eq (draw_sound follows) (lvOf []) (n := 10) (rs := [.tmp 2]) (c := bodyOf Tryz.f96) (S := sh_csr_Csr_Edges a0 w K) Tryz.func96 (by kernel_rfl) (by kernel_rfl) (by kernel_rfl) (by kernel_rfl) (by kernel_rfl) (by kernel_rfl) h
/-! 246 (*lading/csr.Csr).row -/
def sh_csr_Csr_row (a0 : Value) (a1 : Value) (w : World) (K : Value → World → Prop) : Prop :=
 EqNil .ptr a0 fun t1 =>
 IfV t1 (
 K (.tuple #[(.slice none 0 0), (.iface ty_api_Errno (N 1))]) w) (
 Bin .lss .i64 a1 (N 0) fun t2 =>
 IfV t2 (
 K (.tuple #[(.slice none 0 0), (.iface ty_api_Errno (N 2))]) w) (
 CallF pg n_csr_Csr_Nodes [a0] w fun t3 w =>
 Bin .geq .i64 a1 t3 fun t4 =>
 IfV t4 (
 K (.tuple #[(.slice none 0 0), (.iface ty_api_Errno (N 2))]) w) (
 Drew w fun w =>
 NilCk a0 fun t5 =>
 FA t5 1 fun t6 =>
 Ld t6 w fun t7 w1 =>
(w1 = w) ∧ (
 NilCk a0 fun t8 =>
 FA t8 0 fun t9 =>
 Ld t9 w fun t10 w1 =>
(w1 = w) ∧ (
 IxS t10 a1 1 fun t11 =>
 Ld t11 w fun t12 w1 =>
(w1 = w) ∧ (
 NilCk a0 fun t13 =>
 FA t13 0 fun t14 =>
 Ld t14 w fun t15 w1 =>
(w1 = w) ∧ (
 Bin .add .i64 a1 (N 1) fun t16 =>
 IxS t15 t16 1 fun t17 =>
 Ld t17 w fun t18 w1 =>
(w1 = w) ∧ (
 V pg (Instr.sliceAt ty_s_int t7 (some t12) (some t18) none) w fun t19 w1 =>
(w1 = w) ∧ (
 K (.tuple #[t19, .nilIface]) w)))))))))
theorem ln_csr_Csr_row {a0 a1 : Value} {w : World} {K : Value → World → Prop} (h : sh_csr_Csr_row a0 a1 w K) : CallF pg n_csr_Csr_row [a0, a1] w K :=
  callF_eq (draw_sound follows) (lvOf []) (n := 40) (rs := [.tmp 4, .tmp 5]) (c := bodyOf Tryz.f246) (S := sh_csr_Csr_row a0 a1 w K) Tryz.func246 (by kernel_rfl) (by kernel_rfl) (by kernel_rfl) (by kernel_rfl) (by kernel_rfl) (by kernel_rfl) h
/-! 227 (*lading/csr.Csr).Targets -/
def sh_csr_Csr_Targets (a0 : Value) (a1 : Value) (w : World) (K : Value → World → Prop) : Prop :=
 CallF pg n_csr_Csr_row [a0, a1] w fun t1 w =>
 Ext t1 0 fun t2 =>
 Ext t1 1 fun t3 =>
 CallF pg n_slices_Clone_int [t2] w fun t4 w =>
 K (.tuple #[t4, t3]) w
theorem ln_csr_Csr_Targets {a0 a1 : Value} {w : World} {K : Value → World → Prop} (h : sh_csr_Csr_Targets a0 a1 w K) : CallF pg n_csr_Csr_Targets [a0, a1] w K :=
  callF_eq (draw_sound follows) (lvOf []) (n := 17) (rs := [.tmp 4, .tmp 5]) (c := bodyOf Tryz.f227) (S := sh_csr_Csr_Targets a0 a1 w K) Tryz.func227 (by kernel_rfl) (by kernel_rfl) (by kernel_rfl) (by kernel_rfl) (by kernel_rfl) (by kernel_rfl) h
end Go.Proofs.Tryz

namespace Go.Proofs.Tryz
open Go Go.Lad
set_option autoImplicit false
set_option linter.unusedVariables false
set_option maxRecDepth 100000
/-! 8 lading/api.Code -/
def sh_api_Code (a0 : Value) (w : World) (K : Value → World → Prop) : Prop :=
 EqNil .iface a0 fun t1 =>
 IfV t1 (
 K (N 0) w) (
 New [(N 0)] ty_api_Errno w fun t2 w =>
 CallF pg n_errors_As [a0, (.iface ty_p_api_Errno t2)] w fun t3 w =>
 IfV t3 (
 Ld t2 w fun t4 w =>
 K t4 w) (
 K (.int .i64 (-1)) w))
theorem ln_api_Code {a0 : Value} {w : World} {K : Value → World → Prop} (h : sh_api_Code a0 w K) : CallF pg n_api_Code [a0] w K :=
  callF_eq (draw_sound follows) (lvOf []) (n := 10) (rs := [.tmp 2]) (c := bodyOf Tryz.f8) (S := sh_api_Code a0 w K) Tryz.func8 (by kernel_rfl) (by kernel_rfl) (by kernel_rfl) (by kernel_rfl) (by kernel_rfl) (by kernel_rfl) h
end Go.Proofs.Tryz

