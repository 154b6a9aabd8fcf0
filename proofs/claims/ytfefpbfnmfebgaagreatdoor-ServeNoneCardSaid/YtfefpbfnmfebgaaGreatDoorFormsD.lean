/- Part of a proof (its text FormsD): what is proved stands in the text Card. -/
import Derived.Test.YtfefpbfnmfebgaaGreatDoorBase
set_option linter.all false
namespace Go.Proofs.Tryz
open Go Go.Lad
set_option autoImplicit false
set_option linter.unusedVariables false
set_option maxRecDepth 100000
/-! 161 lading/octet.there -/
def sh_octet_there (a0 : Value) (a1 : Value) (w : World) (K : Value → World → Prop) : Prop :=
 Bin .geq .i64 a1 (N 0) fun t1 =>
 IfV t1 (
 LenS a0 fun t2 =>
 Bin .leq .i64 a1 t2 fun t3 =>
 K t3 w) (
 K (.bool false) w)
theorem ln_octet_there {a0 a1 : Value} {w : World} {K : Value → World → Prop} (h : sh_octet_there a0 a1 w K) : CallF pg n_octet_there [a0, a1] w K :=
  callF_eq (draw_sound follows) (lvOf []) (n := 13) (rs := [.tmp 4]) (c := bodyOf Tryz.f161) (S := sh_octet_there a0 a1 w K) Tryz.func161 (by kernel_rfl) (by kernel_rfl) (by kernel_rfl) (by kernel_rfl) (by kernel_rfl) (by kernel_rfl) h
/-! 160 lading/octet.fault -/
def sh_octet_fault (a0 : Value) (a1 : Value) (w : World) (K : Value → World → Prop) : Prop :=
 V pg (Instr.build ty_api_Fault [(0, a0), (1, a1)].toArray) w fun t1 w =>
 K (.iface ty_api_Fault t1) w
theorem ln_octet_fault {a0 a1 : Value} {w : World} {K : Value → World → Prop} (h : sh_octet_fault a0 a1 w K) : CallF pg n_octet_fault [a0, a1] w K :=
  callF_eq (draw_sound follows) (lvOf []) (n := 9) (rs := [.tmp 4]) (c := bodyOf Tryz.f160) (S := sh_octet_fault a0 a1 w K) Tryz.func160 (by kernel_rfl) (by kernel_rfl) (by kernel_rfl) (by kernel_rfl) (by kernel_rfl) (by kernel_rfl) h
/-! 157 lading/octet.Fixed -/
def sh_octet_Fixed_j1 (x0 : Value) (x1 : Value) (x2 : Value) (x11 : Value) (w : World) (K : Value → World → Prop) : Prop :=
 IfV x11 (
 CallF pg n_octet_fault [x1, (.iface ty_api_Errno (N 1))] w fun t3 w =>
 K (.tuple #[(N 0), x1, t3]) w) (
 LenS x0 fun t4 =>
 Bin .sub .i64 t4 x1 fun t5 =>
 Bin .lss .i64 t5 x2 fun t6 =>
 IfV t6 (
 LenS x0 fun t7 =>
 CallF pg n_octet_fault [t7, (.iface ty_api_Errno (N 3))] w fun t8 w =>
 K (.tuple #[(N 0), x1, t8]) w) (
 LoopV [0, 1, 2, 9, 40, 41] [x0, x1, x2, (N 0), x2, (N 0)] (fun k1 T1 w =>
 Bin .lss .i64 (T1 41) (T1 40) fun t9 =>
 IfV t9 (
 Bin .add .i64 (T1 1) (T1 41) fun t10 =>
 IxStr (T1 0) t10 fun t11 =>
 V pg (convert 5 3 t11) w fun t12 w =>
 Bin .mul .i64 (N 8) (T1 41) fun t13 =>
 Shf .shl .i64 t12 t13 fun t14 =>
 Bin .or .i64 (T1 9) t14 fun t15 =>
 Bin .add .i64 (T1 41) (N 1) fun t16 =>
 k1 [(T1 0), (T1 1), (T1 2), t15, (T1 40), t16] w) (
 Bin .add .i64 (T1 1) (T1 2) fun t17 =>
 K (.tuple #[(T1 9), t17, .nilIface]) w)) w))
def sh_octet_Fixed (a0 : Value) (a1 : Value) (a2 : Value) (w : World) (K : Value → World → Prop) : Prop :=
 CallF pg n_octet_there [a0, a1] w fun t1 w =>
 NotV t1 fun t2 =>
 IfV t2 (
 sh_octet_Fixed_j1 a0 a1 a2 (.bool true) w K) (
 Bin .lss .i64 a2 (N 1) fun t18 =>
 IfV t18 (
 sh_octet_Fixed_j1 a0 a1 a2 (.bool true) w K) (
 Bin .gtr .i64 a2 (N 7) fun t19 =>
 sh_octet_Fixed_j1 a0 a1 a2 t19 w K))
theorem ln_octet_Fixed {a0 a1 a2 : Value} {w : World} {K : Value → World → Prop} (h : sh_octet_Fixed a0 a1 a2 w K) : CallF pg n_octet_Fixed [a0, a1, a2] w K :=
  callF_eq (draw_sound follows) (lvOf [(122, [0, 1, 2, 9, 40, 41])]) (n := 60) (rs := [.tmp 6, .tmp 7, .tmp 8]) (c := bodyOf Tryz.f157) (S := sh_octet_Fixed a0 a1 a2 w K) Tryz.func157 (by kernel_rfl) (by kernel_rfl) (by kernel_rfl) (by kernel_rfl) (by kernel_rfl) (by kernel_rfl) h
/-! 113 lading/octet.Short -/
def sh_octet_Short_j1 (k1 : List Value → World → Prop) (x0 : Value) (x1 : Value) (x7 : Value) (x8 : Value) (x9 : Value) (x21 : Value) (x22 : Value) (x38 : Value) (w : World) (K : Value → World → Prop) : Prop :=
 IfV x38 (
 CallF pg n_octet_fault [x1, (.iface ty_api_Errno (N 4))] w fun t16 w =>
 K (.tuple #[(N 0), x1, t16]) w) (
 Bin .geq .u8 x9 (Y 128) fun t17 =>
 IfV t17 (
 Bin .add .i64 x22 (N 1) fun t18 =>
 k1 [x0, x1, x7, x21, t18] w) (
 Bin .eql .u8 x9 (Y 0) fun t19 =>
 IfV t19 (
 Bin .gtr .i64 x8 (N 0) fun t20 =>
 IfV t20 (
 CallF pg n_octet_fault [x1, (.iface ty_api_Errno (N 4))] w fun t21 w =>
 K (.tuple #[(N 0), x1, t21]) w) (
 Bin .add .i64 x1 x8 fun t22 =>
 Bin .add .i64 t22 (N 1) fun t23 =>
 K (.tuple #[x7, t23, .nilIface]) w)) (
 Bin .add .i64 x1 x8 fun t24 =>
 Bin .add .i64 t24 (N 1) fun t25 =>
 K (.tuple #[x7, t25, .nilIface]) w)))
def sh_octet_Short (a0 : Value) (a1 : Value) (w : World) (K : Value → World → Prop) : Prop :=
 CallF pg n_octet_there [a0, a1] w fun t1 w =>
 NotV t1 fun t2 =>
 IfV t2 (
 CallF pg n_octet_fault [a1, (.iface ty_api_Errno (N 1))] w fun t3 w =>
 K (.tuple #[(N 0), a1, t3]) w) (
 LenS a0 fun t4 =>
 Bin .sub .i64 t4 a1 fun t5 =>
 LoopV [0, 1, 7, 21, 22] [a0, a1, (N 0), t5, (N 0)] (fun k1 T1 w =>
 Bin .lss .i64 (T1 22) (T1 21) fun t6 =>
 IfV t6 (
 Bin .add .i64 (T1 1) (T1 22) fun t7 =>
 IxStr (T1 0) t7 fun t8 =>
 Bin .and .u8 t8 (Y 127) fun t9 =>
 V pg (convert 5 3 t9) w fun t10 w =>
 Bin .mul .i64 (N 7) (T1 22) fun t11 =>
 Shf .shl .i64 t10 t11 fun t12 =>
 Bin .or .i64 (T1 7) t12 fun t13 =>
 Bin .geq .u8 t8 (Y 128) fun t14 =>
 IfV t14 (
 Bin .eql .i64 (T1 22) (N 7) fun t15 =>
 sh_octet_Short_j1 k1 (T1 0) (T1 1) t13 (T1 22) t8 (T1 21) (T1 22) t15 w K) (
 sh_octet_Short_j1 k1 (T1 0) (T1 1) t13 (T1 22) t8 (T1 21) (T1 22) (.bool false) w K)) (
 LenS (T1 0) fun t26 =>
 CallF pg n_octet_fault [t26, (.iface ty_api_Errno (N 3))] w fun t27 w =>
 K (.tuple #[(N 0), (T1 1), t27]) w)) w)
theorem ln_octet_Short {a0 a1 : Value} {w : World} {K : Value → World → Prop} (h : sh_octet_Short a0 a1 w K) : CallF pg n_octet_Short [a0, a1] w K :=
  callF_eq (draw_sound follows) (lvOf [(122, [0, 1, 7, 21, 22])]) (n := 74) (rs := [.tmp 4, .tmp 5, .tmp 6]) (c := bodyOf Tryz.f113) (S := sh_octet_Short a0 a1 w K) Tryz.func113 (by kernel_rfl) (by kernel_rfl) (by kernel_rfl) (by kernel_rfl) (by kernel_rfl) (by kernel_rfl) h
/-! 111 lading/octet.Text -/
def sh_octet_Text (a0 : Value) (a1 : Value) (a2 : Value) (w : World) (K : Value → World → Prop) : Prop :=
 CallF pg n_octet_Short [a0, a1] w fun t1 w =>
 Ext t1 0 fun t2 =>
 Ext t1 1 fun t3 =>
 Ext t1 2 fun t4 =>
 NeNil .iface t4 fun t5 =>
 IfV t5 (
 K (.tuple #[(Str []), a1, t4]) w) (
 Bin .gtr .i64 t2 a2 fun t6 =>
 IfV t6 (
 CallF pg n_octet_fault [a1, (.iface ty_api_Errno (N 6))] w fun t7 w =>
 K (.tuple #[(Str []), a1, t7]) w) (
 LenS a0 fun t8 =>
 Bin .sub .i64 t8 t3 fun t9 =>
 Bin .gtr .i64 t2 t9 fun t10 =>
 IfV t10 (
 LenS a0 fun t11 =>
 CallF pg n_octet_fault [t11, (.iface ty_api_Errno (N 3))] w fun t12 w =>
 K (.tuple #[(Str []), a1, t12]) w) (
 Bin .add .i64 t3 t2 fun t13 =>
 V pg (Instr.sliceAt 9 a0 (some t3) (some t13) none) w fun t14 w =>
 Bin .add .i64 t3 t2 fun t15 =>
 K (.tuple #[t14, t15, .nilIface]) w)))
theorem ln_octet_Text {a0 a1 a2 : Value} {w : World} {K : Value → World → Prop} (h : sh_octet_Text a0 a1 a2 w K) : CallF pg n_octet_Text [a0, a1, a2] w K :=
  callF_eq (draw_sound follows) (lvOf []) (n := 53) (rs := [.tmp 6, .tmp 7, .tmp 8]) (c := bodyOf Tryz.f111) (S := sh_octet_Text a0 a1 a2 w K) Tryz.func111 (by kernel_rfl) (by kernel_rfl) (by kernel_rfl) (by kernel_rfl) (by kernel_rfl) (by kernel_rfl) h
/-! 143 lading/octet.PutShort -/
def sh_octet_PutShort (a0 : Value) (w : World) (K : Value → World → Prop) : Prop :=
 Bin .lss .i64 a0 (N 0) fun t1 =>
 IfV t1 (
 K (.tuple #[(Str []), (.iface ty_api_Errno (N 2))]) w) (
 Bin .gtr .i64 a0 (N 72057594037927935) fun t2 =>
 IfV t2 (
 K (.tuple #[(Str []), (.iface ty_api_Errno (N 2))]) w) (
 CallF pg n_octet_short [a0] w fun t3 w =>
 K (.tuple #[t3, .nilIface]) w))
theorem ln_octet_PutShort {a0 : Value} {w : World} {K : Value → World → Prop} (h : sh_octet_PutShort a0 w K) : CallF pg n_octet_PutShort [a0] w K :=
  callF_eq (draw_sound follows) (lvOf []) (n := 13) (rs := [.tmp 2, .tmp 3]) (c := bodyOf Tryz.f143) (S := sh_octet_PutShort a0 w K) Tryz.func143 (by kernel_rfl) (by kernel_rfl) (by kernel_rfl) (by kernel_rfl) (by kernel_rfl) (by kernel_rfl) h
/-! 201 lading/octet.short -/
def sh_octet_short (a0 : Value) (w : World) (K : Value → World → Prop) : Prop :=
 LoopV [0, 3] [a0, (.slice none 0 0)] (fun k1 T1 w =>
 Bin .geq .i64 (T1 0) (N 128) fun t1 =>
 IfV t1 (
 Bin .and .i64 (T1 0) (N 127) fun t2 =>
 Bin .or .i64 t2 (N 128) fun t3 =>
 V pg (convert 3 5 t3) w fun t4 w =>
 V pg (Instr.buildSlice ty_s_uint8 1 [(0, t4)].toArray) w fun t5 w =>
 V pg (Builtin.append_ #[ty_s_uint8, ty_s_uint8] ty_s_uint8 [(T1 3), t5].toArray) w fun t6 w =>
 Shf .shr .i64 (T1 0) (Q 7) fun t7 =>
 k1 [t7, t6] w) (
 V pg (convert 3 5 (T1 0)) w fun t8 w =>
 V pg (Instr.buildSlice ty_s_uint8 1 [(0, t8)].toArray) w fun t9 w =>
 V pg (Builtin.append_ #[ty_s_uint8, ty_s_uint8] ty_s_uint8 [(T1 3), t9].toArray) w fun t10 w =>
 V pg (convert ty_s_uint8 9 t10) w fun t11 w =>
 K t11 w)) w
theorem ln_octet_short {a0 : Value} {w : World} {K : Value → World → Prop} (h : sh_octet_short a0 w K) : CallF pg n_octet_short [a0] w K :=
  callF_eq (draw_sound follows) (lvOf [(28, [0, 3])]) (n := 21) (rs := [.tmp 2]) (c := bodyOf Tryz.f201) (S := sh_octet_short a0 w K) Tryz.func201 (by kernel_rfl) (by kernel_rfl) (by kernel_rfl) (by kernel_rfl) (by kernel_rfl) (by kernel_rfl) h
/-! 202 lading/octet.PutFixed -/
def sh_octet_PutFixed_j1 (x0 : Value) (x1 : Value) (x8 : Value) (w : World) (K : Value → World → Prop) : Prop :=
 IfV x8 (
 K (.tuple #[(Str []), (.iface ty_api_Errno (N 1))]) w) (
 Bin .lss .i64 x1 (N 0) fun t2 =>
 IfV t2 (
 K (.tuple #[(Str []), (.iface ty_api_Errno (N 2))]) w) (
 Bin .mul .i64 (N 8) x0 fun t3 =>
 Shf .shr .i64 x1 t3 fun t4 =>
 Bin .neq .i64 t4 (N 0) fun t5 =>
 IfV t5 (
 K (.tuple #[(Str []), (.iface ty_api_Errno (N 2))]) w) (
 V pg (Instr.makeSlice ty_s_uint8 x0 x0) w fun t6 w =>
 LenL t6 fun t7 =>
 LoopV [1, 6, 30, 31] [x1, t6, t7, (N 0)] (fun k1 T1 w =>
 Bin .lss .i64 (T1 31) (T1 30) fun t8 =>
 IfV t8 (
 Bin .mul .i64 (N 8) (T1 31) fun t9 =>
 Shf .shr .i64 (T1 1) t9 fun t10 =>
 V pg (convert 3 5 t10) w fun t11 w =>
 IxS (T1 6) (T1 31) 1 fun t12 =>
 St t12 t11 w fun t13 w =>
 Bin .add .i64 (T1 31) (N 1) fun t14 =>
 k1 [(T1 1), (T1 6), (T1 30), t14] w) (
 V pg (convert ty_s_uint8 9 (T1 6)) w fun t15 w =>
 K (.tuple #[t15, .nilIface]) w)) w)))
def sh_octet_PutFixed (a0 : Value) (a1 : Value) (w : World) (K : Value → World → Prop) : Prop :=
 Bin .lss .i64 a0 (N 1) fun t1 =>
 IfV t1 (
 sh_octet_PutFixed_j1 a0 a1 (.bool true) w K) (
 Bin .gtr .i64 a0 (N 7) fun t16 =>
 sh_octet_PutFixed_j1 a0 a1 t16 w K)
theorem ln_octet_PutFixed {a0 a1 : Value} {w : World} {K : Value → World → Prop} (h : sh_octet_PutFixed a0 a1 w K) : CallF pg n_octet_PutFixed [a0, a1] w K :=
  callF_eq (draw_sound follows) (lvOf [(122, [1, 6, 30, 31])]) (n := 45) (rs := [.tmp 4, .tmp 5]) (c := bodyOf Tryz.f202) (S := sh_octet_PutFixed a0 a1 w K) Tryz.func202 (by kernel_rfl) (by kernel_rfl) (by kernel_rfl) (by kernel_rfl) (by kernel_rfl) (by kernel_rfl) h
/-! 144 lading/octet.PutText -/
def sh_octet_PutText (a0 : Value) (w : World) (K : Value → World → Prop) : Prop :=
 New [(.pointer none), (.slice none 0 0)] ty_strings_Builder w fun t1 w =>
 LenL a0 fun t2 =>
 LoopV [3, 6, 7, 8] [t1, a0, t2, (N 0)] (fun k1 T1 w =>
 Bin .lss .i64 (T1 8) (T1 7) fun t3 =>
 IfV t3 (
 IxS (T1 6) (T1 8) 1 fun t4 =>
 Ld t4 w fun t5 w =>
 LenS t5 fun t6 =>
 CallF pg n_octet_short [t6] w fun t7 w =>
 BinS .add t7 t5 fun t8 =>
 CallF pg n_strings_Builder_WriteString [(T1 3), t8] w fun t9 w =>
 Bin .add .i64 (T1 8) (N 1) fun t10 =>
 k1 [(T1 3), (T1 6), (T1 7), t10] w) (
 CallF pg n_strings_Builder_String [(T1 3)] w fun t11 w =>
 K t11 w)) w
theorem ln_octet_PutText {a0 : Value} {w : World} {K : Value → World → Prop} (h : sh_octet_PutText a0 w K) : CallF pg n_octet_PutText [a0] w K :=
  callF_eq (draw_sound follows) (lvOf [(58, [3, 6, 7, 8])]) (n := 20) (rs := [.tmp 2]) (c := bodyOf Tryz.f144) (S := sh_octet_PutText a0 w K) Tryz.func144 (by kernel_rfl) (by kernel_rfl) (by kernel_rfl) (by kernel_rfl) (by kernel_rfl) (by kernel_rfl) h
/-! 248 lading/octet.PutTurned -/
def sh_octet_PutTurned (a0 : Value) (w : World) (K : Value → World → Prop) : Prop :=
 Bin .lss .i64 a0 (.int .i64 (-36028797018963968)) fun t1 =>
 IfV t1 (
 K (.tuple #[(Str []), (.iface ty_api_Errno (N 2))]) w) (
 Bin .geq .i64 a0 (N 36028797018963968) fun t2 =>
 IfV t2 (
 K (.tuple #[(Str []), (.iface ty_api_Errno (N 2))]) w) (
 CallF pg n_octet_Turn [a0] w fun t3 w =>
 CallF pg n_octet_short [t3] w fun t4 w =>
 K (.tuple #[t4, .nilIface]) w))
theorem ln_octet_PutTurned {a0 : Value} {w : World} {K : Value → World → Prop} (h : sh_octet_PutTurned a0 w K) : CallF pg n_octet_PutTurned [a0] w K :=
  callF_eq (draw_sound follows) (lvOf []) (n := 14) (rs := [.tmp 2, .tmp 3]) (c := bodyOf Tryz.f248) (S := sh_octet_PutTurned a0 w K) Tryz.func248 (by kernel_rfl) (by kernel_rfl) (by kernel_rfl) (by kernel_rfl) (by kernel_rfl) (by kernel_rfl) h
/-! 221 lading/octet.Turned -/
def sh_octet_Turned (a0 : Value) (a1 : Value) (w : World) (K : Value → World → Prop) : Prop :=
 CallF pg n_octet_Short [a0, a1] w fun t1 w =>
 Ext t1 0 fun t2 =>
 Ext t1 1 fun t3 =>
 Ext t1 2 fun t4 =>
 NeNil .iface t4 fun t5 =>
 IfV t5 (
 K (.tuple #[(N 0), a1, t4]) w) (
 CallF pg n_octet_Back [t2] w fun t6 w =>
 K (.tuple #[t6, t3, .nilIface]) w)
theorem ln_octet_Turned {a0 a1 : Value} {w : World} {K : Value → World → Prop} (h : sh_octet_Turned a0 a1 w K) : CallF pg n_octet_Turned [a0, a1] w K :=
  callF_eq (draw_sound follows) (lvOf []) (n := 24) (rs := [.tmp 4, .tmp 5, .tmp 6]) (c := bodyOf Tryz.f221) (S := sh_octet_Turned a0 a1 w K) Tryz.func221 (by kernel_rfl) (by kernel_rfl) (by kernel_rfl) (by kernel_rfl) (by kernel_rfl) (by kernel_rfl) h
/-! 256 lading/octet.Turn -/
def sh_octet_Turn (a0 : Value) (w : World) (K : Value → World → Prop) : Prop :=
 Bin .lss .i64 a0 (.int .i64 (-36028797018963968)) fun t1 =>
 IfV t1 (
 K (N 0) w) (
 Bin .geq .i64 a0 (N 36028797018963968) fun t2 =>
 IfV t2 (
 K (N 0) w) (
 Bin .lss .i64 a0 (N 0) fun t3 =>
 IfV t3 (
 Bin .mul .i64 (.int .i64 (-2)) a0 fun t4 =>
 Bin .sub .i64 t4 (N 1) fun t5 =>
 K t5 w) (
 Bin .mul .i64 (N 2) a0 fun t6 =>
 K t6 w)))
theorem ln_octet_Turn {a0 : Value} {w : World} {K : Value → World → Prop} (h : sh_octet_Turn a0 w K) : CallF pg n_octet_Turn [a0] w K :=
  callF_eq (draw_sound follows) (lvOf []) (n := 18) (rs := [.tmp 2]) (c := bodyOf Tryz.f256) (S := sh_octet_Turn a0 w K) Tryz.func256 (by kernel_rfl) (by kernel_rfl) (by kernel_rfl) (by kernel_rfl) (by kernel_rfl) (by kernel_rfl) h
/-! 237 lading/octet.Back -/
def sh_octet_Back (a0 : Value) (w : World) (K : Value → World → Prop) : Prop :=
 Bin .lss .i64 a0 (N 0) fun t1 =>
 IfV t1 (
 K (N 0) w) (
 Bin .rem .i64 a0 (N 2) fun t2 =>
 Bin .eql .i64 t2 (N 1) fun t3 =>
 IfV t3 (
 Bin .quo .i64 a0 (N 2) fun t4 =>
 V pg (Op.unary .neg t4) w fun t5 w =>
 Bin .sub .i64 t5 (N 1) fun t6 =>
 K t6 w) (
 Bin .quo .i64 a0 (N 2) fun t7 =>
 K t7 w))
theorem ln_octet_Back {a0 : Value} {w : World} {K : Value → World → Prop} (h : sh_octet_Back a0 w K) : CallF pg n_octet_Back [a0] w K :=
  callF_eq (draw_sound follows) (lvOf []) (n := 16) (rs := [.tmp 2]) (c := bodyOf Tryz.f237) (S := sh_octet_Back a0 w K) Tryz.func237 (by kernel_rfl) (by kernel_rfl) (by kernel_rfl) (by kernel_rfl) (by kernel_rfl) (by kernel_rfl) h
end Go.Proofs.Tryz

namespace Go.Proofs.Tryz
open Go Go.Lad
set_option autoImplicit false
set_option linter.unusedVariables false
set_option maxRecDepth 100000
/-! 159 (lading/disk.content).copied -/
def sh_disk_content_copied (a0 : Value) (w : World) (K : Value → World → Prop) : Prop :=
 New (Value.cells a0).toList ty_disk_content w fun t1 w =>
 New [(Str []), (.slice none 0 0)] ty_disk_content w fun t2 w =>
 Drew w fun w =>
 FA t1 0 fun t3 =>
 Ld t3 w fun t4 w1 =>
(w1 = w) ∧ (
 FA t1 1 fun t5 =>
 Ld t5 w fun t6 w1 =>
(w1 = w) ∧ (
 CallF pg n_slices_Clone_string [t6] w fun t7 w =>
((Ld t3 w fun t11 w1 => w1 = w ∧ t11 = t4) ∧ True) ∧ (
 V pg (Instr.build ty_disk_content [(0, t4), (1, t7)].toArray) w fun t8 w1 =>
(w1 = w) ∧ (
 StN t2 t8 2 w fun t9 w =>
(True) ∧ (
 LdN t2 2 w fun t10 _ =>
 K t10 w)))))
theorem ln_disk_content_copied {a0 : Value} {w : World} {K : Value → World → Prop} (h : sh_disk_content_copied a0 w K) : CallF pg n_disk_content_copied [a0] w K :=
  callF_eq (draw_sound follows) (lvOf []) (n := 9) (rs := [.cell 2 92]) (c := bodyOf Tryz.f159) (S := sh_disk_content_copied a0 w K) Tryz.func159 (by kernel_rfl) (by kernel_rfl) (by kernel_rfl) (by kernel_rfl) (by kernel_rfl) (by kernel_rfl) h
/-! 232 (*lading/disk.content).put -/
def sh_disk_content_put (a0 : Value) (a1 : Value) (w : World) (K : Value → World → Prop) : Prop :=
 New (Value.cells a1).toList ty_disk_write w fun t1 w =>
 FA t1 0 fun t2 =>
 Ld t2 w fun t3 w =>
 Bin .eql .i64 t3 (.int .i64 (-1)) fun t4 =>
 IfV t4 (
 Drew w fun w =>
 NilCk a0 fun t5 =>
 FA t5 0 fun t6 =>
 Ld t6 w fun t7 w1 =>
(w1 = w) ∧ (
 FA t1 1 fun t8 =>
 Ld t8 w fun t9 w1 =>
(w1 = w) ∧ (
 BinS .add t7 t9 fun t10 =>
 NilCk a0 fun t11 =>
 FA t11 0 fun t12 =>
 St t12 t10 w fun t13 w =>
(True) ∧ (
 K (.tuple #[]) w)))) (
 Drew w fun w =>
 NilCk a0 fun t14 =>
 FA t14 1 fun t15 =>
 Ld t15 w fun t16 w1 =>
(w1 = w) ∧ (
 FA t1 0 fun t17 =>
 Ld t17 w fun t18 w1 =>
(w1 = w) ∧ (
 FA t1 1 fun t19 =>
 Ld t19 w fun t20 w1 =>
(w1 = w) ∧ (
 IxS t16 t18 1 fun t21 =>
 St t21 t20 w fun t22 w =>
(True) ∧ (
 K (.tuple #[]) w)))))
theorem ln_disk_content_put {a0 a1 : Value} {w : World} {K : Value → World → Prop} (h : sh_disk_content_put a0 a1 w K) : CallF pg n_disk_content_put [a0, a1] w K :=
  callF_eq (draw_sound follows) (lvOf []) (n := 25) (rs := []) (c := bodyOf Tryz.f232) (S := sh_disk_content_put a0 a1 w K) Tryz.func232 (by kernel_rfl) (by kernel_rfl) (by kernel_rfl) (by kernel_rfl) (by kernel_rfl) (by kernel_rfl) h
/-! 108 (*lading/disk.fuse).burn -/
def sh_disk_fuse_burn (a0 : Value) (w : World) (K : Value → World → Prop) : Prop :=
 NilCk a0 fun t1 =>
 FA t1 0 fun t2 =>
 Ld t2 w fun t3 w =>
 Bin .eql .i64 t3 (N 0) fun t4 =>
 IfV t4 (
 V pg (Instr.build ty_disk_fuse [(0, (.int .i64 (-1))), (1, (.bool true))].toArray) w fun t5 w =>
 NilCk a0 fun t6 =>
 StN t6 t5 2 w fun t7 w =>
 K (.iface ty_api_Errno (N 8)) w) (
 NilCk a0 fun t8 =>
 FA t8 0 fun t9 =>
 Ld t9 w fun t10 w =>
 Bin .gtr .i64 t10 (N 0) fun t11 =>
 IfV t11 (
 NilCk a0 fun t12 =>
 FA t12 0 fun t13 =>
 Ld t13 w fun t14 w =>
 Bin .sub .i64 t14 (N 1) fun t15 =>
 NilCk a0 fun t16 =>
 FA t16 0 fun t17 =>
 St t17 t15 w fun t18 w =>
 K .nilIface w) (
 K .nilIface w))
theorem ln_disk_fuse_burn {a0 : Value} {w : World} {K : Value → World → Prop} (h : sh_disk_fuse_burn a0 w K) : CallF pg n_disk_fuse_burn [a0] w K :=
  callF_eq (draw_sound follows) (lvOf []) (n := 26) (rs := [.tmp 2]) (c := bodyOf Tryz.f108) (S := sh_disk_fuse_burn a0 w K) Tryz.func108 (by kernel_rfl) (by kernel_rfl) (by kernel_rfl) (by kernel_rfl) (by kernel_rfl) (by kernel_rfl) h
/-! 6 lading/disk.New -/
def sh_disk_New (a0 : Value) (w : World) (K : Value → World → Prop) : Prop :=
 V pg (Builtin.max_ #[3, 3] 3 [a0, (N 0)].toArray) w fun t1 w =>
 V pg (Builtin.min_ #[3, 3] 3 [t1, (N 4096)].toArray) w fun t2 w =>
 Drew w fun w =>
 V pg (Instr.build ty_disk_fuse [(0, (.int .i64 (-1)))].toArray) w fun t3 w1 =>
(w1 = w) ∧ (
(
 V pg (Instr.makeSlice ty_s_string t2 t2) w fun t4 w =>
((V pg (Instr.build ty_disk_fuse [(0, (.int .i64 (-1)))].toArray) w fun t12 w1 => w1 = w ∧ t12 = t3) ∧ True) ∧ (
 V pg (Instr.build ty_disk_content [(1, t4)].toArray) w fun t5 w1 =>
(w1 = w) ∧ (
 V pg (Instr.makeSlice ty_s_string t2 t2) w fun t6 w =>
((V pg (Instr.build ty_disk_content [(1, t4)].toArray) w fun t11 w1 => w1 = w ∧ t11 = t5) ∧ (V pg (Instr.build ty_disk_fuse [(0, (.int .i64 (-1)))].toArray) w fun t10 w1 => w1 = w ∧ t10 = t3) ∧ True) ∧ (
 V pg (Instr.build ty_disk_content [(1, t6)].toArray) w fun t7 w1 =>
(w1 = w) ∧ (
 V pg (Instr.build ty_disk_Disk [(0, t3), (1, t5), (2, t7)].toArray) w fun t8 w1 =>
(w1 = w) ∧ (
 New (Value.cells t8).toList ty_disk_Disk w fun t9 w =>
(True) ∧ (
 K t9 w))))))) ∧ (
 V pg (Instr.makeSlice ty_s_string t2 t2) w fun t13 w =>
((V pg (Instr.build ty_disk_fuse [(0, (.int .i64 (-1)))].toArray) w fun t21 w1 => w1 = w ∧ t21 = t3) ∧ True) ∧ (
 V pg (Instr.build ty_disk_content [(1, t13)].toArray) w fun t14 w1 =>
(w1 = w) ∧ (
 V pg (Instr.makeSlice ty_s_string t2 t2) w fun t15 w =>
((V pg (Instr.build ty_disk_content [(1, t13)].toArray) w fun t20 w1 => w1 = w ∧ t20 = t14) ∧ (V pg (Instr.build ty_disk_fuse [(0, (.int .i64 (-1)))].toArray) w fun t19 w1 => w1 = w ∧ t19 = t3) ∧ True) ∧ (
 V pg (Instr.build ty_disk_content [(1, t15)].toArray) w fun t16 w1 =>
(w1 = w) ∧ (
 V pg (Instr.build ty_disk_Disk [(0, t3), (1, t16), (2, t14)].toArray) w fun t17 w1 =>
(w1 = w) ∧ (
 New (Value.cells t17).toList ty_disk_Disk w fun t18 w =>
(True) ∧ (
 K t18 w))))))))
theorem ln_disk_New {a0 : Value} {w : World} {K : Value → World → Prop} (h : sh_disk_New a0 w K) : CallF pg n_disk_New [a0] w K :=
  callF_eq (draw_sound follows) (lvOf []) (n := 16) (rs := [.tmp 2]) (c := bodyOf Tryz.f6) (S := sh_disk_New a0 w K) Tryz.func6 (by kernel_rfl) (by kernel_rfl) (by kernel_rfl) (by kernel_rfl) (by kernel_rfl) (by kernel_rfl) h
/-! 106 (*lading/disk.Disk).bars -/
def sh_disk_Disk_bars (a0 : Value) (w : World) (K : Value → World → Prop) : Prop :=
 EqNil .ptr a0 fun t1 =>
 IfV t1 (
 K (.iface ty_api_Errno (N 1)) w) (
 NilCk a0 fun t2 =>
 FA t2 0 fun t3 =>
 FA t3 1 fun t4 =>
 Ld t4 w fun t5 w =>
 IfV t5 (
 K (.iface ty_api_Errno (N 8)) w) (
 K .nilIface w))
theorem ln_disk_Disk_bars {a0 : Value} {w : World} {K : Value → World → Prop} (h : sh_disk_Disk_bars a0 w K) : CallF pg n_disk_Disk_bars [a0] w K :=
  callF_eq (draw_sound follows) (lvOf []) (n := 14) (rs := [.tmp 2]) (c := bodyOf Tryz.f106) (S := sh_disk_Disk_bars a0 w K) Tryz.func106 (by kernel_rfl) (by kernel_rfl) (by kernel_rfl) (by kernel_rfl) (by kernel_rfl) (by kernel_rfl) h
/-! 203 (*lading/disk.Disk).does -/
def sh_disk_Disk_does_j1 (x0 : Value) (x3 : Value) (x20 : Value) (w : World) (K : Value → World → Prop) : Prop :=
 IfV x20 (
 Drew w fun w =>
 NilCk x0 fun t9 =>
 FA t9 2 fun t10 =>
 LdN x3 2 w fun t11 w1 =>
(w1 = w) ∧ (
 CallF pg n_disk_content_put [t10, t11] w fun t12 w =>
(True) ∧ (
 Drew w fun w =>
 NilCk x0 fun t13 =>
 FA t13 6 fun t14 =>
 Ld t14 w fun t15 w1 =>
(w1 = w) ∧ (
 LdN x3 2 w fun t16 w1 =>
(w1 = w) ∧ (
 V pg (Instr.buildSlice ty_s_disk_write 1 [(0, t16)].toArray) w fun t17 w =>
((Ld t14 w fun t22 w1 => w1 = w ∧ t22 = t15) ∧ True) ∧ (
 V pg (Builtin.append_ #[ty_s_disk_write, ty_s_disk_write] ty_s_disk_write [t15, t17].toArray) w fun t18 w =>
(True) ∧ (
 NilCk x0 fun t19 =>
 FA t19 6 fun t20 =>
 St t20 t18 w fun t21 w =>
(True) ∧ (
 K .nilIface w)))))))) (
 K .nilIface w)
def sh_disk_Disk_does (a0 : Value) (a1 : Value) (w : World) (K : Value → World → Prop) : Prop :=
 New (Value.cells a1).toList ty_disk_write w fun t1 w =>
 NilCk a0 fun t2 =>
 FA t2 0 fun t3 =>
 CallF pg n_disk_fuse_burn [t3] w fun t4 w =>
 NeNil .iface t4 fun t5 =>
 IfV t5 (
 K t4 w) (
 FA t1 0 fun t6 =>
 Ld t6 w fun t7 w =>
 Bin .neq .i64 t7 (.int .i64 (-1)) fun t8 =>
 IfV t8 (
 sh_disk_Disk_does_j1 a0 t1 (.bool true) w K) (
 FA t1 1 fun t23 =>
 Ld t23 w fun t24 w =>
 BinS .neq t24 (Str []) fun t25 =>
 sh_disk_Disk_does_j1 a0 t1 t25 w K))
theorem ln_disk_Disk_does {a0 a1 : Value} {w : World} {K : Value → World → Prop} (h : sh_disk_Disk_does a0 a1 w K) : CallF pg n_disk_Disk_does [a0, a1] w K :=
  callF_eq (draw_sound follows) (lvOf []) (n := 36) (rs := [.tmp 4]) (c := bodyOf Tryz.f203) (S := sh_disk_Disk_does a0 a1 w K) Tryz.func203 (by kernel_rfl) (by kernel_rfl) (by kernel_rfl) (by kernel_rfl) (by kernel_rfl) (by kernel_rfl) h
/-! 147 (*lading/disk.Disk).Append -/
def sh_disk_Disk_Append (a0 : Value) (a1 : Value) (w : World) (K : Value → World → Prop) : Prop :=
 CallF pg n_disk_Disk_bars [a0] w fun t1 w =>
 NeNil .iface t1 fun t2 =>
 IfV t2 (
 K t1 w) (
 V pg (Instr.build ty_disk_write [(0, (.int .i64 (-1))), (1, a1)].toArray) w fun t3 w =>
 CallF pg n_disk_Disk_does [a0, t3] w fun t4 w =>
 K t4 w)
theorem ln_disk_Disk_Append {a0 a1 : Value} {w : World} {K : Value → World → Prop} (h : sh_disk_Disk_Append a0 a1 w K) : CallF pg n_disk_Disk_Append [a0, a1] w K :=
  callF_eq (draw_sound follows) (lvOf []) (n := 15) (rs := [.tmp 4]) (c := bodyOf Tryz.f147) (S := sh_disk_Disk_Append a0 a1 w K) Tryz.func147 (by kernel_rfl) (by kernel_rfl) (by kernel_rfl) (by kernel_rfl) (by kernel_rfl) (by kernel_rfl) h
/-! 55 (*lading/disk.Disk).Log -/
def sh_disk_Disk_Log (a0 : Value) (w : World) (K : Value → World → Prop) : Prop :=
 CallF pg n_disk_Disk_bars [a0] w fun t1 w =>
 NeNil .iface t1 fun t2 =>
 IfV t2 (
 K (.tuple #[(Str []), t1]) w) (
 NilCk a0 fun t3 =>
 FA t3 2 fun t4 =>
 FA t4 0 fun t5 =>
 Ld t5 w fun t6 w =>
 K (.tuple #[t6, .nilIface]) w)
theorem ln_disk_Disk_Log {a0 : Value} {w : World} {K : Value → World → Prop} (h : sh_disk_Disk_Log a0 w K) : CallF pg n_disk_Disk_Log [a0] w K :=
  callF_eq (draw_sound follows) (lvOf []) (n := 15) (rs := [.tmp 2, .tmp 3]) (c := bodyOf Tryz.f55) (S := sh_disk_Disk_Log a0 w K) Tryz.func55 (by kernel_rfl) (by kernel_rfl) (by kernel_rfl) (by kernel_rfl) (by kernel_rfl) (by kernel_rfl) h
/-! 118 (*lading/disk.Disk).slot -/
def sh_disk_Disk_slot (a0 : Value) (a1 : Value) (w : World) (K : Value → World → Prop) : Prop :=
 CallF pg n_disk_Disk_bars [a0] w fun t1 w =>
 NeNil .iface t1 fun t2 =>
 IfV t2 (
 K t1 w) (
 Bin .lss .i64 a1 (N 0) fun t3 =>
 IfV t3 (
 K (.iface ty_api_Errno (N 2)) w) (
 NilCk a0 fun t4 =>
 FA t4 2 fun t5 =>
 FA t5 1 fun t6 =>
 Ld t6 w fun t7 w =>
 LenL t7 fun t8 =>
 Bin .geq .i64 a1 t8 fun t9 =>
 IfV t9 (
 K (.iface ty_api_Errno (N 2)) w) (
 K .nilIface w)))
theorem ln_disk_Disk_slot {a0 a1 : Value} {w : World} {K : Value → World → Prop} (h : sh_disk_Disk_slot a0 a1 w K) : CallF pg n_disk_Disk_slot [a0, a1] w K :=
  callF_eq (draw_sound follows) (lvOf []) (n := 24) (rs := [.tmp 4]) (c := bodyOf Tryz.f118) (S := sh_disk_Disk_slot a0 a1 w K) Tryz.func118 (by kernel_rfl) (by kernel_rfl) (by kernel_rfl) (by kernel_rfl) (by kernel_rfl) (by kernel_rfl) h
/-! 151 (*lading/disk.Disk).Put -/
def sh_disk_Disk_Put (a0 : Value) (a1 : Value) (a2 : Value) (w : World) (K : Value → World → Prop) : Prop :=
 CallF pg n_disk_Disk_slot [a0, a1] w fun t1 w =>
 NeNil .iface t1 fun t2 =>
 IfV t2 (
 K t1 w) (
 LenS a2 fun t3 =>
 Bin .gtr .i64 t3 (N 64) fun t4 =>
 IfV t4 (
 K (.iface ty_api_Errno (N 6)) w) (
 V pg (Instr.build ty_disk_write [(0, a1), (1, a2)].toArray) w fun t5 w =>
 CallF pg n_disk_Disk_does [a0, t5] w fun t6 w =>
 K t6 w))
theorem ln_disk_Disk_Put {a0 a1 a2 : Value} {w : World} {K : Value → World → Prop} (h : sh_disk_Disk_Put a0 a1 a2 w K) : CallF pg n_disk_Disk_Put [a0, a1, a2] w K :=
  callF_eq (draw_sound follows) (lvOf []) (n := 23) (rs := [.tmp 6]) (c := bodyOf Tryz.f151) (S := sh_disk_Disk_Put a0 a1 a2 w K) Tryz.func151 (by kernel_rfl) (by kernel_rfl) (by kernel_rfl) (by kernel_rfl) (by kernel_rfl) (by kernel_rfl) h
/-! 71 (*lading/disk.Disk).Get -/
def sh_disk_Disk_Get (a0 : Value) (a1 : Value) (w : World) (K : Value → World → Prop) : Prop :=
 CallF pg n_disk_Disk_slot [a0, a1] w fun t1 w =>
 NeNil .iface t1 fun t2 =>
 IfV t2 (
 K (.tuple #[(Str []), t1]) w) (
 NilCk a0 fun t3 =>
 FA t3 2 fun t4 =>
 FA t4 1 fun t5 =>
 Ld t5 w fun t6 w =>
 IxS t6 a1 1 fun t7 =>
 Ld t7 w fun t8 w =>
 K (.tuple #[t8, .nilIface]) w)
theorem ln_disk_Disk_Get {a0 a1 : Value} {w : World} {K : Value → World → Prop} (h : sh_disk_Disk_Get a0 a1 w K) : CallF pg n_disk_Disk_Get [a0, a1] w K :=
  callF_eq (draw_sound follows) (lvOf []) (n := 21) (rs := [.tmp 4, .tmp 5]) (c := bodyOf Tryz.f71) (S := sh_disk_Disk_Get a0 a1 w K) Tryz.func71 (by kernel_rfl) (by kernel_rfl) (by kernel_rfl) (by kernel_rfl) (by kernel_rfl) (by kernel_rfl) h
/-! 109 (*lading/disk.Disk).settle -/
def sh_disk_Disk_settle (a0 : Value) (w : World) (K : Value → World → Prop) : Prop :=
 NilCk a0 fun t1 =>
 FA t1 2 fun t2 =>
 LdN t2 2 w fun t3 w =>
 CallF pg n_disk_content_copied [t3] w fun t4 w =>
 NilCk a0 fun t5 =>
 FA t5 4 fun t6 =>
 StN t6 t4 2 w fun t7 w =>
 NilCk a0 fun t8 =>
 FA t8 6 fun t9 =>
 St t9 (.slice none 0 0) w fun t10 w =>
 K (.tuple #[]) w
theorem ln_disk_Disk_settle {a0 : Value} {w : World} {K : Value → World → Prop} (h : sh_disk_Disk_settle a0 w K) : CallF pg n_disk_Disk_settle [a0] w K :=
  callF_eq (draw_sound follows) (lvOf []) (n := 13) (rs := []) (c := bodyOf Tryz.f109) (S := sh_disk_Disk_settle a0 w K) Tryz.func109 (by kernel_rfl) (by kernel_rfl) (by kernel_rfl) (by kernel_rfl) (by kernel_rfl) (by kernel_rfl) h
/-! 59 (*lading/disk.Disk).Sync -/
def sh_disk_Disk_Sync (a0 : Value) (w : World) (K : Value → World → Prop) : Prop :=
 CallF pg n_disk_Disk_bars [a0] w fun t1 w =>
 NeNil .iface t1 fun t2 =>
 IfV t2 (
 K t1 w) (
 NilCk a0 fun t3 =>
 FA t3 0 fun t4 =>
 CallF pg n_disk_fuse_burn [t4] w fun t5 w =>
 NeNil .iface t5 fun t6 =>
 IfV t6 (
 K t5 w) (
 CallF pg n_disk_Disk_settle [a0] w fun t7 w =>
 K .nilIface w))
theorem ln_disk_Disk_Sync {a0 : Value} {w : World} {K : Value → World → Prop} (h : sh_disk_Disk_Sync a0 w K) : CallF pg n_disk_Disk_Sync [a0] w K :=
  callF_eq (draw_sound follows) (lvOf []) (n := 19) (rs := [.tmp 2]) (c := bodyOf Tryz.f59) (S := sh_disk_Disk_Sync a0 w K) Tryz.func59 (by kernel_rfl) (by kernel_rfl) (by kernel_rfl) (by kernel_rfl) (by kernel_rfl) (by kernel_rfl) h
/-! 57 (*lading/disk.Disk).Cut -/
def sh_disk_Disk_Cut (a0 : Value) (a1 : Value) (w : World) (K : Value → World → Prop) : Prop :=
 CallF pg n_disk_Disk_bars [a0] w fun t1 w =>
 NeNil .iface t1 fun t2 =>
 IfV t2 (
 K t1 w) (
 Bin .lss .i64 a1 (N 0) fun t3 =>
 IfV t3 (
 K (.iface ty_api_Errno (N 2)) w) (
 NilCk a0 fun t4 =>
 FA t4 2 fun t5 =>
 FA t5 0 fun t6 =>
 Ld t6 w fun t7 w =>
 LenS t7 fun t8 =>
 Bin .gtr .i64 a1 t8 fun t9 =>
 IfV t9 (
 K (.iface ty_api_Errno (N 2)) w) (
 NilCk a0 fun t10 =>
 FA t10 0 fun t11 =>
 CallF pg n_disk_fuse_burn [t11] w fun t12 w =>
 NeNil .iface t12 fun t13 =>
 IfV t13 (
 K t12 w) (
 NilCk a0 fun t14 =>
 FA t14 2 fun t15 =>
 FA t15 0 fun t16 =>
 Ld t16 w fun t17 w =>
 V pg (Instr.sliceAt 9 t17 none (some a1) none) w fun t18 w =>
 NilCk a0 fun t19 =>
 FA t19 2 fun t20 =>
 FA t20 0 fun t21 =>
 St t21 t18 w fun t22 w =>
 CallF pg n_disk_Disk_settle [a0] w fun t23 w =>
 K .nilIface w))))
theorem ln_disk_Disk_Cut {a0 a1 : Value} {w : World} {K : Value → World → Prop} (h : sh_disk_Disk_Cut a0 a1 w K) : CallF pg n_disk_Disk_Cut [a0, a1] w K :=
  callF_eq (draw_sound follows) (lvOf []) (n := 45) (rs := [.tmp 4]) (c := bodyOf Tryz.f57) (S := sh_disk_Disk_Cut a0 a1 w K) Tryz.func57 (by kernel_rfl) (by kernel_rfl) (by kernel_rfl) (by kernel_rfl) (by kernel_rfl) (by kernel_rfl) h
/-! 112 (*lading/disk.Disk).Slots -/
def sh_disk_Disk_Slots (a0 : Value) (w : World) (K : Value → World → Prop) : Prop :=
 EqNil .ptr a0 fun t1 =>
 IfV t1 (
 K (N 0) w) (
 NilCk a0 fun t2 =>
 FA t2 2 fun t3 =>
 FA t3 1 fun t4 =>
 Ld t4 w fun t5 w =>
 LenL t5 fun t6 =>
 K t6 w)
theorem ln_disk_Disk_Slots {a0 : Value} {w : World} {K : Value → World → Prop} (h : sh_disk_Disk_Slots a0 w K) : CallF pg n_disk_Disk_Slots [a0] w K :=
  callF_eq (draw_sound follows) (lvOf []) (n := 11) (rs := [.tmp 2]) (c := bodyOf Tryz.f112) (S := sh_disk_Disk_Slots a0 w K) Tryz.func112 (by kernel_rfl) (by kernel_rfl) (by kernel_rfl) (by kernel_rfl) (by kernel_rfl) (by kernel_rfl) h
/-! 58 (*lading/disk.Disk).Waits -/
def sh_disk_Disk_Waits (a0 : Value) (w : World) (K : Value → World → Prop) : Prop :=
 EqNil .ptr a0 fun t1 =>
 IfV t1 (
 K (N 0) w) (
 NilCk a0 fun t2 =>
 FA t2 6 fun t3 =>
 Ld t3 w fun t4 w =>
 LenL t4 fun t5 =>
 K t5 w)
theorem ln_disk_Disk_Waits {a0 : Value} {w : World} {K : Value → World → Prop} (h : sh_disk_Disk_Waits a0 w K) : CallF pg n_disk_Disk_Waits [a0] w K :=
  callF_eq (draw_sound follows) (lvOf []) (n := 10) (rs := [.tmp 2]) (c := bodyOf Tryz.f58) (S := sh_disk_Disk_Waits a0 w K) Tryz.func58 (by kernel_rfl) (by kernel_rfl) (by kernel_rfl) (by kernel_rfl) (by kernel_rfl) (by kernel_rfl) h
end Go.Proofs.Tryz

