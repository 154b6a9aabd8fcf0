/- Part of a proof (its text FormsHold): what is proved stands in the text Card. -/
import Derived.Test.YtfefpbfnmfebgaaGreatDoorBase
set_option linter.all false
namespace Go.Proofs.Tryz
open Go Go.Lad
set_option autoImplicit false
set_option linter.unusedVariables false
set_option maxRecDepth 100000
/-! 155 lading/hold.numbers -/
def sh_hold_numbers (a0 : Value) (w : World) (K : Value → World → Prop) : Prop :=
 LenL a0 fun t1 =>
 LoopV [3, 8, 9, 10] [(Str []), a0, t1, (N 0)] (fun k1 T1 w =>
 Bin .lss .i64 (T1 10) (T1 9) fun t2 =>
 IfV t2 (
 IxS (T1 8) (T1 10) 1 fun t3 =>
 Ld t3 w fun t4 w =>
 CallF pg n_octet_PutShort [t4] w fun t5 w =>
 Ext t5 0 fun t6 =>
 Ext t5 1 fun t7 =>
 BinS .add (T1 3) t6 fun t8 =>
 Bin .add .i64 (T1 10) (N 1) fun t9 =>
 k1 [t8, (T1 8), (T1 9), t9] w) (
 K (T1 3) w)) w
theorem ln_hold_numbers {a0 : Value} {w : World} {K : Value → World → Prop} (h : sh_hold_numbers a0 w K) : CallF pg n_hold_numbers [a0] w K :=
  callF_eq (draw_sound follows) (lvOf [(58, [3, 8, 9, 10])]) (n := 24) (rs := [.tmp 2]) (c := bodyOf Tryz.f155) (S := sh_hold_numbers a0 w K) Tryz.func155 (by kernel_rfl) (by kernel_rfl) (by kernel_rfl) (by kernel_rfl) (by kernel_rfl) (by kernel_rfl) h
/-! 152 lading/hold.blockRecord -/
def sh_hold_blockRecord (a0 : Value) (a1 : Value) (a2 : Value) (w : World) (K : Value → World → Prop) : Prop :=
 New (Value.cells a2).toList ty_hold_placed w fun t1 w =>
 Drew w fun w =>
 FA t1 0 fun t2 =>
 Ld t2 w fun t3 w1 =>
(w1 = w) ∧ (
 FA t1 1 fun t4 =>
 Ld t4 w fun t5 w1 =>
(w1 = w) ∧ (
(
 V pg (Instr.buildSlice ty_s_int 3 [(0, a0), (1, a1), (2, t3)].toArray) w fun t6 w =>
((Ld t4 w fun t21 w1 => w1 = w ∧ t21 = t5) ∧ True) ∧ (
(
 CallF pg n_hold_numbers [t6] w fun t7 w =>
((Ld t4 w fun t13 w1 => w1 = w ∧ t13 = t5) ∧ True) ∧ (
 BinS .add (Str [66]) t7 fun t8 =>
 V pg (Instr.buildSlice ty_s_string 1 [(0, t5)].toArray) w fun t9 w =>
((Ld t2 w fun t12 w1 => w1 = w ∧ t12 = t3) ∧ True) ∧ (
 CallF pg n_octet_PutText [t9] w fun t10 w =>
(True) ∧ (
 BinS .add t8 t10 fun t11 =>
 K t11 w)))) ∧ (
 V pg (Instr.buildSlice ty_s_string 1 [(0, t5)].toArray) w fun t14 w =>
((Ld t2 w fun t20 w1 => w1 = w ∧ t20 = t3) ∧ True) ∧ (
 CallF pg n_hold_numbers [t6] w fun t15 w =>
((Ld t4 w fun t19 w1 => w1 = w ∧ t19 = t5) ∧ True) ∧ (
 BinS .add (Str [66]) t15 fun t16 =>
 CallF pg n_octet_PutText [t14] w fun t17 w =>
(True) ∧ (
 BinS .add t16 t17 fun t18 =>
 K t18 w)))))) ∧ (
 V pg (Instr.buildSlice ty_s_string 1 [(0, t5)].toArray) w fun t22 w =>
((Ld t2 w fun t30 w1 => w1 = w ∧ t30 = t3) ∧ True) ∧ (
 V pg (Instr.buildSlice ty_s_int 3 [(0, a0), (1, a1), (2, t3)].toArray) w fun t23 w =>
((Ld t4 w fun t29 w1 => w1 = w ∧ t29 = t5) ∧ True) ∧ (
 CallF pg n_hold_numbers [t23] w fun t24 w =>
((Ld t4 w fun t28 w1 => w1 = w ∧ t28 = t5) ∧ True) ∧ (
 BinS .add (Str [66]) t24 fun t25 =>
 CallF pg n_octet_PutText [t22] w fun t26 w =>
(True) ∧ (
 BinS .add t25 t26 fun t27 =>
 K t27 w)))))))
theorem ln_hold_blockRecord {a0 a1 a2 : Value} {w : World} {K : Value → World → Prop} (h : sh_hold_blockRecord a0 a1 a2 w K) : CallF pg n_hold_blockRecord [a0, a1, a2] w K :=
  callF_eq (draw_sound follows) (lvOf []) (n := 19) (rs := [.tmp 6]) (c := bodyOf Tryz.f152) (S := sh_hold_blockRecord a0 a1 a2 w K) Tryz.func152 (by kernel_rfl) (by kernel_rfl) (by kernel_rfl) (by kernel_rfl) (by kernel_rfl) (by kernel_rfl) h
/-! 70 (*lading/hold.Hold).known -/
def sh_hold_Hold_known (a0 : Value) (a1 : Value) (w : World) (K : Value → World → Prop) : Prop :=
 EqNil .ptr a0 fun t1 =>
 IfV t1 (
 K (.tuple #[(.pointer none), (.iface ty_api_Errno (N 1))]) w) (
 NilCk a0 fun t2 =>
 FA t2 1 fun t3 =>
 Ld t3 w fun t4 w =>
 V pg (Instr.lookup ty_m_int_p_hold_held t4 a1 false) w fun t5 w =>
 EqNil .ptr t5 fun t6 =>
 IfV t6 (
 K (.tuple #[(.pointer none), (.iface ty_api_Errno (N 13))]) w) (
 NilCk a0 fun t7 =>
 FA t7 1 fun t8 =>
 Ld t8 w fun t9 w =>
 V pg (Instr.lookup ty_m_int_p_hold_held t9 a1 false) w fun t10 w =>
 K (.tuple #[t10, .nilIface]) w))
theorem ln_hold_Hold_known {a0 a1 : Value} {w : World} {K : Value → World → Prop} (h : sh_hold_Hold_known a0 a1 w K) : CallF pg n_hold_Hold_known [a0, a1] w K :=
  callF_eq (draw_sound follows) (lvOf []) (n := 25) (rs := [.tmp 4, .tmp 5]) (c := bodyOf Tryz.f70) (S := sh_hold_Hold_known a0 a1 w K) Tryz.func70 (by kernel_rfl) (by kernel_rfl) (by kernel_rfl) (by kernel_rfl) (by kernel_rfl) (by kernel_rfl) h
/-! 28 (*lading/hold.Hold).Versions -/
def sh_hold_Hold_Versions (a0 : Value) (w : World) (K : Value → World → Prop) : Prop :=
 EqNil .ptr a0 fun t1 =>
 IfV t1 (
 K (.slice none 0 0) w) (
 NilCk a0 fun t2 =>
 FA t2 1 fun t3 =>
 Ld t3 w fun t4 w =>
 CallF pg n_maps_Keys_map_held [t4] w fun t5 w =>
 CallF pg n_slices_Sorted_int [t5] w fun t6 w =>
 K t6 w)
theorem ln_hold_Hold_Versions {a0 : Value} {w : World} {K : Value → World → Prop} (h : sh_hold_Hold_Versions a0 w K) : CallF pg n_hold_Hold_Versions [a0] w K :=
  callF_eq (draw_sound follows) (lvOf []) (n := 11) (rs := [.tmp 2]) (c := bodyOf Tryz.f28) (S := sh_hold_Hold_Versions a0 w K) Tryz.func28 (by kernel_rfl) (by kernel_rfl) (by kernel_rfl) (by kernel_rfl) (by kernel_rfl) (by kernel_rfl) h
/-! 35 (*lading/hold.Hold).Manifest -/
def sh_hold_Hold_Manifest (a0 : Value) (a1 : Value) (w : World) (K : Value → World → Prop) : Prop :=
 New [(N 0), (N 0), (N 0), (.slice none 0 0), (N 0), (Str [])] ty_api_Manifest w fun t1 w =>
 CallF pg n_hold_Hold_known [a0, a1] w fun t2 w =>
 Ext t2 0 fun t3 =>
 Ext t2 1 fun t4 =>
 NeNil .iface t4 fun t5 =>
 IfV t5 (
 V pg (Instr.build ty_api_Manifest [].toArray) w fun t6 w =>
 StN t1 t6 6 w fun t7 w =>
 LdN t1 6 w fun t8 _ =>
 K (.tuple #[t8, t4]) w) (
 NilCk t3 fun t9 =>
 FA t9 0 fun t10 =>
 LdN t10 6 w fun t11 w =>
 CallF pg n_manifest_Copy [t11] w fun t12 w =>
 StN t1 t12 6 w fun t13 w =>
 LdN t1 6 w fun t14 _ =>
 K (.tuple #[t14, .nilIface]) w)
theorem ln_hold_Hold_Manifest {a0 a1 : Value} {w : World} {K : Value → World → Prop} (h : sh_hold_Hold_Manifest a0 a1 w K) : CallF pg n_hold_Hold_Manifest [a0, a1] w K :=
  callF_eq (draw_sound follows) (lvOf []) (n := 23) (rs := [.cell 4 81, .tmp 5]) (c := bodyOf Tryz.f35) (S := sh_hold_Hold_Manifest a0 a1 w K) Tryz.func35 (by kernel_rfl) (by kernel_rfl) (by kernel_rfl) (by kernel_rfl) (by kernel_rfl) (by kernel_rfl) h
/-! 52 (*lading/hold.Hold).Add -/
def sh_hold_Hold_Add_j1 (x0 : Value) (x3 : Value) (x5 : Value) (x7 : Value) (x27 : Value) (w : World) (K : Value → World → Prop) : Prop :=
 IfV x27 (
 K .nilIface w) (
 Drew w fun w =>
 NeNil .ptr x7 fun t20 =>
 IfV t20 (
 K (.iface ty_api_Errno (N 13)) w) (
 FA x3 0 fun t21 =>
 Ld t21 w fun t22 w1 =>
(w1 = w) ∧ (
 NilCk x0 fun t23 =>
 FA t23 2 fun t24 =>
 Ld t24 w fun t25 w1 =>
(w1 = w) ∧ (
 Bin .leq .i64 t22 t25 fun t26 =>
 IfV t26 (
 K (.iface ty_api_Errno (N 13)) w) (
 NilCk x0 fun t27 =>
 FA t27 1 fun t28 =>
 Ld t28 w fun t29 w =>
 V pg (Builtin.len_ #[ty_m_int_p_hold_held] 3 [t29].toArray) w fun t30 w =>
 Bin .geq .i64 t30 (N 3) fun t31 =>
 IfV t31 (
 K (.iface ty_api_Errno (N 7)) w) (
 NilCk x0 fun t32 =>
 FA t32 0 fun t33 =>
 Ld t33 w fun t34 w =>
 BinS .add (Str [77]) x5 fun t35 =>
 V pg (Instr.buildSlice ty_s_string 1 [(0, t35)].toArray) w fun t36 w =>
 CallF pg n_journal_Journal_Put [t34, t36] w fun t37 w =>
 NeNil .iface t37 fun t38 =>
 IfV t38 (
 K t37 w) (
 LdN x3 6 w fun t39 w =>
 CallF pg n_hold_Hold_add [x0, t39] w fun t40 w =>
 K .nilIface w)))))))
def sh_hold_Hold_Add (a0 : Value) (a1 : Value) (w : World) (K : Value → World → Prop) : Prop :=
 New (Value.cells a1).toList ty_api_Manifest w fun t1 w =>
 EqNil .ptr a0 fun t2 =>
 IfV t2 (
 K (.iface ty_api_Errno (N 1)) w) (
 LdN t1 6 w fun t3 w =>
 CallF pg n_manifest_Put [t3] w fun t4 w =>
 Ext t4 0 fun t5 =>
 Ext t4 1 fun t6 =>
 NeNil .iface t6 fun t7 =>
 IfV t7 (
 K t6 w) (
 Drew w fun w =>
 NilCk a0 fun t8 =>
 FA t8 1 fun t9 =>
 Ld t9 w fun t10 w1 =>
(w1 = w) ∧ (
 FA t1 0 fun t11 =>
 Ld t11 w fun t12 w1 =>
(w1 = w) ∧ (
 V pg (Instr.lookup ty_m_int_p_hold_held t10 t12 false) w fun t13 w1 =>
(w1 = w) ∧ (
 Drew w fun w =>
 NeNil .ptr t13 fun t14 =>
 IfV t14 (
 NilCk t13 fun t15 =>
 FA t15 0 fun t16 =>
 LdN t16 6 w fun t17 w1 =>
(w1 = w) ∧ (
 LdN t1 6 w fun t18 w1 =>
(w1 = w) ∧ (
 CallF pg n_manifest_Same [t17, t18] w fun t19 w =>
(True) ∧ (
 sh_hold_Hold_Add_j1 a0 t1 t5 t13 t19 w K)))) (
 sh_hold_Hold_Add_j1 a0 t1 t5 t13 (.bool false) w K))))))
theorem ln_hold_Hold_Add {a0 a1 : Value} {w : World} {K : Value → World → Prop} (h : sh_hold_Hold_Add a0 a1 w K) : CallF pg n_hold_Hold_Add [a0, a1] w K :=
  callF_eq (draw_sound follows) (lvOf []) (n := 73) (rs := [.tmp 4]) (c := bodyOf Tryz.f52) (S := sh_hold_Hold_Add a0 a1 w K) Tryz.func52 (by kernel_rfl) (by kernel_rfl) (by kernel_rfl) (by kernel_rfl) (by kernel_rfl) (by kernel_rfl) h
/-! 62 (*lading/hold.Hold).add -/
def sh_hold_Hold_add (a0 : Value) (a1 : Value) (w : World) (K : Value → World → Prop) : Prop :=
 New (Value.cells a1).toList ty_api_Manifest w fun t1 w =>
 Drew w fun w =>
 NilCk a0 fun t2 =>
 FA t2 1 fun t3 =>
 Ld t3 w fun t4 w1 =>
(w1 = w) ∧ (
 FA t1 0 fun t5 =>
 Ld t5 w fun t6 w1 =>
(w1 = w) ∧ (
 LdN t1 6 w fun t7 w1 =>
(w1 = w) ∧ (
(
 CallF pg n_manifest_Copy [t7] w fun t8 w =>
((Ld t5 w fun t36 w1 => w1 = w ∧ t36 = t6) ∧ (Ld t3 w fun t35 w1 => w1 = w ∧ t35 = t4) ∧ True) ∧ (
(
 V pg (Instr.makeMap ty_m_int_hold_placed none) w fun t9 w =>
((LdN t1 6 w fun t21 w1 => w1 = w ∧ t21 = t7) ∧ (Ld t5 w fun t20 w1 => w1 = w ∧ t20 = t6) ∧ (Ld t3 w fun t19 w1 => w1 = w ∧ t19 = t4) ∧ True) ∧ (
 V pg (Instr.makeMap ty_m_int_hold_placed none) w fun t10 w =>
((LdN t1 6 w fun t18 w1 => w1 = w ∧ t18 = t7) ∧ (Ld t5 w fun t17 w1 => w1 = w ∧ t17 = t6) ∧ (Ld t3 w fun t16 w1 => w1 = w ∧ t16 = t4) ∧ True) ∧ (
 V pg (Instr.build ty_hold_held [(0, t8), (1, t9), (2, t10)].toArray) w fun t11 w1 =>
(w1 = w) ∧ (
 New (Value.cells t11).toList ty_hold_held w fun t12 w =>
((Ld t5 w fun t15 w1 => w1 = w ∧ t15 = t6) ∧ (Ld t3 w fun t14 w1 => w1 = w ∧ t14 = t4) ∧ True) ∧ (
 U pg (Instr.mapUpdate ty_m_int_p_hold_held t4 t6 t12) w fun t13 w =>
(True) ∧ (
 K (.tuple #[]) w)))))) ∧ (
 V pg (Instr.makeMap ty_m_int_hold_placed none) w fun t22 w =>
((LdN t1 6 w fun t34 w1 => w1 = w ∧ t34 = t7) ∧ (Ld t5 w fun t33 w1 => w1 = w ∧ t33 = t6) ∧ (Ld t3 w fun t32 w1 => w1 = w ∧ t32 = t4) ∧ True) ∧ (
 V pg (Instr.makeMap ty_m_int_hold_placed none) w fun t23 w =>
((LdN t1 6 w fun t31 w1 => w1 = w ∧ t31 = t7) ∧ (Ld t5 w fun t30 w1 => w1 = w ∧ t30 = t6) ∧ (Ld t3 w fun t29 w1 => w1 = w ∧ t29 = t4) ∧ True) ∧ (
 V pg (Instr.build ty_hold_held [(0, t8), (1, t23), (2, t22)].toArray) w fun t24 w1 =>
(w1 = w) ∧ (
 New (Value.cells t24).toList ty_hold_held w fun t25 w =>
((Ld t5 w fun t28 w1 => w1 = w ∧ t28 = t6) ∧ (Ld t3 w fun t27 w1 => w1 = w ∧ t27 = t4) ∧ True) ∧ (
 U pg (Instr.mapUpdate ty_m_int_p_hold_held t4 t6 t25) w fun t26 w =>
(True) ∧ (
 K (.tuple #[]) w)))))))) ∧ (
 V pg (Instr.makeMap ty_m_int_hold_placed none) w fun t37 w =>
((LdN t1 6 w fun t64 w1 => w1 = w ∧ t64 = t7) ∧ (Ld t5 w fun t63 w1 => w1 = w ∧ t63 = t6) ∧ (Ld t3 w fun t62 w1 => w1 = w ∧ t62 = t4) ∧ True) ∧ (
(
 CallF pg n_manifest_Copy [t7] w fun t38 w =>
((Ld t5 w fun t49 w1 => w1 = w ∧ t49 = t6) ∧ (Ld t3 w fun t48 w1 => w1 = w ∧ t48 = t4) ∧ True) ∧ (
 V pg (Instr.makeMap ty_m_int_hold_placed none) w fun t39 w =>
((LdN t1 6 w fun t47 w1 => w1 = w ∧ t47 = t7) ∧ (Ld t5 w fun t46 w1 => w1 = w ∧ t46 = t6) ∧ (Ld t3 w fun t45 w1 => w1 = w ∧ t45 = t4) ∧ True) ∧ (
 V pg (Instr.build ty_hold_held [(0, t38), (1, t37), (2, t39)].toArray) w fun t40 w1 =>
(w1 = w) ∧ (
 New (Value.cells t40).toList ty_hold_held w fun t41 w =>
((Ld t5 w fun t44 w1 => w1 = w ∧ t44 = t6) ∧ (Ld t3 w fun t43 w1 => w1 = w ∧ t43 = t4) ∧ True) ∧ (
 U pg (Instr.mapUpdate ty_m_int_p_hold_held t4 t6 t41) w fun t42 w =>
(True) ∧ (
 K (.tuple #[]) w)))))) ∧ (
 V pg (Instr.makeMap ty_m_int_hold_placed none) w fun t50 w =>
((LdN t1 6 w fun t61 w1 => w1 = w ∧ t61 = t7) ∧ (Ld t5 w fun t60 w1 => w1 = w ∧ t60 = t6) ∧ (Ld t3 w fun t59 w1 => w1 = w ∧ t59 = t4) ∧ True) ∧ (
 CallF pg n_manifest_Copy [t7] w fun t51 w =>
((Ld t5 w fun t58 w1 => w1 = w ∧ t58 = t6) ∧ (Ld t3 w fun t57 w1 => w1 = w ∧ t57 = t4) ∧ True) ∧ (
 V pg (Instr.build ty_hold_held [(0, t51), (1, t37), (2, t50)].toArray) w fun t52 w1 =>
(w1 = w) ∧ (
 New (Value.cells t52).toList ty_hold_held w fun t53 w =>
((Ld t5 w fun t56 w1 => w1 = w ∧ t56 = t6) ∧ (Ld t3 w fun t55 w1 => w1 = w ∧ t55 = t4) ∧ True) ∧ (
 U pg (Instr.mapUpdate ty_m_int_p_hold_held t4 t6 t53) w fun t54 w =>
(True) ∧ (
 K (.tuple #[]) w)))))))) ∧ (
 V pg (Instr.makeMap ty_m_int_hold_placed none) w fun t65 w =>
((LdN t1 6 w fun t92 w1 => w1 = w ∧ t92 = t7) ∧ (Ld t5 w fun t91 w1 => w1 = w ∧ t91 = t6) ∧ (Ld t3 w fun t90 w1 => w1 = w ∧ t90 = t4) ∧ True) ∧ (
(
 CallF pg n_manifest_Copy [t7] w fun t66 w =>
((Ld t5 w fun t77 w1 => w1 = w ∧ t77 = t6) ∧ (Ld t3 w fun t76 w1 => w1 = w ∧ t76 = t4) ∧ True) ∧ (
 V pg (Instr.makeMap ty_m_int_hold_placed none) w fun t67 w =>
((LdN t1 6 w fun t75 w1 => w1 = w ∧ t75 = t7) ∧ (Ld t5 w fun t74 w1 => w1 = w ∧ t74 = t6) ∧ (Ld t3 w fun t73 w1 => w1 = w ∧ t73 = t4) ∧ True) ∧ (
 V pg (Instr.build ty_hold_held [(0, t66), (1, t67), (2, t65)].toArray) w fun t68 w1 =>
(w1 = w) ∧ (
 New (Value.cells t68).toList ty_hold_held w fun t69 w =>
((Ld t5 w fun t72 w1 => w1 = w ∧ t72 = t6) ∧ (Ld t3 w fun t71 w1 => w1 = w ∧ t71 = t4) ∧ True) ∧ (
 U pg (Instr.mapUpdate ty_m_int_p_hold_held t4 t6 t69) w fun t70 w =>
(True) ∧ (
 K (.tuple #[]) w)))))) ∧ (
 V pg (Instr.makeMap ty_m_int_hold_placed none) w fun t78 w =>
((LdN t1 6 w fun t89 w1 => w1 = w ∧ t89 = t7) ∧ (Ld t5 w fun t88 w1 => w1 = w ∧ t88 = t6) ∧ (Ld t3 w fun t87 w1 => w1 = w ∧ t87 = t4) ∧ True) ∧ (
 CallF pg n_manifest_Copy [t7] w fun t79 w =>
((Ld t5 w fun t86 w1 => w1 = w ∧ t86 = t6) ∧ (Ld t3 w fun t85 w1 => w1 = w ∧ t85 = t4) ∧ True) ∧ (
 V pg (Instr.build ty_hold_held [(0, t79), (1, t78), (2, t65)].toArray) w fun t80 w1 =>
(w1 = w) ∧ (
 New (Value.cells t80).toList ty_hold_held w fun t81 w =>
((Ld t5 w fun t84 w1 => w1 = w ∧ t84 = t6) ∧ (Ld t3 w fun t83 w1 => w1 = w ∧ t83 = t4) ∧ True) ∧ (
 U pg (Instr.mapUpdate ty_m_int_p_hold_held t4 t6 t81) w fun t82 w =>
(True) ∧ (
 K (.tuple #[]) w)))))))))))
theorem ln_hold_Hold_add {a0 a1 : Value} {w : World} {K : Value → World → Prop} (h : sh_hold_Hold_add a0 a1 w K) : CallF pg n_hold_Hold_add [a0, a1] w K :=
  callF_eq (draw_sound follows) (lvOf []) (n := 16) (rs := []) (c := bodyOf Tryz.f62) (S := sh_hold_Hold_add a0 a1 w K) Tryz.func62 (by kernel_rfl) (by kernel_rfl) (by kernel_rfl) (by kernel_rfl) (by kernel_rfl) (by kernel_rfl) h
/-! 205 (*lading/hold.Hold).used -/
def sh_hold_Hold_used (a0 : Value) (w : World) (K : Value → World → Prop) : Prop :=
 V pg (Instr.makeMap ty_m_int_bool none) w fun t1 w =>
 NilCk a0 fun t2 =>
 FA t2 1 fun t3 =>
 Ld t3 w fun t4 w =>
 V pg (Instr.range ty_m_int_p_hold_held t4) w fun t5 w =>
 LoopV [3, 15] [t1, t5] (fun k1 T1 w =>
 V pg (Instr.next (T1 15) false 0) w fun t6 w =>
 Ext t6 0 fun t7 =>
 IfV t7 (
 V pg (Instr.entry (T1 15)) w fun t8 w =>
 Ext t8 1 fun t9 =>
 Drew w fun w =>
 NilCk t9 fun t10 =>
 FA t10 6 fun t11 =>
 Ld t11 w fun t12 w1 =>
(w1 = w) ∧ (
 NilCk t9 fun t13 =>
 FA t13 7 fun t14 =>
 Ld t14 w fun t15 w1 =>
(w1 = w) ∧ (
 V pg (Instr.buildSlice ty_s_m_int_hold_placed 2 [(0, t12), (1, t15)].toArray) w fun t16 w =>
(True) ∧ (
 LenL t16 fun t17 =>
 LoopV [3, 15, 28, 29, 30] [(T1 3), (T1 15), t16, t17, (N 0)] (fun k2 T2 w =>
 Bin .lss .i64 (T2 30) (T2 29) fun t18 =>
 IfV t18 (
 IxS (T2 28) (T2 30) 1 fun t19 =>
 Ld t19 w fun t20 w =>
 V pg (Instr.range ty_m_int_hold_placed t20) w fun t21 w =>
 LoopV [3, 15, 28, 29, 30, 35] [(T2 3), (T2 15), (T2 28), (T2 29), (T2 30), t21] (fun k3 T3 w =>
 V pg (Instr.next (T3 35) false 0) w fun t22 w =>
 Ext t22 0 fun t23 =>
 IfV t23 (
 V pg (Instr.entry (T3 35)) w fun t24 w =>
 Ext t24 1 fun t25 =>
 New [(N 0), (Str [])] ty_hold_placed w fun t26 w =>
 StN t26 t25 2 w fun t27 w =>
 FA t26 0 fun t28 =>
 Ld t28 w fun t29 w =>
 U pg (Instr.mapUpdate ty_m_int_bool (T3 3) t29 (.bool true)) w fun t30 w =>
 k3 [(T3 3), (T3 15), (T3 28), (T3 29), (T3 30), (T3 35)] w) (
 Bin .add .i64 (T3 30) (N 1) fun t31 =>
 k2 [(T3 3), (T3 15), (T3 28), (T3 29), t31] w)) w) (
 k1 [(T2 3), (T2 15)] w)) w)))) (
 K (T1 3) w)) w
theorem ln_hold_Hold_used {a0 : Value} {w : World} {K : Value → World → Prop} (h : sh_hold_Hold_used a0 w K) : CallF pg n_hold_Hold_used [a0] w K :=
  callF_eq (draw_sound follows) (lvOf [(58, [3, 15]), (7478, [3, 15, 28, 29, 30]), (1914470, [3, 15, 28, 29, 30, 35])]) (n := 45) (rs := [.tmp 2]) (c := bodyOf Tryz.f205) (S := sh_hold_Hold_used a0 w K) Tryz.func205 (by kernel_rfl) (by kernel_rfl) (by kernel_rfl) (by kernel_rfl) (by kernel_rfl) (by kernel_rfl) h
/-! 150 (*lading/hold.Hold).slot -/
def sh_hold_Hold_slot (a0 : Value) (a1 : Value) (a2 : Value) (w : World) (K : Value → World → Prop) : Prop :=
 NilCk a1 fun t1 =>
 FA t1 7 fun t2 =>
 Ld t2 w fun t3 w =>
 V pg (Instr.lookup ty_m_int_hold_placed t3 a2 true) w fun t4 w =>
 Ext t4 0 fun t5 =>
 Ext t4 1 fun t6 =>
 New [(N 0), (Str [])] ty_hold_placed w fun t7 w =>
 StN t7 t5 2 w fun t8 w =>
 IfV t6 (
 FA t7 0 fun t9 =>
 Ld t9 w fun t10 w =>
 K (.tuple #[t10, (.bool true)]) w) (
 CallF pg n_hold_Hold_used [a0] w fun t11 w =>
 NilCk a0 fun t12 =>
 FA t12 0 fun t13 =>
 Ld t13 w fun t14 w =>
 NilCk t14 fun t15 =>
 FA t15 0 fun t16 =>
 Ld t16 w fun t17 w =>
 CallF pg n_disk_Disk_Slots [t17] w fun t18 w =>
 LoopV [10, 33, 34] [t11, t18, (N 0)] (fun k1 T1 w =>
 Bin .lss .i64 (T1 34) (T1 33) fun t19 =>
 IfV t19 (
 V pg (Instr.lookup ty_m_int_bool (T1 10) (T1 34) false) w fun t20 w =>
 NotV t20 fun t21 =>
 IfV t21 (
 K (.tuple #[(T1 34), (.bool true)]) w) (
 Bin .add .i64 (T1 34) (N 1) fun t22 =>
 k1 [(T1 10), (T1 33), t22] w)) (
 K (.tuple #[(N 0), (.bool false)]) w)) w)
theorem ln_hold_Hold_slot {a0 a1 a2 : Value} {w : World} {K : Value → World → Prop} (h : sh_hold_Hold_slot a0 a1 a2 w K) : CallF pg n_hold_Hold_slot [a0, a1, a2] w K :=
  callF_eq (draw_sound follows) (lvOf [(122, [10, 33, 34])]) (n := 43) (rs := [.tmp 6, .tmp 7]) (c := bodyOf Tryz.f150) (S := sh_hold_Hold_slot a0 a1 a2 w K) Tryz.func150 (by kernel_rfl) (by kernel_rfl) (by kernel_rfl) (by kernel_rfl) (by kernel_rfl) (by kernel_rfl) h
/-! 103 (*lading/hold.Hold).Put -/
def sh_hold_Hold_Put (a0 : Value) (a1 : Value) (a2 : Value) (a3 : Value) (a4 : Value) (w : World) (K : Value → World → Prop) : Prop :=
 CallF pg n_hold_Hold_known [a0, a1] w fun t1 w =>
 Ext t1 0 fun t2 =>
 Ext t1 1 fun t3 =>
 NeNil .iface t3 fun t4 =>
 IfV t4 (
 K t3 w) (
 Drew w fun w =>
 NilCk t2 fun t5 =>
 FA t5 0 fun t6 =>
 FA t6 5 fun t7 =>
 Ld t7 w fun t8 w1 =>
(w1 = w) ∧ (
 NilCk t2 fun t9 =>
 FA t9 0 fun t10 =>
 FA t10 4 fun t11 =>
 Ld t11 w fun t12 w1 =>
(w1 = w) ∧ (
 CallF pg n_merkle_Check [t8, a2, t12, a3, a4] w fun t13 w =>
(True) ∧ (
 NeNil .iface t13 fun t14 =>
 IfV t14 (
 K t13 w) (
 NilCk t2 fun t15 =>
 FA t15 6 fun t16 =>
 Ld t16 w fun t17 w =>
 V pg (Instr.lookup ty_m_int_hold_placed t17 a2 true) w fun t18 w =>
 Ext t18 0 fun t19 =>
 Ext t18 1 fun t20 =>
 New [(N 0), (Str [])] ty_hold_placed w fun t21 w =>
 StN t21 t19 2 w fun t22 w =>
 IfV t20 (
 K .nilIface w) (
 CallF pg n_hold_Hold_slot [a0, t2, a2] w fun t23 w =>
 Ext t23 0 fun t24 =>
 Ext t23 1 fun t25 =>
 NotV t25 fun t26 =>
 IfV t26 (
 K (.iface ty_api_Errno (N 7)) w) (
 CallF pg n_merkle_Leaf [a3] w fun t27 w =>
 V pg (Instr.build ty_hold_placed [(0, t24), (1, t27)].toArray) w fun t28 w =>
 New [(N 0), (Str [])] ty_hold_placed w fun t29 w =>
 StN t29 t28 2 w fun t30 w =>
 NilCk a0 fun t31 =>
 FA t31 0 fun t32 =>
 Ld t32 w fun t33 w =>
 NilCk t33 fun t34 =>
 FA t34 0 fun t35 =>
 Ld t35 w fun t36 w =>
 CallF pg n_disk_Disk_Put [t36, t24, a3] w fun t37 w =>
 NeNil .iface t37 fun t38 =>
 IfV t38 (
 K t37 w) (
 Drew w fun w =>
 NilCk a0 fun t39 =>
 FA t39 0 fun t40 =>
 Ld t40 w fun t41 w1 =>
(w1 = w) ∧ (
 LdN t29 2 w fun t42 w1 =>
(w1 = w) ∧ (
 CallF pg n_hold_blockRecord [a1, a2, t42] w fun t43 w =>
((Ld t40 w fun t57 w1 => w1 = w ∧ t57 = t41) ∧ True) ∧ (
 V pg (Instr.buildSlice ty_s_string 1 [(0, t43)].toArray) w fun t44 w =>
((Ld t40 w fun t56 w1 => w1 = w ∧ t56 = t41) ∧ True) ∧ (
 CallF pg n_journal_Journal_Put [t41, t44] w fun t45 w =>
(True) ∧ (
 NeNil .iface t45 fun t46 =>
 IfV t46 (
 K t45 w) (
 Drew w fun w =>
 NilCk t2 fun t47 =>
 FA t47 6 fun t48 =>
 Ld t48 w fun t49 w1 =>
(w1 = w) ∧ (
 LdN t29 2 w fun t50 w1 =>
(w1 = w) ∧ (
 U pg (Instr.mapUpdate ty_m_int_hold_placed t49 a2 t50) w fun t51 w =>
(True) ∧ (
 NilCk t2 fun t52 =>
 FA t52 7 fun t53 =>
 Ld t53 w fun t54 w =>
 V pg (Builtin.delete_ #[ty_m_int_hold_placed, 3] 0 [t54, a2].toArray) w fun t55 w =>
 K .nilIface w)))))))))))))))))
theorem ln_hold_Hold_Put {a0 a1 a2 a3 a4 : Value} {w : World} {K : Value → World → Prop} (h : sh_hold_Hold_Put a0 a1 a2 a3 a4 w K) : CallF pg n_hold_Hold_Put [a0, a1, a2, a3, a4] w K :=
  callF_eq (draw_sound follows) (lvOf []) (n := 108) (rs := [.tmp 10]) (c := bodyOf Tryz.f103) (S := sh_hold_Hold_Put a0 a1 a2 a3 a4 w K) Tryz.func103 (by kernel_rfl) (by kernel_rfl) (by kernel_rfl) (by kernel_rfl) (by kernel_rfl) (by kernel_rfl) h
/-! 31 (*lading/hold.Hold).Get -/
def sh_hold_Hold_Get (a0 : Value) (a1 : Value) (a2 : Value) (w : World) (K : Value → World → Prop) : Prop :=
 CallF pg n_hold_Hold_known [a0, a1] w fun t1 w =>
 Ext t1 0 fun t2 =>
 Ext t1 1 fun t3 =>
 NeNil .iface t3 fun t4 =>
 IfV t4 (
 K (.tuple #[(Str []), t3]) w) (
 Bin .lss .i64 a2 (N 0) fun t5 =>
 IfV t5 (
 K (.tuple #[(Str []), (.iface ty_api_Errno (N 2))]) w) (
 NilCk t2 fun t6 =>
 FA t6 0 fun t7 =>
 FA t7 4 fun t8 =>
 Ld t8 w fun t9 w =>
 Bin .geq .i64 a2 t9 fun t10 =>
 IfV t10 (
 K (.tuple #[(Str []), (.iface ty_api_Errno (N 2))]) w) (
 NilCk t2 fun t11 =>
 FA t11 6 fun t12 =>
 Ld t12 w fun t13 w =>
 V pg (Instr.lookup ty_m_int_hold_placed t13 a2 true) w fun t14 w =>
 Ext t14 0 fun t15 =>
 Ext t14 1 fun t16 =>
 New [(N 0), (Str [])] ty_hold_placed w fun t17 w =>
 StN t17 t15 2 w fun t18 w =>
 NotV t16 fun t19 =>
 IfV t19 (
 K (.tuple #[(Str []), (.iface ty_api_Errno (N 9))]) w) (
 Drew w fun w =>
 NilCk a0 fun t20 =>
 FA t20 0 fun t21 =>
 Ld t21 w fun t22 w1 =>
(w1 = w) ∧ (
 NilCk t22 fun t23 =>
 FA t23 0 fun t24 =>
 Ld t24 w fun t25 w1 =>
(w1 = w) ∧ (
 FA t17 0 fun t26 =>
 Ld t26 w fun t27 w1 =>
(w1 = w) ∧ (
 CallF pg n_disk_Disk_Get [t25, t27] w fun t28 w =>
(True) ∧ (
 Ext t28 0 fun t29 =>
 Ext t28 1 fun t30 =>
 NeNil .iface t30 fun t31 =>
 IfV t31 (
 K (.tuple #[(Str []), t30]) w) (
 Drew w fun w =>
 FA t17 1 fun t32 =>
 Ld t32 w fun t33 w1 =>
(w1 = w) ∧ (
 CallF pg n_merkle_Leaf [t29] w fun t34 w =>
((Ld t32 w fun t45 w1 => w1 = w ∧ t45 = t33) ∧ True) ∧ (
 BinS .neq t34 t33 fun t35 =>
 IfV t35 (
 NilCk t2 fun t36 =>
 FA t36 6 fun t37 =>
 Ld t37 w fun t38 w =>
 V pg (Builtin.delete_ #[ty_m_int_hold_placed, 3] 0 [t38, a2].toArray) w fun t39 w =>
 Drew w fun w =>
 NilCk t2 fun t40 =>
 FA t40 7 fun t41 =>
 Ld t41 w fun t42 w1 =>
(w1 = w) ∧ (
 LdN t17 2 w fun t43 w1 =>
(w1 = w) ∧ (
 U pg (Instr.mapUpdate ty_m_int_hold_placed t42 a2 t43) w fun t44 w =>
(True) ∧ (
 K (.tuple #[(Str []), (.iface ty_api_Errno (N 11))]) w)))) (
 K (.tuple #[t29, .nilIface]) w))))))))))))
theorem ln_hold_Hold_Get {a0 a1 a2 : Value} {w : World} {K : Value → World → Prop} (h : sh_hold_Hold_Get a0 a1 a2 w K) : CallF pg n_hold_Hold_Get [a0, a1, a2] w K :=
  callF_eq (draw_sound follows) (lvOf []) (n := 82) (rs := [.tmp 6, .tmp 7]) (c := bodyOf Tryz.f31) (S := sh_hold_Hold_Get a0 a1 a2 w K) Tryz.func31 (by kernel_rfl) (by kernel_rfl) (by kernel_rfl) (by kernel_rfl) (by kernel_rfl) (by kernel_rfl) h
/-! 54 (*lading/hold.Hold).next -/
def sh_hold_Hold_next (a0 : Value) (a1 : Value) (a2 : Value) (w : World) (K : Value → World → Prop) : Prop :=
 CallF pg n_hold_Hold_known [a0, a2] w fun t1 w =>
 Ext t1 0 fun t2 =>
 Ext t1 1 fun t3 =>
 NeNil .iface t3 fun t4 =>
 IfV t4 (
 K t3 w) (
 NilCk a0 fun t5 =>
 FA t5 2 fun t6 =>
 Ld t6 w fun t7 w =>
 Bin .leq .i64 a2 t7 fun t8 =>
 IfV t8 (
 K (.iface ty_api_Errno (N 13)) w) (
 Drew w fun w =>
 NilCk t2 fun t9 =>
 FA t9 6 fun t10 =>
 Ld t10 w fun t11 w1 =>
(w1 = w) ∧ (
 V pg (Builtin.len_ #[ty_m_int_hold_placed] 3 [t11].toArray) w fun t12 w1 =>
(w1 = w) ∧ (
 NilCk t2 fun t13 =>
 FA t13 0 fun t14 =>
 FA t14 4 fun t15 =>
 Ld t15 w fun t16 w1 =>
(w1 = w) ∧ (
 Bin .lss .i64 t12 t16 fun t17 =>
 IfV t17 (
 K (.iface ty_api_Errno (N 9)) w) (
 CallF pg n_hold_Hold_Flush [a0] w fun t18 w =>
 NeNil .iface t18 fun t19 =>
 IfV t19 (
 K t18 w) (
 CallF pg n_hold_Hold_note [a0, a1, a2] w fun t20 w =>
 K t20 w)))))))
theorem ln_hold_Hold_next {a0 a1 a2 : Value} {w : World} {K : Value → World → Prop} (h : sh_hold_Hold_next a0 a1 a2 w K) : CallF pg n_hold_Hold_next [a0, a1, a2] w K :=
  callF_eq (draw_sound follows) (lvOf []) (n := 50) (rs := [.tmp 6]) (c := bodyOf Tryz.f54) (S := sh_hold_Hold_next a0 a1 a2 w K) Tryz.func54 (by kernel_rfl) (by kernel_rfl) (by kernel_rfl) (by kernel_rfl) (by kernel_rfl) (by kernel_rfl) h
/-! 105 (*lading/hold.Hold).note -/
def sh_hold_Hold_note (a0 : Value) (a1 : Value) (a2 : Value) (w : World) (K : Value → World → Prop) : Prop :=
 Drew w fun w =>
 NilCk a0 fun t1 =>
 FA t1 0 fun t2 =>
 Ld t2 w fun t3 w1 =>
(w1 = w) ∧ (
 V pg (Instr.buildSlice ty_s_int 1 [(0, a2)].toArray) w fun t4 w =>
((Ld t2 w fun t14 w1 => w1 = w ∧ t14 = t3) ∧ True) ∧ (
 CallF pg n_hold_numbers [t4] w fun t5 w =>
((Ld t2 w fun t13 w1 => w1 = w ∧ t13 = t3) ∧ True) ∧ (
 BinS .add a1 t5 fun t6 =>
 V pg (Instr.buildSlice ty_s_string 1 [(0, t6)].toArray) w fun t7 w =>
((Ld t2 w fun t12 w1 => w1 = w ∧ t12 = t3) ∧ True) ∧ (
 CallF pg n_journal_Journal_Write [t3, t7] w fun t8 w =>
(True) ∧ (
 NeNil .iface t8 fun t9 =>
 IfV t9 (
 K t8 w) (
 IxStr a1 (N 0) fun t10 =>
 CallF pg n_hold_Hold_turn [a0, t10, a2] w fun t11 w =>
 K .nilIface w))))))
theorem ln_hold_Hold_note {a0 a1 a2 : Value} {w : World} {K : Value → World → Prop} (h : sh_hold_Hold_note a0 a1 a2 w K) : CallF pg n_hold_Hold_note [a0, a1, a2] w K :=
  callF_eq (draw_sound follows) (lvOf []) (n := 27) (rs := [.tmp 6]) (c := bodyOf Tryz.f105) (S := sh_hold_Hold_note a0 a1 a2 w K) Tryz.func105 (by kernel_rfl) (by kernel_rfl) (by kernel_rfl) (by kernel_rfl) (by kernel_rfl) (by kernel_rfl) h
/-! 65 (*lading/hold.Hold).turn -/
def sh_hold_Hold_turn_j2 (x0 : Value) (w : World) (K : Value → World → Prop) : Prop :=
 Drew w fun w =>
 NilCk x0 fun t16 =>
 FA t16 1 fun t17 =>
 Ld t17 w fun t18 w1 =>
(w1 = w) ∧ (
 NilCk x0 fun t19 =>
 FA t19 2 fun t20 =>
 Ld t20 w fun t21 w1 =>
(w1 = w) ∧ (
 V pg (Instr.lookup ty_m_int_p_hold_held t18 t21 false) w fun t22 w1 =>
(w1 = w) ∧ (
 EqNil .ptr t22 fun t23 =>
 IfV t23 (
 NilCk x0 fun t24 =>
 FA t24 2 fun t25 =>
 St t25 (N 0) w fun t26 w =>
 K (.tuple #[]) w) (
 K (.tuple #[]) w))))
def sh_hold_Hold_turn_j1 (x0 : Value) (x2 : Value) (w : World) (K : Value → World → Prop) : Prop :=
 NilCk x0 fun t9 =>
 FA t9 3 fun t10 =>
 Ld t10 w fun t11 w =>
 Bin .eql .i64 t11 x2 fun t12 =>
 IfV t12 (
 NilCk x0 fun t13 =>
 FA t13 3 fun t14 =>
 St t14 (N 0) w fun t15 w =>
 sh_hold_Hold_turn_j2 x0 w K) (
 sh_hold_Hold_turn_j2 x0 w K)
def sh_hold_Hold_turn (a0 : Value) (a1 : Value) (a2 : Value) (w : World) (K : Value → World → Prop) : Prop :=
 Bin .eql .u8 a1 (Y 80) fun t1 =>
 IfV t1 (
 NilCk a0 fun t2 =>
 FA t2 3 fun t3 =>
 St t3 a2 w fun t4 w =>
 K (.tuple #[]) w) (
 Bin .eql .u8 a1 (Y 65) fun t5 =>
 IfV t5 (
 NilCk a0 fun t6 =>
 FA t6 2 fun t7 =>
 St t7 a2 w fun t8 w =>
 sh_hold_Hold_turn_j1 a0 a2 w K) (
 Bin .eql .u8 a1 (Y 68) fun t27 =>
 IfV t27 (
 NilCk a0 fun t28 =>
 FA t28 1 fun t29 =>
 Ld t29 w fun t30 w =>
 V pg (Builtin.delete_ #[ty_m_int_p_hold_held, 3] 0 [t30, a2].toArray) w fun t31 w =>
 sh_hold_Hold_turn_j1 a0 a2 w K) (
 sh_hold_Hold_turn_j1 a0 a2 w K)))
theorem ln_hold_Hold_turn {a0 a1 a2 : Value} {w : World} {K : Value → World → Prop} (h : sh_hold_Hold_turn a0 a1 a2 w K) : CallF pg n_hold_Hold_turn [a0, a1, a2] w K :=
  callF_eq (draw_sound follows) (lvOf []) (n := 48) (rs := []) (c := bodyOf Tryz.f65) (S := sh_hold_Hold_turn a0 a1 a2 w K) Tryz.func65 (by kernel_rfl) (by kernel_rfl) (by kernel_rfl) (by kernel_rfl) (by kernel_rfl) (by kernel_rfl) h
/-! 24 (*lading/hold.Hold).Activate -/
def sh_hold_Hold_Activate (a0 : Value) (a1 : Value) (w : World) (K : Value → World → Prop) : Prop :=
 CallF pg n_hold_Hold_next [a0, (Str [65]), a1] w fun t1 w =>
 K t1 w
theorem ln_hold_Hold_Activate {a0 a1 : Value} {w : World} {K : Value → World → Prop} (h : sh_hold_Hold_Activate a0 a1 w K) : CallF pg n_hold_Hold_Activate [a0, a1] w K :=
  callF_eq (draw_sound follows) (lvOf []) (n := 8) (rs := [.tmp 4]) (c := bodyOf Tryz.f24) (S := sh_hold_Hold_Activate a0 a1 w K) Tryz.func24 (by kernel_rfl) (by kernel_rfl) (by kernel_rfl) (by kernel_rfl) (by kernel_rfl) (by kernel_rfl) h
/-! 34 (*lading/hold.Hold).Active -/
def sh_hold_Hold_Active (a0 : Value) (w : World) (K : Value → World → Prop) : Prop :=
 EqNil .ptr a0 fun t1 =>
 IfV t1 (
 K (N 0) w) (
 NilCk a0 fun t2 =>
 FA t2 2 fun t3 =>
 Ld t3 w fun t4 w =>
 K t4 w)
theorem ln_hold_Hold_Active {a0 : Value} {w : World} {K : Value → World → Prop} (h : sh_hold_Hold_Active a0 w K) : CallF pg n_hold_Hold_Active [a0] w K :=
  callF_eq (draw_sound follows) (lvOf []) (n := 9) (rs := [.tmp 2]) (c := bodyOf Tryz.f34) (S := sh_hold_Hold_Active a0 w K) Tryz.func34 (by kernel_rfl) (by kernel_rfl) (by kernel_rfl) (by kernel_rfl) (by kernel_rfl) (by kernel_rfl) h
/-! 104 (*lading/hold.Hold).Flush -/
def sh_hold_Hold_Flush (a0 : Value) (w : World) (K : Value → World → Prop) : Prop :=
 EqNil .ptr a0 fun t1 =>
 IfV t1 (
 K (.iface ty_api_Errno (N 1)) w) (
 NilCk a0 fun t2 =>
 FA t2 0 fun t3 =>
 Ld t3 w fun t4 w =>
 CallF pg n_journal_Journal_Flush [t4] w fun t5 w =>
 K t5 w)
theorem ln_hold_Hold_Flush {a0 : Value} {w : World} {K : Value → World → Prop} (h : sh_hold_Hold_Flush a0 w K) : CallF pg n_hold_Hold_Flush [a0] w K :=
  callF_eq (draw_sound follows) (lvOf []) (n := 11) (rs := [.tmp 2]) (c := bodyOf Tryz.f104) (S := sh_hold_Hold_Flush a0 w K) Tryz.func104 (by kernel_rfl) (by kernel_rfl) (by kernel_rfl) (by kernel_rfl) (by kernel_rfl) (by kernel_rfl) h
/-! 37 (*lading/hold.Hold).Source -/
def sh_hold_Hold_Source (a0 : Value) (a1 : Value) (w : World) (K : Value → World → Prop) : Prop :=
 New (Value.cells a0).toList ty_p_hold_Hold w fun t1 w =>
 New (Value.cells a1).toList 3 w fun t2 w =>
 K (.func (.func n_hold_Hold_Source_c1) #[] #[t1, t2]) w
theorem ln_hold_Hold_Source {a0 a1 : Value} {w : World} {K : Value → World → Prop} (h : sh_hold_Hold_Source a0 a1 w K) : CallF pg n_hold_Hold_Source [a0, a1] w K :=
  callF_eq (draw_sound follows) (lvOf []) (n := 6) (rs := [.tmp 4]) (c := bodyOf Tryz.f37) (S := sh_hold_Hold_Source a0 a1 w K) Tryz.func37 (by kernel_rfl) (by kernel_rfl) (by kernel_rfl) (by kernel_rfl) (by kernel_rfl) (by kernel_rfl) h
/-! 81 (*lading/hold.Hold).Source$1 -/
def sh_hold_Hold_Source_c1 (a0 : Value) (a1 : Value) (a2 : Value) (w : World) (K : Value → World → Prop) : Prop :=
 Ld a1 w fun t1 w =>
 Ld a2 w fun t2 w =>
 CallF pg n_hold_Hold_Get [t1, t2, a0] w fun t3 w =>
 Ext t3 0 fun t4 =>
 Ext t3 1 fun t5 =>
 K (.tuple #[t4, t5]) w
theorem ln_hold_Hold_Source_c1 {a0 a1 a2 : Value} {w : World} {K : Value → World → Prop} (h : sh_hold_Hold_Source_c1 a0 a1 a2 w K) : CallF pg n_hold_Hold_Source_c1 [a0, a1, a2] w K :=
  callF_eq (draw_sound follows) (lvOf []) (n := 12) (rs := [.tmp 4, .tmp 5]) (c := bodyOf Tryz.f81) (S := sh_hold_Hold_Source_c1 a0 a1 a2 w K) Tryz.func81 (by kernel_rfl) (by kernel_rfl) (by kernel_rfl) (by kernel_rfl) (by kernel_rfl) (by kernel_rfl) h
/-! 5 lading/hold.Open -/
def sh_hold_Open (a0 : Value) (w : World) (K : Value → World → Prop) : Prop :=
 CallF pg n_journal_Open [a0] w fun t1 w =>
 Ext t1 0 fun t2 =>
 Ext t1 1 fun t3 =>
 NeNil .iface t3 fun t4 =>
 IfV t4 (
 K (.tuple #[(.pointer none), t3]) w) (
 V pg (Instr.makeMap ty_m_int_p_hold_held none) w fun t5 w =>
 V pg (Instr.build ty_hold_Hold [(0, t2), (1, t5)].toArray) w fun t6 w =>
 New (Value.cells t6).toList ty_hold_Hold w fun t7 w =>
 CallF pg n_journal_Journal_All [t2] w fun t8 w =>
 LenL t8 fun t9 =>
 LoopV [6, 28, 29, 30] [t7, t8, t9, (N 0)] (fun k1 T1 w =>
 Bin .lss .i64 (T1 30) (T1 29) fun t10 =>
 IfV t10 (
 IxS (T1 28) (T1 30) 1 fun t11 =>
 Ld t11 w fun t12 w =>
 CallF pg n_hold_Hold_replay [(T1 6), t12] w fun t13 w =>
 Bin .add .i64 (T1 30) (N 1) fun t14 =>
 k1 [(T1 6), (T1 28), (T1 29), t14] w) (
 CallF pg n_hold_Hold_Versions [(T1 6)] w fun t15 w =>
 LenL t15 fun t16 =>
 LoopV [6, 39, 40, 41] [(T1 6), t15, t16, (N 0)] (fun k2 T2 w =>
 Bin .lss .i64 (T2 41) (T2 40) fun t17 =>
 IfV t17 (
 IxS (T2 39) (T2 41) 1 fun t18 =>
 Ld t18 w fun t19 w =>
 NilCk (T2 6) fun t20 =>
 FA t20 1 fun t21 =>
 Ld t21 w fun t22 w =>
 V pg (Instr.lookup ty_m_int_p_hold_held t22 t19 false) w fun t23 w =>
 NilCk t23 fun t24 =>
 FA t24 6 fun t25 =>
 Ld t25 w fun t26 w =>
 CallF pg n_maps_Keys_map_placed [t26] w fun t27 w =>
 CallF pg n_slices_Sorted_int [t27] w fun t28 w =>
 LenL t28 fun t29 =>
 LoopV [6, 10, 39, 40, 41, 55, 56, 57] [(T2 6), t19, (T2 39), (T2 40), (T2 41), t28, t29, (N 0)] (fun k3 T3 w =>
 Bin .lss .i64 (T3 57) (T3 56) fun t30 =>
 IfV t30 (
 IxS (T3 55) (T3 57) 1 fun t31 =>
 Ld t31 w fun t32 w =>
 CallF pg n_hold_Hold_Get [(T3 6), (T3 10), t32] w fun t33 w =>
 Ext t33 0 fun t34 =>
 Ext t33 1 fun t35 =>
 CallF pg n_errors_Is [t35, (.iface ty_api_Errno (N 8))] w fun t36 w =>
 IfV t36 (
 K (.tuple #[(.pointer none), t35]) w) (
 Bin .add .i64 (T3 57) (N 1) fun t37 =>
 k3 [(T3 6), (T3 10), (T3 39), (T3 40), (T3 41), (T3 55), (T3 56), t37] w)) (
 Bin .add .i64 (T3 41) (N 1) fun t38 =>
 k2 [(T3 6), (T3 39), (T3 40), t38] w)) w) (
 K (.tuple #[(T2 6), .nilIface]) w)) w)) w)
theorem ln_hold_Open {a0 : Value} {w : World} {K : Value → World → Prop} (h : sh_hold_Open a0 w K) : CallF pg n_hold_Open [a0] w K :=
  callF_eq (draw_sound follows) (lvOf [(250, [6, 28, 29, 30]), (506, [6, 39, 40, 41]), (129638, [6, 10, 39, 40, 41, 55, 56, 57])]) (n := 75) (rs := [.tmp 2, .tmp 3]) (c := bodyOf Tryz.f5) (S := sh_hold_Open a0 w K) Tryz.func5 (by kernel_rfl) (by kernel_rfl) (by kernel_rfl) (by kernel_rfl) (by kernel_rfl) (by kernel_rfl) h
end Go.Proofs.Tryz

