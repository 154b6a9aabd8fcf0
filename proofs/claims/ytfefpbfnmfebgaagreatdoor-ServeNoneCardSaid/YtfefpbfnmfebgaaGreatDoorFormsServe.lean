/- Part of a proof (its text FormsServe): what is proved stands in the text Card. -/
import Derived.Test.YtfefpbfnmfebgaaGreatDoorBase
set_option linter.all false
namespace Go.Proofs.Tryz
open Go Go.Lad
set_option autoImplicit false
set_option linter.unusedVariables false
set_option maxRecDepth 100000
/-! 36 lading/probe.New -/
def sh_probe_New (a0 : Value) (a1 : Value) (w : World) (K : Value → World → Prop) : Prop :=
 New (Value.cells a0).toList ty_api_Manifest w fun t1 w =>
 LdN t1 6 w fun t2 w =>
 CallF pg n_manifest_Check [t2] w fun t3 w =>
 NeNil .iface t3 fun t4 =>
 IfV t4 (
 K (.tuple #[(.pointer none), t3]) w) (
 EqNil .func a1 fun t5 =>
 IfV t5 (
 K (.tuple #[(.pointer none), (.iface ty_api_Errno (N 1))]) w) (
 LdN t1 6 w fun t6 w =>
 CallF pg n_manifest_Copy [t6] w fun t7 w =>
 V pg (Instr.build ty_probe_Probe [(0, t7), (1, a1)].toArray) w fun t8 w =>
 New (Value.cells t8).toList ty_probe_Probe w fun t9 w =>
 K (.tuple #[t9, .nilIface]) w))
theorem ln_probe_New {a0 a1 : Value} {w : World} {K : Value → World → Prop} (h : sh_probe_New a0 a1 w K) : CallF pg n_probe_New [a0, a1] w K :=
  callF_eq (draw_sound follows) (lvOf []) (n := 20) (rs := [.tmp 4, .tmp 5]) (c := bodyOf Tryz.f36) (S := sh_probe_New a0 a1 w K) Tryz.func36 (by kernel_rfl) (by kernel_rfl) (by kernel_rfl) (by kernel_rfl) (by kernel_rfl) (by kernel_rfl) h
/-! 7 lading/serve.New -/
def sh_serve_New (a0 : Value) (w : World) (K : Value → World → Prop) : Prop :=
 EqNil .ptr a0 fun t1 =>
 IfV t1 (
 K (.tuple #[(.pointer none), (.iface ty_api_Errno (N 1))]) w) (
 V pg (Instr.makeMap ty_m_int_p_serve_session none) w fun t2 w =>
 V pg (Instr.build ty_serve_Serve [(0, a0), (1, (.int .i64 (-1))), (3, t2)].toArray) w fun t3 w =>
 New (Value.cells t3).toList ty_serve_Serve w fun t4 w =>
 K (.tuple #[t4, .nilIface]) w)
theorem ln_serve_New {a0 : Value} {w : World} {K : Value → World → Prop} (h : sh_serve_New a0 w K) : CallF pg n_serve_New [a0] w K :=
  callF_eq (draw_sound follows) (lvOf []) (n := 11) (rs := [.tmp 2, .tmp 3]) (c := bodyOf Tryz.f7) (S := sh_serve_New a0 w K) Tryz.func7 (by kernel_rfl) (by kernel_rfl) (by kernel_rfl) (by kernel_rfl) (by kernel_rfl) (by kernel_rfl) h
/-! 10 (*lading/serve.Serve).Open -/
def sh_serve_Serve_Open (a0 : Value) (a1 : Value) (w : World) (K : Value → World → Prop) : Prop :=
 EqNil .ptr a0 fun t1 =>
 IfV t1 (
 K (.tuple #[(N 0), (N 0), (.iface ty_api_Errno (N 1))]) w) (
 NilCk a0 fun t2 =>
 FA t2 1 fun t3 =>
 Ld t3 w fun t4 w =>
 Bin .gtr .i64 a1 t4 fun t5 =>
 IfV t5 (
 K (.tuple #[(N 0), (N 0), (.iface ty_api_Errno (N 15))]) w) (
 NilCk a0 fun t6 =>
 FA t6 0 fun t7 =>
 Ld t7 w fun t8 w =>
 CallF pg n_hold_Hold_Active [t8] w fun t9 w =>
 Bin .eql .i64 t9 (N 0) fun t10 =>
 IfV t10 (
 K (.tuple #[(N 0), (N 0), (.iface ty_api_Errno (N 16))]) w) (
 NilCk a0 fun t11 =>
 FA t11 3 fun t12 =>
 Ld t12 w fun t13 w =>
 V pg (Builtin.len_ #[ty_m_int_p_serve_session] 3 [t13].toArray) w fun t14 w =>
 Bin .geq .i64 t14 (N 8) fun t15 =>
 IfV t15 (
 K (.tuple #[(N 0), (N 0), (.iface ty_api_Errno (N 7))]) w) (
 NilCk a0 fun t16 =>
 FA t16 0 fun t17 =>
 Ld t17 w fun t18 w =>
 CallF pg n_hold_Hold_Active [t18] w fun t19 w =>
 NilCk a0 fun t20 =>
 FA t20 0 fun t21 =>
 Ld t21 w fun t22 w =>
 CallF pg n_hold_Hold_Manifest [t22, t19] w fun t23 w =>
 Ext t23 0 fun t24 =>
 Ext t23 1 fun t25 =>
 New [(N 0), (N 0), (N 0), (.slice none 0 0), (N 0), (Str [])] ty_api_Manifest w fun t26 w =>
 StN t26 t24 6 w fun t27 w =>
 NeNil .iface t25 fun t28 =>
 IfV t28 (
 K (.tuple #[(N 0), (N 0), t25]) w) (
 Drew w fun w =>
 LdN t26 6 w fun t29 w1 =>
(w1 = w) ∧ (
 NilCk a0 fun t30 =>
 FA t30 0 fun t31 =>
 Ld t31 w fun t32 w1 =>
(w1 = w) ∧ (
 CallF pg n_hold_Hold_Source [t32, t19] w fun t33 w =>
((LdN t26 6 w fun t59 w1 => w1 = w ∧ t59 = t29) ∧ True) ∧ (
 CallF pg n_probe_New [t29, t33] w fun t34 w =>
(True) ∧ (
 Ext t34 0 fun t35 =>
 Ext t34 1 fun t36 =>
 NeNil .iface t36 fun t37 =>
 IfV t37 (
 K (.tuple #[(N 0), (N 0), t36]) w) (
 NilCk a0 fun t38 =>
 FA t38 2 fun t39 =>
 Ld t39 w fun t40 w =>
 Bin .add .i64 t40 (N 1) fun t41 =>
 NilCk a0 fun t42 =>
 FA t42 2 fun t43 =>
 St t43 t41 w fun t44 w =>
 Drew w fun w =>
 NilCk a0 fun t45 =>
 FA t45 3 fun t46 =>
 Ld t46 w fun t47 w1 =>
(w1 = w) ∧ (
 NilCk a0 fun t48 =>
 FA t48 2 fun t49 =>
 Ld t49 w fun t50 w1 =>
(w1 = w) ∧ (
 V pg (Instr.build ty_serve_session [(0, t19), (1, t35)].toArray) w fun t51 w1 =>
(w1 = w) ∧ (
 New (Value.cells t51).toList ty_serve_session w fun t52 w =>
((Ld t49 w fun t58 w1 => w1 = w ∧ t58 = t50) ∧ (Ld t46 w fun t57 w1 => w1 = w ∧ t57 = t47) ∧ True) ∧ (
 U pg (Instr.mapUpdate ty_m_int_p_serve_session t47 t50 t52) w fun t53 w =>
(True) ∧ (
 NilCk a0 fun t54 =>
 FA t54 2 fun t55 =>
 Ld t55 w fun t56 w =>
 K (.tuple #[t56, t19, .nilIface]) w)))))))))))))))
theorem ln_serve_Serve_Open {a0 a1 : Value} {w : World} {K : Value → World → Prop} (h : sh_serve_Serve_Open a0 a1 w K) : CallF pg n_serve_Serve_Open [a0, a1] w K :=
  callF_eq (draw_sound follows) (lvOf []) (n := 94) (rs := [.tmp 4, .tmp 5, .tmp 6]) (c := bodyOf Tryz.f10) (S := sh_serve_Serve_Open a0 a1 w K) Tryz.func10 (by kernel_rfl) (by kernel_rfl) (by kernel_rfl) (by kernel_rfl) (by kernel_rfl) (by kernel_rfl) h
/-! 11 (*lading/serve.Serve).Renew -/
def sh_serve_Serve_Renew (a0 : Value) (a1 : Value) (w : World) (K : Value → World → Prop) : Prop :=
 NeNil .ptr a0 fun t1 =>
 IfV t1 (
 NilCk a0 fun t2 =>
 FA t2 1 fun t3 =>
 Ld t3 w fun t4 w =>
 V pg (Builtin.min_ #[3, 3] 3 [a1, (N 72057594037927935)].toArray) w fun t5 w =>
 Bin .add .i64 t5 (N 12) fun t6 =>
 V pg (Builtin.max_ #[3, 3] 3 [t4, t6].toArray) w fun t7 w =>
 NilCk a0 fun t8 =>
 FA t8 1 fun t9 =>
 St t9 t7 w fun t10 w =>
 K (.tuple #[]) w) (
 K (.tuple #[]) w)
theorem ln_serve_Serve_Renew {a0 a1 : Value} {w : World} {K : Value → World → Prop} (h : sh_serve_Serve_Renew a0 a1 w K) : CallF pg n_serve_Serve_Renew [a0, a1] w K :=
  callF_eq (draw_sound follows) (lvOf []) (n := 17) (rs := []) (c := bodyOf Tryz.f11) (S := sh_serve_Serve_Renew a0 a1 w K) Tryz.func11 (by kernel_rfl) (by kernel_rfl) (by kernel_rfl) (by kernel_rfl) (by kernel_rfl) (by kernel_rfl) h
/-! 9 (*lading/serve.Serve).Until -/
def sh_serve_Serve_Until (a0 : Value) (w : World) (K : Value → World → Prop) : Prop :=
 EqNil .ptr a0 fun t1 =>
 IfV t1 (
 K (.int .i64 (-1)) w) (
 NilCk a0 fun t2 =>
 FA t2 1 fun t3 =>
 Ld t3 w fun t4 w =>
 K t4 w)
theorem ln_serve_Serve_Until {a0 : Value} {w : World} {K : Value → World → Prop} (h : sh_serve_Serve_Until a0 w K) : CallF pg n_serve_Serve_Until [a0] w K :=
  callF_eq (draw_sound follows) (lvOf []) (n := 9) (rs := [.tmp 2]) (c := bodyOf Tryz.f9) (S := sh_serve_Serve_Until a0 w K) Tryz.func9 (by kernel_rfl) (by kernel_rfl) (by kernel_rfl) (by kernel_rfl) (by kernel_rfl) (by kernel_rfl) h
/-! 38 (*lading/serve.Serve).of -/
def sh_serve_Serve_of (a0 : Value) (a1 : Value) (w : World) (K : Value → World → Prop) : Prop :=
 EqNil .ptr a0 fun t1 =>
 IfV t1 (
 K (.tuple #[(.pointer none), (.iface ty_api_Errno (N 1))]) w) (
 NilCk a0 fun t2 =>
 FA t2 3 fun t3 =>
 Ld t3 w fun t4 w =>
 V pg (Instr.lookup ty_m_int_p_serve_session t4 a1 false) w fun t5 w =>
 EqNil .ptr t5 fun t6 =>
 IfV t6 (
 K (.tuple #[(.pointer none), (.iface ty_api_Errno (N 14))]) w) (
 K (.tuple #[t5, .nilIface]) w))
theorem ln_serve_Serve_of {a0 a1 : Value} {w : World} {K : Value → World → Prop} (h : sh_serve_Serve_of a0 a1 w K) : CallF pg n_serve_Serve_of [a0, a1] w K :=
  callF_eq (draw_sound follows) (lvOf []) (n := 20) (rs := [.tmp 4, .tmp 5]) (c := bodyOf Tryz.f38) (S := sh_serve_Serve_of a0 a1 w K) Tryz.func38 (by kernel_rfl) (by kernel_rfl) (by kernel_rfl) (by kernel_rfl) (by kernel_rfl) (by kernel_rfl) h
/-! 39 (*lading/serve.Serve).asks -/
def sh_serve_Serve_asks (a0 : Value) (a1 : Value) (a2 : Value) (w : World) (K : Value → World → Prop) : Prop :=
 CallF pg n_serve_Serve_of [a0, a1] w fun t1 w =>
 Ext t1 0 fun t2 =>
 Ext t1 1 fun t3 =>
 NeNil .iface t3 fun t4 =>
 IfV t4 (
 K (.tuple #[(.pointer none), t3]) w) (
 NilCk a0 fun t5 =>
 FA t5 1 fun t6 =>
 Ld t6 w fun t7 w =>
 Bin .gtr .i64 a2 t7 fun t8 =>
 IfV t8 (
 K (.tuple #[(.pointer none), (.iface ty_api_Errno (N 15))]) w) (
 K (.tuple #[t2, .nilIface]) w))
theorem ln_serve_Serve_asks {a0 a1 a2 : Value} {w : World} {K : Value → World → Prop} (h : sh_serve_Serve_asks a0 a1 a2 w K) : CallF pg n_serve_Serve_asks [a0, a1, a2] w K :=
  callF_eq (draw_sound follows) (lvOf []) (n := 29) (rs := [.tmp 6, .tmp 7]) (c := bodyOf Tryz.f39) (S := sh_serve_Serve_asks a0 a1 a2 w K) Tryz.func39 (by kernel_rfl) (by kernel_rfl) (by kernel_rfl) (by kernel_rfl) (by kernel_rfl) (by kernel_rfl) h
/-! 42 (*lading/serve.Serve).searching -/
def sh_serve_Serve_searching (a0 : Value) (a1 : Value) (a2 : Value) (w : World) (K : Value → World → Prop) : Prop :=
 CallF pg n_serve_Serve_asks [a0, a1, a2] w fun t1 w =>
 Ext t1 0 fun t2 =>
 Ext t1 1 fun t3 =>
 EqNil .iface t3 fun t4 =>
 IfV t4 (
 NilCk t2 fun t5 =>
 FA t5 2 fun t6 =>
 Ld t6 w fun t7 w =>
 EqNil .ptr t7 fun t8 =>
 IfV t8 (
 K (.tuple #[(.pointer none), (.iface ty_api_Errno (N 9))]) w) (
 K (.tuple #[t2, t3]) w)) (
 K (.tuple #[t2, t3]) w)
theorem ln_serve_Serve_searching {a0 a1 a2 : Value} {w : World} {K : Value → World → Prop} (h : sh_serve_Serve_searching a0 a1 a2 w K) : CallF pg n_serve_Serve_searching [a0, a1, a2] w K :=
  callF_eq (draw_sound follows) (lvOf []) (n := 29) (rs := [.tmp 6, .tmp 7]) (c := bodyOf Tryz.f42) (S := sh_serve_Serve_searching a0 a1 a2 w K) Tryz.func42 (by kernel_rfl) (by kernel_rfl) (by kernel_rfl) (by kernel_rfl) (by kernel_rfl) (by kernel_rfl) h
/-! 17 (*lading/serve.Serve).Close -/
def sh_serve_Serve_Close (a0 : Value) (a1 : Value) (w : World) (K : Value → World → Prop) : Prop :=
 CallF pg n_serve_Serve_of [a0, a1] w fun t1 w =>
 Ext t1 0 fun t2 =>
 Ext t1 1 fun t3 =>
 NeNil .iface t3 fun t4 =>
 IfV t4 (
 K t3 w) (
 NilCk a0 fun t5 =>
 FA t5 3 fun t6 =>
 Ld t6 w fun t7 w =>
 V pg (Builtin.delete_ #[ty_m_int_p_serve_session, 3] 0 [t7, a1].toArray) w fun t8 w =>
 K .nilIface w)
theorem ln_serve_Serve_Close {a0 a1 : Value} {w : World} {K : Value → World → Prop} (h : sh_serve_Serve_Close a0 a1 w K) : CallF pg n_serve_Serve_Close [a0, a1] w K :=
  callF_eq (draw_sound follows) (lvOf []) (n := 21) (rs := [.tmp 4]) (c := bodyOf Tryz.f17) (S := sh_serve_Serve_Close a0 a1 w K) Tryz.func17 (by kernel_rfl) (by kernel_rfl) (by kernel_rfl) (by kernel_rfl) (by kernel_rfl) (by kernel_rfl) h
/-! 12 (*lading/serve.Serve).Version -/
def sh_serve_Serve_Version (a0 : Value) (a1 : Value) (w : World) (K : Value → World → Prop) : Prop :=
 CallF pg n_serve_Serve_of [a0, a1] w fun t1 w =>
 Ext t1 0 fun t2 =>
 Ext t1 1 fun t3 =>
 NeNil .iface t3 fun t4 =>
 IfV t4 (
 K (.tuple #[(N 0), t3]) w) (
 NilCk t2 fun t5 =>
 FA t5 0 fun t6 =>
 Ld t6 w fun t7 w =>
 K (.tuple #[t7, .nilIface]) w)
theorem ln_serve_Serve_Version {a0 a1 : Value} {w : World} {K : Value → World → Prop} (h : sh_serve_Serve_Version a0 a1 w K) : CallF pg n_serve_Serve_Version [a0, a1] w K :=
  callF_eq (draw_sound follows) (lvOf []) (n := 21) (rs := [.tmp 4, .tmp 5]) (c := bodyOf Tryz.f12) (S := sh_serve_Serve_Version a0 a1 w K) Tryz.func12 (by kernel_rfl) (by kernel_rfl) (by kernel_rfl) (by kernel_rfl) (by kernel_rfl) (by kernel_rfl) h
/-! 13 (*lading/serve.Serve).Targets -/
def sh_serve_Serve_Targets (a0 : Value) (a1 : Value) (a2 : Value) (a3 : Value) (w : World) (K : Value → World → Prop) : Prop :=
 CallF pg n_serve_Serve_asks [a0, a1, a3] w fun t1 w =>
 Ext t1 0 fun t2 =>
 Ext t1 1 fun t3 =>
 NeNil .iface t3 fun t4 =>
 IfV t4 (
 K (.tuple #[(.slice none 0 0), t3]) w) (
 NilCk t2 fun t5 =>
 FA t5 1 fun t6 =>
 Ld t6 w fun t7 w =>
 CallF pg n_probe_Probe_Targets [t7, a2] w fun t8 w =>
 Ext t8 0 fun t9 =>
 Ext t8 1 fun t10 =>
 K (.tuple #[t9, t10]) w)
theorem ln_serve_Serve_Targets {a0 a1 a2 a3 : Value} {w : World} {K : Value → World → Prop} (h : sh_serve_Serve_Targets a0 a1 a2 a3 w K) : CallF pg n_serve_Serve_Targets [a0, a1, a2, a3] w K :=
  callF_eq (draw_sound follows) (lvOf []) (n := 30) (rs := [.tmp 8, .tmp 9]) (c := bodyOf Tryz.f13) (S := sh_serve_Serve_Targets a0 a1 a2 a3 w K) Tryz.func13 (by kernel_rfl) (by kernel_rfl) (by kernel_rfl) (by kernel_rfl) (by kernel_rfl) (by kernel_rfl) h
/-! 14 (*lading/serve.Serve).Degree -/
def sh_serve_Serve_Degree (a0 : Value) (a1 : Value) (a2 : Value) (a3 : Value) (w : World) (K : Value → World → Prop) : Prop :=
 CallF pg n_serve_Serve_asks [a0, a1, a3] w fun t1 w =>
 Ext t1 0 fun t2 =>
 Ext t1 1 fun t3 =>
 NeNil .iface t3 fun t4 =>
 IfV t4 (
 K (.tuple #[(N 0), t3]) w) (
 NilCk t2 fun t5 =>
 FA t5 1 fun t6 =>
 Ld t6 w fun t7 w =>
 CallF pg n_probe_Probe_Degree [t7, a2] w fun t8 w =>
 Ext t8 0 fun t9 =>
 Ext t8 1 fun t10 =>
 K (.tuple #[t9, t10]) w)
theorem ln_serve_Serve_Degree {a0 a1 a2 a3 : Value} {w : World} {K : Value → World → Prop} (h : sh_serve_Serve_Degree a0 a1 a2 a3 w K) : CallF pg n_serve_Serve_Degree [a0, a1, a2, a3] w K :=
  callF_eq (draw_sound follows) (lvOf []) (n := 30) (rs := [.tmp 8, .tmp 9]) (c := bodyOf Tryz.f14) (S := sh_serve_Serve_Degree a0 a1 a2 a3 w K) Tryz.func14 (by kernel_rfl) (by kernel_rfl) (by kernel_rfl) (by kernel_rfl) (by kernel_rfl) (by kernel_rfl) h
/-! 18 (*lading/serve.Serve).Search -/
def sh_serve_Serve_Search (a0 : Value) (a1 : Value) (a2 : Value) (a3 : Value) (a4 : Value) (a5 : Value) (w : World) (K : Value → World → Prop) : Prop :=
 CallF pg n_serve_Serve_asks [a0, a1, a5] w fun t1 w =>
 Ext t1 0 fun t2 =>
 Ext t1 1 fun t3 =>
 NeNil .iface t3 fun t4 =>
 IfV t4 (
 K t3 w) (
 NilCk t2 fun t5 =>
 FA t5 1 fun t6 =>
 Ld t6 w fun t7 w =>
 CallF pg n_walk_New [t7, a2, a3, a4] w fun t8 w =>
 Ext t8 0 fun t9 =>
 Ext t8 1 fun t10 =>
 NeNil .iface t10 fun t11 =>
 IfV t11 (
 K t10 w) (
 NilCk t2 fun t12 =>
 FA t12 2 fun t13 =>
 St t13 t9 w fun t14 w =>
 K .nilIface w))
theorem ln_serve_Serve_Search {a0 a1 a2 a3 a4 a5 : Value} {w : World} {K : Value → World → Prop} (h : sh_serve_Serve_Search a0 a1 a2 a3 a4 a5 w K) : CallF pg n_serve_Serve_Search [a0, a1, a2, a3, a4, a5] w K :=
  callF_eq (draw_sound follows) (lvOf []) (n := 44) (rs := [.tmp 12]) (c := bodyOf Tryz.f18) (S := sh_serve_Serve_Search a0 a1 a2 a3 a4 a5 w K) Tryz.func18 (by kernel_rfl) (by kernel_rfl) (by kernel_rfl) (by kernel_rfl) (by kernel_rfl) (by kernel_rfl) h
/-! 15 (*lading/serve.Serve).Step -/
def sh_serve_Serve_Step (a0 : Value) (a1 : Value) (a2 : Value) (a3 : Value) (w : World) (K : Value → World → Prop) : Prop :=
 CallF pg n_serve_Serve_searching [a0, a1, a3] w fun t1 w =>
 Ext t1 0 fun t2 =>
 Ext t1 1 fun t3 =>
 NeNil .iface t3 fun t4 =>
 IfV t4 (
 K (.tuple #[(.bool false), t3]) w) (
 NilCk t2 fun t5 =>
 FA t5 2 fun t6 =>
 Ld t6 w fun t7 w =>
 CallF pg n_walk_Walk_Run [t7, a2] w fun t8 w =>
 Ext t8 0 fun t9 =>
 Ext t8 1 fun t10 =>
 NeNil .iface t10 fun t11 =>
 IfV t11 (
 K (.tuple #[(.bool false), t10]) w) (
 NilCk t2 fun t12 =>
 FA t12 2 fun t13 =>
 Ld t13 w fun t14 w =>
 CallF pg n_walk_Walk_Done [t14] w fun t15 w =>
 K (.tuple #[t15, .nilIface]) w))
theorem ln_serve_Serve_Step {a0 a1 a2 a3 : Value} {w : World} {K : Value → World → Prop} (h : sh_serve_Serve_Step a0 a1 a2 a3 w K) : CallF pg n_serve_Serve_Step [a0, a1, a2, a3] w K :=
  callF_eq (draw_sound follows) (lvOf []) (n := 41) (rs := [.tmp 8, .tmp 9]) (c := bodyOf Tryz.f15) (S := sh_serve_Serve_Step a0 a1 a2 a3 w K) Tryz.func15 (by kernel_rfl) (by kernel_rfl) (by kernel_rfl) (by kernel_rfl) (by kernel_rfl) (by kernel_rfl) h
/-! 16 (*lading/serve.Serve).Met -/
def sh_serve_Serve_Met (a0 : Value) (a1 : Value) (a2 : Value) (w : World) (K : Value → World → Prop) : Prop :=
 CallF pg n_serve_Serve_searching [a0, a1, a2] w fun t1 w =>
 Ext t1 0 fun t2 =>
 Ext t1 1 fun t3 =>
 NeNil .iface t3 fun t4 =>
 IfV t4 (
 K (.tuple #[(.slice none 0 0), t3]) w) (
 NilCk t2 fun t5 =>
 FA t5 2 fun t6 =>
 Ld t6 w fun t7 w =>
 CallF pg n_walk_Walk_Done [t7] w fun t8 w =>
 NotV t8 fun t9 =>
 IfV t9 (
 K (.tuple #[(.slice none 0 0), (.iface ty_api_Errno (N 16))]) w) (
 NilCk t2 fun t10 =>
 FA t10 2 fun t11 =>
 Ld t11 w fun t12 w =>
 CallF pg n_walk_Walk_Met [t12] w fun t13 w =>
 K (.tuple #[t13, .nilIface]) w))
theorem ln_serve_Serve_Met {a0 a1 a2 : Value} {w : World} {K : Value → World → Prop} (h : sh_serve_Serve_Met a0 a1 a2 w K) : CallF pg n_serve_Serve_Met [a0, a1, a2] w K :=
  callF_eq (draw_sound follows) (lvOf []) (n := 34) (rs := [.tmp 6, .tmp 7]) (c := bodyOf Tryz.f16) (S := sh_serve_Serve_Met a0 a1 a2 w K) Tryz.func16 (by kernel_rfl) (by kernel_rfl) (by kernel_rfl) (by kernel_rfl) (by kernel_rfl) (by kernel_rfl) h
/-! 19 (*lading/serve.Serve).Pins -/
def sh_serve_Serve_Pins (a0 : Value) (w : World) (K : Value → World → Prop) : Prop :=
 EqNil .ptr a0 fun t1 =>
 IfV t1 (
 K (.slice none 0 0) w) (
 V pg (Instr.makeMap ty_m_int_bool none) w fun t2 w =>
 NilCk a0 fun t3 =>
 FA t3 3 fun t4 =>
 Ld t4 w fun t5 w =>
 V pg (Instr.range ty_m_int_p_serve_session t5) w fun t6 w =>
 LoopV [3, 13] [t2, t6] (fun k1 T1 w =>
 V pg (Instr.next (T1 13) false 0) w fun t7 w =>
 Ext t7 0 fun t8 =>
 IfV t8 (
 V pg (Instr.entry (T1 13)) w fun t9 w =>
 Ext t9 1 fun t10 =>
 NilCk t10 fun t11 =>
 FA t11 0 fun t12 =>
 Ld t12 w fun t13 w =>
 U pg (Instr.mapUpdate ty_m_int_bool (T1 3) t13 (.bool true)) w fun t14 w =>
 k1 [(T1 3), (T1 13)] w) (
 CallF pg n_maps_Keys_map_bool [(T1 3)] w fun t15 w =>
 CallF pg n_slices_Sorted_int [t15] w fun t16 w =>
 K t16 w)) w)
theorem ln_serve_Serve_Pins {a0 : Value} {w : World} {K : Value → World → Prop} (h : sh_serve_Serve_Pins a0 w K) : CallF pg n_serve_Serve_Pins [a0] w K :=
  callF_eq (draw_sound follows) (lvOf [(122, [3, 13])]) (n := 26) (rs := [.tmp 2]) (c := bodyOf Tryz.f19) (S := sh_serve_Serve_Pins a0 w K) Tryz.func19 (by kernel_rfl) (by kernel_rfl) (by kernel_rfl) (by kernel_rfl) (by kernel_rfl) (by kernel_rfl) h
/-! 20 (*lading/serve.Serve).Sessions -/
def sh_serve_Serve_Sessions (a0 : Value) (w : World) (K : Value → World → Prop) : Prop :=
 EqNil .ptr a0 fun t1 =>
 IfV t1 (
 K (.slice none 0 0) w) (
 NilCk a0 fun t2 =>
 FA t2 3 fun t3 =>
 Ld t3 w fun t4 w =>
 CallF pg n_maps_Keys_map_session [t4] w fun t5 w =>
 CallF pg n_slices_Sorted_int [t5] w fun t6 w =>
 K t6 w)
theorem ln_serve_Serve_Sessions {a0 : Value} {w : World} {K : Value → World → Prop} (h : sh_serve_Serve_Sessions a0 w K) : CallF pg n_serve_Serve_Sessions [a0] w K :=
  callF_eq (draw_sound follows) (lvOf []) (n := 11) (rs := [.tmp 2]) (c := bodyOf Tryz.f20) (S := sh_serve_Serve_Sessions a0 w K) Tryz.func20 (by kernel_rfl) (by kernel_rfl) (by kernel_rfl) (by kernel_rfl) (by kernel_rfl) (by kernel_rfl) h
/-! 21 (*lading/serve.Serve).Idle -/
def sh_serve_Serve_Idle (a0 : Value) (w : World) (K : Value → World → Prop) : Prop :=
 EqNil .ptr a0 fun t1 =>
 IfV t1 (
 K (.slice none 0 0) w) (
 NilCk a0 fun t2 =>
 FA t2 0 fun t3 =>
 Ld t3 w fun t4 w =>
 CallF pg n_hold_Hold_Versions [t4] w fun t5 w =>
 CallF pg n_slices_DeleteFunc_int [t5, (.func (.func n_serve_Serve_needed) #[a0] #[])] w fun t6 w =>
 K t6 w)
theorem ln_serve_Serve_Idle {a0 : Value} {w : World} {K : Value → World → Prop} (h : sh_serve_Serve_Idle a0 w K) : CallF pg n_serve_Serve_Idle [a0] w K :=
  callF_eq (draw_sound follows) (lvOf []) (n := 13) (rs := [.tmp 2]) (c := bodyOf Tryz.f21) (S := sh_serve_Serve_Idle a0 w K) Tryz.func21 (by kernel_rfl) (by kernel_rfl) (by kernel_rfl) (by kernel_rfl) (by kernel_rfl) (by kernel_rfl) h
end Go.Proofs.Tryz

namespace Go.Proofs.Tryz
open Go Go.Lad
set_option autoImplicit false
set_option linter.unusedVariables false
set_option maxRecDepth 100000
/-! 22 lading/ladinglaw16.Pool -/
def sh_ladinglaw16_Pool (a0 : Value) (w : World) (K : Value → World → Prop) : Prop :=
 LenL a0 fun t1 =>
 Bin .gtr .i64 t1 (N 6) fun t2 =>
 IfV t2 (
 K (.slice none 0 0) w) (
 LenL a0 fun t3 =>
 LoopV [3, 11, 12, 13] [(.slice none 0 0), a0, t3, (N 0)] (fun k1 T1 w =>
 Bin .lss .i64 (T1 13) (T1 12) fun t4 =>
 IfV t4 (
 IxS (T1 11) (T1 13) 1 fun t5 =>
 Ld t5 w fun t6 w =>
 LenL t6 fun t7 =>
 Bin .gtr .i64 t7 (N 60) fun t8 =>
 IfV t8 (
 K (.slice none 0 0) w) (
 Bin .add .i64 (T1 13) (N 1) fun t9 =>
 CallF pg n_manifest_Make [t9, (N 40), (N 10), t6] w fun t10 w =>
 Ext t10 0 fun t11 =>
 Ext t10 1 fun t12 =>
 NeNil .iface t12 fun t13 =>
 IfV t13 (
 K (.slice none 0 0) w) (
 EqNil .ptr t11 fun t14 =>
 IfV t14 (
 K (.slice none 0 0) w) (
 V pg (Instr.buildSlice ty_s_p_manifest_Version 1 [(0, t11)].toArray) w fun t15 w =>
 V pg (Builtin.append_ #[ty_s_p_manifest_Version, ty_s_p_manifest_Version] ty_s_p_manifest_Version [(T1 3), t15].toArray) w fun t16 w =>
 Bin .add .i64 (T1 13) (N 1) fun t17 =>
 k1 [t16, (T1 11), (T1 12), t17] w)))) (
 K (T1 3) w)) w)
theorem ln_ladinglaw16_Pool {a0 : Value} {w : World} {K : Value → World → Prop} (h : sh_ladinglaw16_Pool a0 w K) : CallF pg n_ladinglaw16_Pool [a0] w K :=
  callF_eq (draw_sound follows) (lvOf [(122, [3, 11, 12, 13])]) (n := 40) (rs := [.tmp 2]) (c := bodyOf Tryz.f22) (S := sh_ladinglaw16_Pool a0 w K) Tryz.func22 (by kernel_rfl) (by kernel_rfl) (by kernel_rfl) (by kernel_rfl) (by kernel_rfl) (by kernel_rfl) h
/-! 53 lading/ladinglaw24.put -/
def sh_ladinglaw24_put (a0 : Value) (a1 : Value) (w : World) (K : Value → World → Prop) : Prop :=
 NilCk a1 fun t1 =>
 FA t1 6 fun t2 =>
 Ld t2 w fun t3 w =>
 LenL t3 fun t4 =>
 LoopV [0, 1, 12, 13, 14] [a0, a1, t3, t4, (N 0)] (fun k1 T1 w =>
 Bin .lss .i64 (T1 14) (T1 13) fun t5 =>
 IfV t5 (
 IxS (T1 12) (T1 14) 1 fun t6 =>
 Ld t6 w fun t7 w =>
 CallF pg n_manifest_Version_Tree [(T1 1)] w fun t8 w =>
 CallF pg n_merkle_Tree_Proof [t8, (T1 14)] w fun t9 w =>
 Ext t9 0 fun t10 =>
 Ext t9 1 fun t11 =>
 NeNil .iface t11 fun t12 =>
 IfV t12 (
 K (.bool false) w) (
 NilCk (T1 1) fun t13 =>
 FA t13 0 fun t14 =>
 FA t14 0 fun t15 =>
 Ld t15 w fun t16 w =>
 CallF pg n_hold_Hold_Put [(T1 0), t16, (T1 14), t7, t10] w fun t17 w =>
 NeNil .iface t17 fun t18 =>
 IfV t18 (
 K (.bool false) w) (
 Bin .add .i64 (T1 14) (N 1) fun t19 =>
 k1 [(T1 0), (T1 1), (T1 12), (T1 13), t19] w))) (
 K (.bool true) w)) w
theorem ln_ladinglaw24_put {a0 a1 : Value} {w : World} {K : Value → World → Prop} (h : sh_ladinglaw24_put a0 a1 w K) : CallF pg n_ladinglaw24_put [a0, a1] w K :=
  callF_eq (draw_sound follows) (lvOf [(26, [0, 1, 12, 13, 14])]) (n := 42) (rs := [.tmp 4]) (c := bodyOf Tryz.f53) (S := sh_ladinglaw24_put a0 a1 w K) Tryz.func53 (by kernel_rfl) (by kernel_rfl) (by kernel_rfl) (by kernel_rfl) (by kernel_rfl) (by kernel_rfl) h
/-! 23 lading/ladinglaw24.begun -/
def sh_ladinglaw24_begun (a0 : Value) (w : World) (K : Value → World → Prop) : Prop :=
 CallF pg n_disk_New [(N 60)] w fun t1 w =>
 CallF pg n_hold_Open [t1] w fun t2 w =>
 Ext t2 0 fun t3 =>
 Ext t2 1 fun t4 =>
 NeNil .iface t4 fun t5 =>
 IfV t5 (
 K (.tuple #[(.pointer none), (.pointer none), (.pointer none), (.bool false)]) w) (
 LenL a0 fun t6 =>
 Bin .gtr .i64 t6 (N 3) fun t7 =>
 IfV t7 (
 K (.tuple #[(.pointer none), (.pointer none), (.pointer none), (.bool false)]) w) (
 LenL a0 fun t8 =>
 LoopV [6, 7, 25, 26, 27] [t1, t3, a0, t8, (N 0)] (fun k1 T1 w =>
 Bin .lss .i64 (T1 27) (T1 26) fun t9 =>
 IfV t9 (
 IxS (T1 25) (T1 27) 1 fun t10 =>
 Ld t10 w fun t11 w =>
 NilCk t11 fun t12 =>
 FA t12 0 fun t13 =>
 LdN t13 6 w fun t14 w =>
 CallF pg n_hold_Hold_Add [(T1 7), t14] w fun t15 w =>
 NeNil .iface t15 fun t16 =>
 IfV t16 (
 K (.tuple #[(.pointer none), (.pointer none), (.pointer none), (.bool false)]) w) (
 CallF pg n_ladinglaw24_put [(T1 7), t11] w fun t17 w =>
 NotV t17 fun t18 =>
 IfV t18 (
 K (.tuple #[(.pointer none), (.pointer none), (.pointer none), (.bool false)]) w) (
 Bin .add .i64 (T1 27) (N 1) fun t19 =>
 k1 [(T1 6), (T1 7), (T1 25), (T1 26), t19] w))) (
 CallF pg n_serve_New [(T1 7)] w fun t20 w =>
 Ext t20 0 fun t21 =>
 Ext t20 1 fun t22 =>
 EqNil .iface t22 fun t23 =>
 IfV t23 (
 NeNil .ptr t21 fun t24 =>
 K (.tuple #[(T1 7), (T1 6), t21, t24]) w) (
 K (.tuple #[(T1 7), (T1 6), t21, (.bool false)]) w))) w))
theorem ln_ladinglaw24_begun {a0 : Value} {w : World} {K : Value → World → Prop} (h : sh_ladinglaw24_begun a0 w K) : CallF pg n_ladinglaw24_begun [a0] w K :=
  callF_eq (draw_sound follows) (lvOf [(250, [6, 7, 25, 26, 27])]) (n := 59) (rs := [.tmp 2, .tmp 3, .tmp 4, .tmp 5]) (c := bodyOf Tryz.f23) (S := sh_ladinglaw24_begun a0 w K) Tryz.func23 (by kernel_rfl) (by kernel_rfl) (by kernel_rfl) (by kernel_rfl) (by kernel_rfl) (by kernel_rfl) h
/-! 4 lading/ladinglaw24.awake -/
def sh_ladinglaw24_awake (w : World) (K : Value → World → Prop) : Prop :=
 V pg (Instr.build ty_api_Edge [(1, (N 1))].toArray) w fun t1 w =>
 V pg (Instr.buildSlice ty_s_api_Edge 1 [(0, t1)].toArray) w fun t2 w =>
 V pg (Instr.buildSlice ty_s_s_api_Edge 1 [(0, t2)].toArray) w fun t3 w =>
 CallF pg n_ladinglaw16_Pool [t3] w fun t4 w =>
 V pg (do eqGuard .eql ty_s_p_manifest_Version (.tmp 16) (.const (.slice none 0 0)) t4 (.slice none 0 0); binOp .eql ty_s_p_manifest_Version t4 (.slice none 0 0)) w fun t5 w =>
 IfV t5 (
 K (.bool false) w) (
 CallF pg n_ladinglaw24_begun [t4] w fun t6 w =>
 Ext t6 0 fun t7 =>
 Ext t6 1 fun t8 =>
 Ext t6 2 fun t9 =>
 Ext t6 3 fun t10 =>
 NotV t10 fun t11 =>
 IfV t11 (
 K (.bool false) w) (
 CallF pg n_hold_Hold_Activate [t7, (N 1)] w fun t12 w =>
 NeNil .iface t12 fun t13 =>
 IfV t13 (
 K (.bool false) w) (
 CallF pg n_serve_Serve_Renew [t9, (N 0)] w fun t14 w =>
 CallF pg n_serve_Serve_Open [t9, (N 12)] w fun t15 w =>
 Ext t15 0 fun t16 =>
 Ext t15 1 fun t17 =>
 Ext t15 2 fun t18 =>
 CallF pg n_serve_Serve_Open [t9, (N 13)] w fun t19 w =>
 Ext t19 0 fun t20 =>
 Ext t19 1 fun t21 =>
 Ext t19 2 fun t22 =>
 Bin .eql .i64 t16 (N 1) fun t23 =>
 IfV t23 (
 Bin .eql .i64 t17 (N 1) fun t24 =>
 IfV t24 (
 EqNil .iface t18 fun t25 =>
 IfV t25 (
 CallF pg n_api_Code [t22] w fun t26 w =>
 Bin .eql .i64 t26 (N 15) fun t27 =>
 K t27 w) (
 K (.bool false) w)) (
 K (.bool false) w)) (
 K (.bool false) w))))
theorem ln_ladinglaw24_awake {u : Value} {w : World} {K : Value → World → Prop} (h : sh_ladinglaw24_awake  w K) : CallF pg n_ladinglaw24_awake [] w K :=
  callF_eq (draw_sound follows) (lvOf []) (n := 61) (rs := [.tmp 0]) (c := bodyOf Tryz.f4) (S := sh_ladinglaw24_awake  w K) Tryz.func4 (by kernel_rfl) (by kernel_rfl) (by kernel_rfl) (by kernel_rfl) (by kernel_rfl) (by kernel_rfl) h
/-! 3 lading/ladinglaw24.ServeNone -/
def sh_ladinglaw24_ServeNone_j1 (x0 : Value) (x1 : Value) (x2 : Value) (x15 : Value) (x18 : Value) (x19 : Value) (w : World) (K : Value → World → Prop) : Prop :=
 CallF pg n_api_Code [x15] w fun t31 w =>
 Bin .neq .i64 t31 x19 fun t32 =>
 IfV t32 (
 K (.bool false) w) (
 CallF pg n_api_Code [x18] w fun t33 w =>
 Bin .neq .i64 t33 (N 16) fun t34 =>
 IfV t34 (
 K (.bool false) w) (
 CallF pg n_serve_Serve_Renew [(.pointer none), x2] w fun t35 w =>
 CallF pg n_serve_Serve_Open [(.pointer none), x2] w fun t36 w =>
 Ext t36 0 fun t37 =>
 Ext t36 1 fun t38 =>
 Ext t36 2 fun t39 =>
 CallF pg n_serve_Serve_Version [(.pointer none), x0] w fun t40 w =>
 Ext t40 0 fun t41 =>
 Ext t40 1 fun t42 =>
 CallF pg n_serve_Serve_Targets [(.pointer none), x0, x1, x2] w fun t43 w =>
 Ext t43 0 fun t44 =>
 Ext t43 1 fun t45 =>
 CallF pg n_serve_Serve_Degree [(.pointer none), x0, x1, x2] w fun t46 w =>
 Ext t46 0 fun t47 =>
 Ext t46 1 fun t48 =>
 CallF pg n_serve_Serve_Step [(.pointer none), x0, (N 1), x2] w fun t49 w =>
 Ext t49 0 fun t50 =>
 Ext t49 1 fun t51 =>
 CallF pg n_serve_Serve_Met [(.pointer none), x0, x2] w fun t52 w =>
 Ext t52 0 fun t53 =>
 Ext t52 1 fun t54 =>
 CallF pg n_api_Code [t39] w fun t55 w =>
 Bin .eql .i64 t55 (N 1) fun t56 =>
 IfV t56 (
 CallF pg n_api_Code [t42] w fun t57 w =>
 Bin .eql .i64 t57 (N 1) fun t58 =>
 IfV t58 (
 CallF pg n_api_Code [t45] w fun t59 w =>
 Bin .eql .i64 t59 (N 1) fun t60 =>
 IfV t60 (
 CallF pg n_api_Code [t48] w fun t61 w =>
 Bin .eql .i64 t61 (N 1) fun t62 =>
 IfV t62 (
 CallF pg n_api_Code [t51] w fun t63 w =>
 Bin .eql .i64 t63 (N 1) fun t64 =>
 IfV t64 (
 CallF pg n_api_Code [t54] w fun t65 w =>
 Bin .eql .i64 t65 (N 1) fun t66 =>
 IfV t66 (
 CallF pg n_serve_Serve_Close [(.pointer none), x0] w fun t67 w =>
 CallF pg n_api_Code [t67] w fun t68 w =>
 Bin .eql .i64 t68 (N 1) fun t69 =>
 IfV t69 (
 CallF pg n_serve_Serve_Search [(.pointer none), x0, (N 0), (N 1), (N 1), x2] w fun t70 w =>
 CallF pg n_api_Code [t70] w fun t71 w =>
 Bin .eql .i64 t71 (N 1) fun t72 =>
 IfV t72 (
 CallF pg n_serve_Serve_Until [(.pointer none)] w fun t73 w =>
 Bin .eql .i64 t73 (.int .i64 (-1)) fun t74 =>
 IfV t74 (
 CallF pg n_serve_Serve_Pins [(.pointer none)] w fun t75 w =>
 LenL t75 fun t76 =>
 CallF pg n_serve_Serve_Sessions [(.pointer none)] w fun t77 w =>
 LenL t77 fun t78 =>
 Bin .add .i64 t76 t78 fun t79 =>
 CallF pg n_serve_Serve_Idle [(.pointer none)] w fun t80 w =>
 LenL t80 fun t81 =>
 Bin .add .i64 t79 t81 fun t82 =>
 Bin .eql .i64 t82 (N 0) fun t83 =>
 K t83 w) (
 K (.bool false) w)) (
 K (.bool false) w)) (
 K (.bool false) w)) (
 K (.bool false) w)) (
 K (.bool false) w)) (
 K (.bool false) w)) (
 K (.bool false) w)) (
 K (.bool false) w)) (
 K (.bool false) w)))
def sh_ladinglaw24_ServeNone (a0 : Value) (a1 : Value) (a2 : Value) (w : World) (K : Value → World → Prop) : Prop :=
 CallF pg n_ladinglaw24_awake [] w fun t1 w =>
 NotV t1 fun t2 =>
 IfV t2 (
 K (.bool false) w) (
 Bin .gtr .i64 a2 (N 1073741824) fun t3 =>
 IfV t3 (
 K (.bool true) w) (
 CallF pg n_disk_New [(N 3)] w fun t4 w =>
 CallF pg n_hold_Open [t4] w fun t5 w =>
 Ext t5 0 fun t6 =>
 Ext t5 1 fun t7 =>
 NeNil .iface t7 fun t8 =>
 IfV t8 (
 K (.bool false) w) (
 CallF pg n_serve_New [t6] w fun t9 w =>
 Ext t9 0 fun t10 =>
 Ext t9 1 fun t11 =>
 CallF pg n_serve_New [(.pointer none)] w fun t12 w =>
 Ext t12 0 fun t13 =>
 Ext t12 1 fun t14 =>
 NeNil .iface t11 fun t15 =>
 IfV t15 (
 K (.bool false) w) (
 CallF pg n_api_Code [t14] w fun t16 w =>
 Bin .neq .i64 t16 (N 1) fun t17 =>
 IfV t17 (
 K (.bool false) w) (
 CallF pg n_serve_Serve_Until [t10] w fun t18 w =>
 Bin .neq .i64 t18 (.int .i64 (-1)) fun t19 =>
 IfV t19 (
 K (.bool false) w) (
 CallF pg n_serve_Serve_Open [t10, a2] w fun t20 w =>
 Ext t20 0 fun t21 =>
 Ext t20 1 fun t22 =>
 Ext t20 2 fun t23 =>
 CallF pg n_serve_Serve_Renew [t10, a2] w fun t24 w =>
 V pg (Builtin.min_ #[3, 3] 3 [a2, (N 1125899906842624)].toArray) w fun t25 w =>
 CallF pg n_serve_Serve_Open [t10, t25] w fun t26 w =>
 Ext t26 0 fun t27 =>
 Ext t26 1 fun t28 =>
 Ext t26 2 fun t29 =>
 Bin .leq .i64 a2 (.int .i64 (-1)) fun t30 =>
 IfV t30 (
 sh_ladinglaw24_ServeNone_j1 a0 a1 a2 t23 t29 (N 16) w K) (
 sh_ladinglaw24_ServeNone_j1 a0 a1 a2 t23 t29 (N 15) w K)))))))
theorem ln_ladinglaw24_ServeNone {a0 a1 a2 : Value} {w : World} {K : Value → World → Prop} (h : sh_ladinglaw24_ServeNone a0 a1 a2 w K) : CallF pg n_ladinglaw24_ServeNone [a0, a1, a2] w K :=
  callF_eq (draw_sound follows) (lvOf []) (n := 212) (rs := [.tmp 6]) (c := bodyOf Tryz.f3) (S := sh_ladinglaw24_ServeNone a0 a1 a2 w K) Tryz.func3 (by kernel_rfl) (by kernel_rfl) (by kernel_rfl) (by kernel_rfl) (by kernel_rfl) (by kernel_rfl) h
end Go.Proofs.Tryz

