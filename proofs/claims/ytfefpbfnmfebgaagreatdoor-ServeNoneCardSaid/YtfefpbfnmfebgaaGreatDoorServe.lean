/- Part of a proof (its text Serve): what is proved stands in the text Card. -/
import Derived.Test.YtfefpbfnmfebgaaGreatDoorHoldOpen
import Derived.Test.YtfefpbfnmfebgaaGreatDoorCode
import Derived.Test.YtfefpbfnmfebgaaGreatDoorFormsServe
set_option linter.all false
namespace Go.Proofs.Tryz
open Go Go.Lad
set_option autoImplicit false
set_option maxRecDepth 100000
set_option linter.unusedSimpArgs false
set_option linter.unusedVariables false

/-! who isn't there serves nobody -/
section
variable {w : World} {K : Value → World → Prop} {a b c d e : Value}
theorem c_serve_New_nil (hk : K (.tuple #[.pointer none, eErr 1]) w) : CallF pg n_serve_New [.pointer none] w K := by
  apply ln_serve_New; simp only [sh_serve_New, EqNil_p0, IfV_true]; exact hk
theorem c_serve_Until_nil (hk : K (.int .i64 (-1)) w) : CallF pg n_serve_Serve_Until [.pointer none] w K := by
  apply ln_serve_Serve_Until; simp only [sh_serve_Serve_Until, EqNil_p0, IfV_true]; exact hk
theorem c_serve_Open_nil (hk : K (.tuple #[N 0, N 0, eErr 1]) w) : CallF pg n_serve_Serve_Open [.pointer none, a] w K := by
  apply ln_serve_Serve_Open; simp only [sh_serve_Serve_Open, EqNil_p0, IfV_true]; exact hk
theorem c_serve_Renew_nil (hk : K (.tuple #[]) w) : CallF pg n_serve_Serve_Renew [.pointer none, a] w K := by
  apply ln_serve_Serve_Renew; simp only [sh_serve_Serve_Renew, NeNil_p0, IfV_false]; exact hk
theorem c_serve_of_nil (hk : K (.tuple #[.pointer none, eErr 1]) w) : CallF pg n_serve_Serve_of [.pointer none, a] w K := by
  apply ln_serve_Serve_of; simp only [sh_serve_Serve_of, EqNil_p0, IfV_true]; exact hk
theorem c_serve_asks_nil (hk : K (.tuple #[.pointer none, eErr 1]) w) : CallF pg n_serve_Serve_asks [.pointer none, a, b] w K := by
  apply ln_serve_Serve_asks; simp only [sh_serve_Serve_asks]
  refine c_serve_of_nil ?_
  simp only [Ext_0, Ext_1, NeNil_i1, IfV_true]; exact hk
theorem c_serve_searching_nil (hk : K (.tuple #[.pointer none, eErr 1]) w) : CallF pg n_serve_Serve_searching [.pointer none, a, b] w K := by
  apply ln_serve_Serve_searching; simp only [sh_serve_Serve_searching]
  refine c_serve_asks_nil ?_
  simp only [Ext_0, Ext_1, EqNil_i1, IfV_false]; exact hk
theorem c_serve_Close_nil (hk : K (eErr 1) w) : CallF pg n_serve_Serve_Close [.pointer none, a] w K := by
  apply ln_serve_Serve_Close; simp only [sh_serve_Serve_Close]
  refine c_serve_of_nil ?_
  simp only [Ext_0, Ext_1, NeNil_i1, IfV_true]; exact hk
theorem c_serve_Version_nil (hk : K (.tuple #[N 0, eErr 1]) w) : CallF pg n_serve_Serve_Version [.pointer none, a] w K := by
  apply ln_serve_Serve_Version; simp only [sh_serve_Serve_Version]
  refine c_serve_of_nil ?_
  simp only [Ext_0, Ext_1, NeNil_i1, IfV_true]; exact hk
theorem c_serve_Targets_nil (hk : K (.tuple #[.slice none 0 0, eErr 1]) w) : CallF pg n_serve_Serve_Targets [.pointer none, a, b, c] w K := by
  apply ln_serve_Serve_Targets; simp only [sh_serve_Serve_Targets]
  refine c_serve_asks_nil ?_
  simp only [Ext_0, Ext_1, NeNil_i1, IfV_true]; exact hk
theorem c_serve_Degree_nil (hk : K (.tuple #[N 0, eErr 1]) w) : CallF pg n_serve_Serve_Degree [.pointer none, a, b, c] w K := by
  apply ln_serve_Serve_Degree; simp only [sh_serve_Serve_Degree]
  refine c_serve_asks_nil ?_
  simp only [Ext_0, Ext_1, NeNil_i1, IfV_true]; exact hk
theorem c_serve_Search_nil (hk : K (eErr 1) w) : CallF pg n_serve_Serve_Search [.pointer none, a, b, c, d, e] w K := by
  apply ln_serve_Serve_Search; simp only [sh_serve_Serve_Search]
  refine c_serve_asks_nil ?_
  simp only [Ext_0, Ext_1, NeNil_i1, IfV_true]; exact hk
theorem c_serve_Step_nil (hk : K (.tuple #[.bool false, eErr 1]) w) : CallF pg n_serve_Serve_Step [.pointer none, a, b, c] w K := by
  apply ln_serve_Serve_Step; simp only [sh_serve_Serve_Step]
  refine c_serve_searching_nil ?_
  simp only [Ext_0, Ext_1, NeNil_i1, IfV_true]; exact hk
theorem c_serve_Met_nil (hk : K (.tuple #[.slice none 0 0, eErr 1]) w) : CallF pg n_serve_Serve_Met [.pointer none, a, b] w K := by
  apply ln_serve_Serve_Met; simp only [sh_serve_Serve_Met]
  refine c_serve_searching_nil ?_
  simp only [Ext_0, Ext_1, NeNil_i1, IfV_true]; exact hk
theorem c_serve_Pins_nil (hk : K (.slice none 0 0) w) : CallF pg n_serve_Serve_Pins [.pointer none] w K := by
  apply ln_serve_Serve_Pins; simp only [sh_serve_Serve_Pins, EqNil_p0, IfV_true]; exact hk
theorem c_serve_Sessions_nil (hk : K (.slice none 0 0) w) : CallF pg n_serve_Serve_Sessions [.pointer none] w K := by
  apply ln_serve_Serve_Sessions; simp only [sh_serve_Serve_Sessions, EqNil_p0, IfV_true]; exact hk
theorem c_serve_Idle_nil (hk : K (.slice none 0 0) w) : CallF pg n_serve_Serve_Idle [.pointer none] w K := by
  apply ln_serve_Serve_Idle; simp only [sh_serve_Serve_Idle, EqNil_p0, IfV_true]; exact hk
end
/-! who serves -/
structure ServeM where
  until_ : Int
  next : Nat
  all : List (Int × Nat)
theorem mtSess : MapT pg ty_m_int_p_serve_session 3 ty_p_serve_session (.pointer none) := ⟨by kernel_rfl, by kernel_rfl⟩
structure ServeAt (w : World) (col : Col) (ks h s : Nat) (x : ServeM) (mb : Nat) : Prop where
  a1 : Arr w s ty_serve_Serve [ptr h 0, I x.until_, N x.next, .map (some mb)]
  a2 : col s = (ks, 20, 0)
  a3 : MapIs w mb kI ptrV x.all
  a4 : col mb = (ks, 21, 0)
/-- a session, without a search -/
structure SessAt (w : World) (col : Col) (ks h id sb : Nat) (m : Man) (asked : Nat) : Prop where
  o : ∃ pb sv p1 p2, Arr w sb ty_serve_session [N m.version, ptr pb 0, .pointer none] ∧ col sb = (ks, 22, id) ∧
    Arr w pb ty_probe_Probe (manC m sv ++ [.func (.func n_hold_Hold_Source_c1) #[] #[ptr p1 0, ptr p2 0], N asked]) ∧ col pb = (ks, 23, id) ∧
    ShSl w sv m.shards ∧ (∀ q, InSl sv q → col q = (ks, 24, id)) ∧ Arr w p1 ty_p_hold_Hold [ptr h 0] ∧ col p1 = (ks, 25, id) ∧ Arr w p2 3 [N m.version] ∧ col p2 = (ks, 26, id)
theorem ServeAt.fr {S : Nat → Prop} {w w' : World} {col col' : Col} {ks h s mb : Nat} {x : ServeM} (q : ServeAt w col ks h s x mb) (f : FrS S w col w' col') (h0 : ¬ S ks) : ServeAt w' col' ks h s x mb :=
  ⟨(f.keep q.a1.lt (by rw [q.a2]; exact h0)).trans q.a1, by rw [f.ext s q.a1.lt, q.a2], q.a3.up (f.keep q.a3.lt (by rw [q.a4]; exact h0)), by rw [f.ext mb q.a3.lt, q.a4]⟩
theorem ServeAt.up {w w' : World} {col : Col} {ks h s mb : Nat} {x : ServeM} (q : ServeAt w col ks h s x mb) (u : Up w w') : ServeAt w' col ks h s x mb :=
  q.fr (S := fun _ => False) (FrS.up u _ col) (fun h => h)
theorem bdServe (h mb : Nat) (w : World) : (Instr.build ty_serve_Serve [(0, ptr h 0), (1, .int .i64 (-1)), (3, .map (some mb))].toArray).run pg w = .ok (.agg [ptr h 0, I (-1), N 0, Value.map (some mb)].toArray) w := by kernel_rfl
theorem c_serve_New {w : World} {col : Col} {h ks : Nat} {K : Value → World → Prop}
    (hk : ∀ w' col' s mb, Up w w' → (∀ b, b < sz w → col' b = col b) → sz w ≤ s → ServeAt w' col' ks h s ⟨-1, 0, []⟩ mb → K (.tuple #[ptr s 0, .nilIface]) w') : CallF pg n_serve_New [ptr h 0] w K := by
  apply ln_serve_New
  simp only [sh_serve_New, EqNil_p1, IfV_false]
  refine V_makeMap (kv := kI) (vv := ptrV) fun w1 u1 hm1 hz1 => ?_
  rw [V_eq (bdServe h (sz w) w1)]
  refine New_of (cs := [ptr h 0, I (-1), N 0, Value.map (some (sz w))]) fun w2 u2 hA hz2 => ?_
  have s1 := u1.size
  let c1 := paint col (sz w) (fun r => r = sz w) (ks, 21, 0)
  let c2 := paint c1 (sz w) (fun r => r = sz w1) (ks, 20, 0)
  have e1 : c2 (sz w1) = (ks, 20, 0) := paint_in s1 rfl
  have e2 : c2 (sz w) = (ks, 21, 0) := by
    show paint c1 _ _ _ _ = _
    rw [paint_out (S := fun r => r = sz w1) (show ¬ (sz w = sz w1) by omega)]
    exact paint_in (Nat.le_refl _) rfl
  have f : FrS (fun _ => False) w col w2 c2 := ((FrS.up (u1.trans u2) _ col).paint (Nat.le_refl _) _ _).paint (Nat.le_refl _) _ _
  exact hk w2 c2 (sz w1) (sz w) (u1.trans u2) f.ext s1 ⟨hA, e1, hm1.up (u2.keep _ hm1.lt), e2⟩
theorem c_serve_Until {w : World} {col : Col} {ks h s mb : Nat} {x : ServeM} (q : ServeAt w col ks h s x mb) {K : Value → World → Prop} (hk : K (I x.until_) w) : CallF pg n_serve_Serve_Until [ptr s 0] w K := by
  apply ln_serve_Serve_Until
  simp only [sh_serve_Serve_Until, EqNil_p1, IfV_false, NilCk_ptr, FA_ptr, Nat.reduceAdd, q.a1.ld (k := 1) rfl]
  exact hk
def renewS (x : ServeM) (now : Int) : ServeM := { x with until_ := max x.until_ (min now 72057594037927935 + 12) }
theorem ServeAt.st {w w' : World} {col : Col} {ks h s mb : Nat} {x x' : ServeM} (q : ServeAt w col ks h s x mb) (e : ∃ o, w' = putB w s o) (h1 : Arr w' s ty_serve_Serve [ptr h 0, I x'.until_, N x'.next, .map (some mb)]) (ha : x'.all = x.all) : ServeAt w' col ks h s x' mb ∧ FrS (fun i => i = ks) w col w' col := by
  obtain ⟨o, rfl⟩ := e
  have m : Mod w (putB w s o) (fun p => p = s) := Mod.put _ _ rfl
  have hms : mb ≠ s := fun e => by have := q.a4; rw [e, q.a2] at this; simp at this
  exact ⟨⟨h1, q.a2, by rw [ha]; exact q.a3.up (m.keep _ q.a3.lt hms), q.a4⟩, .of_mod m fun p hp => .inl (by rw [hp, q.a2])⟩
theorem c_serve_Renew {w : World} {col : Col} {ks h s mb : Nat} {x : ServeM} (q : ServeAt w col ks h s x mb) {now : Int} (hn : -9223372036854775808 ≤ now) {K : Value → World → Prop}
    (hk : ∀ w', FrS (fun i => i = ks) w col w' col → ServeAt w' col ks h s (renewS x now) mb → K (.tuple #[]) w') : CallF pg n_serve_Serve_Renew [ptr s 0, I now] w K := by
  apply ln_serve_Serve_Renew
  simp only [sh_serve_Serve_Renew, NeNil_p1, IfV_true, NilCk_ptr, FA_ptr, Nat.reduceAdd, q.a1.ld (k := 1) rfl]
  rw [show N 72057594037927935 = I 72057594037927935 from rfl, show N 12 = I 12 from rfl, V_eq min_I]
  rw [Bin_add, wrap64 (by omega)]
  rw [show Value.int .i64 (min now 72057594037927935 + 12) = I (min now 72057594037927935 + 12) from rfl, V_eq max_I]
  refine q.a1.st rfl (by simp) fun w2 e2 hA2 => ?_
  obtain ⟨q2, f2⟩ := q.st (x' := renewS x now) ⟨_, e2⟩ hA2 rfl
  exact hk w2 f2 q2
end Go.Proofs.Tryz

namespace Go.Proofs.Tryz
open Go Go.Lad
set_option autoImplicit false
set_option maxRecDepth 100000
set_option linter.unusedSimpArgs false
set_option linter.unusedVariables false

abbrev srcV (p1 p2 : Nat) : Value := .func (.func n_hold_Hold_Source_c1) #[] #[ptr p1 0, ptr p2 0]
theorem bdProbe (m : Man) (sv : Value) (a b : Nat) (hs : plainV sv = true) (w : World) : (Instr.build ty_probe_Probe [(0, manV m sv), (1, srcV a b)].toArray).run pg w = .ok (.agg (manC m sv ++ [srcV a b, N 0]).toArray) w := by
  cases sv <;> first | (cases hs; done) | kernel_rfl
theorem c_probe_New {w : World} {m : Man} (hm : ManB m) {sv : Value} (hs : ShSl w sv m.shards) (hl : m.shards.length ≤ 1048576) (hc : checkM m = .nilIface) {a b : Nat} {K : Value → World → Prop}
    (hk : ∀ w' sv' pb, Up w w' → sz w ≤ pb → Arr w' pb ty_probe_Probe (manC m sv' ++ [srcV a b, N 0]) → ShSl w' sv' m.shards → (∀ q, InSl sv' q → sz w ≤ q ∧ q ≠ pb) → K (.tuple #[ptr pb 0, .nilIface]) w') : CallF pg n_probe_New [manV m sv, srcV a b] w K := by
  apply ln_probe_New
  simp only [sh_probe_New]
  refine New_of (cs := manC m sv) fun w1 u1 hA hz1 => ?_
  refine hA.ldAll (m := 6) rfl ?_
  refine c_man_Check hm (hs.Up u1) fun w2 u2 => ?_
  rw [hc]
  have u02 := u1.trans u2
  simp only [NeNil_i0, IfV_false, srcV]
  have ef : ∀ K1 : Value → Prop, EqNil .func (.func (.func n_hold_Hold_Source_c1) #[] #[ptr a 0, ptr b 0]) K1 = K1 (.bool false) := fun _ => rfl
  rw [ef]
  simp only [IfV_false]
  refine (hA.up u2).ldAll (m := 6) rfl ?_
  refine c_man_Copy (hs.Up u02) hl fun w3 sv' u3 ho => ?_
  have := bdProbe m sv' a b ho.plain w3
  rw [V_eq this]
  refine New_of (cs := manC m sv' ++ [srcV a b, N 0]) fun w4 u4 hB hz4 => ?_
  have s2 := u02.size
  have s3 := u3.size
  exact hk w4 sv' (sz w3) ((u02.trans u3).trans u4) (by omega) hB (ho.sl.Up u4) fun q hq => ⟨by have := ho.inSl hq; omega, by have := ho.sl.lt hq; omega⟩
theorem bdSess (v pb : Nat) (w : World) : (Instr.build ty_serve_session [(0, N v), (1, ptr pb 0)].toArray).run pg w = .ok (.agg [N v, ptr pb 0, Value.pointer none].toArray) w := by kernel_rfl
theorem c_serve_Open {w : World} {col : Col} {ks h s mb : Nat} {x : ServeM} (qs : ServeAt w col ks h s x mb) {k d j hmb : Nat} {hx : HoldM} {bs : List (Int × Nat)} (q : HoldAtX w col k d j h hx hmb bs) (hks : k + 2 < ks) {now : Int}
    (hact : hx.active ≠ 0 → ∃ y, alook hx.active hx.all = some y ∧ checkM y.man = .nilIface ∧ y.man.shards.length ≤ 1048576 ∧ ManB y.man ∧ hx.active = y.man.version) (hnx : x.next < 1099511627776) {K : Value → World → Prop}
    (h15 : x.until_ < now → K (.tuple #[N 0, N 0, eErr 15]) w)
    (h16 : now ≤ x.until_ → hx.active = 0 → K (.tuple #[N 0, N 0, eErr 16]) w)
    (h7 : now ≤ x.until_ → hx.active ≠ 0 → 8 ≤ x.all.length → K (.tuple #[N 0, N 0, eErr 7]) w)
    (hok : now ≤ x.until_ → hx.active ≠ 0 → x.all.length < 8 → ∀ y, alook hx.active hx.all = some y → ∀ w' col' sb, FrS (fun i => i = ks) w col w' col' →
      ServeAt w' col' ks h s ⟨x.until_, x.next + 1, aset ((x.next + 1 : Nat) : Int) sb x.all⟩ mb → SessAt w' col' ks h (x.next + 1) sb y.man 0 → sz w ≤ sb →
      (∀ id b m a, id ≠ x.next + 1 → SessAt w col ks h id b m a → SessAt w' col' ks h id b m a) → K (.tuple #[N (x.next + 1), N y.man.version, .nilIface]) w') :
    CallF pg n_serve_Serve_Open [ptr s 0, I now] w K := by
  apply ln_serve_Serve_Open
  simp only [sh_serve_Serve_Open, EqNil_p1, IfV_false, NilCk_ptr, FA_ptr, Nat.reduceAdd, Nat.zero_add, qs.a1.ld (k := 1) rfl, Bin_gtr]
  by_cases hlt : x.until_ < now
  · simp only [hlt, gt_iff_lt, decide_true, IfV_true]
    exact h15 hlt
  have hle : now ≤ x.until_ := by omega
  simp only [hlt, gt_iff_lt, decide_false, IfV_false, qs.a1.ld (k := 0) rfl]
  refine c_hold_Active q.at ?_
  have ec : ∀ K1 : Value → Prop, Bin .eql .i64 (I hx.active) (N 0) K1 = K1 (.bool (decide (hx.active = 0))) := fun _ => by rw [show N 0 = I 0 from rfl]; simp only [I, Bin_eql]
  rw [ec]
  by_cases h0 : hx.active = 0
  · simp only [h0, decide_true, IfV_true]
    exact h16 hle h0
  simp only [h0, decide_false, IfV_false, qs.a1.ld (k := 3) rfl, V_maplen mtSess.u qs.a3, Bin_geq_N, B]
  by_cases h8 : 8 ≤ x.all.length
  · simp only [h8, decide_true, IfV_true]
    exact h7 hle h0 h8
  obtain ⟨y, hy, hcm, hsl, hmb, hav⟩ := hact h0
  simp only [h8, decide_false, IfV_false, qs.a1.ld (k := 0) rfl]
  refine c_hold_Active q.at ?_
  simp only [qs.a1.ld (k := 0) rfl]
  refine c_hold_Manifest q.at (fun hn => by rw [hy] at hn; cases hn) (fun y2 hy2 hl2 w1 sv u1 ho => ?_) (fun y2 hy2 => by rw [hy] at hy2; cases hy2; exact hsl)
  rw [hy] at hy2; cases hy2
  simp only [Ext_0, Ext_1]
  refine New_of (cs := [N 0, N 0, N 0, .slice none 0 0, N 0, Str []]) fun w2 u2 hA hz2 => ?_
  refine hA.stAll (m := 6) (l := manC y.man sv) rfl rfl (by simp only [manC, List.all_cons, List.all_nil, ho.plain, Bool.and_true]; rfl) fun w3 e3 hA3 => ?_
  have u13 : Up w1 w3 := up_put u2 e3 (Nat.le_refl _)
  have u03 := u1.trans u13
  have u03d : Up w w3.drew := u03.drew
  have qsd := qs.up u03d
  have hA3d : Arr w3.drew (sz w1) ty_api_Manifest (manC y.man sv) := hA3
  simp only [NeNil_i0, IfV_false, Drew]
  refine hA3d.ldAll (m := 6) rfl ⟨rfl, ?_⟩
  simp only [NilCk_ptr, FA_ptr, Nat.zero_add, qsd.a1.ld (k := 0) rfl, true_and]
  rw [hav, show I (y.man.version : Int) = N y.man.version from rfl]
  refine c_hold_Source (v1 := ptr h 0) (v2 := N y.man.version) rfl rfl fun w4 p1 p2 u4 hp1 hp2 hP1 hP2 => ?_
  have u04 := u03d.trans u4
  refine ⟨⟨(hA3d.up u4).ldAll (m := 6) rfl ⟨rfl, rfl⟩, trivial⟩, ?_⟩
  have hs4 : ShSl w4 sv y.man.shards := (ho.sl.Up (u13.drew)).Up u4
  refine c_probe_New hmb hs4 hsl hcm fun w5 sv' pb u5 hpb hP hS hSq => ?_
  have u05 := u04.trans u5
  have qs5 := qs.up u05
  simp only [true_and, Ext_0, Ext_1, NeNil_i0, IfV_false, NilCk_ptr, FA_ptr, Nat.reduceAdd, qs5.a1.ld (k := 2) rfl]
  rw [Bin_add_N _ _ (by omega)]
  refine qs5.a1.st rfl (by simp) fun w6 e6 hA6 => ?_
  obtain ⟨qs6, f6⟩ := qs5.st (x' := { x with next := x.next + 1 }) ⟨_, e6⟩ hA6 rfl
  have qs6d := qs6.up (Up.refl w6).drew
  simp only [Drew, NilCk_ptr, FA_ptr, Nat.reduceAdd, qs6d.a1.ld (k := 3) rfl, qs6d.a1.ld (k := 2) rfl, true_and]
  rw [V_eq (bdSess y.man.version pb w6.drew)]
  refine ⟨rfl, ?_⟩
  refine New_of (cs := [N y.man.version, ptr pb 0, .pointer none]) fun w7 u7 hB hz7 => ?_
  have ud6 : Up w6 w6.drew := (Up.refl w6).drew
  have qs7 := qs6d.up u7
  refine ⟨⟨by rw [qs7.a1.ld (k := 2) rfl]; exact ⟨rfl, rfl⟩, by rw [qs7.a1.ld (k := 3) rfl]; exact ⟨rfl, rfl⟩, trivial⟩, ?_⟩
  -- colours of the new session
  have su : sz w ≤ sz w4 := u04.size
  have sw3 : sz w ≤ sz w3.drew := u03d.size
  have s5 := u5.size
  have s56 : sz w6 = sz w5 := by rw [e6]; simp
  have s6d : sz w6.drew = sz w6 := rfl
  have l1 := hP1.lt
  have l2 := hP2.lt
  have lpb := hP.lt
  have lin : ∀ r, InSl sv' r → r < sz w5 := fun r hr => hS.lt hr
  let id := x.next + 1
  have m6 : Mod w5 w6 (fun p => p = s) := by rw [e6]; exact Mod.put _ _ rfl
  have sls : s < sz w := qs.a1.lt
  have hP12 : p1 ≠ p2 := fun e => by
    rw [e] at hP1
    have e1 : some (Obj.cells [ptr h 0].toArray ty_p_hold_Hold (0, 0)) = some (Obj.cells [N y.man.version].toArray 3 (0, 0)) := (show gb w4 p2 = _ from hP1).symm.trans hP2
    injection e1 with e1
    injection e1 with e1 e2 e3
    exact absurd e2 (by decide)
  let c1 := paint col (sz w) (fun r => r = sz w6.drew) (ks, 22, id)
  let c2 := paint c1 (sz w) (fun r => r = pb) (ks, 23, id)
  let c3 := paint c2 (sz w) (InSl sv') (ks, 24, id)
  let c4 := paint c3 (sz w) (fun r => r = p1) (ks, 25, id)
  let c5 := paint c4 (sz w) (fun r => r = p2) (ks, 26, id)
  have hq4 : ∀ r, InSl sv' r → sz w4 ≤ r ∧ r ≠ pb := hSq
  have e5 : c5 p2 = (ks, 26, id) := paint_in (by omega) rfl
  have e4 : c5 p1 = (ks, 25, id) := by
    show paint c4 _ _ _ _ = _
    rw [paint_out (S := fun r => r = p2) hP12]
    exact paint_in (by omega) rfl
  have e3c : ∀ r, InSl sv' r → c5 r = (ks, 24, id) := fun r hi => by
    have := hq4 r hi
    show paint c4 _ _ _ _ = _
    rw [paint_out (S := fun r => r = p2) (show ¬ (r = p2) by omega)]
    show paint c3 _ _ _ _ = _
    rw [paint_out (S := fun r => r = p1) (show ¬ (r = p1) by omega)]
    exact paint_in (by omega) hi
  have e2c : c5 pb = (ks, 23, id) := by
    show paint c4 _ _ _ _ = _
    rw [paint_out (S := fun r => r = p2) (show ¬ (pb = p2) by omega)]
    show paint c3 _ _ _ _ = _
    rw [paint_out (S := fun r => r = p1) (show ¬ (pb = p1) by omega)]
    show paint c2 _ _ _ _ = _
    rw [paint_out (S := InSl sv') (fun hi => (hq4 _ hi).2 rfl)]
    exact paint_in (by omega) rfl
  have e1c : c5 (sz w6.drew) = (ks, 22, id) := by
    show paint c4 _ _ _ _ = _
    rw [paint_out (S := fun r => r = p2) (show ¬ (sz w6.drew = p2) by omega)]
    show paint c3 _ _ _ _ = _
    rw [paint_out (S := fun r => r = p1) (show ¬ (sz w6.drew = p1) by omega)]
    show paint c2 _ _ _ _ = _
    rw [paint_out (S := InSl sv') (fun hi => by have := lin _ hi; omega)]
    show paint c1 _ _ _ _ = _
    rw [paint_out (S := fun r => r = pb) (show ¬ (sz w6.drew = pb) by omega)]
    exact paint_in (by omega) rfl
  have ext5 : ∀ b, b < sz w → c5 b = col b := fun b hb => by
    show paint c4 _ _ _ _ = _
    rw [paint_old hb]
    show paint c3 _ _ _ _ = _
    rw [paint_old hb]
    show paint c2 _ _ _ _ = _
    rw [paint_old hb]
    show paint c1 _ _ _ _ = _
    rw [paint_old hb]
    exact paint_old hb
  generalize hcc : c5 = cc at e5 e4 e3c e2c e1c ext5
  clear hcc
  clear_value c5 c4 c3 c2 c1
  have m07 : Mod w w7 (fun p => p = s) := ((u05.mod _).trans m6).trans ((ud6.trans u7).mod _)
  have f07 : FrS (fun i => i = ks) w col w7 cc := ⟨⟨m07.os, m07.tape, m07.output, m07.size, fun b hb hf => m07.keep b hb fun e => hf (by rw [e, qs.a2])⟩, ext5⟩
  have lmb := qs.a3.lt
  have qs7c : ServeAt w7 cc ks h s { x with next := x.next + 1 } mb := ⟨qs7.a1, by rw [ext5 s sls, qs.a2], qs7.a3, by rw [ext5 mb lmb, qs.a4]⟩
  rw [kI_N, show ptr (sz w6.drew) 0 = ptrV (sz w6.drew) from rfl]
  refine U_update mtSess keyT_I qs7c.a3 ((x.next + 1 : Nat) : Int) (sz w6.drew) fun w8 ⟨o8, e8⟩ hm8 => ?_
  have m8 : Mod w7 w8 (fun p => p = mb) := by rw [e8]; exact Mod.put _ _ rfl
  have hms : s ≠ mb := fun e => by have := qs.a4; rw [← e, qs.a2] at this; simp at this
  have qs8 : ServeAt w8 cc ks h s ⟨x.until_, x.next + 1, aset ((x.next + 1 : Nat) : Int) (sz w6.drew) x.all⟩ mb := ⟨(m8.keep _ qs7c.a1.lt hms).trans qs7c.a1, qs7c.a2, hm8, qs7c.a4⟩
  simp only [true_and, NilCk_ptr, FA_ptr, Nat.reduceAdd, qs8.a1.ld (k := 2) rfl]
  have f8 : FrS (fun i => i = ks) w7 cc w8 cc := .of_mod m8 fun p hp => .inl (by rw [hp, qs7c.a4])
  have f08 := f07.trans f8
  -- new blocks are neither s nor mb
  have k5 : ∀ r, sz w ≤ r → r < sz w5 → gb w8 r = gb w5 r := fun r h1 h2 => by
    rw [m8.keep r (by have := u7.size; omega) (by omega), u7.keep r (by omega), ud6.keep r (by omega), m6.keep r h2 (by omega)]
  refine hok hle h0 (by omega) y hy w8 cc (sz w6.drew) f08 qs8 ⟨pb, sv', p1, p2, ?_, e1c, ?_, e2c, ?_, e3c, ?_, e4, ?_, e5⟩ (by omega) fun id2 b m a hid hse => ?_
  · exact (m8.keep _ (by have := hB.lt; omega) (by omega)).trans hB
  · exact (k5 pb (by omega) lpb).trans hP
  · exact hS.up fun r hr hi => k5 r (by have := hq4 r hi; omega) hr
  · exact (k5 p1 (by omega) (by omega)).trans (hP1.up u5)
  · exact (k5 p2 (by omega) (by omega)).trans (hP2.up u5)
  · obtain ⟨pb2, sv2, q1, q2, a1, a2, a3, a4, a5, a6, a7, a8, a9, a10⟩ := hse
    have g : ∀ {r c i : Nat}, r < sz w → 22 ≤ c → col r = (ks, c, i) → gb w8 r = gb w r ∧ cc r = (ks, c, i) := fun {r c i} hr hc he => by
      refine ⟨?_, by rw [ext5 _ hr, he]⟩
      have n1 : ¬ (r = s) := fun e => by rw [e, qs.a2] at he; simp at he; omega
      have n2 : ¬ (r = mb) := fun e => by rw [e, qs.a4] at he; simp at he; omega
      rw [m8.keep _ (by have := m07.size; omega) n2, m07.keep _ hr n1]
    exact ⟨pb2, sv2, q1, q2, (g a1.lt (by omega) a2).1.trans a1, (g a1.lt (by omega) a2).2, (g a3.lt (by omega) a4).1.trans a3, (g a3.lt (by omega) a4).2, a5.up fun r hr hi => (g hr (by omega) (a6 r hi)).1, fun r hi => (g (a5.lt hi) (by omega) (a6 r hi)).2,
      (g a7.lt (by omega) a8).1.trans a7, (g a7.lt (by omega) a8).2, (g a9.lt (by omega) a10).1.trans a9, (g a9.lt (by omega) a10).2⟩
end Go.Proofs.Tryz

