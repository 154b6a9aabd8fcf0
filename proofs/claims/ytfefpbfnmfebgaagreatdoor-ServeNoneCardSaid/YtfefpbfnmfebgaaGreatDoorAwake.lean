/- Part of a proof (its text Awake): what is proved stands in the text Card. -/
import Derived.Test.YtfefpbfnmfebgaaGreatDoorLaw
set_option linter.all false
namespace Go.Proofs.Tryz
open Go Go.Lad
set_option autoImplicit false
set_option maxRecDepth 100000
set_option linter.unusedSimpArgs false
set_option linter.unusedVariables false

/-! a disk that doesn't burn -/
structure Calm (x : DiskM) : Prop where
  left : x.left = -1
  down : x.down = false
theorem Calm.burn {x : DiskM} (h : Calm x) : burnD x = (false, x) := by
  unfold burnD
  rw [if_neg (by rw [h.left]; decide), if_neg (by rw [h.left]; decide)]
theorem Calm.does {x : DiskM} (h : Calm x) (u : Wr) : (doesD x u).1 = false ∧ Calm (doesD x u).2 := by
  unfold doesD
  rw [h.burn]
  simp only [Bool.false_eq_true, if_false]
  split
  · refine ⟨rfl, ?_⟩
    unfold putD
    split <;> exact ⟨h.left, h.down⟩
  · exact ⟨rfl, h⟩
theorem Calm.append {x : DiskM} (h : Calm x) (s : List UInt8) : (appendD x s).1 = false ∧ Calm (appendD x s).2 := by
  unfold appendD
  rw [h.down]
  exact h.does _
theorem Calm.putSlot {x : DiskM} (h : Calm x) {n : Nat} {s : List UInt8} (hn : n < x.slots.length) (hs : s.length ≤ 64) : (putSlotD x n s).1 = none ∧ Calm (putSlotD x n s).2 := by
  have e : slotE x n = none := by
    unfold slotE
    rw [h.down]
    simp only [Bool.false_eq_true, if_false]
    rw [if_neg (by omega)]
  unfold putSlotD
  rw [e]
  simp only
  rw [if_neg (by omega)]
  obtain ⟨h1, h2⟩ := h.does ⟨n, s⟩
  rw [h1]
  exact ⟨rfl, h2⟩
theorem Calm.sync {x : DiskM} (h : Calm x) : (syncD x).1 = false ∧ Calm (syncD x).2 := by
  unfold syncD
  rw [h.down, h.burn]
  exact ⟨rfl, h.left, h.down⟩
theorem Calm.put {x : JournalM} (h : Calm x.disk) (l : List (List UInt8)) : (putJ x l).1 = false ∧ Calm (putJ x l).2.disk := by
  obtain ⟨h1, h2⟩ := h.append (sealsL l)
  unfold putJ
  rw [h1]
  exact ⟨rfl, h2⟩
theorem Calm.write {x : JournalM} (h : Calm x.disk) (l : List (List UInt8)) : (writeJ x l).1 = false ∧ Calm (writeJ x l).2.disk := by
  obtain ⟨h1, h2⟩ := Calm.put h l
  obtain ⟨h3, h4⟩ := h2.sync
  unfold writeJ
  rw [h1]
  exact ⟨h3, h4⟩
/-! what is done on such a disk -/
theorem addsH_calm {x : HoldM} {m : Man} (h : Calm x.j.disk) (hp : placeM m = none) (hn : alook (m.version : Int) x.all = none) (ha : ¬ (m.version : Int) ≤ x.active) (h3 : x.all.length < 3) :
    (addsH x m).1 = .nilIface ∧ Calm (addsH x m).2.j.disk ∧ (addsH x m).2.all = aset (m.version : Int) ⟨m, [], []⟩ x.all ∧ (addsH x m).2.active = x.active ∧ (addsH x m).2.prepared = x.prepared ∧ (addsH x m).2.j.disk.slots.length = x.j.disk.slots.length := by
  obtain ⟨h1, h2⟩ := Calm.put h [77 :: manB m]
  have hs := (putJ_on x.j (77 :: manB m)).disk.slots
  unfold addsH
  rw [hp]
  simp only
  rw [hn]
  simp only
  rw [if_neg ha, if_neg (by omega), h1]
  exact ⟨rfl, h2, rfl, rfl, rfl, hs⟩
theorem putH_calm {x : HoldM} {v i n : Nat} {s : List UInt8} {proof : List (List UInt8)} {y : HeldM} (h : Calm x.j.disk) (hy : alook (v : Int) x.all = some y) (hu : upR i y.man.blocks (leafL s) proof = .ok y.man.root) (hb : alook (i : Int) y.blocks = none)
    (hs : slotF x y i = some n) (hn : n < x.j.disk.slots.length) (hl : s.length ≤ 64) :
    (putH x v i s proof).1 = .nilIface ∧ Calm (putH x v i s proof).2.j.disk ∧ (putH x v i s proof).2.all = aset (v : Int) { y with blocks := aset (i : Int) (n, leafL s) y.blocks, old := adel (i : Int) y.old } x.all ∧ (putH x v i s proof).2.active = x.active ∧ (putH x v i s proof).2.prepared = x.prepared ∧ (putH x v i s proof).2.j.disk.slots.length = x.j.disk.slots.length := by
  obtain ⟨h1, h2⟩ := h.putSlot hn hl
  have s1 := (putSlotD_on x.j.disk n s).slots
  obtain ⟨h3, h4⟩ := Calm.put (x := { x.j with disk := (putSlotD x.j.disk n s).2 }) h2 [blockRecL v i (n, leafL s)]
  have s2 := (putJ_on { x.j with disk := (putSlotD x.j.disk n s).2 } (blockRecL v i (n, leafL s))).disk.slots
  unfold putH
  rw [hy]
  simp only
  rw [hu]
  simp only
  rw [if_pos trivial, hb]
  simp only
  rw [hs]
  simp only
  rw [h1]
  simp only
  rw [h3]
  exact ⟨rfl, h4, rfl, rfl, rfl, s2.trans s1⟩
theorem nextA_calm {x : HoldM} {v : Nat} {y : HeldM} (h : Calm x.j.disk) (hy : alook (v : Int) x.all = some y) (ha : ¬ (v : Int) ≤ x.active) (hb : ¬ y.blocks.length < y.man.blocks) :
    (nextH x 65 v).1 = .nilIface ∧ Calm (nextH x 65 v).2.j.disk ∧ (nextH x 65 v).2.all = x.all ∧ (nextH x 65 v).2.active = v := by
  obtain ⟨h1, h2⟩ := h.sync
  obtain ⟨h3, h4⟩ := Calm.write (x := { x.j with disk := (syncD x.j.disk).2 }) h2 [65 :: numsB [v]]
  unfold nextH
  rw [hy]
  simp only
  rw [if_neg ha, if_neg hb, h1]
  simp only [Bool.false_eq_true, if_false]
  unfold noteH
  simp only
  rw [h3]
  simp only [Bool.false_eq_true, if_false]
  refine ⟨rfl, ?_⟩
  unfold turnH
  rw [if_neg (by decide), if_pos rfl]
  unfold turn1
  simp only
  split
  · unfold turn2
    simp only [hy]
    exact ⟨h4, trivial, trivial⟩
  · unfold turn2
    simp only [hy]
    exact ⟨h4, trivial, trivial⟩
end Go.Proofs.Tryz

namespace Go.Proofs.Tryz
open Go Go.Lad
set_option autoImplicit false
set_option maxRecDepth 100000
set_option linter.unusedSimpArgs false
set_option linter.unusedVariables false

/-! the document's example: one edge, from 0 to 1 -/
def L0 : List (List (Int × Int)) := [[(0, 1)]]
theorem norm0 : normE [((0 : Int), (1 : Int))] = [(0, 1)] := by
  simp [normE, normI, sortE, List.mergeSort_singleton, compactL, compactFrom, natE]
def B0 : List UInt8 := [0, 10, 0, 9, 1, 2, 0, 0, 0, 0, 0, 0, 0, 0, 0, 10, 10, 0, 8, 0, 0, 0, 0, 0, 0, 0, 0, 0, 0, 20, 10, 0, 8, 0, 0, 0, 0, 0, 0, 0, 0, 0, 0, 30, 10, 0, 8, 0, 0, 0, 0, 0, 0, 0, 0, 0, 0]
def S0 : List (List UInt8) := [[0, 10, 0, 9, 1, 2, 0, 0, 0, 0, 0, 0, 0, 0, 0], [10, 10, 0, 8, 0, 0, 0, 0, 0, 0, 0, 0, 0, 0], [20, 10, 0, 8, 0, 0, 0, 0, 0, 0, 0, 0, 0, 0], [30, 10, 0, 8, 0, 0, 0, 0, 0, 0, 0, 0, 0, 0]]
theorem split0 : splitL [(0, 1)] 40 10 (shardsN 40 10) = S0 := by decide +kernel
theorem graph0 : graphB [(0, 1)] 40 10 = B0 := by unfold graphB; rw [split0]; decide
theorem cut0 : cutL B0 = [B0] := by decide
theorem trips0 : Trips [(0, 1)] 40 10 := by
  unfold Trips
  rw [split0]
  intro s hs
  simp only [S0, List.mem_cons, List.not_mem_nil, or_false] at hs
  rcases hs with rfl | rfl | rfl | rfl <;> exact ⟨_, _, _, rfl⟩
theorem first0 : S0.map (fun s => (firstOf s 40, s.length)) = [(0, 15), (10, 14), (20, 14), (30, 14)] := by decide
def leaf0 : List UInt8 := leafL B0
theorem leaf0_len : leaf0.length = 32 := shaL_length _
theorem leaf0_eq : leafL B0 = leaf0 := rfl
attribute [irreducible] leaf0
def man0 : Man := ⟨1, 40, 1, [(0, 15), (10, 14), (20, 14), (30, 14)], 1, leaf0⟩
def ver0 : Ver := ⟨man0, [B0]⟩
theorem make0 : makeV 1 40 10 [(0, 1)] = ver0 := by
  unfold makeV
  simp only [graph0, cut0, split0, first0, List.map_cons, List.map_nil, leaf0_eq, List.length_cons, List.length_nil]
  rw [show rootOf [leaf0] = leaf0 from by unfold rootOf; simp [digest_one]]
  rfl
theorem place0 : placeM man0 = none := by
  unfold placeM
  rw [show headsM man0 = none from by simp [headsM, man0]]
  simp only
  rw [show tablesM man0 = none from by simp [tablesM, man0, tabM, firstOk]]
  simp only
  rw [if_neg (by simp [man0, totalM, countN]), if_neg (by simp [man0, leaf0_len])]
theorem pool0 : PoolOk L0 := ⟨by decide, fun l hl => by simp [L0] at hl; subst hl; exact ⟨by decide, by decide⟩⟩
theorem ver0_ok : VerOk ver0 := by
  refine ⟨place0, ⟨?_, ?_⟩, rfl, ?_, ?_⟩
  · intro e he
    simp only [ver0, man0, List.mem_cons, List.not_mem_nil, or_false] at he
    rcases he with rfl | rfl | rfl | rfl <;> decide
  · decide
  · intro s hs
    simp only [ver0, List.mem_cons, List.not_mem_nil, or_false] at hs
    subst hs
    decide
  · have h1 := numsB_le (manNums ver0.man) (by
      intro n hn
      simp only [ver0, man0, manNums] at hn
      revert n
      decide)
    have h2 : (textL [leaf0]).length ≤ 1 * (32 + 8) := textL_length [leaf0] 32 (by simp [leaf0_len]) (by omega)
    simp only [manB, List.length_append]
    have h3 : (manNums ver0.man).length ≤ 100 := by decide
    have h4 : ver0.man.root = leaf0 := rfl
    rw [h4]
    omega
theorem upR0 : upR 0 1 leaf0 [] = .ok leaf0 := by
  unfold upR
  rw [if_neg (by omega), if_neg (by decide), if_neg (by simp [leaf0_len]), if_pos (by simp)]
  simp [sidesL, upL]
theorem starts0 : (startsH [ver0] begin0).1 = true ∧ (nextH (startsH [ver0] begin0).2 65 1).1 = .nilIface ∧ (nextH (startsH [ver0] begin0).2 65 1).2.active = 1 ∧ ∃ y, (nextH (startsH [ver0] begin0).2 65 1).2.all = [(1, y)] ∧ y.man = man0 := by
  have c0 : Calm begin0.j.disk := ⟨rfl, rfl⟩
  obtain ⟨a1, a2, a3, a4, a5, a6⟩ := addsH_calm (x := begin0) (m := man0) c0 place0 rfl (by decide) (by decide)
  have hv : ver0.man = man0 := rfl
  have hl : ver0.list = [B0] := rfl
  have a3' : (addsH begin0 man0).2.all = [(1, ⟨man0, [], []⟩)] := a3
  have a6' : (addsH begin0 man0).2.j.disk.slots.length = 60 := a6
  have p0 : proofL [leaf0] 0 = [] := by unfold proofL; simp [proofF]
  obtain ⟨b1, b2, b3, b4, b5, b6⟩ := putH_calm (x := (addsH begin0 man0).2) (v := 1) (i := 0) (n := 0) (s := B0) (proof := []) (y := ⟨man0, [], []⟩) a2 (by rw [a3']; rfl) (by rw [leaf0_eq]; exact upR0) rfl (by
    unfold slotF
    simp only [alook]
    rw [a3', a6', List.find?_range_eq_some]
    refine ⟨?_, by decide, fun j hj => by omega⟩
    simp [usedS, slotsH, slotsOf]) (by rw [a6']; decide) (by decide)
  have e1 : putsH ver0 ver0.list.length 0 (addsH begin0 ver0.man).2 = (true, (putH (addsH begin0 man0).2 1 0 B0 []).2) := by
    rw [hv, hl]
    show putsH ver0 1 0 (addsH begin0 man0).2 = _
    unfold putsH
    have : proofL (ver0.list.map leafL) 0 = [] := by rw [hl, List.map_cons, List.map_nil, leaf0_eq]; exact p0
    rw [this, show ver0.man.version = 1 from rfl, show ver0.list.getD 0 [] = B0 from rfl, b1]
    rfl
  have e2 : startsH [ver0] begin0 = (true, (putH (addsH begin0 man0).2 1 0 B0 []).2) := by
    rw [startsH_cons, hv, a1]
    simp only [isErr, Bool.false_eq_true, if_false]
    rw [← hv, e1]
    rfl
  rw [e2]
  have b3' : (putH (addsH begin0 man0).2 1 0 B0 []).2.all = [(1, ⟨man0, [(0, (0, leaf0))], []⟩)] := by
    rw [b3, a3', leaf0_eq]; rfl
  have b4' : (putH (addsH begin0 man0).2 1 0 B0 []).2.active = 0 := by rw [b4, a4]; rfl
  obtain ⟨n1, n2, n3, n4⟩ := nextA_calm (x := (putH (addsH begin0 man0).2 1 0 B0 []).2) (v := 1) (y := ⟨man0, [(0, (0, leaf0))], []⟩) b2 (by rw [b3']; rfl) (by rw [b4']; decide) (by simp [man0])
  exact ⟨rfl, n1, n4, _, n3.trans b3', rfl⟩
end Go.Proofs.Tryz

namespace Go.Proofs.Tryz
open Go Go.Lad
set_option autoImplicit false
set_option maxRecDepth 100000
set_option linter.unusedSimpArgs false
set_option linter.unusedVariables false

theorem slT_ssEdge : SlT pg ty_s_s_api_Edge ty_s_api_Edge 1 24 [.slice none 0 0] := ⟨by kernel_rfl, by kernel_rfl, rfl, by decide⟩
theorem eqSl_some (g n cap : Nat) (w : World) : (do eqGuard .eql ty_s_p_manifest_Version (.tmp 16) (.const (.slice none 0 0)) (.slice (some ⟨g, 0, none⟩) n cap) (.slice none 0 0); binOp .eql ty_s_p_manifest_Version (.slice (some ⟨g, 0, none⟩) n cap) (.slice none 0 0)).run pg w = .ok (.bool false) w := by kernel_rfl
theorem own_some {w : World} {base n m : Nat} {e : TypeId} {v : Value} {xs : List Value} (h : Own w base e m v n xs) (hx : xs ≠ []) : ∃ g cap, v = .slice (some ⟨g, 0, none⟩) n cap := by
  obtain ⟨_, h⟩ := h
  rcases h with ⟨e1, e2⟩ | ⟨g, cap, cur, rfl, _⟩
  · exfalso
    first | exact hx e2 | exact hx (by simpa using e2) | (subst e2; simp_all)
  · exact ⟨g, cap, rfl⟩
theorem c_awake {w : World} (hg : ErrG w) {K : Value → World → Prop} (hk : ∀ w', Up w w' → K (.bool true) w') : CallF pg n_ladinglaw24_awake [] w K := by
  apply ln_ladinglaw24_awake (u := undef)
  have eb : ∀ w, (Instr.build ty_api_Edge [(1, N 1)].toArray).run pg w = .ok (.agg [N 0, N 1].toArray) w := by intro w; kernel_rfl
  simp only [sh_ladinglaw24_awake]
  rw [V_eq (eb w)]
  refine V_build1 slT_Edge (cs := [N 0, N 1]) rfl rfl (by omega) ?_
  have u1 : Up w (w.alloc (.cells [N 0, N 1].toArray ty_api_Edge)) := (Up.refl w).alloc _
  have hE : Sl (w.alloc (.cells [N 0, N 1].toArray ty_api_Edge)) 2 (.slice (some ⟨sz w, 0, none⟩) 1 1) 1 (edgesC [(0, 1)]) := Sl.at _ _ _ _ _ ⟨_, _, _, gb_alloc_new rfl, rfl⟩ rfl (Nat.le_refl _)
  generalize w.alloc (.cells [N 0, N 1].toArray ty_api_Edge) = w1 at u1 hE ⊢
  refine V_build1 slT_ssEdge (cs := [.slice (some ⟨sz w, 0, none⟩) 1 1]) rfl rfl (by omega) ?_
  have u2 : Up w1 (w1.alloc (.cells [Value.slice (some ⟨sz w, 0, none⟩) 1 1].toArray ty_s_api_Edge)) := (Up.refl w1).alloc _
  have hL : Sl (w1.alloc (.cells [Value.slice (some ⟨sz w, 0, none⟩) 1 1].toArray ty_s_api_Edge)) 1 (.slice (some ⟨sz w1, 0, none⟩) 1 1) 1 [.slice (some ⟨sz w, 0, none⟩) 1 1] := Sl.at _ _ _ _ _ ⟨_, _, _, gb_alloc_new rfl, rfl⟩ rfl (Nat.le_refl _)
  have hE2 := hE.Up u2
  generalize w1.alloc (.cells [Value.slice (some ⟨sz w, 0, none⟩) 1 1].toArray ty_s_api_Edge) = w2 at u2 hL hE2 ⊢
  have u02 := u1.trans u2
  refine c_Pool (L := L0) hL rfl (fun i v l h1 h2 => ?_) (fun l hl => ?_) (fun l hl _ _ => ?_) (fun l hl _ _ => ?_) (fun h => absurd pool0 h) (fun _ w3 pv bp u3 ho hver => ?_)
  · cases i with
    | zero =>
      simp only [List.getElem?_cons_zero, Option.some.injEq, L0] at h1 h2
      subst h1; subst h2
      exact ⟨1, hE2⟩
    | succ i => simp at h1
  · simp [L0] at hl; subst hl; decide
  · simp [L0] at hl; subst hl; rw [norm0]; exact trips0
  · simp [L0] at hl; subst hl; rw [norm0, graph0]; decide
  have hbl : bp.length = 1 := by have := ho.sl.len; simpa [L0] using this
  obtain ⟨b, rfl⟩ : ∃ b, bp = [b] := by
    match bp, hbl with
    | [b], _ => exact ⟨b, rfl⟩
  obtain ⟨gg, cap, hpv⟩ := own_some ho (by simp)
  have hv := hver 0 [(0, 1)] b rfl rfl
  rw [norm0, make0] at hv
  rw [hpv, V_eq (eqSl_some gg _ cap w3), ← hpv]
  simp only [IfV_false]
  have u03 := u02.trans u3
  have hS : ∀ i, ¬ Rg 1 4 ((fun _ => (0, 0, 0) : Col) i).1 := fun i hh => by have := hh.1; simp at this
  have hvk : VerK (Rg 1 4) w3 (fun _ => (0, 0, 0)) b ver0 := by
    obtain ⟨sv, lv, g1, g2, g3, g4, g5, g6⟩ := hv
    exact ⟨sv, lv, g1, hS b, g3, fun q _ => hS q, g5, fun q _ => hS q⟩
  obtain ⟨st1, st2, st3, y, st4, st5⟩ := starts0
  refine c_begun (k := 1) (by decide) (ps := [ver0]) (bp := [b]) (by have := ho.sl; simpa [L0] using this) (fun q _ => hS q) (fun i v b' h1 h2 => ?_) (fun v hv' => ?_) (by simp) st1 (fun w4 col4 d j h mb bs s smb f4 q4 s4 ok4 => ?_)
  · cases i with
    | zero => simp at h1 h2; subst h1; subst h2; exact hvk
    | succ i => simp at h1
  · simp at hv'; subst hv'; exact ver0_ok
  simp only [Ext_0, Ext_1, Ext_2, Ext_3, NotV_b, Bool.not_true, IfV_false]
  refine c_hold_Activate q4 (by decide) (v := 1) (by omega) (JSmall.le ok4.small (by omega)) fun w5 col5 bs5 f5 q5 => ?_
  rw [st2]
  simp only [NeNil_i0, IfV_false]
  have s5 := s4.fr f5 (fun hh => by have := hh.2; omega)
  refine c_serve_Renew s5 (now := 0) (by omega) fun w6 f6 s6 => ?_
  have q6 := q5.fr f6 (by omega) (by omega) (by omega)
  have hact : (nextH (startsH [ver0] begin0).2 65 1).2.active ≠ 0 → ∃ y, alook (nextH (startsH [ver0] begin0).2 65 1).2.active (nextH (startsH [ver0] begin0).2 65 1).2.all = some y ∧ checkM y.man = .nilIface ∧ y.man.shards.length ≤ 1048576 ∧ ManB y.man ∧ (nextH (startsH [ver0] begin0).2 65 1).2.active = y.man.version := fun _ => by
    refine ⟨y, by rw [st3, st4]; rfl, ?_, ?_, ?_, ?_⟩
    · rw [st5]; unfold checkM; rw [place0]
    · rw [st5]; decide
    · rw [st5]; exact ver0_ok.b
    · rw [st5, st3]; rfl
  have e12 : (renewS ⟨-1, 0, []⟩ 0).until_ = 12 := by decide
  refine c_serve_Open s6 q6 (by omega) (now := 12) hact (by decide) (fun h => absurd h (by rw [e12]; decide)) (fun _ h => absurd h (by rw [st3]; decide)) (fun _ _ h => absurd h (by decide)) (fun _ _ _ y' hy' w7 col7 sb f7 s7 ss7 hsb hoth => ?_)
  have hy1 : y' = y := by rw [st3, st4] at hy'; exact (Option.some.inj hy').symm
  subst hy1
  simp only [Ext_0, Ext_1, Ext_2]
  have q7 := q6.fr f7 (by omega) (by omega) (by omega)
  have hact7 := hact
  refine c_serve_Open s7 q7 (by omega) (now := 13) hact (show 1 < 1099511627776 by decide) (fun h => ?_) (fun h => absurd h (by show ¬ (13 : Int) ≤ (renewS ⟨-1, 0, []⟩ 0).until_; rw [e12]; decide)) (fun h => absurd h (by show ¬ (13 : Int) ≤ (renewS ⟨-1, 0, []⟩ 0).until_; rw [e12]; decide)) (fun h => absurd h (by show ¬ (13 : Int) ≤ (renewS ⟨-1, 0, []⟩ 0).until_; rw [e12]; decide))
  have hver1 : y'.man.version = 1 := by rw [st5]; rfl
  have fall : FrS (Rg 1 4) w3 (fun _ => (0, 0, 0)) w7 col7 := by
    refine (f4.trans (f5.rg (lo' := 1) (hi' := 4) (by omega) (by omega))).trans ?_
    exact (f6.mono fun i hi => by subst hi; exact ⟨by omega, by omega⟩).trans (f7.mono fun i hi => by subst hi; exact ⟨by omega, by omega⟩)
  have u07 : Up w w7 := u03.trans (fall.base (Up.refl w3) fun b _ => hS b)
  simp only [Ext_0, Ext_1, Ext_2, hver1]
  rw [show N ((renewS ⟨-1, 0, []⟩ 0).next + 1) = N 1 from rfl]
  simp only [Bin_eql_N, decide_true, B, IfV_true, EqNil_i0]
  refine c_api_Code_err (hg.up u07) fun w8 u8 => ?_
  simp only [Bin_eql_N, decide_true, B]
  exact hk w8 (u07.trans u8)
end Go.Proofs.Tryz

namespace Go.Proofs.Tryz
open Go Go.Lad
set_option autoImplicit false
set_option maxRecDepth 100000
set_option linter.unusedSimpArgs false
set_option linter.unusedVariables false

theorem c_none_j1 {a0 a1 a2 : Value} {w : World} (hg : ErrG w) {f : Nat} {K : Value → World → Prop} (hk : ∀ w', Up w w' → K (.bool true) w') : sh_ladinglaw24_ServeNone_j1 a0 a1 a2 (eErr f) (eErr 16) (N f) w K := by
  unfold sh_ladinglaw24_ServeNone_j1
  refine c_api_Code_err hg fun w1 u1 => ?_
  simp only [Bin_neq_N, ne_eq, not_true_eq_false, decide_false, B, IfV_false]
  refine c_api_Code_err (hg.up u1) fun w2 u2 => ?_
  simp only [Bin_neq_N, ne_eq, not_true_eq_false, decide_false, B, IfV_false]
  have u02 := u1.trans u2
  refine c_serve_Renew_nil ?_
  refine c_serve_Open_nil ?_
  simp only [Ext_0, Ext_1, Ext_2]
  refine c_serve_Version_nil ?_
  simp only [Ext_0, Ext_1]
  refine c_serve_Targets_nil ?_
  simp only [Ext_0, Ext_1]
  refine c_serve_Degree_nil ?_
  simp only [Ext_0, Ext_1]
  refine c_serve_Step_nil ?_
  simp only [Ext_0, Ext_1]
  refine c_serve_Met_nil ?_
  simp only [Ext_0, Ext_1]
  refine c_api_Code_err (hg.up u02) fun w3 u3 => ?_
  have u03 := u02.trans u3
  simp only [Bin_eql_N, decide_true, B, IfV_true]
  refine c_api_Code_err (hg.up u03) fun w4 u4 => ?_
  have u04 := u03.trans u4
  simp only [Bin_eql_N, decide_true, B, IfV_true]
  refine c_api_Code_err (hg.up u04) fun w5 u5 => ?_
  have u05 := u04.trans u5
  simp only [Bin_eql_N, decide_true, B, IfV_true]
  refine c_api_Code_err (hg.up u05) fun w6 u6 => ?_
  have u06 := u05.trans u6
  simp only [Bin_eql_N, decide_true, B, IfV_true]
  refine c_api_Code_err (hg.up u06) fun w7 u7 => ?_
  have u07 := u06.trans u7
  simp only [Bin_eql_N, decide_true, B, IfV_true]
  refine c_api_Code_err (hg.up u07) fun w8 u8 => ?_
  have u08 := u07.trans u8
  simp only [Bin_eql_N, decide_true, B, IfV_true]
  refine c_serve_Close_nil ?_
  refine c_api_Code_err (hg.up u08) fun w9 u9 => ?_
  have u09 := u08.trans u9
  simp only [Bin_eql_N, decide_true, B, IfV_true]
  refine c_serve_Search_nil ?_
  refine c_api_Code_err (hg.up u09) fun w10 u10 => ?_
  have u010 := u09.trans u10
  simp only [Bin_eql_N, decide_true, B, IfV_true]
  refine c_serve_Until_nil ?_
  simp only [Bin_eql, decide_true, IfV_true]
  refine c_serve_Pins_nil ?_
  have el : ∀ K1 : Value → Prop, LenL (.slice none 0 0) K1 = K1 (N 0) := fun _ => rfl
  rw [el]
  refine c_serve_Sessions_nil ?_
  rw [el, Bin_add_N _ _ (by omega)]
  refine c_serve_Idle_nil ?_
  rw [el, Bin_add_N _ _ (by omega)]
  simp only [Bin_eql_N, decide_true, B, Nat.add_zero]
  exact hk w10 u010
theorem c_ServeNone {id v now : Int} (hlo : -9223372036854775808 ≤ now) {w : World} (hg : ErrG w) {K : Value → World → Prop} (hk : ∀ w', Up w w' → K (.bool true) w') : CallF pg n_ladinglaw24_ServeNone [I id, I v, I now] w K := by
  apply ln_ladinglaw24_ServeNone
  simp only [sh_ladinglaw24_ServeNone]
  refine c_awake hg fun w1 u1 => ?_
  have hgt : ∀ K1 : Value → Prop, Bin .gtr .i64 (I now) (N 1073741824) K1 = K1 (.bool (decide (now > 1073741824))) := fun K1 => by
    rw [show N 1073741824 = I 1073741824 from rfl]; simp only [I, Bin_gtr]
  simp only [NotV_b, Bool.not_true, IfV_false]
  rw [hgt]
  by_cases hbig : now > 1073741824
  · simp only [hbig, decide_true, IfV_true]
    exact hk w1 u1
  simp only [hbig, decide_false, IfV_false]
  have hS : ∀ i, ¬ Rg 1 4 ((fun _ => (0, 0, 0) : Col) i).1 := fun i hh => by have := hh.1; simp at this
  refine c_disk_New (n := 3) (by omega) (col := fun _ => (0, 0, 0)) (k := 1) fun w2 col2 d u2 x2 hd hdk => ?_
  have f2 : FrS (Rg 1 4) w1 (fun _ => (0, 0, 0)) w2 col2 := ⟨u2.mod _, x2⟩
  have ho := openJ_new 3
  refine c_hold_Open0 hdk (by simp [newD]) (by rw [ho]) (fun he => by rw [ho] at he; cases he) (fun _ w3 col3 j h mb f3 hh q3 => ?_)
  have f13 := f2.trans (f3.rg (lo' := 1) (hi' := 4) (by omega) (by omega))
  simp only [Ext_0, Ext_1, NeNil_i0, IfV_false]
  refine c_serve_New (col := col3) (h := h) (ks := 4) fun w4 col4 s smb u4 x4 hs4 qs4 => ?_
  have f4 : ∀ S, FrS S w3 col3 w4 col4 := fun S => ⟨u4.mod _, x4⟩
  have q4 := q3.fr (f4 (fun _ => False)) (fun h => h) (fun h => h) (fun h => h)
  have f14 := f13.trans (f4 _)
  simp only [Ext_0, Ext_1]
  refine c_serve_New_nil ?_
  simp only [Ext_0, Ext_1, NeNil_i0, IfV_false]
  have u14 : Up w w4 := u1.trans (f14.base (Up.refl w1) fun b _ => hS b)
  refine c_api_Code_err (hg.up u14) fun w5 u5 => ?_
  have qs5 := qs4.up u5
  have q5 := q4.up u5
  have f15 := f14.trans (FrS.up u5 (Rg 1 4) col4)
  have hne : ∀ K1 : Value → Prop, Bin .neq .i64 (I (-1)) (.int .i64 (-1)) K1 = K1 (.bool false) := fun K1 => by simp only [I, Bin_neq]; rfl
  simp only [Bin_neq_N, ne_eq, not_true_eq_false, decide_false, B, IfV_false]
  refine c_serve_Until qs5 ?_
  rw [hne]
  simp only [IfV_false]
  have hleq : ∀ K1 : Value → Prop, Bin .leq .i64 (I now) (.int .i64 (-1)) K1 = K1 (.bool (decide (now ≤ -1))) := fun K1 => by simp only [I, Bin_leq]
  have hact : (emptyH ⟨(openJ (newD 3)).disk, [], (openJ (newD 3)).at_⟩).active ≠ 0 → ∃ y, alook (emptyH ⟨(openJ (newD 3)).disk, [], (openJ (newD 3)).at_⟩).active (emptyH ⟨(openJ (newD 3)).disk, [], (openJ (newD 3)).at_⟩).all = some y ∧ checkM y.man = .nilIface ∧ y.man.shards.length ≤ 1048576 ∧ ManB y.man ∧ (emptyH ⟨(openJ (newD 3)).disk, [], (openJ (newD 3)).at_⟩).active = y.man.version := fun h => absurd rfl h
  -- the first call: without a lease
  have first : ∀ f : Nat, (now ≤ -1 → f = 16) → (¬ now ≤ -1 → f = 15) → ∀ K1 : Value → World → Prop, K1 (.tuple #[N 0, N 0, eErr f]) w5 → CallF pg n_serve_Serve_Open [ptr s 0, I now] w5 K1 := fun f hf1 hf2 K1 hK => by
    refine c_serve_Open qs5 q5 (by omega) (now := now) hact (by decide) (fun h => ?_) (fun h _ => ?_) (fun _ h => absurd rfl h) (fun _ h => absurd rfl h)
    · rw [← hf2 (by simp only at h; omega)]; exact hK
    · rw [← hf1 (by simp only at h; omega)]; exact hK
  have rest : ∀ f : Nat, (now ≤ -1 → f = 16) → (¬ now ≤ -1 → f = 15) → ∀ K1 : Value → World → Prop, (∀ w', Up w w' → K1 (.tuple #[N 0, N 0, eErr 16]) w') → CallF pg n_serve_Serve_Renew [ptr s 0, I now] w5 fun _ w6 => V pg (Builtin.min_ #[3, 3] 3 [I now, N 1125899906842624].toArray) w6 fun t25 w => CallF pg n_serve_Serve_Open [ptr s 0, t25] w K1 := fun f hf1 hf2 K1 hK => by
    refine c_serve_Renew qs5 (now := now) hlo fun w6 f6 qs6 => ?_
    have q6 := q5.fr f6 (by omega) (by omega) (by omega)
    rw [show N 1125899906842624 = I 1125899906842624 from rfl, V_eq min_I]
    have u16 : Up w w6 := u1.trans ((f15.trans (f6.mono fun i hi => by subst hi; exact ⟨by omega, by omega⟩)).base (Up.refl w1) fun b _ => hS b)
    refine c_serve_Open qs6 q6 (by omega) (now := min now 1125899906842624) hact (by simp [renewS]) (fun h => ?_) (fun h _ => hK w6 u16) (fun _ h => absurd rfl h) (fun _ h => absurd rfl h)
    exfalso
    simp only [renewS] at h
    omega
  by_cases hneg : now ≤ -1
  · refine first 16 (fun _ => rfl) (fun h => absurd hneg h) _ ?_
    simp only [Ext_0, Ext_1, Ext_2]
    refine rest 16 (fun _ => rfl) (fun h => absurd hneg h) _ fun w7 u7 => ?_
    simp only [Ext_0, Ext_1, Ext_2]
    rw [hleq]
    simp only [hneg, decide_true, IfV_true]
    exact c_none_j1 (hg.up u7) fun w8 u8 => hk w8 (u7.trans u8)
  · refine first 15 (fun h => absurd h hneg) (fun _ => rfl) _ ?_
    simp only [Ext_0, Ext_1, Ext_2]
    refine rest 15 (fun h => absurd h hneg) (fun _ => rfl) _ fun w7 u7 => ?_
    simp only [Ext_0, Ext_1, Ext_2]
    rw [hleq]
    simp only [hneg, decide_false, IfV_false]
    exact c_none_j1 (hg.up u7) fun w8 u8 => hk w8 (u7.trans u8)
end Go.Proofs.Tryz

