/- Part of a proof (its text ShGet): what is proved stands in the text Card. -/
import Derived.Test.YtfefpbfnmfebgaaGreatDoorShard
set_option linter.all false
namespace Go.Proofs.Tryz
open Go Go.Lad
set_option autoImplicit false
set_option maxRecDepth 100000
set_option linter.unusedSimpArgs false
set_option linter.unusedVariables false

theorem Own.apart2 {w : World} {b1 b2 n1 n2 m1 m2 : Nat} {e1 e2 : TypeId} {v1 v2 : Value} {xs ys : List Value} (h1 : Own w b1 e1 m1 v1 n1 xs) (h2 : Own w b2 e2 m2 v2 n2 ys) (he : e1 ≠ e2) : ∀ q, InSl v1 q → ¬ InSl v2 q := by
  intro q hq1 hq2
  rcases h1.outA with ⟨rfl, _⟩ | ⟨g, cap, tl, rfl, _, ha, _⟩
  · cases hq1
  · cases hq1
    exact Own.apart h2 ha he hq2
@[simp] theorem Ext_3 (a b c d : Value) (l : List Value) (K1 : Value → Prop) : Ext (.tuple (a :: b :: c :: d :: l).toArray) 3 K1 = K1 d := rfl
theorem slT_ss : SlT pg ty_s_s_int ty_s_int 1 24 [.slice none 0 0] := ⟨by kernel_rfl, by kernel_rfl, rfl, by decide⟩
/-- the rows of a shard: where each begins, and its targets -/
def rdRowsF (s : List UInt8) (nodes begin_ : Nat) : Nat → Nat → Nat → List Nat → List (List Nat) → Rd (List Nat × List (List Nat))
  | 0, _, at_, bs, rs => .ok (bs, rs) at_
  | k + 1, v, at_, bs, rs =>
    match rdRow s at_ nodes v with
    | .bad p c => .bad p c
    | .ok t next => rdRowsF s nodes begin_ k (v + 1) next (bs ++ [at_ - begin_]) (rs ++ [t])
/-- the first mark that isn't so -/
def badMark (bs : List Nat) : List Nat → Nat → Option Nat
  | [], _ => none
  | m :: l, i => if m ≠ bs.getD (i * 8) 0 then some i else badMark bs l (i + 1)
def rdShard (s : List UInt8) (nodes : Nat) : Rd (Nat × List (List Nat)) :=
  match rdHead s nodes with
  | .bad p c => .bad p c
  | .ok (f, m) at_ =>
    match rdIndex s ((m + 8 - 1) / 8) at_ [] [] with
    | .bad p c => .bad p c
    | .ok (ms, ps) begin_ =>
      match rdRowsF s nodes begin_ m f begin_ [] [] with
      | .bad p c => .bad p c
      | .ok (bs, rs) at_ =>
        match badMark bs ms 0 with
        | some i => .bad (ps.getD i 0) 4
        | none => if at_ < s.length then .bad at_ 4 else .ok (f, rs) at_
/-- slices that read as rows -/
def RowsAt (w : World) (vs : List Value) (rs : List (List Nat)) : Prop := vs.length = rs.length ∧ ∀ (i : Nat) (v : Value) (r : List Nat), vs[i]? = some v → rs[i]? = some r → Sl w 1 v r.length (r.map N)
theorem rdT_next {s : List UInt8} {nodes : Nat} : ∀ (k at_ now : Nat) (first : Bool) (acc l : List Nat) (next : Nat), rdT s nodes k at_ now first acc = .ok l next → at_ ≤ s.length → next ≤ s.length ∧ at_ ≤ next := by
  intro k
  induction k with
  | zero => intro at_ now first acc l next h hs; simp only [rdT] at h; cases h; exact ⟨hs, Nat.le_refl _⟩
  | succ k ih =>
    intro at_ now first acc l next h hs
    simp only [rdT] at h
    cases hq : rdStep s at_ nodes now first with
    | bad p c => rw [hq] at h; cases h
    | ok x nx =>
      rw [hq] at h
      have h1 := (rdStep_lt hq).2
      have h2 : at_ ≤ nx := by
        unfold rdStep at hq
        have sp := rdShort_spec s at_
        cases hr : rdShort s at_ with
        | bad p c => rw [hr] at hq; cases hq
        | ok y n2 =>
          rw [hr] at hq sp
          simp only [ShortOk] at sp
          cases first <;> simp only [if_true, Bool.false_eq_true, if_false] at hq <;> split at hq <;> first | (cases hq; done) | (cases hq; omega)
      have := ih _ _ _ _ _ _ h h1
      exact ⟨this.1, Nat.le_trans h2 this.2⟩
theorem rdRow_next {s : List UInt8} {at_ nodes v next : Nat} {l : List Nat} (h : rdRow s at_ nodes v = .ok l next) : next ≤ s.length ∧ at_ < next := by
  unfold rdRow at h
  cases hq : rdCount s at_ nodes with
  | bad p c => rw [hq] at h; cases h
  | ok n nx =>
    rw [hq] at h
    have h1 := rdCount_ok hq
    have := rdT_next _ _ _ _ _ _ _ h h1.2.1
    omega
theorem rdIndex_ok {s : List UInt8} : ∀ (k at_ : Nat) (a b ms ps : List Nat) (next : Nat), rdIndex s k at_ a b = .ok (ms, ps) next → at_ ≤ s.length → next ≤ s.length := by
  intro k
  induction k with
  | zero => intro at_ a b ms ps next h hs; simp only [rdIndex] at h; cases h; exact hs
  | succ k ih =>
    intro at_ a b ms ps next h hs
    simp only [rdIndex] at h
    have sp := rdShort_spec s at_
    cases hq : rdShort s at_ with
    | bad p c => rw [hq] at h; cases h
    | ok x nx => rw [hq] at h sp; simp only [ShortOk] at sp; exact ih _ _ _ _ _ _ h sp.2.2
abbrev shardV (f : Nat) (v : Value) : Value := .agg [N f, v].toArray
theorem c_shard_Get {s : List UInt8} {n : Nat} (hs : s.length < 1099511627776) (hn : n ≤ 4096) {w : World} {K : Value → World → Prop}
    (hbad : ∀ p c, rdShard s n = .bad p c → ∀ w', Up w w' → K (.tuple #[shardV 0 (.slice none 0 0), eFault p c]) w')
    (hok : ∀ f rs a, rdShard s n = .ok (f, rs) a → ∀ w' rv vs, Up w w' → Own w' (sz w) ty_s_int 1 rv rs.length vs → RowsAt w' vs rs → K (.tuple #[shardV f rv, .nilIface]) w') : CallF pg n_shard_Get [Str s, N n] w K := by
  apply ln_shard_Get
  simp only [sh_shard_Get]
  refine New_of (cs := [N 0, .slice none 0 0]) fun w1 u1 hA1 hz1 => ?_
  unfold rdShard at hbad hok
  have b0 : ∀ w, (Instr.build ty_shard_Shard [].toArray).run pg w = .ok (shardV 0 (.slice none 0 0)) w := by intro w; kernel_rfl
  have b1 : ∀ f w, (Instr.build ty_shard_Shard [(0, N f)].toArray).run pg w = .ok (shardV f (.slice none 0 0)) w := by intro f w; kernel_rfl
  generalize hr1 : sz w = r1 at hA1 ⊢
  -- the ways out with an error
  have fin0 : ∀ (e : Value) (w2 : World), Up w w2 → Arr w2 r1 ty_shard_Shard [N 0, .slice none 0 0] → (∀ w', Up w w' → K (.tuple #[shardV 0 (.slice none 0 0), e]) w') →
      StN (ptr r1 0) (shardV 0 (.slice none 0 0)) 2 w2 fun _ w => LdN (ptr r1 0) 2 w fun t _ => K (.tuple #[t, e]) w := by
    intro e w2 u2 hA2 hk
    refine hA2.stAll (l := [N 0, .slice none 0 0]) rfl rfl rfl fun w3 e3 hA3 => ?_
    exact hA3.ldAll rfl (hk _ (up_put u2 e3 (by omega)))
  refine c_shard_heads hs hn (fun p c hh w2 u2 => ?_) (fun f m a hh w2 u2 => ?_)
  · rw [hh] at hbad
    simp only [Ext_0, Ext_1]
    refine New_of (cs := [N 0, N 0, N 0]) fun w3 u3 hA3 hz3 => ?_
    refine hA3.stAll (l := [N 0, N 0, N 0]) rfl rfl rfl fun w4 e4 hA4 => ?_
    have u4 : Up w1 w4 := up_put (u2.trans u3) e4 u2.size
    simp only [NeNil_i1, IfV_true, V_eq (b0 _)]
    exact fin0 _ _ (u1.trans u4) (hA1.up u4) (hbad p c rfl)
  · have hho := rdHead_ok hh
    rw [hh] at hbad hok
    simp only at hbad hok
    simp only [Ext_0, Ext_1]
    refine New_of (cs := [N 0, N 0, N 0]) fun w3 u3 hA3 hz3 => ?_
    refine hA3.stAll (l := [N f, N m, N a]) rfl rfl rfl fun w4 e4 hA4 => ?_
    have u4 : Up w1 w4 := up_put (u2.trans u3) e4 u2.size
    generalize hr5 : sz w2 = r5 at hA4 ⊢
    have hA4d : Arr w4.drew r5 ty_shard_head [N f, N m, N a] := hA4
    simp only [NeNil_i0, IfV_false, Drew]
    refine hA4d.ldAll rfl ⟨rfl, hA4d.ldAll rfl ⟨rfl, ?_⟩⟩
    refine c_shard_marks (by omega) fun w5 u5 => ?_
    have hA5 := hA4d.up u5
    refine ⟨⟨hA5.ldAll rfl ⟨rfl, rfl⟩, trivial⟩, ?_⟩
    have u5' : Up w1 w5 := (u4.trans (Up.refl w4).drew).trans u5
    refine c_shard_index hs (by omega) (fun p c hi w6 u6 => ?_) (fun ms ps bg hi w6 v1 v2 u6 hms hps hml hpl => ?_)
    · rw [hi] at hbad
      simp only [true_and, Ext_0, Ext_1, Ext_2, Ext_3, NeNil_i1, IfV_true, V_eq (b0 _)]
      exact fin0 _ _ (u1.trans (u5'.trans u6)) (hA1.up (u5'.trans u6)) (hbad p c rfl)
    · rw [hi] at hbad hok
      simp only at hbad hok
      have hA6 := hA5.up u6
      simp only [true_and, Ext_0, Ext_1, Ext_2, Ext_3, NeNil_i0, IfV_false, FA_ptr, Nat.zero_add, hA6.ld (k := 0) rfl, V_eq (b1 _ _)]
      refine New_of (cs := [N 0, .slice none 0 0]) fun w7 u7 hA7 hz7 => ?_
      refine hA7.stAll (l := [N f, .slice none 0 0]) rfl rfl rfl fun w8 e8 hA8 => ?_
      have u8 : Up w6 w8 := up_put u7 e8 (Nat.le_refl _)
      have hA8h := hA6.up u8
      simp only [FA_ptr, Nat.zero_add, hA8h.ld (k := 0) rfl]
      generalize hro : sz w6 = ro at hA8 ⊢
      have hup8 : Up w1 w8 := (u5'.trans u6).trans u8
      have hr15 : r1 < r5 := by have := hA1.lt; have := u2.size; omega
      have hr5o : r5 < ro := by have := hA6.lt; omega
      have hnp1 : (m + 8 - 1) / 8 ≤ m := by omega
      refine LoopV_of (fun xs w' => ∃ (i at1 : Nat) (bv rv : Value) (bs : List Nat) (rs : List (List Nat)) (vs : List Value), xs = [Str s, N n, ptr r1 0, ptr r5 0, v1, v2, N bg, ptr ro 0, N at1, bv, N (f + i)] ∧ i ≤ m ∧ at1 ≤ s.length ∧ bg ≤ at1 ∧
          Up w6 w' ∧ sz w8 ≤ sz w' ∧ Arr w' ro ty_shard_Shard [N f, rv] ∧ Own w' (sz w8) 3 1 bv i (bs.map N) ∧ Own w' (sz w8) ty_s_int 1 rv i vs ∧ bs.length = i ∧ rs.length = i ∧ RowsAt w' vs rs ∧
          (∀ (j : Nat) (v : Value), vs[j]? = some v → ∀ q, InSl v q → ¬ InSl bv q ∧ ¬ InSl rv q ∧ sz w8 ≤ q) ∧ rdRowsF s n bg m f bg [] [] = rdRowsF s n bg (m - i) (f + i) at1 bs rs) (fun xs _ => f + m - natOf (xs.getD 10 undef))
        ⟨0, bg, _, _, [], [], [], rfl, by omega, ?_, Nat.le_refl _, u8, Nat.le_refl _, hA8, Own.nil .., Own.nil .., rfl, rfl, ⟨rfl, by simp⟩, by simp, rfl⟩ ?_
      · exact rdIndex_ok _ _ _ _ _ _ _ hi (by omega)
      rintro k1 T w9 ⟨i, at1, bv, rv, bs, rs, vs, hT, hi', hat, hbg, hu69, hz89, hA9, hob, hor, hbl, hrl, hro9, hdis, he⟩ hk1
      simp only [temps, List.cons.injEq, and_true] at hT
      obtain ⟨g0, g1, g4, g6, g8, g9, g10, g11, g12, g13, g14⟩ := hT
      have hA9h := hA6.up hu69
      have hu9 : Up w1 w9 := (u5'.trans u6).trans hu69
      have hrs8 : ro < sz w8 := hA8.lt
      have hz68 : sz w6 ≤ sz w8 := u8.size
      simp only [g0, g1, g4, g6, g8, g9, g10, g11, g12, g13, g14, FA_ptr, Nat.zero_add, hA9h.ld (k := 0) rfl, hA9h.ld (k := 1) rfl]
      by_cases hlt : i < m
      · have e1 : f + i < f + m := by omega
        simp (disch := omega) only [Bin_add_N, Bin_lss_N, e1, decide_true, IfV_true, Bin_sub_N]
        refine V_push' (cs := [N (at1 - bg)]) slT_int hob rfl rfl rfl hz89 (by omega) (by omega) fun s1 bv' w10 hob10 hg10 hw10 => ?_
        have hA10 : Arr w10 ro ty_shard_Shard [N f, rv] := arr_grown hA9 hg10 (Own.apart hob hA9 (by decide))
        have hor10 : Own w10 (sz w8) ty_s_int 1 rv i vs := Own.up hor fun b hb hi => hg10.block b hb (fun e => Own.apart2 hor hob (by decide) b hi e.symm)
        have hro10 : RowsAt w10 vs rs := ⟨hro9.1, fun j v r h1 h2 => (hro9.2 j v r h1 h2).up fun b hb hi => hg10.block b hb (fun e => (hdis j v h1 b hi).1 e.symm)⟩
        have hu10 : Up w6 w10 := Up.grow hu69 hg10 (fun k hk => by have := hob.inSl hk; omega)
        have hu10' : Up w1 w10 := (u5'.trans u6).trans hu10
        have hz10 : sz w9 ≤ sz w10 := hg10.size
        rw [show m - i = (m - (i + 1)) + 1 by omega, rdRowsF] at he
        refine c_gap_Get hs hn (by omega) (fun p c hg w11 u11 => ?_) (fun t next hg w11 sv u11 ho11 => ?_)
        · rw [hg] at he
          rw [he] at hbad
          simp only [Ext_0, Ext_1, Ext_2, NeNil_i1, IfV_true, V_eq (b0 _)]
          exact fin0 _ _ (u1.trans (hu10'.trans u11)) (hA1.up (hu10'.trans u11)) (hbad p c rfl)
        · rw [hg] at he
          simp only at he
          have hnx := rdRow_next hg
          have hA11 := hA10.up u11
          have hor11 := Own.Up hor10 u11
          have hob11 := Own.Up hob10 u11
          simp only [Ext_0, Ext_1, Ext_2, NeNil_i0, IfV_false, FA_ptr, Nat.zero_add, hA11.ld (k := 1) rfl]
          have hup11 : Up w6 w11 := hu10.trans u11
          have hz11 : sz w10 ≤ sz w11 := u11.size
          have hsvc : sv.cells = [sv].toArray := cells_plain ho11.plain
          refine V_push' (cs := [sv]) slT_ss hor11 hsvc rfl (by simp [ho11.plain]) (by omega) (by omega) (by omega) fun s2 rv' w12 hor12 hg12 hw12 => ?_
          have hA12 : Arr w12 ro ty_shard_Shard [N f, rv] := arr_grown hA11 hg12 (Own.apart hor11 hA11 (by decide))
          refine hA12.st hor12.plain (by simp) fun w13 e13 hA13 => ?_
          have hob12 : Own w12 (sz w8) 3 1 bv' (i + 1) _ := Own.up hob11 fun b hb hi => hg12.block b hb (fun e => Own.apart2 hob11 hor11 (by decide) b hi e.symm)
          have k13 : ∀ q, q ≠ ro → gb w13 q = gb w12 q := fun q hq => by rw [e13]; exact gb_putB_ne hq
          have hob13 : Own w13 (sz w8) 3 1 bv' (i + 1) _ := Own.up hob12 fun b hb hi => k13 b (by have := hob12.inSl hi; omega)
          have hor13 : Own w13 (sz w8) ty_s_int 1 rv' (i + 1) _ := Own.up hor12 fun b hb hi => k13 b (by have := hor12.inSl hi; omega)
          have hup12 : Up w6 w12 := Up.grow hup11 hg12 (fun k hk => by have := hor11.inSl hk; omega)
          have hz12 : sz w11 ≤ sz w12 := hg12.size
          have hup13 : Up w6 w13 := up_put hup12 e13 (by omega)
          have hz13 : sz w13 = sz w12 := by rw [e13]; exact sz_putB ..
          have hlv : vs.length = i := by rw [hro9.1, hrl]
          -- the slices that were there
          have old : ∀ (j : Nat) (v : Value) (r : List Nat), vs[j]? = some v → rs[j]? = some r → Sl w13 1 v r.length (r.map N) := fun j v r h1 h2 => by
            have a1 := (hro10.2 j v r h1 h2).Up u11
            have a2 : Sl w12 1 v r.length (r.map N) := a1.up fun b hb hi => hg12.block b hb (fun e => (hdis j v h1 b hi).2.1 e.symm)
            exact a2.up fun b hb hi => k13 b (by have := (hdis j v h1 b hi).2.2; omega)
          have new : Sl w13 1 sv t.length (t.map N) := by
            have a1 : Sl w12 1 sv t.length (t.map N) := ho11.sl.up fun b hb hi => hg12.block b hb (fun e => by
              have h1 := ho11.inSl hi
              have h2 := hor10.sl.lt (b := b) e.symm
              omega)
            exact a1.up fun b hb hi => k13 b (by have := ho11.inSl hi; omega)
          have hbvlt : ∀ q, InSl bv' q → q < sz w10 := fun q hq => hob10.sl.lt hq
          refine hk1 _ _ ⟨i + 1, next, bv', rv', bs ++ [at1 - bg], rs ++ [t], vs ++ [sv], rfl, by omega, hnx.1, by omega, hup13, by omega, hA13, by simpa using hob13, hor13, by simp [hbl], by simp [hrl], ⟨by simp [hro9.1], ?_⟩, ?_, he⟩ (by simp [temps, g14]; omega)
          · intro j v r h1 h2
            by_cases hj : j < i
            · rw [List.getElem?_append_left (by omega)] at h1
              rw [List.getElem?_append_left (by omega)] at h2
              exact old j v r h1 h2
            · have hj2 : j = i := by have := (List.getElem?_eq_some_iff.1 h1).1; simp at this; omega
              subst hj2
              rw [List.getElem?_append_right (by omega)] at h1
              rw [List.getElem?_append_right (by omega)] at h2
              rw [show j - vs.length = 0 by omega] at h1
              rw [show j - rs.length = 0 by omega] at h2
              simp only [List.getElem?_cons_zero, Option.some.injEq] at h1 h2
              subst h1; subst h2
              exact new
          · intro j v h1 q hq
            by_cases hj : j < i
            · rw [List.getElem?_append_left (by omega)] at h1
              obtain ⟨d1, d2, d3⟩ := hdis j v h1 q hq
              have hlr : ∃ r, rs[j]? = some r := ⟨_, List.getElem?_eq_getElem (by omega)⟩
              obtain ⟨r, h2⟩ := hlr
              have hq9 : q < sz w9 := (hro9.2 j v r h1 h2).lt hq
              refine ⟨fun hi => ?_, fun hi => ?_, d3⟩
              · rcases hw10 q hi with h | h
                · exact d1 h
                · omega
              · rcases hw12 q hi with h | h
                · exact d2 h
                · omega
            · have hj2 : j = i := by have := (List.getElem?_eq_some_iff.1 h1).1; simp at this; omega
              subst hj2
              rw [List.getElem?_append_right (by omega), show j - vs.length = 0 by omega] at h1
              simp only [List.getElem?_cons_zero, Option.some.injEq] at h1
              subst h1
              have hq10 := ho11.inSl hq
              have hq11 := ho11.sl.lt hq
              refine ⟨fun hi => ?_, fun hi => ?_, by omega⟩
              · have := hbvlt q hi; omega
              · rcases hw12 q hi with h | h
                · have := hor10.sl.lt h; omega
                · omega
      · have him : i = m := by omega
        subst him
        simp (disch := omega) only [Bin_add_N, Bin_lss_N, Nat.lt_irrefl, decide_false, IfV_false]
        rw [Nat.sub_self, rdRowsF] at he
        rw [he] at hbad hok
        simp only at hbad hok
        have hms9 := (hms.Up hu69)
        have hps9 := (hps.Up hu69)
        rw [hms9.lenL]
        clear hk1 g0 g1 g4 g6 g8 g9 g10 g11 g12 g13 g14 T
        refine LoopV_of (fun xs w' => w' = w9 ∧ ∃ j, xs = [Str s, ptr r1 0, v2, ptr ro 0, N at1, bv, v1, N ((i + 8 - 1) / 8), N j] ∧ j ≤ (i + 8 - 1) / 8 ∧ badMark bs (ms.drop j) j = badMark bs ms 0) (fun xs _ => (i + 8 - 1) / 8 - natOf (xs.getD 8 undef)) ⟨rfl, 0, rfl, by omega, rfl⟩ ?_
        rintro k2 T w10 ⟨rfl, j, hT, hj, hbm⟩ hk2
        simp only [temps, List.cons.injEq, and_true] at hT
        obtain ⟨g0, g4, g9, g11, g12, g13, g85, g86, g87⟩ := hT
        simp only [g0, g4, g9, g11, g12, g13, g85, g86, g87, Bin_lss_N]
        by_cases hlj : j < (i + 8 - 1) / 8
        · simp only [hlj, decide_true, IfV_true]
          refine hms9.ix1 (getN (show j < ms.length by omega)) fun p => ?_
          simp (disch := omega) only [Bin_mul_N]
          refine hob.sl.ix1 (getN (show j * 8 < bs.length by omega)) fun p => ?_
          rw [List.drop_eq_getElem_cons (show j < ms.length by omega)] at hbm
          simp only [badMark] at hbm
          have hgd : ms.getD j 0 = ms[j]'(by omega) := by rw [List.getD_eq_getElem?_getD, List.getElem?_eq_getElem (by omega)]; rfl
          rw [← hgd] at hbm
          simp only [Bin_neq_N]
          by_cases hne : ms.getD j 0 = bs.getD (j * 8) 0
          · rw [if_neg (by simpa using hne)] at hbm
            simp (disch := omega) only [hne, decide_true, Bool.not_true, IfV_false, Bin_add_N]
            exact hk2 _ _ ⟨rfl, j + 1, rfl, by omega, hbm⟩ (by simp [temps, g87]; omega)
          · rw [if_pos hne] at hbm
            simp only [hne, decide_false, Bool.not_false, IfV_true, V_eq (b0 _)]
            refine hps9.ix1 (getN (show j < ps.length by omega)) fun p => ?_
            refine c_shard_wrong ?_
            rw [← hbm] at hbad
            exact fin0 _ _ (u1.trans hu9) (hA1.up hu9) (hbad _ _ rfl)
        · simp only [hlj, decide_false, IfV_false, LenS_Str, Bin_lss_N]
          rw [List.drop_eq_nil_of_le (by omega)] at hbm
          rw [← hbm] at hbad hok
          simp only [badMark] at hbad hok
          by_cases hend : at1 < s.length
          · rw [if_pos hend] at hbad
            simp only [hend, decide_true, IfV_true, V_eq (b0 _)]
            exact c_shard_wrong (fin0 _ _ (u1.trans hu9) (hA1.up hu9) (hbad _ _ rfl))
          · rw [if_neg hend] at hok
            simp only [hend, decide_false, IfV_false]
            refine hA9.ldAll rfl ?_
            refine (hA1.up hu9).stAll (l := [N f, rv]) rfl rfl (by simp only [List.all_cons, List.all_nil, hor.plain, Bool.and_true]; rfl) fun w11 e11 hA11 => ?_
            refine hA11.ldAll rfl ?_
            have k11 : ∀ q, sz w8 ≤ q → gb w11 q = gb w10 q := fun q hq => by rw [e11]; exact gb_putB_ne (by omega)
            have hr1w : sz w ≤ r1 := by omega
            refine hok _ _ _ rfl _ rv vs (up_put (u1.trans hu9) e11 hr1w) ?_ ⟨hro9.1, fun j v r h1 h2 => (hro9.2 j v r h1 h2).up fun b hb hi => k11 b (hdis j v h1 b hi).2.2⟩
            have : Own w11 (sz w8) ty_s_int 1 rv i vs := Own.up hor fun b hb hi => k11 b (hor.inSl hi)
            rw [hrl]
            have hws := u1.size
            exact this.mono (by omega)
end Go.Proofs.Tryz

