/- Part of a proof (its text Dr): what is proved stands in the text Card. -/
import Derived.Test.YtfefpbfnmfebgaaGreatDoorEv
set_option linter.all false
namespace Go.Lad
set_option autoImplicit false

/-! regions that draw their order -/
def preds (o : Oper) : List Nat := (o.after.toList.filter (Region.binds .any)).map (·.on)
def tb (m r : Nat) : Bool := Nat.beq (Nat.land (Nat.shiftRight m r) 1) 1
def maskOf (ms : List Nat) (o : Oper) : Nat := (preds o).foldl (fun s p => Nat.lor s (Nat.lor (Nat.shiftLeft 1 p) (ms.getD p 0))) 0
def masksFrom : List Oper → List Nat → List Nat
  | [], ms => ms
  | o :: l, ms => masksFrom l (ms ++ [maskOf ms o])
def masks (all : List Oper) : List Nat := masksFrom all []

/-- leaves the world alone, and tells one value -/
def floatB (P : Program) (o : Oper) : Bool :=
  match o.op with
  | .move _ | .assign _ | .pick _ _ _ | .extract _ _ | .nilCheck _ | .load _ _ | .build _ _ | .fieldAddr _ _ _ | .field _ _ _ | .indexAddr _ _ _ | .index _ _ _ | .binOp _ _ _ _ _ | .unOp _ _ _
  | .makeInterface _ _ | .makeFunc _ _ _ | .slice _ _ _ _ _ | .lookup _ _ _ _ | .typeAssert _ _ _ _ => true
  | .convert _ d _ => (match kTy P d with | .int _ => true | .string => true | _ => false)
  | .call c => (match c.callee with | .builtin b => (match b with | .len | .cap | .max | .min => true | _ => false) | _ => false)
  | _ => false
/-- and does not even look at the world -/
def pureB (P : Program) (o : Oper) : Bool :=
  match o.op with
  | .move _ | .assign _ | .pick _ _ _ | .extract _ _ | .nilCheck _ | .makeInterface _ _ | .makeFunc _ _ _ => true
  | .fieldAddr s _ f => (match kField P s f with | some _ => true | none => false)
  | .indexAddr t _ _ => (match kIndexAddr P t with | .slice _ => true | .array _ _ => true | .other => false)
  | .index t _ _ => (match kTy P t with | .string => true | _ => false)
  | .binOp _ t _ y _ => (match kTy P t with | .int _ => true | .string => true | k => isNilLit k y)
  | .unOp op _ _ => (match op with | .not => true | _ => false)
  | .call c =>
    (match c.callee with
    | .builtin .len => (match c.argTypes.toList, c.args.toList with | [t], [_] => (match kTy P t with | .string => true | .slice => true | _ => false) | _, _ => false)
    | _ => false)
  | _ => false

/-- what a value must stay -/
def rc (P : Program) (o : Oper) (T : Tm) (v : Value) : World → Prop :=
  bif pureB P o then (fun _ => True) else fun w => stepOp P o T w (fun v' w' => w' = w ∧ v' = v)
def recheck (m : Nat) : List (Nat × (World → Prop)) → World → Prop
  | [], _ => True
  | (r, c) :: l, w => bif tb m r then recheck m l w else c w ∧ recheck m l w

def rdyB (ms rem : List Nat) (i : Nat) : Bool := rem.all (fun j => !tb (ms.getD i 0) j)
def firstFloat (P : Program) (all : List Oper) (ms rem : List Nat) : List Nat → Option Nat
  | [] => none
  | i :: l => match all[i]? with
    | some o => bif floatB P o && rdyB ms rem i then some i else firstFloat P all ms rem l
    | none => firstFloat P all ms rem l

def Drew (w : World) (K : World → Prop) : Prop := K w.drew
/-- what is asked behind a float: where it looks at the world, that it left it -/
def fK (P : Program) (o : Oper) (T : Tm) (w : World) (K : Tm → (World → Prop) → Prop) : Prop :=
  bif pureB P o then stepOp P o T w (fun v _ => K (updO T o.dst v) (fun _ => True)) else stepOp P o T w (fun v w' => w' = w ∧ K (updO T o.dst v) (rc P o T v))
def floatStep (P : Program) (all : List Oper) (o : Oper) (T : Tm) (w : World) (K : Tm → (World → Prop) → Prop) : Prop :=
  match o.guard with
  | none => fK P o T w K
  | some (j, want) =>
    match guardTmp all j with
    | none => False
    | some g => IfV (T g)
        (bif want then fK P o (upd T g (.bool true)) w K else K (updO (upd T g (.bool true)) o.dst undef) (fun _ => True))
        (bif want then K (updO (upd T g (.bool false)) o.dst undef) (fun _ => True) else fK P o (upd T g (.bool false)) w K)
/-- an operation that acts; K is told whether it was done -/
def actStep (P : Program) (all : List Oper) (o : Oper) (T : Tm) (w : World) (K : Bool → Tm → World → Prop) : Prop :=
  match o.guard with
  | none => stepOp P o T w (fun v w' => K true (updO T o.dst v) w')
  | some (j, want) =>
    match guardTmp all j with
    | none => False
    | some g => IfV (T g)
        (bif want then stepOp P o (upd T g (.bool true)) w (fun v w' => K true (updO (upd T g (.bool true)) o.dst v) w') else K false (updO (upd T g (.bool true)) o.dst undef) w)
        (bif want then K false (updO (upd T g (.bool false)) o.dst undef) w else stepOp P o (upd T g (.bool false)) w (fun v w' => K true (updO (upd T g (.bool false)) o.dst v) w'))
def allOf : List Nat → (Nat → Prop) → Prop
  | [], _ => True
  | [i], f => f i
  | i :: l, f => f i ∧ allOf l f

def evalD (P : Program) (all : List Oper) (ms : List Nat) (K : Tm → World → Prop) : Nat → List Nat → List (Nat × (World → Prop)) → Tm → World → Prop
  | 0, rem, _, T, w => (match rem with | [] => K T w | _ => False)
  | n + 1, rem, pend, T, w =>
    match rem with
    | [] => K T w
    | _ :: _ =>
      match firstFloat P all ms rem rem with
      | some i => (match all[i]? with
        | some o => floatStep P all o T w (fun T' c => evalD P all ms K n (rem.erase i) (bif pureB P o then pend else (i, c) :: pend) T' w)
        | none => False)
      | none => allOf (rem.filter (rdyB ms rem)) (fun i => match all[i]? with
        | some o => actStep P all o T w (fun b T' w' => bif b then recheck (ms.getD i 0) pend w' ∧ evalD P all ms K n (rem.erase i) pend T' w' else evalD P all ms K n (rem.erase i) pend T' w')
        | none => False)

/-! the static side -/
def tmpsOf : List Operand → List Tmp
  | [] => []
  | .tmp t :: l => t :: tmpsOf l
  | _ :: l => tmpsOf l
def looks (all : List Oper) (o : Oper) : List Tmp :=
  match o.guard with
  | none => tmpsOf o.op.operands.toList
  | some (j, _) => match guardTmp all j with
    | some g => g :: tmpsOf o.op.operands.toList
    | none => tmpsOf o.op.operands.toList
def notIn (d : Option Tmp) (l : List Tmp) : Bool :=
  match d with
  | some d => l.all (fun t => !Nat.beq t d)
  | none => true
def notSame (d e : Option Tmp) : Bool :=
  match d, e with
  | some d, some e => !Nat.beq d e
  | _, _ => true
def apartB (all : List Oper) (x y : Oper) : Bool :=
  notIn x.dst (looks all y) && notSame x.dst y.dst && notIn y.dst (looks all x)
/-- the operation i against those behind it -/
def apartFrom (all : List Oper) (ms : List Nat) (i : Nat) (x : Oper) : List Oper → Nat → Bool
  | [], _ => true
  | y :: l, j => (tb (ms.getD j 0) i || apartB all x y) && apartFrom all ms i x l (j + 1)
def apartAll (all : List Oper) (ms : List Nat) : List Oper → Nat → Bool
  | [], _ => true
  | x :: l, i => apartFrom all ms i x l (i + 1) && apartAll all ms l (i + 1)
def edgesOk : List Oper → Nat → Bool
  | [], _ => true
  | o :: l, i => (preds o).all (fun p => Nat.blt p i) && noSel o && edgesOk l (i + 1)
where noSel (o : Oper) : Bool := match o.op with | .select .. => false | _ => true
def regOk (all : List Oper) : Bool := edgesOk all 0 && apartAll all (masks all) all 0

def drawD (P : Program) (all : List Oper) (T : Tm) (w : World) (K : Tm → World → Prop) : Prop :=
  bif regOk all then Drew w (fun w => evalD P all (masks all) K all.length (List.range all.length) [] T w) else False


/-! soundness -/
theorem ev_congr {T T' : Tm} {l : List Operand} (h : ∀ t ∈ tmpsOf l, T t = T' t) : ∀ x ∈ l, ev T x = ev T' x := by
  induction l with
  | nil => intro x hx; cases hx
  | cons y l ih =>
    intro x hx
    have hl : ∀ t ∈ tmpsOf l, T t = T' t := by
      intro t ht
      cases y <;> first | exact h t (List.mem_cons_of_mem _ ht) | exact h t ht
    cases hx with
    | tail _ hx => exact ih hl x hx
    | head =>
      cases y with
      | tmp t => exact h t (List.mem_cons_self ..)
      | _ => rfl
theorem evs_congr {T T' : Tm} {l : List Operand} (h : ∀ x ∈ l, ev T x = ev T' x) : evs T l = evs T' l := by
  rw [evs_map, evs_map]; exact List.map_congr_left h

theorem gen_congr {P : Program} {T T' : Tm} {o : Oper} {w : World} {K : Value → World → Prop} (hs : ∀ cs b, o.op ≠ .select cs b)
    (h : ∀ x ∈ o.op.operands, ev T x = ev T' x) : Gen P T o w K = Gen P T' o w K := by
  unfold Gen
  rw [execOp_congr o hs h]

theorem stepOp_congr {P : Program} {T T' : Tm} {o : Oper} {w : World} {K : Value → World → Prop} (hs : ∀ cs b, o.op ≠ .select cs b)
    (h : ∀ x ∈ o.op.operands.toList, ev T x = ev T' x) : stepOp P o T w K = stepOp P o T' w K := by
  have hg := gen_congr (P := P) (w := w) (K := K) hs (fun x hx => h x (by simpa using hx))
  unfold stepOp
  generalize ho : o.op = op at h
  cases op <;> simp only [Op.operands] at h ⊢ <;> first
    | exact hg
    | rfl
    | (simp at h; simp only [h, stepBin]; done)
    | skip
  case build t ps =>
    have : evp T ps.toList = evp T' ps.toList := by
      rw [evp_map, evp_map]; exact List.map_congr_left fun p hp => by rw [h p.2 (List.mem_map.2 ⟨p, hp, rfl⟩)]
    rw [this]
  case buildSlice t n ps =>
    have : evp T ps.toList = evp T' ps.toList := by
      rw [evp_map, evp_map]; exact List.map_congr_left fun p hp => by rw [h p.2 (List.mem_map.2 ⟨p, hp, rfl⟩)]
    rw [this]
  case makeFunc fn a b =>
    rw [evs_congr (l := a.toList) (fun x hx => h x (by simp at hx ⊢; exact .inl hx)), evs_congr (l := b.toList) (fun x hx => h x (by simp at hx ⊢; exact .inr hx))]
  case makeMap t r =>
    cases r with
    | none => rfl
    | some x => simp only [evo]; rw [h x (by simp)]
  case slice t x a b c =>
    have hx := h x (by simp)
    have ho : ∀ (q : Option Operand), (∀ y, q = some y → ev T y = ev T' y) → evo T q = evo T' q := by
      intro q hq; cases q with
      | none => rfl
      | some y => simp only [evo]; rw [hq y rfl]
    rw [hx, ho a (fun y hy => h y (by simp [hy])), ho b (fun y hy => h y (by simp [hy])), ho c (fun y hy => h y (by simp [hy]))]
  case call c =>
    have ha : evs T c.args.toList = evs T' c.args.toList := evs_congr fun x hx => h x (by simp [Call.operands] at hx ⊢; exact .inr hx)
    split
    · rw [ha]
    · rename_i x name hc
      have : ev T x = ev T' x := h x (by simp [Call.operands, hc])
      rw [ha, this]
    · rename_i t hc
      have : T t = T' t := h (.tmp t) (by simp [Call.operands, hc])
      rw [ha, this]
    · rw [ha, hg]
    · exact hg

/-- a float tells one value, and leaves the world -/
theorem V_det {P : Program} {s : Sem Value} {w : World} {K : Value → World → Prop} (h : V P s w K) : ∃ v w', K v w' ∧ ∀ K' : Value → World → Prop, K' v w' → V P s w K' := by
  unfold V at *
  cases hr : s.run P w with
  | ok v w' => rw [hr] at h; exact ⟨v, w', h, fun K' hk => hk⟩
  | halt x w' => rw [hr] at h; exact h.elim
theorem V_float {P : Program} {s : Sem Value} {w : World} {K : Value → Prop} (h : V P s w (fun v w' => w' = w ∧ K v)) : ∃ v, K v ∧ ∀ K' : Value → World → Prop, K' v w → V P s w K' := by
  obtain ⟨v, w', ⟨rfl, hk⟩, hd⟩ := V_det h
  exact ⟨v, hk, hd⟩

/-- one that does not look at the world -/
structure Det (F : (Value → Prop) → Prop) : Prop where
  out : ∀ K, F K → ∃ v, K v ∧ ∀ K' : Value → Prop, K' v → F K'
def mkI (P : Program) (t : TypeId) (x : Value) (K : Value → Prop) : Prop :=
  match kTy P t with | .iface => False | _ => bif (P.underlying t).isSome then K (.iface t x) else False
theorem det_mkI (P : Program) (t : TypeId) (x : Value) : Det (mkI P t x) := by
  constructor; intro K h
  unfold mkI at *
  split at h
  · exact h.elim
  · cases hu : (P.underlying t).isSome with
    | false => rw [hu] at h; exact h.elim
    | true => rw [hu] at h; exact ⟨_, h, fun K' hk => by rw [cond_true]; exact hk⟩
theorem det_FA (x : Value) (off : Nat) : Det (FA x off) := by
  constructor; intro K h; unfold FA at *; split at h
  · exact ⟨_, h, fun K' hk => hk⟩
  · exact h.elim
theorem det_Pick (c a b : Value) : Det (Pick c a b) := by
  constructor; intro K h; unfold Pick at *; split at h
  · exact ⟨_, h, fun K' hk => hk⟩
  · exact ⟨_, h, fun K' hk => hk⟩
  · exact h.elim
theorem det_Ext (x : Value) (i : Nat) : Det (Ext x i) := by
  constructor; intro K h; unfold Ext at *; split at h
  · split at h
    · rename_i v hv; exact ⟨_, h, fun K' hk => hk⟩
    · exact h.elim
  · exact h.elim
theorem det_NilCk (x : Value) : Det (NilCk x) := by
  constructor; intro K h; unfold NilCk at *; split at h
  · exact ⟨_, h, fun K' hk => hk⟩
  · exact ⟨_, h, fun K' hk => hk⟩
  · exact h.elim
theorem det_IxS (x i : Value) (n : Nat) : Det (IxS x i n) := by
  constructor; intro K h; unfold IxS at *; split at h
  · exact ⟨_, h.2.2, fun K' hk => ⟨h.1, h.2.1, hk⟩⟩
  · exact h.elim
theorem det_IxA (x i : Value) (l n : Nat) : Det (IxA x i l n) := by
  constructor; intro K h; unfold IxA at *; split at h
  · exact ⟨_, h.2.2, fun K' hk => ⟨h.1, h.2.1, hk⟩⟩
  · exact h.elim
theorem det_IxStr (x i : Value) : Det (IxStr x i) := by
  constructor; intro K h; unfold IxStr at *; split at h
  · exact ⟨_, h.2.2, fun K' hk => ⟨h.1, h.2.1, hk⟩⟩
  · exact h.elim
theorem det_Bin (op : BinOp) (k : IntKind) (x y : Value) : Det (Bin op k x y) := by
  constructor; intro K h; unfold Bin at *; split at h
  · obtain ⟨h1, h2, h⟩ := h
    split at h <;> first
      | exact ⟨_, h, fun K' hk => ⟨h1, h2, hk⟩⟩
      | exact ⟨_, h.2, fun K' hk => ⟨h1, h2, h.1, hk⟩⟩
      | exact h.elim
  · exact h.elim
theorem det_Shf (op : BinOp) (k : IntKind) (x y : Value) : Det (Shf op k x y) := by
  constructor; intro K h; unfold Shf at *; split at h
  · obtain ⟨h1, h2, h⟩ := h
    split at h <;> first
      | exact ⟨_, h, fun K' hk => ⟨h1, h2, hk⟩⟩
      | exact h.elim
  · exact h.elim
theorem det_BinS (op : BinOp) (x y : Value) : Det (BinS op x y) := by
  constructor; intro K h; unfold BinS at *; split at h
  · split at h <;> first
      | exact ⟨_, h, fun K' hk => hk⟩
      | exact ⟨_, h.2, fun K' hk => ⟨h.1, hk⟩⟩
      | exact h.elim
  · exact h.elim
theorem det_EqNil (k : KTy) (x : Value) : Det (EqNil k x) := by
  constructor; intro K h; unfold EqNil at *; split at h
  · rename_i b hb; exact ⟨_, h, fun K' hk => hk⟩
  · exact h.elim
theorem det_NeNil (k : KTy) (x : Value) : Det (NeNil k x) := by
  constructor; intro K h; unfold NeNil at *; split at h
  · rename_i b hb; exact ⟨_, h, fun K' hk => hk⟩
  · exact h.elim
theorem det_Not (x : Value) : Det (NotV x) := by
  constructor; intro K h; unfold NotV at *; split at h
  · exact ⟨_, h, fun K' hk => hk⟩
  · exact h.elim
theorem det_LenS (x : Value) : Det (LenS x) := by
  constructor; intro K h; unfold LenS at *; split at h
  · exact ⟨_, h, fun K' hk => hk⟩
  · exact h.elim
theorem det_LenL (x : Value) : Det (LenL x) := by
  constructor; intro K h; unfold LenL at *; split at h
  · exact ⟨_, h, fun K' hk => hk⟩
  · exact h.elim

/-- what is told of a float -/
def Tells (P : Program) (o : Oper) (T : Tm) (w : World) (v : Value) : Prop := ∀ K' : Value → World → Prop, K' v w → stepOp P o T w K'

theorem tells_of_det {P : Program} {o : Oper} {T : Tm} {w : World} {K : Value → Prop} {F : (Value → Prop) → Prop} (hF : Det F) (e : ∀ (w' : World) (K' : Value → World → Prop), stepOp P o T w' K' = F (fun v => K' v w'))
    (h : stepOp P o T w (fun v _ => K v)) : ∃ v, K v ∧ ∀ w', Tells P o T w' v := by
  rw [e] at h
  obtain ⟨v, hk, hd⟩ := hF.out _ h
  exact ⟨v, hk, fun w' K' hk' => by rw [e]; exact hd _ hk'⟩

theorem det_const (v : Value) : Det (fun K => K v) := ⟨fun _ h => ⟨v, h, fun _ h => h⟩⟩

theorem pure_tells {P : Program} {o : Oper} {T : Tm} {w : World} {K : Value → Prop} (hp : pureB P o = true) (h : stepOp P o T w (fun v _ => K v)) :
    ∃ v, K v ∧ ∀ w', Tells P o T w' v := by
  unfold pureB at hp
  split at hp <;> rename_i ho
  · rename_i x; exact tells_of_det (det_const (ev T x)) (fun w' K' => by simp only [stepOp, ho] <;> rfl) h
  · rename_i x; exact tells_of_det (det_const (ev T x)) (fun w' K' => by simp only [stepOp, ho] <;> rfl) h
  · rename_i c a b; exact tells_of_det (det_Pick (ev T c) (ev T a) (ev T b)) (fun w' K' => by simp only [stepOp, ho] <;> rfl) h
  · rename_i x i; exact tells_of_det (det_Ext (ev T x) i) (fun w' K' => by simp only [stepOp, ho] <;> rfl) h
  · rename_i x; exact tells_of_det (det_NilCk (ev T x)) (fun w' K' => by simp only [stepOp, ho] <;> rfl) h
  · rename_i t x
    refine tells_of_det (det_mkI P t (ev T x)) (fun w' K' => by simp only [stepOp, ho, mkI] <;> rfl) h
  · rename_i fn a b; exact tells_of_det (det_const (.func fn (evs T a.toList).toArray (evs T b.toList).toArray)) (fun w' K' => by simp only [stepOp, ho] <;> rfl) h
  · split at hp
    · rename_i off hk; exact tells_of_det (det_FA _ _) (fun w' K' => by simp only [stepOp, ho, hk] <;> rfl) h
    · cases hp
  · split at hp
    · rename_i n hk; exact tells_of_det (det_IxS _ _ _) (fun w' K' => by simp only [stepOp, ho, hk] <;> rfl) h
    · rename_i l n hk; exact tells_of_det (det_IxA _ _ _ _) (fun w' K' => by simp only [stepOp, ho, hk] <;> rfl) h
    · cases hp
  · split at hp
    · rename_i hk; exact tells_of_det (det_IxStr _ _) (fun w' K' => by simp only [stepOp, ho, hk] <;> rfl) h
    · cases hp
  · rename_i op t x y u
    split at hp
    · rename_i k hk
      cases op <;> first
        | exact tells_of_det (det_Shf _ _ _ _) (fun w' K' => by simp only [stepOp, ho, stepBin, hk] <;> rfl) h
        | exact tells_of_det (det_Bin _ _ _ _) (fun w' K' => by simp only [stepOp, ho, stepBin, hk] <;> rfl) h
    · rename_i hk; exact tells_of_det (det_BinS _ _ _) (fun w' K' => by simp only [stepOp, ho, stepBin, hk] <;> rfl) h
    · rename_i h1 h2
      have e : ∀ (w' : World) (K' : Value → World → Prop), stepOp P o T w' K' = (match op with
          | .eql => EqNil (kTy P t) (ev T x) (fun v => K' v w')
          | .neq => NeNil (kTy P t) (ev T x) (fun v => K' v w')
          | _ => False) := by
        intro w' K'
        simp only [stepOp, ho, stepBin]
        cases hk : kTy P t with
        | int k => exact absurd hk (fun e => h1 k e)
        | string => exact absurd hk (fun e => h2 e)
        | _ => rw [hk] at hp; simp only [hp, cond_true] <;> (cases op <;> rfl)
      cases op <;> simp only at e <;> first
        | exact tells_of_det (det_EqNil _ _) e h
        | exact tells_of_det (det_NeNil _ _) e h
        | (rw [e] at h; exact h.elim)
  · split at hp
    · exact tells_of_det (det_Not _) (fun w' K' => by simp only [stepOp, ho] <;> rfl) h
    · cases hp
  · rename_i c
    split at hp
    · rename_i hc
      split at hp
      · rename_i t x ht hx
        have e : ∀ (w' : World) (K' : Value → World → Prop), stepOp P o T w' K' = stepBuiltin P .len c.argTypes o.type (evs T c.args.toList) w' K' (Gen P T o w' K') := by
          intro w' K'; simp only [stepOp, ho, hc]
        simp only [stepBuiltin, ht, hx, evs] at e
        generalize ev T x = x at e
        split at hp
        · rename_i hk
          simp only [hk] at e
          exact tells_of_det (det_LenS x) e h
        · rename_i hk
          simp only [hk] at e
          exact tells_of_det (det_LenL x) e h
        · cases hp
      · cases hp
    · cases hp
  · cases hp


section
variable {P : Program} {w : World} {K K' : Value → World → Prop} (hk : ∀ v w', K v w' → K' v w')
include hk
theorem V_mono {s : Sem Value} (h : V P s w K) : V P s w K' := by
  unfold V at *; split at h
  · exact hk _ _ h
  · exact h.elim
theorem U_mono {s : Sem Unit} (h : U P s w K) : U P s w K' := by
  unfold U at *; split at h
  · exact hk _ _ h
  · exact h.elim
theorem CallF_mono {f : FuncId} {args : List Value} (h : CallF P f args w K) : CallF P f args w K' :=
  Calls.mono h fun e w' he => by cases e <;> first | exact hk _ _ he | exact he.elim
theorem CallV_mono {f : Value} {args : List Value} (h : CallV P f args w K) : CallV P f args w K' := by
  unfold CallV at *; split at h
  · exact ⟨h.1, CallF_mono hk h.2⟩
  · exact h.elim
theorem CallX_mono {f : FuncId} {args : List Value} (h : CallX P f args w K) : CallX P f args w K' := by
  unfold CallX at *; split at h
  · exact hk _ _ h
  · exact h.elim
theorem CallI_mono {x : Value} {name : String} {args : List Value} (h : CallI P x name args w K) : CallI P x name args w K' := by
  unfold CallI at *; split at h
  · split at h
    · exact ⟨h.1, CallF_mono hk h.2⟩
    · exact h.elim
  · exact h.elim
theorem Gen_mono {T : Tm} {o : Oper} (h : Gen P T o w K) : Gen P T o w K' := by
  unfold Gen at *; split at h
  · exact hk _ _ h
  · exact hk _ _ h
  · exact CallF_mono hk h
  · exact h.elim
theorem Det_mono {F : (Value → Prop) → Prop} (hF : Det F) (h : F (fun v => K v w)) : F (fun v => K' v w) := by
  obtain ⟨v, hv, hd⟩ := hF.out _ h
  exact hd _ (hk _ _ hv)
theorem Ld_mono {x : Value} (h : Ld x w K) : Ld x w K' := by
  unfold Ld at *; split at h
  · split at h
    · exact hk _ _ h
    · exact h.elim
  · exact h.elim
theorem LdN_mono {x : Value} {n : Nat} (h : LdN x n w K) : LdN x n w K' := by
  unfold LdN at *; split at h
  · split at h
    · exact hk _ _ h
    · exact h.elim
  · exact h.elim
theorem St_mono {x v : Value} (h : St x v w K) : St x v w K' := by
  unfold St at *; split at h
  · exact ⟨h.1, h.2.1, h.2.2.1, hk _ _ h.2.2.2⟩
  · exact h.elim
theorem StN_mono {x v : Value} {n : Nat} (h : StN x v n w K) : StN x v n w K' := by
  unfold StN at *; split at h
  · exact ⟨h.1, h.2.1, hk _ _ h.2.2⟩
  · exact h.elim
theorem New_mono {l : List Value} {t : TypeId} (h : New l t w K) : New l t w K' := hk _ _ h
theorem stepBin_mono {op : BinOp} {t : TypeId} {x y : Operand} {T : Tm} (h : stepBin P op t x y T w K) : stepBin P op t x y T w K' := by
  unfold stepBin at *
  split at h
  · split at h
    · exact Det_mono hk (det_Shf _ _ _ _) h
    · exact Det_mono hk (det_Shf _ _ _ _) h
    · exact Det_mono hk (det_Bin _ _ _ _) h
  · exact Det_mono hk (det_BinS _ _ _) h
  · cases hl : isNilLit (kTy P t) y with
    | false => rw [hl] at h; exact V_mono hk h
    | true =>
      rw [hl, cond_true] at h
      rw [cond_true]
      split at h
      · exact Det_mono hk (det_EqNil _ _) h
      · exact Det_mono hk (det_NeNil _ _) h
      · exact h.elim
theorem stepBuiltin_mono {b : Builtin} {at_ : Array TypeId} {ty : TypeId} {args : List Value} {A B : Prop} (hAB : A → B) (h : stepBuiltin P b at_ ty args w K A) : stepBuiltin P b at_ ty args w K' B := by
  unfold stepBuiltin at *
  split at h <;> first
    | exact hAB h
    | exact V_mono hk h
    | skip
  split at h
  · split at h
    · exact Det_mono hk (det_LenS _) h
    · exact Det_mono hk (det_LenL _) h
    · exact V_mono hk h
  · exact V_mono hk h
end
theorem stepOp_mono {P : Program} {o : Oper} {T : Tm} {w : World} {K K' : Value → World → Prop} (hk : ∀ v w', K v w' → K' v w') (h : stepOp P o T w K) : stepOp P o T w K' := by
  have hg : Gen P T o w K → Gen P T o w K' := Gen_mono hk
  unfold stepOp at *
  split at h <;> first
    | exact hk _ _ h
    | exact V_mono hk h
    | exact U_mono hk h
    | exact hg h
    | exact stepBin_mono hk h
    | exact New_mono hk h
    | exact Det_mono hk (det_Pick _ _ _) h
    | exact Det_mono hk (det_Ext _ _) h
    | exact Det_mono hk (det_NilCk _) h
    | exact h.elim
    | skip
  · split at h
    · exact Ld_mono hk h
    · exact LdN_mono hk h
    · exact h.elim
  · split at h
    · exact St_mono hk h
    · exact StN_mono hk h
    · exact h.elim
  · split at h
    · exact New_mono hk h
    · exact h.elim
  · split at h
    · exact Det_mono hk (det_FA _ _) h
    · exact V_mono hk h
  · split at h
    · exact Det_mono hk (det_IxS _ _ _) h
    · exact Det_mono hk (det_IxA _ _ _ _) h
    · exact V_mono hk h
  · split at h
    · exact Det_mono hk (det_IxStr _ _) h
    · exact V_mono hk h
  · split at h
    · exact Det_mono hk (det_Not _) h
    · exact V_mono hk h
  · rename_i t x _
    exact Det_mono hk (det_mkI P t (ev T x)) h
  · split at h
    · rename_i f _
      cases hb : hasBody P f with
      | true => rw [hb] at h; exact CallF_mono hk h
      | false => rw [hb] at h; exact CallX_mono hk h
    · exact CallI_mono hk h
    · exact CallV_mono hk h
    · exact stepBuiltin_mono hk hg h
    · exact hg h

theorem float_tells {P : Program} {o : Oper} {T : Tm} {w : World} {K : Value → Prop} (hp : floatB P o = true) (h : stepOp P o T w (fun v w' => w' = w ∧ K v)) :
    ∃ v, K v ∧ Tells P o T w v := by
  cases hq : pureB P o with
  | true => obtain ⟨v, hk, ht⟩ := pure_tells (K := K) hq (stepOp_mono (fun v w' hv => hv.2) h); exact ⟨v, hk, ht w⟩
  | false =>
    have viaV : ∀ (s : Sem Value), (∀ K' : Value → World → Prop, stepOp P o T w K' = V P s w K') → ∃ v, K v ∧ Tells P o T w v := by
      intro s e
      rw [e] at h
      obtain ⟨v, hk, hd⟩ := V_float h
      exact ⟨v, hk, fun K' hk' => by rw [e]; exact hd K' hk'⟩
    unfold floatB at hp
    unfold pureB at hq
    split at hp <;> rename_i ho <;> simp only [ho] at hq <;> first
      | (cases hq; done)
      | (cases hp; done)
      | exact viaV _ (fun K' => by simp only [stepOp, ho] <;> rfl)
      | skip
    · rename_i t a
      cases hk : kLoad P t with
      | none => simp only [stepOp, ho, hk] at h
      | some q =>
        cases q with
        | none =>
          have e : ∀ K' : Value → World → Prop, stepOp P o T w K' = Ld (ev T a) w K' := fun K' => by simp only [stepOp, ho, hk]
          rw [e] at h
          unfold Ld at h
          split at h
          · rename_i ad hx
            split at h
            · rename_i v hv; exact ⟨v, h.2, fun K' hk' => by rw [e, hx]; simp only [Ld, hv]; exact hk'⟩
            · exact h.elim
          · exact h.elim
        | some n =>
          have e : ∀ K' : Value → World → Prop, stepOp P o T w K' = LdN (ev T a) n w K' := fun K' => by simp only [stepOp, ho, hk]
          rw [e] at h
          unfold LdN at h
          split at h
          · rename_i ad hx
            split at h
            · rename_i v hv; exact ⟨_, h.2, fun K' hk' => by rw [e, hx]; simp only [LdN, hv]; exact hk'⟩
            · exact h.elim
          · exact h.elim
    · rename_i s x f
      cases hk : kField P s f with
      | some off => rw [hk] at hq; cases hq
      | none => exact viaV _ (fun K' => by simp only [stepOp, ho, hk] <;> rfl)
    · rename_i t x i
      cases hk : kIndexAddr P t with
      | slice n => rw [hk] at hq; cases hq
      | array l n => rw [hk] at hq; cases hq
      | other => exact viaV _ (fun K' => by simp only [stepOp, ho, hk] <;> rfl)
    · rename_i t x i
      cases hk : kTy P t with
      | string => rw [hk] at hq; cases hq
      | _ => exact viaV _ (fun K' => by simp only [stepOp, ho, hk] <;> rfl)
    · rename_i op t x y u
      cases hk : kTy P t with
      | string => rw [hk] at hq; cases hq
      | int k => rw [hk] at hq; cases hq
      | _ => rw [hk] at hq; exact viaV _ (fun K' => by simp only [stepOp, ho, stepBin, hk, hq, cond_false] <;> rfl)
    · rename_i op t x
      cases op with
      | not => cases hq
      | _ => exact viaV _ (fun K' => by simp only [stepOp, ho] <;> rfl)
    · rename_i c
      split at hp
      · rename_i b hc
        have e : ∀ (w' : World) (K' : Value → World → Prop), stepOp P o T w' K' = stepBuiltin P b c.argTypes o.type (evs T c.args.toList) w' K' (Gen P T o w' K') := by
          intro w' K'; simp only [stepOp, ho, hc]
        cases b <;> first
          | (cases hp; done)
          | exact viaV _ (fun K' => by rw [e] <;> rfl)
          | skip
        simp only [stepBuiltin] at e
        split at e
        · rename_i t x ht hx
          split at e
          · obtain ⟨v, hk, ht⟩ := tells_of_det (K := K) (det_LenS x) e (stepOp_mono (fun v w' hv => hv.2) h); exact ⟨v, hk, ht w⟩
          · obtain ⟨v, hk, ht⟩ := tells_of_det (K := K) (det_LenL x) e (stepOp_mono (fun v w' hv => hv.2) h); exact ⟨v, hk, ht w⟩
          · exact viaV _ (fun K' => e w K')
        · exact viaV _ (fun K' => e w K')
      · cases hp

/-! the order does not matter -/
section
variable (P : Program) (all : List Oper) (ms : List Nat)

/-- is the guard met, as far as the temps tell -/
inductive Met (o : Oper) (T : Tm) : Bool → Prop
  | free : o.guard = none → Met o T true
  | yes (j : Nat) (g : Tmp) (want : Bool) : o.guard = some (j, want) → guardTmp all j = some g → T g = .bool want → Met o T true
  | no (j : Nat) (g : Tmp) (want : Bool) : o.guard = some (j, want) → guardTmp all j = some g → T g = .bool (!want) → Met o T false

/-- a float, done: its value, and what must stay so -/
def Fy (o : Oper) (T : Tm) (w : World) (v : Value) (c : World → Prop) : Prop :=
  (Met all o T true ∧ Tells P o T w v ∧ (∀ w', c w' → Tells P o T w' v)) ∨ (Met all o T false ∧ v = undef)

def Ey (o : Oper) (T : Tm) (w : World) (K : Bool → Tm → World → Prop) : Prop :=
  (Met all o T true ∧ stepOp P o T w (fun v w' => K true (updO T o.dst v) w')) ∨ (Met all o T false ∧ K false (updO T o.dst undef) w)

/-- some order, floats whenever they may, of what acts each one that may -/
def Any (K : Tm → World → Prop) : Nat → List Nat → List (Nat × (World → Prop)) → Tm → World → Prop
  | 0, rem, _, T, w => rem = [] ∧ K T w
  | n + 1, rem, pend, T, w =>
    (∃ i o v c, i ∈ rem ∧ rdyB ms rem i = true ∧ all[i]? = some o ∧ floatB P o = true ∧ Fy P all o T w v c ∧ Any K n (rem.erase i) ((i, c) :: pend) (updO T o.dst v) w) ∨
    (rem ≠ [] ∧ ∀ i ∈ rem, rdyB ms rem i = true → ∃ o, all[i]? = some o ∧ floatB P o = false ∧
      Ey P all o T w (fun b T' w' => (b = true → recheck (ms.getD i 0) pend w') ∧ Any K n (rem.erase i) pend T' w'))
end

theorem upd_lit {T : Tm} {g : Nat} {b : Bool} (h : T g = .bool b) : upd T g (.bool b) = T := upd_same _ _ _ h

theorem Fy_of {P : Program} {all : List Oper} {o : Oper} {T : Tm} {w : World} {K : Tm → (World → Prop) → Prop} (hf : floatB P o = true) (h : floatStep P all o T w K) :
    ∃ v c, Fy P all o T w v c ∧ K (updO T o.dst v) c := by
  have main : Met all o T true → fK P o T w K → ∃ v c, Fy P all o T w v c ∧ K (updO T o.dst v) c := by
    intro hm hs
    unfold fK at hs
    cases hq : pureB P o with
    | true =>
      rw [hq, cond_true] at hs
      obtain ⟨v, hk, ht⟩ := pure_tells (K := fun v => K (updO T o.dst v) (fun _ => True)) hq hs
      exact ⟨v, _, .inl ⟨hm, ht w, fun w' _ => ht w'⟩, hk⟩
    | false =>
      rw [hq, cond_false] at hs
      obtain ⟨v, hk, ht⟩ := float_tells (K := fun v => K (updO T o.dst v) (rc P o T v)) hf hs
      refine ⟨v, _, .inl ⟨hm, ht, fun w' hc => ?_⟩, hk⟩
      simp only [rc, hq, cond_false] at hc
      obtain ⟨v', rfl, ht'⟩ := float_tells (K := fun v' => v' = v) hf hc
      exact ht'
  unfold floatStep at h
  split at h
  · rename_i hg; exact main (.free hg) h
  · rename_i j want hg
    split at h
    · exact h.elim
    · rename_i g hgt
      unfold IfV at h
      split at h
      · rename_i hT
        rw [upd_lit hT] at h
        cases want with
        | true => rw [cond_true] at h; exact main (.yes j g true hg hgt hT) h
        | false => rw [cond_false] at h; exact ⟨undef, _, .inr ⟨.no j g false hg hgt hT, rfl⟩, h⟩
      · rename_i hT
        rw [upd_lit hT] at h
        cases want with
        | true => rw [cond_true] at h; exact ⟨undef, _, .inr ⟨.no j g true hg hgt hT, rfl⟩, h⟩
        | false => rw [cond_false] at h; exact main (.yes j g false hg hgt hT) h
      · exact h.elim
theorem Ey_of {P : Program} {all : List Oper} {o : Oper} {T : Tm} {w : World} {K : Bool → Tm → World → Prop} (h : actStep P all o T w K) : Ey P all o T w K := by
  unfold actStep at h
  split at h
  · rename_i hg; exact .inl ⟨.free hg, h⟩
  · rename_i j want hg
    split at h
    · exact h.elim
    · rename_i g hgt
      unfold IfV at h
      split at h
      · rename_i hT
        rw [upd_lit hT] at h
        cases want with
        | true => exact .inl ⟨.yes j g true hg hgt hT, h⟩
        | false => exact .inr ⟨.no j g false hg hgt hT, h⟩
      · rename_i hT
        rw [upd_lit hT] at h
        cases want with
        | true => exact .inr ⟨.no j g true hg hgt hT, h⟩
        | false => exact .inl ⟨.yes j g false hg hgt hT, h⟩
      · exact h.elim

theorem allOf_mem {f : Nat → Prop} : ∀ {l : List Nat}, allOf l f → ∀ i ∈ l, f i
  | [], _, i, hi => by cases hi
  | [j], h, i, hi => by
    simp at hi; subst hi; exact h
  | j :: k :: l, h, i, hi => by
    cases hi with
    | head => exact h.1
    | tail _ hi => exact allOf_mem (l := k :: l) h.2 i hi

theorem firstFloat_some {P : Program} {all : List Oper} {ms rem : List Nat} {i : Nat} : ∀ {l : List Nat}, firstFloat P all ms rem l = some i →
    i ∈ l ∧ rdyB ms rem i = true ∧ ∃ o, all[i]? = some o ∧ floatB P o = true
  | [], h => by cases h
  | j :: l, h => by
    unfold firstFloat at h
    split at h
    · rename_i o ho
      cases hb : floatB P o && rdyB ms rem j with
      | true => rw [hb] at h; cases h; simp at hb; exact ⟨List.mem_cons_self .., hb.2, o, ho, hb.1⟩
      | false => rw [hb] at h; obtain ⟨h1, h2⟩ := firstFloat_some h; exact ⟨List.mem_cons_of_mem _ h1, h2⟩
    · obtain ⟨h1, h2⟩ := firstFloat_some h; exact ⟨List.mem_cons_of_mem _ h1, h2⟩
theorem firstFloat_none {P : Program} {all : List Oper} {ms rem : List Nat} : ∀ {l : List Nat}, firstFloat P all ms rem l = none →
    ∀ i ∈ l, rdyB ms rem i = true → ∀ o, all[i]? = some o → floatB P o = false
  | [], _, i, hi => by cases hi
  | j :: l, h, i, hi => by
    intro hr o ho
    unfold firstFloat at h
    split at h
    · rename_i o' ho'
      cases hb : floatB P o' && rdyB ms rem j with
      | true => rw [hb] at h; cases h
      | false =>
        rw [hb] at h
        cases hi with
        | head => rw [ho] at ho'; cases ho'; simp [hr] at hb; exact hb
        | tail _ hi => exact firstFloat_none h i hi hr o ho
    · rename_i hn
      cases hi with
      | head => rw [ho] at hn; cases hn
      | tail _ hi => exact firstFloat_none h i hi hr o ho

theorem Ey_mono {P : Program} {all : List Oper} {o : Oper} {T : Tm} {w : World} {K K' : Bool → Tm → World → Prop} (hk : ∀ b T' w', K b T' w' → K' b T' w') (h : Ey P all o T w K) : Ey P all o T w K' := by
  rcases h with ⟨h1, h2⟩ | ⟨h1, h2⟩
  · exact .inl ⟨h1, stepOp_mono (fun v w' => hk _ _ _) h2⟩
  · exact .inr ⟨h1, hk _ _ _ h2⟩

/-! apart -/
structure Apart (all : List Oper) (x y : Oper) : Prop where
  a1 : ∀ d, x.dst = some d → d ∉ looks all y
  a2 : ∀ d, x.dst = some d → y.dst ≠ some d
  a3 : ∀ d, y.dst = some d → d ∉ looks all x
theorem Apart.symm {all : List Oper} {x y : Oper} (h : Apart all x y) : Apart all y x :=
  ⟨h.a3, fun d hd hx => h.a2 d hx hd, h.a1⟩
theorem notIn_spec {d : Option Tmp} {l : List Tmp} (h : notIn d l = true) : ∀ k, d = some k → k ∉ l := by
  intro k hk hm
  subst hk
  simp only [notIn, List.all_eq_true] at h
  have := h k hm
  simp [Nat.beq_refl] at this
theorem apart_of {all : List Oper} {x y : Oper} (h : apartB all x y = true) : Apart all x y := by
  simp only [apartB, Bool.and_eq_true] at h
  refine ⟨notIn_spec h.1.1, ?_, notIn_spec h.2⟩
  intro d hd hy
  have := h.1.2
  rw [hd, hy] at this
  simp [notSame, Nat.beq_refl] at this

theorem updO_ne {T : Tm} {d : Option Tmp} {v : Value} {t : Tmp} (h : d ≠ some t) : updO T d v t = T t := by
  cases d with
  | none => rfl
  | some k =>
    simp only [updO, upd]
    rw [nat_beq_ne (fun e => h (by rw [e]))]
    rfl
theorem updO_comm {T : Tm} {d e : Option Tmp} (u v : Value) (h : ∀ k, d = some k → e ≠ some k) : updO (updO T d u) e v = updO (updO T e v) d u := by
  cases d with
  | none => rfl
  | some k =>
    cases e with
    | none => rfl
    | some j =>
      have hne : k ≠ j := fun e => h k rfl (by rw [e])
      funext i
      simp only [updO, upd]
      by_cases h1 : i = k
      · subst h1; rw [nat_beq_ne hne, Nat.beq_refl]; rfl
      · rw [nat_beq_ne h1]
        cases hb : Nat.beq i j <;> rfl

theorem looks_ops {all : List Oper} {o : Oper} {t : Tmp} (h : t ∈ tmpsOf o.op.operands.toList) : t ∈ looks all o := by
  unfold looks
  split
  · exact h
  · split
    · exact List.mem_cons_of_mem _ h
    · exact h
theorem looks_guard {all : List Oper} {o : Oper} {j : Nat} {b : Bool} {g : Tmp} (h : o.guard = some (j, b)) (hg : guardTmp all j = some g) : g ∈ looks all o := by
  unfold looks
  rw [h]
  simp only [hg]
  exact List.mem_cons_self ..

theorem stepOp_put {P : Program} {all : List Oper} {o : Oper} {T : Tm} {d : Option Tmp} {v : Value} {w : World} {K : Value → World → Prop} (hs : ∀ cs b, o.op ≠ .select cs b)
    (h : ∀ k, d = some k → k ∉ looks all o) : stepOp P o (updO T d v) w K = stepOp P o T w K :=
  stepOp_congr hs (ev_congr fun t ht => updO_ne fun e => h t e (looks_ops ht))
theorem Met.put {all : List Oper} {o : Oper} {T : Tm} {d : Option Tmp} {v : Value} {b : Bool} (h : ∀ k, d = some k → k ∉ looks all o) (hm : Met all o T b) : Met all o (updO T d v) b := by
  cases hm with
  | free hg => exact .free hg
  | yes j g want h1 h2 h3 => exact .yes j g want h1 h2 (by rw [updO_ne fun e => h g e (looks_guard h1 h2)]; exact h3)
  | no j g want h1 h2 h3 => exact .no j g want h1 h2 (by rw [updO_ne fun e => h g e (looks_guard h1 h2)]; exact h3)
theorem Met.unput {all : List Oper} {o : Oper} {T : Tm} {d : Option Tmp} {v : Value} {b : Bool} (h : ∀ k, d = some k → k ∉ looks all o) (hm : Met all o (updO T d v) b) : Met all o T b := by
  cases hm with
  | free hg => exact .free hg
  | yes j g want h1 h2 h3 => exact .yes j g want h1 h2 (by rw [updO_ne fun e => h g e (looks_guard h1 h2)] at h3; exact h3)
  | no j g want h1 h2 h3 => exact .no j g want h1 h2 (by rw [updO_ne fun e => h g e (looks_guard h1 h2)] at h3; exact h3)

section
variable {P : Program} {all : List Oper} {ms : List Nat} {K : Tm → World → Prop}

theorem Tells.put {o : Oper} {T : Tm} {d : Option Tmp} {u v : Value} {w : World} (hs : ∀ cs b, o.op ≠ .select cs b) (h : ∀ k, d = some k → k ∉ looks all o) (ht : Tells P o T w v) : Tells P o (updO T d u) w v :=
  fun K' hk => by rw [stepOp_put hs h]; exact ht K' hk
theorem Tells.unput {o : Oper} {T : Tm} {d : Option Tmp} {u v : Value} {w : World} (hs : ∀ cs b, o.op ≠ .select cs b) (h : ∀ k, d = some k → k ∉ looks all o) (ht : Tells P o (updO T d u) w v) : Tells P o T w v :=
  fun K' hk => by have := ht K' hk; rwa [stepOp_put hs h] at this
theorem Fy.put {o : Oper} {T : Tm} {d : Option Tmp} {u v : Value} {w : World} {c : World → Prop} (hs : ∀ cs b, o.op ≠ .select cs b) (h : ∀ k, d = some k → k ∉ looks all o) (hf : Fy P all o T w v c) : Fy P all o (updO T d u) w v c := by
  rcases hf with ⟨h1, h2, h3⟩ | ⟨h1, h2⟩
  · exact .inl ⟨h1.put h, h2.put hs h, fun w' hc => (h3 w' hc).put hs h⟩
  · exact .inr ⟨h1.put h, h2⟩
theorem Fy.unput {o : Oper} {T : Tm} {d : Option Tmp} {u v : Value} {w : World} {c : World → Prop} (hs : ∀ cs b, o.op ≠ .select cs b) (h : ∀ k, d = some k → k ∉ looks all o) (hf : Fy P all o (updO T d u) w v c) : Fy P all o T w v c := by
  rcases hf with ⟨h1, h2, h3⟩ | ⟨h1, h2⟩
  · exact .inl ⟨h1.unput h, h2.unput hs h, fun w' hc => (h3 w' hc).unput hs h⟩
  · exact .inr ⟨h1.unput h, h2⟩

theorem recheck_iff {m : Nat} {w : World} : ∀ {l : List (Nat × (World → Prop))}, recheck m l w ↔ ∀ p ∈ l, tb m p.1 = false → p.2 w
  | [] => by simp [recheck]
  | (r, c) :: l => by
    unfold recheck
    cases hb : tb m r with
    | true => simp only [cond_true, recheck_iff (l := l)]; constructor
              · intro h p hp ht
                cases hp with
                | head => rw [hb] at ht; cases ht
                | tail _ hp => exact h p hp ht
              · intro h p hp ht; exact h p (List.mem_cons_of_mem _ hp) ht
    | false => simp only [cond_false, recheck_iff (l := l)]; constructor
               · rintro ⟨h1, h⟩ p hp ht
                 cases hp with
                 | head => exact h1
                 | tail _ hp => exact h p hp ht
               · intro h; exact ⟨h (r, c) (List.mem_cons_self ..) hb, fun p hp ht => h p (List.mem_cons_of_mem _ hp) ht⟩

theorem Any_pend : ∀ (n : Nat) (rem : List Nat) (pend pend' : List (Nat × (World → Prop))) (T : Tm) (w : World), (∀ p ∈ pend', p ∈ pend) →
    Any P all ms K n rem pend T w → Any P all ms K n rem pend' T w := by
  intro n
  induction n with
  | zero => intro rem pend pend' T w _ h; exact h
  | succ n ih =>
    intro rem pend pend' T w hp h
    rcases h with ⟨i, o, v, c, h1, h2, h3, h4, h5, h6⟩ | ⟨h1, h2⟩
    · refine .inl ⟨i, o, v, c, h1, h2, h3, h4, h5, ih _ _ _ _ _ ?_ h6⟩
      intro p hq
      cases hq with
      | head => exact List.mem_cons_self ..
      | tail _ hq => exact List.mem_cons_of_mem _ (hp p hq)
    · refine .inr ⟨h1, fun i hi hr => ?_⟩
      obtain ⟨o, ho, hf, he⟩ := h2 i hi hr
      exact ⟨o, ho, hf, Ey_mono (fun b T' w' hk => ⟨fun hb => recheck_iff.2 fun p hq => recheck_iff.1 (hk.1 hb) p (hp p hq), ih _ _ _ _ _ hp hk.2⟩) he⟩

theorem rdy_erase {rem : List Nat} {i j : Nat} (h : rdyB ms rem i = true) : rdyB ms (rem.erase j) i = true := by
  simp only [rdyB, List.all_eq_true] at *
  exact fun k hk => h k (List.mem_of_mem_erase hk)
theorem rdy_not {rem : List Nat} {i j : Nat} (h : rdyB ms rem i = true) (hj : j ∈ rem) : tb (ms.getD i 0) j = false := by
  simp only [rdyB, List.all_eq_true] at h
  simpa using h j hj

/-- what the static look gives -/
structure RegOk (all : List Oper) (ms : List Nat) : Prop where
  sel : ∀ (i : Nat) (o : Oper), all[i]? = some o → ∀ cs b, o.op ≠ .select cs b
  edge : ∀ (i : Nat) (o : Oper), all[i]? = some o → ∀ p ∈ preds o, p < i
  apart : ∀ (i j : Nat) (x y : Oper), all[i]? = some x → all[j]? = some y → i ≠ j → tb (ms.getD i 0) j = false → tb (ms.getD j 0) i = false → Apart all x y
  mask : ∀ (i : Nat) (o : Oper), all[i]? = some o → ∀ j, tb (ms.getD i 0) j = true → ∃ p ∈ preds o, p = j ∨ tb (ms.getD p 0) j = true

variable (hR : RegOk all ms)
include hR

theorem float_first : ∀ (n : Nat) (rem : List Nat) (pend : List (Nat × (World → Prop))) (T : Tm) (w : World) (i : Nat) (o : Oper), rem.Nodup → Any P all ms K (n + 1) rem pend T w →
    i ∈ rem → rdyB ms rem i = true → all[i]? = some o → floatB P o = true →
    ∃ v c, Fy P all o T w v c ∧ Any P all ms K n (rem.erase i) ((i, c) :: pend) (updO T o.dst v) w := by
  intro n
  induction n with
  | zero =>
    intro rem pend T w i o hnd h hi hr ho hf
    rcases h with ⟨f, of, v, c, h1, h2, h3, h4, h5, h6⟩ | ⟨h1, h2⟩
    · by_cases hfi : f = i
      · subst hfi; rw [ho] at h3; cases h3; exact ⟨v, c, h5, h6⟩
      · have := (List.mem_erase_of_ne (Ne.symm hfi)).2 hi
        rw [h6.1] at this; cases this
    · obtain ⟨o', ho', hf', _⟩ := h2 i hi hr
      rw [ho] at ho'; cases ho'; rw [hf] at hf'; cases hf'
  | succ m ih =>
    intro rem pend T w i o hnd h hi hr ho hf
    rcases h with ⟨f, of, v1, c1, h1, h2, h3, h4, h5, h6⟩ | ⟨h1, h2⟩
    · by_cases hfi : f = i
      · subst hfi; rw [ho] at h3; cases h3; exact ⟨v1, c1, h5, h6⟩
      · have hi' := (List.mem_erase_of_ne (Ne.symm hfi)).2 hi
        obtain ⟨v, c, hF, hA⟩ := ih _ _ _ _ i o (hnd.erase f) h6 hi' (rdy_erase hr) ho hf
        have hap : Apart all of o := hR.apart f i of o h3 ho hfi (rdy_not h2 hi) (rdy_not hr h1)
        refine ⟨v, c, hF.unput (hR.sel i o ho) hap.a1, .inl ⟨f, of, v1, c1, (List.mem_erase_of_ne hfi).2 h1, rdy_erase h2, h3, h4, h5.put (hR.sel f of h3) hap.a3, ?_⟩⟩
        rw [List.erase_comm, updO_comm _ _ (fun k hk => hap.symm.a2 k hk)]
        refine Any_pend _ _ _ _ _ _ ?_ hA
        intro p hp
        cases hp with
        | head => exact List.mem_cons_of_mem _ (List.mem_cons_self ..)
        | tail _ hp =>
          cases hp with
          | head => exact List.mem_cons_self ..
          | tail _ hp => exact List.mem_cons_of_mem _ (List.mem_cons_of_mem _ hp)
    · obtain ⟨o', ho', hf', _⟩ := h2 i hi hr
      rw [ho] at ho'; cases ho'; rw [hf] at hf'; cases hf'

omit hR in
theorem Ey_put {o : Oper} {T : Tm} {d : Option Tmp} {u : Value} {w : World} {K2 K3 : Bool → Tm → World → Prop} (hs : ∀ cs b, o.op ≠ .select cs b) (h : ∀ k, d = some k → k ∉ looks all o)
    (hd : ∀ k, d = some k → o.dst ≠ some k) (he : Ey P all o (updO T d u) w K2)
    (hk : ∀ b v w', (b = false → w' = w) → K2 b (updO (updO T o.dst v) d u) w' → K3 b (updO T o.dst v) w') : Ey P all o T w K3 := by
  rcases he with ⟨h1, h2⟩ | ⟨h1, h2⟩
  · refine .inl ⟨h1.unput h, ?_⟩
    rw [stepOp_put hs h] at h2
    exact stepOp_mono (fun v w' hv => hk true v w' (fun e => by cases e) (by rw [updO_comm _ _ (fun k hk' hd' => hd k hd' hk')]; exact hv)) h2
  · refine .inr ⟨h1.unput h, hk false undef w (fun _ => rfl) ?_⟩
    rw [updO_comm _ _ (fun k hk' hd' => hd k hd' hk')]; exact h2

theorem act_first : ∀ (n : Nat) (rem : List Nat) (pend : List (Nat × (World → Prop))) (T : Tm) (w : World) (i : Nat) (o : Oper), rem.Nodup → Any P all ms K (n + 1) rem pend T w →
    i ∈ rem → rdyB ms rem i = true → all[i]? = some o → floatB P o = false →
    Ey P all o T w (fun b T' w' => (b = true → recheck (ms.getD i 0) pend w') ∧ Any P all ms K n (rem.erase i) pend T' w') := by
  intro n
  induction n with
  | zero =>
    intro rem pend T w i o hnd h hi hr ho hf
    rcases h with ⟨f, of, v, c, h1, h2, h3, h4, h5, h6⟩ | ⟨h1, h2⟩
    · have hfi : f ≠ i := fun e => by subst e; rw [ho] at h3; cases h3; rw [hf] at h4; cases h4
      have := (List.mem_erase_of_ne (Ne.symm hfi)).2 hi
      rw [h6.1] at this; cases this
    · obtain ⟨o', ho', hf', he⟩ := h2 i hi hr
      rw [ho] at ho'; cases ho'; exact he
  | succ m ih =>
    intro rem pend T w i o hnd h hi hr ho hf
    rcases h with ⟨f, of, v1, c1, h1, h2, h3, h4, h5, h6⟩ | ⟨h1, h2⟩
    · have hfi : f ≠ i := fun e => by subst e; rw [ho] at h3; cases h3; rw [hf] at h4; cases h4
      have hi' := (List.mem_erase_of_ne (Ne.symm hfi)).2 hi
      have he := ih _ _ _ _ i o (hnd.erase f) h6 hi' (rdy_erase hr) ho hf
      have hap : Apart all of o := hR.apart f i of o h3 ho hfi (rdy_not h2 hi) (rdy_not hr h1)
      have hsf := hR.sel f of h3
      refine Ey_put (hR.sel i o ho) hap.a1 hap.a2 he ?_
      rintro b v w' hw' ⟨g1, g2⟩
      refine ⟨fun hb => ?_, .inl ⟨f, of, v1, c1, (List.mem_erase_of_ne hfi).2 h1, rdy_erase h2, h3, h4, ?_, ?_⟩⟩
      · exact recheck_iff.2 fun p hp => recheck_iff.1 (g1 hb) p (List.mem_cons_of_mem _ hp)
      · rcases h5 with ⟨q1, q2, q3⟩ | ⟨q1, q2⟩
        · refine .inl ⟨q1.put hap.a3, ?_, fun w'' hc => (q3 w'' hc).put hsf hap.a3⟩
          cases b with
          | true => exact (q3 w' (recheck_iff.1 (g1 rfl) (f, c1) (List.mem_cons_self ..) (rdy_not hr h1))).put hsf hap.a3
          | false => rw [hw' rfl]; exact q2.put hsf hap.a3
        · exact .inr ⟨q1.put hap.a3, q2⟩
      · rw [List.erase_comm]; exact g2
    · obtain ⟨o', ho', hf', he⟩ := h2 i hi hr
      rw [ho] at ho'; cases ho'; exact he
end


theorem Any_pend2 {P : Program} {all : List Oper} {ms : List Nat} {K : Tm → World → Prop} : ∀ (n : Nat) (rem : List Nat) (pend pend' : List (Nat × (World → Prop))) (T : Tm) (w : World), (∀ p ∈ pend', p ∈ pend ∨ ∀ w, p.2 w) →
    Any P all ms K n rem pend T w → Any P all ms K n rem pend' T w := by
  intro n
  induction n with
  | zero => intro rem pend pend' T w _ h; exact h
  | succ n ih =>
    intro rem pend pend' T w hp h
    rcases h with ⟨i, o, v, c, h1, h2, h3, h4, h5, h6⟩ | ⟨h1, h2⟩
    · refine .inl ⟨i, o, v, c, h1, h2, h3, h4, h5, ih _ _ _ _ _ ?_ h6⟩
      intro p hq
      cases hq with
      | head => exact .inl (List.mem_cons_self ..)
      | tail _ hq => exact (hp p hq).imp (List.mem_cons_of_mem _) id
    · refine .inr ⟨h1, fun i hi hr => ?_⟩
      obtain ⟨o, ho, hf, he⟩ := h2 i hi hr
      refine ⟨o, ho, hf, Ey_mono (fun b T' w' hk => ⟨fun hb => recheck_iff.2 fun p hq ht => ?_, ih _ _ _ _ _ hp hk.2⟩) he⟩
      rcases hp p hq with hm | hm
      · exact recheck_iff.1 (hk.1 hb) p hm ht
      · exact hm w'

theorem Any_of {P : Program} {all : List Oper} {ms : List Nat} {K : Tm → World → Prop} : ∀ (n : Nat) (rem : List Nat) (pend : List (Nat × (World → Prop))) (T : Tm) (w : World),
    rem.length = n → evalD P all ms K n rem pend T w → Any P all ms K n rem pend T w := by
  intro n
  induction n with
  | zero => intro rem pend T w hl h; cases rem with | nil => exact ⟨rfl, h⟩ | cons _ _ => cases hl
  | succ n ih =>
    intro rem pend T w hl h
    cases rem with
    | nil => cases hl
    | cons r0 rl =>
      simp only [evalD] at h
      split at h
      · rename_i i hi
        obtain ⟨h1, h2, o, h3, h4⟩ := firstFloat_some hi
        rw [h3] at h
        obtain ⟨v, c, hF, hK⟩ := Fy_of h4 h
        have hl' : ((r0 :: rl).erase i).length = n := by rw [List.length_erase_of_mem h1, hl]; rfl
        cases hq : pureB P o with
        | true =>
          rw [hq, cond_true] at hK
          have hA := ih _ _ _ _ hl' hK
          have hF' : Fy P all o T w v (fun _ => True) := by
            rcases hF with ⟨q1, q2, q3⟩ | q
            · refine .inl ⟨q1, q2, fun w' _ => ?_⟩
              obtain ⟨v', rfl, ht⟩ := pure_tells (K := fun v' => v' = v) hq (q2 _ rfl)
              exact ht w'
            · exact .inr q
          refine .inl ⟨i, o, v, _, h1, h2, h3, h4, hF', Any_pend2 _ _ _ _ _ _ (fun p hp => ?_) hA⟩
          cases hp with
          | head => exact .inr (fun _ => trivial)
          | tail _ hp => exact .inl hp
        | false =>
          rw [hq, cond_false] at hK
          exact .inl ⟨i, o, v, c, h1, h2, h3, h4, hF, ih _ _ _ _ hl' hK⟩
      · rename_i hnone
        refine .inr ⟨by simp, fun i hi hr => ?_⟩
        have := allOf_mem h i (List.mem_filter.2 ⟨hi, hr⟩)
        split at this
        · rename_i o ho
          refine ⟨o, ho, firstFloat_none hnone i hi hr o ho, Ey_mono ?_ (Ey_of this)⟩
          intro b T' w' hk
          have hl' : ((r0 :: rl).erase i).length = n := by rw [List.length_erase_of_mem hi, hl]; rfl
          cases b with
          | true => exact ⟨fun _ => hk.1, ih _ _ _ _ hl' hk.2⟩
          | false => exact ⟨(fun h => by cases h), ih _ _ _ _ hl' hk⟩
        · exact this.elim


/-! the static look -/
theorem edgesOk_spec : ∀ {l : List Oper} {i : Nat}, edgesOk l i = true → ∀ (j : Nat) (o : Oper), l[j]? = some o → (∀ p ∈ preds o, p < i + j) ∧ ∀ cs b, o.op ≠ .select cs b
  | [], i, _, j, o, h => by simp at h
  | x :: l, i, he, j, o, h => by
    simp only [edgesOk, Bool.and_eq_true, List.all_eq_true] at he
    cases j with
    | zero =>
      simp at h; subst h
      refine ⟨fun p hp => ?_, fun cs b hs => ?_⟩
      · have := he.1.1 p hp; rw [Nat.blt_eq] at this; omega
      · have := he.1.2; simp [edgesOk.noSel, hs] at this
    | succ j =>
      simp at h
      have := edgesOk_spec he.2 j o h
      exact ⟨fun p hp => by have := this.1 p hp; omega, this.2⟩
theorem apartFrom_spec {all : List Oper} {ms : List Nat} {i : Nat} {x : Oper} : ∀ {l : List Oper} {j0 : Nat}, apartFrom all ms i x l j0 = true →
    ∀ (j : Nat) (y : Oper), l[j]? = some y → tb (ms.getD (j0 + j) 0) i = false → apartB all x y = true
  | [], _, _, j, y, h, _ => by simp at h
  | z :: l, j0, he, j, y, h, ht => by
    simp only [apartFrom, Bool.and_eq_true, Bool.or_eq_true] at he
    cases j with
    | zero => simp at h; subst h; rcases he.1 with h1 | h1
              · rw [Nat.add_zero] at ht; rw [ht] at h1; cases h1
              · exact h1
    | succ j => simp at h; exact apartFrom_spec he.2 j y h (by rw [← ht]; congr 2; omega)
theorem apartAll_spec {all : List Oper} {ms : List Nat} : ∀ {l : List Oper} {i0 : Nat}, apartAll all ms l i0 = true →
    ∀ (i j : Nat) (x y : Oper), i < j → l[i]? = some x → l[j]? = some y → tb (ms.getD (i0 + j) 0) (i0 + i) = false → apartB all x y = true
  | [], _, _, i, j, x, y, _, h, _, _ => by simp at h
  | z :: l, i0, he, i, j, x, y, hij, hx, hy, ht => by
    simp only [apartAll, Bool.and_eq_true] at he
    cases j with
    | zero => omega
    | succ j =>
      simp at hy
      cases i with
      | zero => simp at hx; subst hx; exact apartFrom_spec he.1 j y hy (by rw [Nat.add_zero] at ht; rw [← ht]; congr 2; omega)
      | succ i =>
        simp at hx
        have e1 : i0 + 1 + j = i0 + (j + 1) := by omega
        have e2 : i0 + 1 + i = i0 + (i + 1) := by omega
        exact apartAll_spec he.2 i j x y (by omega) hx hy (by rw [e1, e2]; exact ht)

theorem masksFrom_getD : ∀ (l : List Oper) (ms : List Nat) (k : Nat), k < ms.length → (masksFrom l ms).getD k 0 = ms.getD k 0
  | [], ms, k, _ => rfl
  | o :: l, ms, k, h => by
    simp only [masksFrom]
    rw [masksFrom_getD l _ k (by simp; omega)]
    simp only [List.getD_eq_getElem?_getD]
    rw [List.getElem?_append_left h]
theorem masksFrom_at : ∀ (l : List Oper) (ms : List Nat) (j : Nat) (o : Oper), l[j]? = some o →
    ∃ pre : List Nat, pre.length = ms.length + j ∧ (∀ k, k < pre.length → (masksFrom l ms).getD k 0 = pre.getD k 0) ∧ (masksFrom l ms).getD (ms.length + j) 0 = maskOf pre o
  | [], _, _, _, h => by simp at h
  | x :: l, ms, j, o, h => by
    cases j with
    | zero =>
      simp at h; subst h
      refine ⟨ms, by simp, fun k hk => ?_, ?_⟩
      · simp only [masksFrom]
        rw [masksFrom_getD l _ k (by simp; omega)]
        simp only [List.getD_eq_getElem?_getD]
        rw [List.getElem?_append_left hk]
      · simp only [masksFrom, Nat.add_zero]
        rw [masksFrom_getD l _ _ (by simp)]
        simp
    | succ j =>
      simp at h
      obtain ⟨pre, h1, h2, h3⟩ := masksFrom_at l (ms ++ [maskOf ms x]) j o h
      refine ⟨pre, by rw [h1]; simp; omega, fun k hk => h2 k hk, ?_⟩
      simp only [masksFrom]
      rw [← h3]; congr 1; simp; omega

theorem tb_testBit (m r : Nat) : tb m r = m.testBit r := by
  unfold tb Nat.testBit
  have h1 : Nat.land (Nat.shiftRight m r) 1 = (m >>> r) % 2 := by
    show (m >>> r) &&& 1 = _
    exact Nat.and_one_is_mod _
  have h2 : (1 &&& m >>> r) = (m >>> r) % 2 := by rw [Nat.and_comm]; exact Nat.and_one_is_mod _
  rw [h1, h2]
  rcases Nat.mod_two_eq_zero_or_one (m >>> r) with h | h <;> rw [h] <;> rfl

theorem mask_spec {pre : List Nat} {o : Oper} {j : Nat} (h : tb (maskOf pre o) j = true) : ∃ p ∈ preds o, p = j ∨ tb (pre.getD p 0) j = true := by
  unfold maskOf at h
  rw [tb_testBit] at h
  have key : ∀ (l : List Nat) (s : Nat), (l.foldl (fun s p => Nat.lor s (Nat.lor (Nat.shiftLeft 1 p) (pre.getD p 0))) s).testBit j = true →
      s.testBit j = true ∨ ∃ p ∈ l, p = j ∨ (pre.getD p 0).testBit j = true := by
    intro l
    induction l with
    | nil => intro s h; exact .inl h
    | cons p l ih =>
      intro s h
      simp only [List.foldl_cons] at h
      rcases ih _ h with h | ⟨q, hq, h⟩
      · change (s ||| ((1 <<< p) ||| pre.getD p 0)).testBit j = true at h
        rw [Nat.testBit_or, Nat.testBit_or] at h
        simp only [Bool.or_eq_true] at h
        rcases h with h | h | h
        · exact .inl h
        · refine .inr ⟨p, List.mem_cons_self .., .inl ?_⟩
          rw [Nat.shiftLeft_eq, Nat.one_mul, Nat.testBit_two_pow] at h
          simpa using h
        · exact .inr ⟨p, List.mem_cons_self .., .inr h⟩
      · exact .inr ⟨q, List.mem_cons_of_mem _ hq, h⟩
  rcases key _ _ h with h | ⟨p, hp, h⟩
  · simp at h
  · exact ⟨p, hp, h.imp id (fun h => by rw [tb_testBit]; exact h)⟩

theorem regOk_spec {all : List Oper} (h : regOk all = true) : RegOk all (masks all) := by
  unfold regOk at h
  simp only [Bool.and_eq_true] at h
  have he := fun i o ho => edgesOk_spec h.1 i o ho
  refine ⟨fun i o ho => (he i o ho).2, fun i o ho p hp => by have := (he i o ho).1 p hp; omega, ?_, ?_⟩
  · intro i j x y hx hy hij h1 h2
    rcases Nat.lt_or_gt_of_ne hij with hlt | hlt
    · exact apart_of (apartAll_spec h.2 i j x y hlt hx hy (by rw [Nat.zero_add, Nat.zero_add]; exact h2))
    · exact (apart_of (apartAll_spec h.2 j i y x hlt hy hx (by rw [Nat.zero_add, Nat.zero_add]; exact h1))).symm
  · intro i o ho j hj
    obtain ⟨pre, h1, h2, h3⟩ := masksFrom_at all [] i o ho
    simp at h1 h3
    have e : (masks all).getD i 0 = maskOf pre o := by rw [← h3]; simp [masks]
    rw [e] at hj
    obtain ⟨p, hp, hpj⟩ := mask_spec hj
    refine ⟨p, hp, hpj.imp id fun hb => ?_⟩
    have hlt : p < pre.length := by have := (he i o ho).1 p hp; omega
    have := h2 p hlt
    unfold masks
    rw [this]; exact hb

/-! the kit's order -/
theorem preds_mem {o : Oper} {e : Edge} (he : e ∈ o.after) (hb : Region.binds .any e = true) : e.on ∈ preds o := by
  unfold preds
  exact List.mem_map.2 ⟨e, List.mem_filter.2 ⟨by simpa using he, hb⟩, rfl⟩
theorem preds_of {o : Oper} {p : Nat} (h : p ∈ preds o) : ∃ e ∈ o.after, Region.binds .any e = true ∧ e.on = p := by
  unfold preds at h
  obtain ⟨e, he, rfl⟩ := List.mem_map.1 h
  obtain ⟨h1, h2⟩ := List.mem_filter.1 he
  exact ⟨e, by simpa using h1, h2, rfl⟩

structure Listed (ops : Array Oper) (rem : List Nat) (listed : Array Bool) : Prop where
  size : listed.size = ops.size
  mem : ∀ i, i ∈ rem ↔ listed.getD i true = false
  nodup : rem.Nodup
  down : ∀ j o, ops[j]? = some o → j ∉ rem → ∀ p ∈ preds o, p ∉ rem

theorem Listed.lt {ops : Array Oper} {rem : List Nat} {listed : Array Bool} (h : Listed ops rem listed) {i : Nat} (hi : i ∈ rem) : i < ops.size := by
  have := (h.mem i).1 hi
  rcases Nat.lt_or_ge i ops.size with h' | h'
  · exact h'
  · rw [Array.getD_eq_getD_getElem?, Array.getElem?_eq_none (by rw [h.size]; exact h')] at this; cases this

theorem Listed.not_mem {ops : Array Oper} {rem : List Nat} {listed : Array Bool} (h : Listed ops rem listed) {p : Nat} (hp : listed.getD p false = true) : p ∉ rem := by
  intro hm
  have h1 := (h.mem p).1 hm
  have hlt : p < listed.size := by rw [h.size]; exact h.lt hm
  rw [Array.getD_eq_getD_getElem?, Array.getElem?_eq_getElem hlt] at h1 hp
  simp at h1 hp
  rw [h1] at hp; cases hp
theorem Listed.done {ops : Array Oper} {rem : List Nat} {listed : Array Bool} (h : Listed ops rem listed) {p : Nat} (hlt : p < ops.size) (hp : p ∉ rem) : listed.getD p false = true := by
  have hlt' : p < listed.size := by rw [h.size]; exact hlt
  rw [Array.getD_eq_getD_getElem?, Array.getElem?_eq_getElem hlt']
  cases hb : listed[p] with
  | true => rfl
  | false =>
    refine absurd ((h.mem p).2 ?_) hp
    rw [Array.getD_eq_getD_getElem?, Array.getElem?_eq_getElem hlt']
    exact hb

theorem Listed.rdy {ops : Array Oper} {rem : List Nat} {listed : Array Bool} (h : Listed ops rem listed) (hR : RegOk ops.toList (masks ops.toList)) {i : Nat} {o : Oper} (ho : ops[i]? = some o)
    (hp : ∀ p ∈ preds o, p ∉ rem) : rdyB (masks ops.toList) rem i = true := by
  have key : ∀ (n i : Nat) (o : Oper), i < n → ops[i]? = some o → (∀ p ∈ preds o, p ∉ rem) → ∀ j, tb ((masks ops.toList).getD i 0) j = true → j ∉ rem := by
    intro n
    induction n with
    | zero => intro i o hi; omega
    | succ n ih =>
      intro i o hi ho hp j hj
      have ho' : ops.toList[i]? = some o := by rw [Array.getElem?_toList]; exact ho
      obtain ⟨p, hpm, hpj⟩ := hR.mask i o ho' j hj
      rcases hpj with rfl | hb
      · exact hp _ hpm
      · have hlt := hR.edge i o ho' p hpm
        have hsz : p < ops.size := by have := (Array.getElem?_eq_some_iff.1 ho).1; omega
        exact ih p ops[p] (by omega) (Array.getElem?_eq_getElem hsz) (fun q hq => h.down p ops[p] (Array.getElem?_eq_getElem hsz) (hp p hpm) q hq) j hb
  simp only [rdyB, List.all_eq_true]
  intro j hj
  cases hb : tb ((masks ops.toList).getD i 0) j with
  | false => rfl
  | true => exact absurd hj (key (i + 1) i o (by omega) ho hp j hb)

theorem Listed.ready {ops : Array Oper} {rem : List Nat} {listed : Array Bool} (h : Listed ops rem listed) {i : Nat} (hi : i ∈ Region.ready .any ops listed) :
    i ∈ rem ∧ ∃ o, ops[i]? = some o ∧ ∀ p ∈ preds o, p ∉ rem := by
  rw [mem_ready] at hi
  obtain ⟨h0, o, ho, hall⟩ := hi
  refine ⟨(h.mem i).2 h0, o, ho, fun p hp => ?_⟩
  obtain ⟨e, he, hb, rfl⟩ := preds_of hp
  exact h.not_mem (hall e he hb)

theorem Listed.some_ready {ops : Array Oper} {rem : List Nat} {listed : Array Bool} (h : Listed ops rem listed) (hR : RegOk ops.toList (masks ops.toList)) (hne : rem ≠ []) :
    Region.ready .any ops listed ≠ [] := by
  -- the least one
  have : ∃ i ∈ rem, ∀ j ∈ rem, i ≤ j := by
    clear h
    induction rem with
    | nil => exact absurd rfl hne
    | cons a l ih =>
      cases l with
      | nil => exact ⟨a, List.mem_cons_self .., fun j hj => by simp at hj; omega⟩
      | cons b l =>
        obtain ⟨i, hi, hm⟩ := ih (by simp)
        by_cases hai : a ≤ i
        · exact ⟨a, List.mem_cons_self .., fun j hj => by
            cases hj with
            | head => omega
            | tail _ hj => have := hm j hj; omega⟩
        · exact ⟨i, List.mem_cons_of_mem _ hi, fun j hj => by
            cases hj with
            | head => omega
            | tail _ hj => exact hm j hj⟩
  obtain ⟨i, hi, hm⟩ := this
  intro hnil
  have hlt := h.lt hi
  have ho : ops[i]? = some ops[i] := Array.getElem?_eq_getElem hlt
  have : i ∈ Region.ready .any ops listed := by
    rw [mem_ready]
    refine ⟨(h.mem i).1 hi, ops[i], ho, fun e he hb => ?_⟩
    have hp := hR.edge i ops[i] (by rw [Array.getElem?_toList]; exact ho) e.on (preds_mem he hb)
    exact h.done (by omega) (fun hmem => by have := hm _ hmem; omega)
  rw [hnil] at this; cases this

theorem Listed.erase {ops : Array Oper} {rem : List Nat} {listed : Array Bool} (h : Listed ops rem listed) {i : Nat} {o : Oper} (hi : i ∈ rem) (ho : ops[i]? = some o) (hp : ∀ p ∈ preds o, p ∉ rem) :
    Listed ops (rem.erase i) (listed.setIfInBounds i true) := by
  have hlt : i < listed.size := by rw [h.size]; exact h.lt hi
  refine ⟨by simp [h.size], fun j => ?_, h.nodup.erase i, fun j o' ho' hj p hpm => ?_⟩
  · by_cases e : j = i
    · subst e
      constructor
      · intro hm; exact absurd hm (h.nodup.not_mem_erase)
      · intro hb
        rw [Array.getD_eq_getD_getElem?, Array.getElem?_setIfInBounds_self_of_lt hlt] at hb; cases hb
    · rw [getD_set_ne true (Ne.symm e), List.mem_erase_of_ne e]; exact h.mem j
  · by_cases e : j = i
    · subst e; rw [ho] at ho'; cases ho'
      exact fun hm => hp p hpm (List.mem_of_mem_erase hm)
    · rw [List.mem_erase_of_ne e] at hj
      exact fun hm => h.down j o' ho' hj p hpm (List.mem_of_mem_erase hm)

theorem Met.wanted {ops : Array Oper} {o : Oper} {a : Act} {b : Bool} (h : Met ops.toList o (Tof a) b) : Region.wanted o (yielded ops a.tmps) = b := by
  cases h with
  | free hg => simp [Region.wanted, hg]
  | yes j g want h1 h2 h3 => simp only [Region.wanted, h1, yielded_of h2 h3]; cases want <;> rfl
  | no j g want h1 h2 h3 => simp only [Region.wanted, h1, yielded_of h2 h3]; cases want <;> rfl

theorem Ey_sound {P : Program} {ops : Array Oper} {Q : Exit → Act → World → Prop} {n : Nat} {o : Oper} {a : Act} {w : World} {K : Bool → Tm → World → Prop} {next : Act → World → Prop}
    (hd : dstOk n o = true) (hg : Good n a) (h : Ey P ops.toList o (Tof a) w K)
    (hn : ∀ b a' w', Good n a' → K b (Tof a') w' → next a' w') : oneWp P ops Q o a w next := by
  have hput : ∀ b v w', K b (updO (Tof a) o.dst v) w' → next (a.put o.dst v) w' := fun b v w' hK =>
    hn b _ _ (hg.put _ _) (by rw [updO_Tof a o.dst v (fun k hk => hg.size ▸ dstOk_lt hd k hk)]; exact hK)
  unfold oneWp
  rcases h with ⟨h1, h2⟩ | ⟨h1, h2⟩
  · rw [if_pos h1.wanted]; exact .inl (upon_of_gen (stepOp_gen h2) (hput true))
  · rw [if_neg (by rw [h1.wanted]; simp)]; exact hput false _ _ h2

theorem any_sound {P : Program} {ops : Array Oper} {Q : Exit → Act → World → Prop} {n : Nat} {K : Tm → World → Prop} (hR : RegOk ops.toList (masks ops.toList))
    (hd : ∀ o ∈ ops.toList, dstOk n o = true) (hQ : ∀ a' w', Good n a' → K (Tof a') w' → Q .normal a' w') :
    ∀ (m : Nat) (rem : List Nat) (pend : List (Nat × (World → Prop))) (listed : Array Bool) (a : Act) (w : World), Listed ops rem listed → Good n a →
      Any P ops.toList (masks ops.toList) K m rem pend (Tof a) w → rem.length = m → wpAny P .any ops Q m listed a w := by
  intro m
  induction m with
  | zero =>
    intro rem pend listed a w hl hg h _
    have hnil := h.1
    refine ⟨?_, hQ _ _ hg h.2⟩
    cases hr : Region.ready .any ops listed with
    | nil => rfl
    | cons i l =>
      have := (hl.ready (i := i) (by rw [hr]; exact List.mem_cons_self ..)).1
      rw [hnil] at this; cases this
  | succ m ih =>
    intro rem pend listed a w hl hg h hlen
    refine ⟨fun hnil => absurd hnil (hl.some_ready hR (fun e => by rw [e] at hlen; cases hlen)), fun i hi => ?_⟩
    obtain ⟨him, o, ho, hp⟩ := hl.ready hi
    have ho' : ops.toList[i]? = some o := by rw [Array.getElem?_toList]; exact ho
    have hrdy := hl.rdy hR ho hp
    have hdo := hd o (List.mem_of_getElem? ho')
    have hl' := hl.erase him ho hp
    have hlen' : (rem.erase i).length = m := by rw [List.length_erase_of_mem him, hlen]; rfl
    unfold wpOp
    rw [ho]
    show oneWp P ops Q o a w _
    cases hf : floatB P o with
    | true =>
      obtain ⟨v, c, hF, hA⟩ := float_first hR m rem pend (Tof a) w i o hl.nodup h him hrdy ho' hf
      refine Ey_sound (K := fun _ T' w' => Any P ops.toList (masks ops.toList) K m (rem.erase i) ((i, c) :: pend) T' w') hdo hg ?_ (fun b a' w' hg' hK => ih _ _ _ _ _ hl' hg' hK hlen')
      rcases hF with ⟨q1, q2, _⟩ | ⟨q1, rfl⟩
      · exact .inl ⟨q1, q2 _ hA⟩
      · exact .inr ⟨q1, hA⟩
    | false =>
      have he := act_first hR m rem pend (Tof a) w i o hl.nodup h him hrdy ho' hf
      exact Ey_sound hdo hg he (fun b a' w' hg' hK => ih _ _ _ _ _ hl' hg' hK.2 hlen')

theorem draw_sound {P : Program} (hm : P.follows .mixedOrders = true) : DrawSound P (drawD P) := by
  intro id ops n Q K a w hd hg hQ h
  unfold drawD at h
  cases hr : regOk ops.toList with
  | false => rw [hr] at h; exact h.elim
  | true =>
    rw [hr, cond_true] at h
    refine wp_region_any hm ?_
    have hl : Listed ops (List.range ops.toList.length) (Array.replicate ops.size false) := by
      refine ⟨by simp, fun i => ?_, List.nodup_range, fun j o ho hj => ?_⟩
      · rw [List.mem_range, Array.getD_eq_getD_getElem?, Array.getElem?_replicate]
        simp
        by_cases hi : i < ops.size <;> simp [hi]
      · exact absurd (List.mem_range.2 (by simpa using (Array.getElem?_eq_some_iff.1 ho).1)) hj
    have hA := Any_of _ _ _ _ _ (by simp) h
    have e : ops.size = ops.toList.length := by simp
    rw [e]
    rw [e] at hl
    exact any_sound (regOk_spec hr) hd hQ _ _ _ _ _ _ hl hg hA (by simp)

end Go.Lad

