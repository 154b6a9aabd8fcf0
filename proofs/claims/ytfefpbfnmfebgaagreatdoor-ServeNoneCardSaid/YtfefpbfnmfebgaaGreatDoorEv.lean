/- Part of a proof (its text Ev): what is proved stands in the text Card. -/
import Derived.Orders
import Derived.Calls
import Derived.Laws.Sem
import Derived.Laws.Entries
import Derived.Laws.Cells
set_option linter.all false
namespace Go.Lad
set_option autoImplicit false

/-! temps as a function -/
abbrev Tm := Nat → Value
def upd (T : Tm) (k : Nat) (v : Value) : Tm := fun i => bif Nat.beq i k then v else T i
def updO (T : Tm) : Option Tmp → Value → Tm
  | some k, v => upd T k v
  | none, _ => T
def ev (T : Tm) : Operand → Value
  | .tmp t => T t
  | .const v => v
  | .global g => .pointer (some ⟨g, 0, none⟩)
  | .func f => .func (.func f) #[] #[]
def evs (T : Tm) : List Operand → List Value
  | [] => []
  | x :: xs => ev T x :: evs T xs
def evo (T : Tm) : Option Operand → Option Value
  | some x => some (ev T x)
  | none => none
def evp (T : Tm) : List (Nat × Operand) → List (Nat × Value)
  | [] => []
  | (i, x) :: xs => (i, ev T x) :: evp T xs

/-! what an operation does -/
def V (P : Program) (s : Sem Value) (w : World) (K : Value → World → Prop) : Prop :=
  match s.run P w with
  | .ok v w' => K v w'
  | .halt _ _ => False
def U (P : Program) (s : Sem Unit) (w : World) (K : Value → World → Prop) : Prop :=
  match s.run P w with
  | .ok _ w' => K undef w'
  | .halt _ _ => False
def CallF (P : Program) (f : FuncId) (args : List Value) (w : World) (K : Value → World → Prop) : Prop :=
  Calls P f args.toArray w (fun e w' => match e with | .returned v => K v w' | _ => False)
def hasBody (P : Program) (f : FuncId) : Bool :=
  match P.funcs.toList[f]? with
  | some fn => fn.body.isSome && !(fn.name == "runtime.NumGoroutine")
  | none => false
/-- a call of a function value -/
def CallV (P : Program) (v : Value) (args : List Value) (w : World) (K : Value → World → Prop) : Prop :=
  match v with
  | .func (.func f) first captured => hasBody P f = true ∧ CallF P f (first.toList ++ args ++ captured.toList) w K
  | _ => False
/-- a call of a function without a body -/
def CallX (P : Program) (f : FuncId) (args : List Value) (w : World) (K : Value → World → Prop) : Prop :=
  match (callFunc f args.toArray).run P w with
  | .ok (.value v) w' => K v w'
  | _ => False
/-- a method call through an interface value -/
def CallI (P : Program) (x : Value) (name : String) (args : List Value) (w : World) (K : Value → World → Prop) : Prop :=
  match x with
  | .iface t v =>
    match (method (P.types.size + Made.depth) t v name).run P w with
    | .ok (f, r) w' => hasBody P f = true ∧ CallF P f (r :: args) w' K
    | .halt _ _ => False
  | _ => False
/-- whatever else -/
def Gen (P : Program) (T : Tm) (o : Oper) (w : World) (K : Value → World → Prop) : Prop :=
  match (execOp (ev T) o).run P w with
  | .ok (.value v) w' => K v w'
  | .ok .skip w' => K undef w'
  | .ok (.enter f args) w' => CallF P f args.toList w' K
  | _ => False
def Pick (c a b : Value) (K : Value → Prop) : Prop :=
  match c with
  | .bool true => K a
  | .bool false => K b
  | _ => False
def Ext (x : Value) (i : Nat) (K : Value → Prop) : Prop :=
  match x with
  | .tuple vs => match vs.toList[i]? with
    | some v => K v
    | none => False
  | _ => False
def NilCk (x : Value) (K : Value → Prop) : Prop :=
  match x with
  | .pointer (some a) => K (.pointer (some a))
  | .func (.func f) a b => K (.func (.func f) a b)
  | _ => False
def IfV (x : Value) (A B : Prop) : Prop :=
  match x with
  | .bool true => A
  | .bool false => B
  | _ => False


/-! cleaned forms: what the types say is looked up before -/
/-- how a variable of the type lies: one cell, or so many -/
def kLoad (P : Program) (t : TypeId) : Option (Option Nat) :=
  match P.underlying t with
  | some (.struct _) => (match P.info? t with | some i => some (some i.size) | none => none)
  | some (.array _ _) => (match P.info? t with | some i => some (some i.size) | none => none)
  | some _ => some none
  | none => none
def kSize (P : Program) (t : TypeId) : Option Nat :=
  match P.info? t with
  | some i => some i.size
  | none => none
def kZero (P : Program) (t : TypeId) : Option Value :=
  match P.info? t with
  | some i => i.zero
  | none => none
def kField (P : Program) (s : TypeId) (f : Nat) : Option Nat :=
  match P.underlying s with
  | some (.struct fs) =>
    match fs.toList[f]? with
    | some fd => (match P.info? fd.type with | some i => bif Nat.beq i.size 0 then none else some fd.offset | none => none)
    | none => none
  | _ => none
inductive KIx where
  | slice (size : Nat)
  | array (len size : Nat)
  | other
def kIndexAddr (P : Program) (t : TypeId) : KIx :=
  match P.underlying t with
  | some (.slice e) => (match P.info? e with | some i => .slice i.size | none => .other)
  | some (.array n e) => (match P.info? e with | some i => bif Nat.ble n 1 then .other else .array n i.size | none => .other)
  | _ => .other
inductive KTy where
  | int (k : IntKind)
  | string
  | iface
  | ptr
  | func
  | slice
  | other
def kTy (P : Program) (t : TypeId) : KTy :=
  match P.underlying t with
  | some (.int k) => .int k
  | some .string => .string
  | some (.interface _) => .iface
  | some (.pointer _) => .ptr
  | some (.func _ _ _) => .func
  | some (.slice _) => .slice
  | _ => .other

def FA (x : Value) (off : Nat) (K : Value → Prop) : Prop :=
  match x with
  | .pointer (some a) => K (.pointer (some (a.add off)))
  | _ => False
def Ld (x : Value) (w : World) (K : Value → World → Prop) : Prop :=
  match x with
  | .pointer (some a) => (match w.cell? a with | some v => K v w | none => False)
  | _ => False
/-- so many cells, from a place on -/
def cellsAt (w : World) (a : Addr) : Nat → Nat → Option (List Value)
  | _, 0 => some []
  | i, n + 1 =>
    match w.cell? (a.add i) with
    | some v => (match cellsAt w a (i + 1) n with | some l => some (v :: l) | none => none)
    | none => none
def LdN (x : Value) (n : Nat) (w : World) (K : Value → World → Prop) : Prop :=
  match x with
  | .pointer (some a) => (match cellsAt w a 0 n with | some l => K (.agg l.toArray) w | none => False)
  | _ => False
def plainV : Value → Bool
  | .agg _ => false
  | .tuple _ => false
  | _ => true
def St (x v : Value) (w : World) (K : Value → World → Prop) : Prop :=
  match x with
  | .pointer (some a) => plainV v = true ∧ (w.cell? a).isSome = true ∧ w.frozen? a = false ∧ K undef (w.setCell a v)
  | _ => False
def putCells (w : World) (a : Addr) : Nat → List Value → World
  | _, [] => w
  | i, v :: l => putCells (w.setCell (a.add i) v) a (i + 1) l
def stOk (w : World) (a : Addr) : Nat → List Value → Prop
  | _, [] => True
  | i, v :: l => plainV v = true ∧ (w.cell? (a.add i)).isSome = true ∧ w.frozen? (a.add i) = false ∧ stOk w a (i + 1) l
def StN (x v : Value) (n : Nat) (w : World) (K : Value → World → Prop) : Prop :=
  match x, v with
  | .pointer (some a), .agg cs => cs.toList.length = n ∧ stOk w a 0 cs.toList ∧ K undef (putCells w a 0 cs.toList)
  | _, _ => False
def New (cells : List Value) (t : TypeId) (w : World) (K : Value → World → Prop) : Prop :=
  K (.pointer (some ⟨w.heap.size, 0, none⟩)) (w.alloc (.cells cells.toArray t (0, 0)))
def IxS (x i : Value) (size : Nat) (K : Value → Prop) : Prop :=
  match x, i with
  | .slice (some a) len _, .int _ k => 0 ≤ k ∧ k < (len : Int) ∧ K (.pointer (some (a.add (k.toNat * size))))
  | _, _ => False
def IxA (x i : Value) (len size : Nat) (K : Value → Prop) : Prop :=
  match x, i with
  | .pointer (some a), .int _ k => 0 ≤ k ∧ k < (len : Int) ∧ K (.pointer (some (a.add (k.toNat * size))))
  | _, _ => False
def IxStr (x i : Value) (K : Value → Prop) : Prop :=
  match x, i with
  | .string s, .int _ k => 0 ≤ k ∧ k < (s.size : Int) ∧ K (.int .u8 (s.data.toList.getD k.toNat 0).toNat)
  | _, _ => False
def Bin (op : BinOp) (kd : IntKind) (x y : Value) (K : Value → Prop) : Prop :=
  match x, y with
  | .int k1 a, .int k2 b =>
    k1 = kd ∧ k2 = kd ∧
    match op with
    | .add => K (.int kd (kd.wrap (a + b)))
    | .sub => K (.int kd (kd.wrap (a - b)))
    | .mul => K (.int kd (kd.wrap (a * b)))
    | .eql => K (.bool (a == b))
    | .neq => K (.bool (a != b))
    | .lss => K (.bool (decide (a < b)))
    | .leq => K (.bool (decide (a ≤ b)))
    | .gtr => K (.bool (decide (a > b)))
    | .geq => K (.bool (decide (a ≥ b)))
    | .quo => b ≠ 0 ∧ K (.int kd (kd.wrap (a.tdiv b)))
    | .rem => b ≠ 0 ∧ K (.int kd (a.tmod b))
    | .and => K (.int kd (kd.wrap (BitVec.ofInt kd.bits a &&& BitVec.ofInt kd.bits b).toNat))
    | .or => K (.int kd (kd.wrap (BitVec.ofInt kd.bits a ||| BitVec.ofInt kd.bits b).toNat))
    | .xor => K (.int kd (kd.wrap (BitVec.ofInt kd.bits a ^^^ BitVec.ofInt kd.bits b).toNat))
    | .andNot => K (.int kd (kd.wrap (BitVec.ofInt kd.bits a &&& ~~~BitVec.ofInt kd.bits b).toNat))
    | _ => False
  | _, _ => False
def Shf (op : BinOp) (kd : IntKind) (x y : Value) (K : Value → Prop) : Prop :=
  match x, y with
  | .int k1 a, .int _ b =>
    k1 = kd ∧ 0 ≤ b ∧
    match op with
    | .shl => K (.int kd (kd.wrap (a * 2 ^ (min b.toNat kd.bits))))
    | .shr => K (.int kd (a.fdiv (2 ^ (min b.toNat kd.bits))))
    | _ => False
  | _, _ => False
def BinS (op : BinOp) (x y : Value) (K : Value → Prop) : Prop :=
  match x, y with
  | .string a, .string b =>
    match op with
    | .add => ((a.size + b.size : Nat) : Int) ≤ 9223372036854775807 ∧ K (.string (a ++ b))
    | .eql => K (.bool (a.toList == b.toList))
    | .neq => K (.bool !(a.toList == b.toList))
    | _ => False
  | _, _ => False
/-- is it nil -/
def nilB (k : KTy) (x : Value) : Option Bool :=
  match k, x with
  | .iface, .nilIface => some true
  | .iface, .iface _ _ => some false
  | .ptr, .pointer none => some true
  | .ptr, .pointer (some _) => some false
  | .func, .nilFunc => some true
  | .func, .func _ _ _ => some false
  | _, _ => none
/-- '==' against the literal nil -/
def EqNil (k : KTy) (x : Value) (K : Value → Prop) : Prop :=
  match nilB k x with
  | some b => K (.bool b)
  | none => False
def NeNil (k : KTy) (x : Value) (K : Value → Prop) : Prop :=
  match nilB k x with
  | some b => K (.bool !b)
  | none => False
def NotV (x : Value) (K : Value → Prop) : Prop :=
  match x with
  | .bool b => K (.bool !b)
  | _ => False
def LenS (x : Value) (K : Value → Prop) : Prop :=
  match x with
  | .string s => K (.int .i64 s.size)
  | _ => False
def LenL (x : Value) (K : Value → Prop) : Prop :=
  match x with
  | .slice _ n _ => K (.int .i64 n)
  | _ => False
def isNilLit (k : KTy) (y : Operand) : Bool :=
  match k, y with
  | .iface, .const .nilIface => true
  | .ptr, .const (.pointer none) => true
  | .func, .const .nilFunc => true
  | _, _ => false
def stepBin (P : Program) (op : BinOp) (t : TypeId) (x y : Operand) (T : Tm) (w : World) (K : Value → World → Prop) : Prop :=
  match kTy P t with
  | .int k =>
    (match op with
    | .shl => Shf op k (ev T x) (ev T y) (fun v => K v w)
    | .shr => Shf op k (ev T x) (ev T y) (fun v => K v w)
    | _ => Bin op k (ev T x) (ev T y) (fun v => K v w))
  | .string => BinS op (ev T x) (ev T y) (fun v => K v w)
  | k => bif isNilLit k y then
      (match op with
      | .eql => EqNil k (ev T x) (fun v => K v w)
      | .neq => NeNil k (ev T x) (fun v => K v w)
      | _ => False)
    else V P (do eqGuard op t x y (ev T x) (ev T y); binOp op t (ev T x) (ev T y)) w K

def stepBuiltin (P : Program) (b : Builtin) (at_ : Array TypeId) (ty : TypeId) (args : List Value) (w : World) (K : Value → World → Prop) (other : Prop) : Prop :=
  match b with
  | .append => V P (Builtin.append_ at_ ty args.toArray) w K
  | .cap => V P (Builtin.cap_ at_ ty args.toArray) w K
  | .clear => V P (Builtin.clear_ at_ ty args.toArray) w K
  | .copy => V P (Builtin.copy_ at_ ty args.toArray) w K
  | .delete => V P (Builtin.delete_ at_ ty args.toArray) w K
  | .len =>
    (match at_.toList, args with
    | [t], [x] =>
      (match kTy P t with
      | .string => LenS x (fun v => K v w)
      | .slice => LenL x (fun v => K v w)
      | _ => V P (Builtin.len_ at_ ty args.toArray) w K)
    | _, _ => V P (Builtin.len_ at_ ty args.toArray) w K)
  | .max => V P (Builtin.max_ at_ ty args.toArray) w K
  | .min => V P (Builtin.min_ at_ ty args.toArray) w K
  | .unsafeString => V P (Builtin.unsafeString_ at_ ty args.toArray) w K
  | .unsafeSliceData => V P (Builtin.unsafeSliceData_ at_ ty args.toArray) w K
  | _ => other

def stepOp (P : Program) (o : Oper) (T : Tm) (w : World) (K : Value → World → Prop) : Prop :=
  match o.op with
  | .move x => K (ev T x) w
  | .assign x => K (ev T x) w
  | .pick c a b => Pick (ev T c) (ev T a) (ev T b) (fun v => K v w)
  | .extract x i => Ext (ev T x) i (fun v => K v w)
  | .nilCheck x => NilCk (ev T x) (fun v => K v w)
  | .load t a =>
    (match kLoad P t with
    | some none => Ld (ev T a) w K
    | some (some n) => LdN (ev T a) n w K
    | none => False)
  | .store t a x =>
    (match kLoad P t, kSize P t with
    | some none, some 1 => St (ev T a) (ev T x) w K
    | some (some _), some n => StN (ev T a) (ev T x) n w K
    | _, _ => False)
  | .alloc t =>
    (match kZero P t with
    | some z => New z.cells.toList t w K
    | none => False)
  | .box t x => New (ev T x).cells.toList t w K
  | .build t ps => V P (Instr.build t (evp T ps.toList).toArray) w K
  | .buildSlice t n ps => V P (Instr.buildSlice t n (evp T ps.toList).toArray) w K
  | .fieldAddr s x f =>
    (match kField P s f with
    | some off => FA (ev T x) off (fun v => K v w)
    | none => V P (Instr.fieldAt s (ev T x) f) w K)
  | .field s x f => V P (Instr.field s (ev T x) f) w K
  | .indexAddr t x i =>
    (match kIndexAddr P t with
    | .slice n => IxS (ev T x) (ev T i) n (fun v => K v w)
    | .array l n => IxA (ev T x) (ev T i) l n (fun v => K v w)
    | .other => V P (Instr.indexAt t (ev T x) (ev T i)) w K)
  | .index t x i =>
    (match kTy P t with
    | .string => IxStr (ev T x) (ev T i) (fun v => K v w)
    | _ => V P (Instr.index t (ev T x) (ev T i)) w K)
  | .binOp op t x y _ => stepBin P op t x y T w K
  | .unOp op _ x =>
    (match op with
    | .not => NotV (ev T x) (fun v => K v w)
    | _ => V P (Op.unary op (ev T x)) w K)
  | .convert s d x => V P (convert s d (ev T x)) w K
  | .makeInterface t x =>
    (match kTy P t with
    | .iface => False
    | _ => bif (P.underlying t).isSome then K (.iface t (ev T x)) w else False)
  | .makeFunc fn a b => K (.func fn (evs T a.toList).toArray (evs T b.toList).toArray) w
  | .makeMap t r => V P (Instr.makeMap t (evo T r)) w K
  | .makeSlice t l c => V P (Instr.makeSlice t (ev T l) (ev T c)) w K
  | .slice t x a b c => V P (Instr.sliceAt t (ev T x) (evo T a) (evo T b) (evo T c)) w K
  | .lookup t x i ok => V P (Instr.lookup t (ev T x) (ev T i) ok) w K
  | .mapUpdate t m k x => U P (Instr.mapUpdate t (ev T m) (ev T k) (ev T x)) w K
  | .insert t m k x => U P (Instr.mapUpdate t (ev T m) (ev T k) (ev T x)) w K
  | .range t x => V P (Instr.range t (ev T x)) w K
  | .next it s => V P (Instr.next (ev T it) s o.type) w K
  | .entry it => V P (Instr.entry (ev T it)) w K
  | .typeAssert x t u ok => V P (Instr.typeAssert (ev T x) t u ok) w K
  | .call c =>
    match c.callee with
    | .value (.func f) => bif hasBody P f then CallF P f (evs T c.args.toList) w K else CallX P f (evs T c.args.toList) w K
    | .invoke x name => CallI P (ev T x) name (evs T c.args.toList) w K
    | .value (.tmp t) => CallV P (T t) (evs T c.args.toList) w K
    | .builtin b => stepBuiltin P b c.argTypes o.type (evs T c.args.toList) w K (Gen P T o w K)
    | _ => Gen P T o w K
  | .panic _ => False
  | _ => Gen P T o w K

def guardTmp (all : List Oper) (j : Nat) : Option Tmp :=
  match all[j]? with
  | some o => o.dst
  | none => none

/-- one operation, its guard looked at first; the guard's temp is known behind it -/
def guarded (P : Program) (all : List Oper) (o : Oper) (T : Tm) (w : World) (K : Tm → World → Prop) : Prop :=
  match o.guard with
  | none => stepOp P o T w (fun v w' => K (updO T o.dst v) w')
  | some (j, want) =>
    match guardTmp all j with
    | none => False
    | some g => IfV (T g)
        (bif want then stepOp P o (upd T g (.bool true)) w (fun v w' => K (updO (upd T g (.bool true)) o.dst v) w') else K (updO (upd T g (.bool true)) o.dst undef) w)
        (bif want then K (updO (upd T g (.bool false)) o.dst undef) w else stepOp P o (upd T g (.bool false)) w (fun v w' => K (updO (upd T g (.bool false)) o.dst v) w'))

def evalOps (P : Program) (all : List Oper) : List Oper → Tm → World → (Tm → World → Prop) → Prop
  | [], T, w, K => K T w
  | o :: rest, T, w, K => guarded P all o T w (fun T' w' => evalOps P all rest T' w' K)

inductive Ex where
  | ret
  | exit (id : Nat)

def kBlock (id : Nat) (kn : Tm → World → Prop) (kx : Ex → Tm → World → Prop) : Ex → Tm → World → Prop
  | .ret => kx .ret
  | .exit j => bif Nat.beq j id then kn else kx (.exit j)

/-- a loop: some relation that holds at each head, and a measure -/
def temps (T : Tm) : List Nat → List Value
  | [] => []
  | i :: l => T i :: temps T l
def lvOf : List (Nat × List Nat) → Nat → List Nat
  | [], _ => []
  | (q, l) :: r, p => bif Nat.beq p q then l else lvOf r p
/-- a loop, told by the temps that live at its head -/
def LoopV (live : List Nat) (x : List Value) (body : (List Value → World → Prop) → Tm → World → Prop) (w : World) : Prop :=
  ∃ (I : List Value → World → Prop) (μ : List Value → World → Nat), I x w ∧ ∀ (T : Tm) (w : World), I (temps T live) w → body (fun y w' => I y w' ∧ μ y w' < μ (temps T live) w) T w

/-- the code; lv: the temps that live at the head of the loop at a place of the code -/
def evalC (P : Program) (draw : List Oper → Tm → World → (Tm → World → Prop) → Prop) (lv : Nat → List Nat) : Code → Nat → (Tm → World → Prop) → (Ex → Tm → World → Prop) → Tm → World → Prop
  | .skip, _, kn, _, T, w => kn T w
  | .region _ ops d, _, kn, _, T, w => bif d then draw ops.toList T w kn else evalOps P ops.toList ops.toList T w kn
  | .seq a b, p, kn, kx, T, w => evalC P draw lv a (2 * p) (fun T w => evalC P draw lv b (2 * p + 1) kn kx T w) kx T w
  | .cond c a b, p, kn, kx, T, w => IfV (ev T c) (evalC P draw lv a (2 * p) kn kx T w) (evalC P draw lv b (2 * p + 1) kn kx T w)
  | .block id a, p, kn, kx, T, w => evalC P draw lv a (2 * p) kn (kBlock id kn kx) T w
  | .loop a, p, _, kx, T, w => LoopV (lv p) (temps T (lv p)) (fun k T w => evalC P draw lv a (2 * p) (fun T' w' => k (temps T' (lv p)) w') kx T w) w
  | .exit id, _, _, kx, T, w => kx (.exit id) T w
  | .ret, _, _, kx, T, w => kx .ret T w
  | _, _, _, _, _, _ => False

/-! soundness -/
def Tof (a : Act) : Tm := fun t => a.tmps.getD t undef

theorem eval_Tof (a : Act) : a.eval = ev (Tof a) := by funext x; cases x <;> rfl

theorem nat_beq_ne {i k : Nat} (h : i ≠ k) : Nat.beq i k = false := by
  cases hb : Nat.beq i k with
  | false => rfl
  | true => exact absurd (Nat.eq_of_beq_eq_true hb) h

theorem updO_Tof (a : Act) (d : Option Tmp) (v : Value) (h : ∀ k, d = some k → k < a.tmps.size) : Tof (a.put d v) = updO (Tof a) d v := by
  cases d with
  | none => rfl
  | some k =>
    have hk := h k rfl
    funext i
    by_cases e : i = k
    · subst e
      simp [Tof, updO, upd, Act.put, Array.getD, hk]
    · have : Nat.beq i k = false := nat_beq_ne e
      simp only [Tof, updO, upd, this, cond_false, Act.put, Array.getD_eq_getD_getElem?]
      rw [Array.getElem?_setIfInBounds_ne (fun h => e h.symm)]

theorem upd_same (T : Tm) (k : Nat) (v : Value) (h : T k = v) : upd T k v = T := by
  funext i
  unfold upd
  by_cases e : i = k
  · subst e; simp [h]
  · have : Nat.beq i k = false := nat_beq_ne e
    simp [this]

theorem evs_map (T : Tm) (l : List Operand) : evs T l = l.map (ev T) := by
  induction l with
  | nil => rfl
  | cons x l ih => simp [evs, ih]
theorem evp_map (T : Tm) (l : List (Nat × Operand)) : evp T l = l.map (fun p => (p.1, ev T p.2)) := by
  induction l with
  | nil => rfl
  | cons x l ih => simp [evp, ih]
theorem evo_map (T : Tm) (o : Option Operand) : evo T o = o.map (ev T) := by cases o <;> rfl

theorem gen_V {P : Program} {T : Tm} {o : Oper} {w : World} {K : Value → World → Prop} {s : Sem Value}
    (he : execOp (ev T) o = (do pure (.value (← s)))) (h : V P s w K) : Gen P T o w K := by
  unfold Gen V at *
  rw [he, Sem.run_bind]
  cases hr : s.run P w with
  | ok v w' => rw [hr] at h; exact h
  | halt x w' => rw [hr] at h; exact h.elim
theorem gen_U {P : Program} {T : Tm} {o : Oper} {w : World} {K : Value → World → Prop} {s : Sem Unit}
    (he : execOp (ev T) o = (do s; pure .skip)) (h : U P s w K) : Gen P T o w K := by
  unfold Gen U at *
  rw [he, Sem.run_bind]
  cases hr : s.run P w with
  | ok v w' => rw [hr] at h; exact h
  | halt x w' => rw [hr] at h; exact h.elim

/-! the cleaned forms are the model's -/
theorem V_of_run {P : Program} {s : Sem Value} {w w' : World} {v : Value} {K : Value → World → Prop} (h : s.run P w = .ok v w') (hk : K v w') : V P s w K := by
  unfold V; rw [h]; exact hk
theorem U_of_run {P : Program} {s : Sem Unit} {w w' : World} {K : Value → World → Prop} (h : s.run P w = .ok () w') (hk : K undef w') : U P s w K := by
  unfold U; rw [h]; exact hk

theorem kLoad_none {P : Program} {t : TypeId} (h : kLoad P t = some none) (w : World) : (isAgg t).run P w = .ok false w := by
  unfold kLoad at h
  split at h
  · split at h <;> cases h
  · split at h <;> cases h
  · rename_i d h1 h2 hd
    simp only [isAgg, Sem.run_bind, run_underlying hd, Result.andThen_ok]
    cases d <;> first | rfl | exact absurd rfl (h1 _) | exact absurd rfl (h2 _ _)
  · cases h
theorem kLoad_some {P : Program} {t : TypeId} {n : Nat} (h : kLoad P t = some (some n)) (w : World) : (isAgg t).run P w = .ok true w ∧ (sizeOf t).run P w = .ok n w := by
  unfold kLoad at h
  split at h
  · rename_i fs hd
    split at h
    · rename_i i hi
      cases h
      exact ⟨by simp [isAgg, run_underlying hd], by simp [sizeOf, typeInfo, hi]⟩
    · cases h
  · rename_i a b hd
    split at h
    · rename_i i hi
      cases h
      exact ⟨by simp [isAgg, run_underlying hd], by simp [sizeOf, typeInfo, hi]⟩
    · cases h
  · cases h
  · cases h
theorem kSize_run {P : Program} {t : TypeId} {n : Nat} (h : kSize P t = some n) (w : World) : (sizeOf t).run P w = .ok n w := by
  unfold kSize at h
  split at h
  · rename_i i hi; cases h; simp [sizeOf, typeInfo, hi]
  · cases h
theorem kZero_run {P : Program} {t : TypeId} {z : Value} (h : kZero P t = some z) (w : World) : (zeroValue t).run P w = .ok z w := by
  unfold kZero at h
  split at h
  · rename_i i hi; simp [zeroValue, typeInfo, hi, h]
  · cases h

theorem Ld_V {P : Program} {t : TypeId} {x : Value} {w : World} {K : Value → World → Prop} (ht : kLoad P t = some none) (h : Ld x w K) : V P (Instr.loadAt t x) w K := by
  unfold Ld at h
  split at h
  · rename_i a
    split at h
    · rename_i v hv
      refine V_of_run (v := v) (w' := w) ?_ h
      simp [Instr.loadAt, Instr.sureAddr, loadVar, kLoad_none ht, hv]
    · exact h.elim
  · exact h.elim

theorem cellsAt_run {P : Program} {w : World} {a : Addr} : ∀ (n i : Nat) (l : List Value) (acc : Array Value), cellsAt w a i n = some l → (loadCellsFrom a i n acc).run P w = .ok (acc ++ l.toArray) w := by
  intro n
  induction n with
  | zero => intro i l acc h; simp [cellsAt] at h; subst h; simp [loadCellsFrom]
  | succ n ih =>
    intro i l acc h
    simp only [cellsAt] at h
    split at h
    · rename_i v hv
      split at h
      · rename_i l' hl
        cases h
        simp [loadCellsFrom, hv, ih (i + 1) l' _ hl]
      · cases h
    · cases h

theorem LdN_V {P : Program} {t : TypeId} {n : Nat} {x : Value} {w : World} {K : Value → World → Prop} (ht : kLoad P t = some (some n)) (h : LdN x n w K) : V P (Instr.loadAt t x) w K := by
  unfold LdN at h
  split at h
  · rename_i a
    split at h
    · rename_i l hl
      refine V_of_run (w' := w) ?_ h
      simp [Instr.loadAt, Instr.sureAddr, loadVar, (kLoad_some ht w).1, (kLoad_some ht w).2, loadCells, cellsAt_run n 0 l #[] hl]
    · exact h.elim
  · exact h.elim

theorem run_store {P : Program} {w : World} {a : Addr} {v : Value} (h1 : plainV v = true) (h2 : (w.cell? a).isSome = true) (h3 : w.frozen? a = false) :
    (store a v).run P w = .ok () (w.setCell a v) := by
  cases hc : w.cell? a with
  | none => simp [hc] at h2
  | some u => cases v <;> first | (simp [plainV] at h1; done) | simp [store, Sem.run, hc, h3]

theorem cells_plain {v : Value} (h : plainV v = true) : v.cells = #[v] := by
  cases v <;> first | rfl | simp [plainV] at h

theorem St_U {P : Program} {t : TypeId} {x v : Value} {w : World} {K : Value → World → Prop} (ht : kSize P t = some 1) (h : St x v w K) : U P (Instr.storeAt t x v) w K := by
  unfold St at h
  split at h
  · rename_i a
    obtain ⟨h1, h2, h3, hk⟩ := h
    refine U_of_run ?_ hk
    have := run_store (P := P) h1 h2 h3
    simp [Instr.storeAt, Instr.sureAddr, storeVar, cells_plain h1, kSize_run ht, storeCells, Addr.add_zero', this]
  · exact h.elim

theorem putCells_run {P : Program} {a : Addr} : ∀ (l : List Value) (i : Nat) (w : World), stOk w a i l → (storeCells a l i).run P w = .ok () (putCells w a i l) := by
  intro l
  induction l with
  | nil => intro i w _; simp [storeCells, putCells]
  | cons v l ih =>
    intro i w h
    simp only [stOk] at h
    obtain ⟨h1, h2, h3, h4⟩ := h
    have keep : ∀ (l : List Value) (j : Nat), stOk w a j l → stOk (w.setCell (a.add i) v) a j l := by
      intro l
      induction l with
      | nil => intro j _; trivial
      | cons u l ih =>
        intro j hj
        simp only [stOk] at hj ⊢
        obtain ⟨g1, g2, g3, g4⟩ := hj
        refine ⟨g1, ?_, by simpa using g3, ih _ g4⟩
        by_cases e : a.add i = a.add j
        · obtain ⟨u, hu⟩ := Option.isSome_iff_exists.1 h2
          rw [← e, World.cell?_setCell_same (h := hu)]; rfl
        · rw [World.cell?_setCell_other (h := e)]; exact g2
    simp [storeCells, putCells, run_store (P := P) h1 h2 h3, ih (i + 1) _ (keep l _ h4)]

theorem StN_U {P : Program} {t : TypeId} {n : Nat} {x v : Value} {w : World} {K : Value → World → Prop} (ht : kSize P t = some n) (h : StN x v n w K) : U P (Instr.storeAt t x v) w K := by
  unfold StN at h
  split at h
  · rename_i a cs
    obtain ⟨h1, h2, hk⟩ := h
    refine U_of_run ?_ hk
    have hs : cs.size = n := by simpa using h1
    simp [Instr.storeAt, Instr.sureAddr, storeVar, Value.cells, hs, kSize_run ht, putCells_run _ _ _ h2]
  · exact h.elim

theorem New_alloc {P : Program} {t : TypeId} {z : Value} {w : World} {K : Value → World → Prop} (ht : kZero P t = some z) (h : New z.cells.toList t w K) :
    V P (Instr.alloc t true (.tuple #[])) w K := by
  refine V_of_run ?_ h
  simp [Instr.alloc, kZero_run ht, newVar, newRow, newObj, Sem.run]
theorem New_box {P : Program} {t : TypeId} {x : Value} {w : World} {K : Value → World → Prop} (h : New x.cells.toList t w K) : V P (Instr.box t x) w K := by
  refine V_of_run ?_ h
  simp [Instr.box, newVar, newRow, newObj, Sem.run]

theorem FA_V {P : Program} {s : TypeId} {f off : Nat} {x : Value} {w : World} {K : Value → World → Prop} (ht : kField P s f = some off) (h : FA x off (fun v => K v w)) :
    V P (Instr.fieldAt s x f) w K := by
  unfold FA at h
  split at h
  · rename_i a
    refine V_of_run (w' := w) ?_ h
    unfold kField at ht
    split at ht
    · rename_i fs hd
      split at ht
      · rename_i fd hf
        rw [Array.getElem?_toList] at hf
        split at ht
        · rename_i i hi
          cases hz : Nat.beq i.size 0 with
          | true => rw [hz] at ht; cases ht
          | false =>
            rw [hz] at ht
            cases ht
            have : i.size ≠ 0 := fun e => by rw [e] at hz; cases hz
            simp [Instr.fieldAt, run_underlying hd, hf, Instr.sureAddr, fieldPlace, sizeOf, typeInfo, hi, this]
        · cases ht
      · cases ht
    · cases ht
  · exact h.elim

theorem IxS_V {P : Program} {t : TypeId} {n : Nat} {x i : Value} {w : World} {K : Value → World → Prop} (ht : kIndexAddr P t = .slice n) (h : IxS x i n (fun v => K v w)) :
    V P (Instr.indexAt t x i) w K := by
  unfold IxS at h
  split at h
  · rename_i a len cap k i
    obtain ⟨h1, h2, hk⟩ := h
    refine V_of_run (w' := w) ?_ hk
    unfold kIndexAddr at ht
    split at ht
    · rename_i e hd
      split at ht
      · rename_i j hj
        cases ht
        have he : P.elem t = e := by simp [Program.elem, hd]
        rw [run_indexAt_slice _ _ _ _ _ _ _ (by rw [he]; exact hd), if_pos ⟨h1, h2⟩, he]
        simp [sizeOf, typeInfo, hj]
      · cases ht
    · split at ht
      · cases hb : Nat.ble _ 1 with
        | true => rw [hb] at ht; cases ht
        | false => rw [hb] at ht; cases ht
      · cases ht
    · cases ht
  · exact h.elim
theorem IxA_V {P : Program} {t : TypeId} {l n : Nat} {x i : Value} {w : World} {K : Value → World → Prop} (ht : kIndexAddr P t = .array l n) (h : IxA x i l n (fun v => K v w)) :
    V P (Instr.indexAt t x i) w K := by
  unfold IxA at h
  split at h
  · rename_i a k i
    obtain ⟨h1, h2, hk⟩ := h
    refine V_of_run (w' := w) ?_ hk
    unfold kIndexAddr at ht
    split at ht
    · split at ht <;> cases ht
    · rename_i m e hd
      split at ht
      · rename_i j hj
        cases hb : Nat.ble m 1 with
        | true => rw [hb] at ht; cases ht
        | false =>
          rw [hb] at ht; cases ht
          have he : P.elem t = e := by simp [Program.elem, hd]
          have hl : P.arrayLen t = l := by simp [Program.arrayLen, hd]
          rw [run_indexAt_array _ _ _ _ _ (by rw [he, hl]; exact hd), hl, if_pos ⟨h1, h2⟩, he]
          simp [sizeOf, typeInfo, hj]
      · cases ht
    · cases ht
  · exact h.elim
theorem kTy_string {P : Program} {t : TypeId} (h : kTy P t = .string) : P.underlying t = some .string := by
  unfold kTy at h; split at h <;> first | (cases h; done) | assumption
theorem kTy_int {P : Program} {t : TypeId} {k : IntKind} (h : kTy P t = .int k) : P.underlying t = some (.int k) := by
  unfold kTy at h; split at h <;> first | (cases h; assumption) | (cases h; done)
theorem kTy_slice {P : Program} {t : TypeId} (h : kTy P t = .slice) : ∃ e, P.underlying t = some (.slice e) := by
  unfold kTy at h; split at h <;> first | (cases h; done) | exact ⟨_, ‹_›⟩
theorem kTy_iface {P : Program} {t : TypeId} (h : kTy P t = .iface) : ∃ e, P.underlying t = some (.interface e) := by
  unfold kTy at h; split at h <;> first | (cases h; done) | exact ⟨_, ‹_›⟩
theorem kTy_ptr {P : Program} {t : TypeId} (h : kTy P t = .ptr) : ∃ e, P.underlying t = some (.pointer e) := by
  unfold kTy at h; split at h <;> first | (cases h; done) | exact ⟨_, ‹_›⟩
theorem kTy_func {P : Program} {t : TypeId} (h : kTy P t = .func) : ∃ a b c, P.underlying t = some (.func a b c) := by
  unfold kTy at h; split at h <;> first | (cases h; done) | exact ⟨_, _, _, ‹_›⟩
theorem IxStr_V {P : Program} {t : TypeId} {x i : Value} {w : World} {K : Value → World → Prop} (ht : kTy P t = .string) (h : IxStr x i (fun v => K v w)) :
    V P (Instr.index t x i) w K := by
  unfold IxStr at h
  split at h
  · rename_i s k i
    obtain ⟨h1, h2, hk⟩ := h
    refine V_of_run (w' := w) ?_ hk
    have hlt : i.toNat < s.size := by omega
    simp only [Instr.index, asIntOf, Sem.run_bind, Sem.run_pure, Result.andThen_ok, run_underlying (kTy_string ht), if_pos h1]
    have : s[i.toNat]? = some s[i.toNat] := by simp [hlt]
    rw [this]
    have e : s.data.toList.getD i.toNat 0 = s[i.toNat] := by
      rw [List.getD_eq_getElem?_getD, Array.getElem?_toList]
      have : s.data[i.toNat]? = some s[i.toNat] := by
        rw [Array.getElem?_eq_getElem (by exact hlt)]; rfl
      rw [this]; rfl
    rw [e]; rfl
  · exact h.elim
theorem LenS_V {P : Program} {t ty : TypeId} {x : Value} {w : World} {K : Value → World → Prop} (ht : kTy P t = .string) (h : LenS x (fun v => K v w)) :
    V P (Builtin.len_ #[t] ty #[x]) w K := by
  unfold LenS at h
  split at h
  · refine V_of_run (w' := w) ?_ h
    simp [Builtin.len_, run_underlying (kTy_string ht), goInt]
  · exact h.elim
theorem LenL_V {P : Program} {t ty : TypeId} {x : Value} {w : World} {K : Value → World → Prop} (ht : kTy P t = .slice) (h : LenL x (fun v => K v w)) :
    V P (Builtin.len_ #[t] ty #[x]) w K := by
  unfold LenL at h
  split at h
  · obtain ⟨e, hd⟩ := kTy_slice ht
    refine V_of_run (w' := w) ?_ h
    simp [Builtin.len_, run_underlying hd, goInt]
  · exact h.elim
theorem Not_V {P : Program} {x : Value} {w : World} {K : Value → World → Prop} (h : NotV x (fun v => K v w)) : V P (Op.unary .not x) w K := by
  unfold NotV at h
  split at h
  · exact V_of_run (w' := w) (by simp [Op.unary]) h
  · exact h.elim
theorem Bin_V {P : Program} {op : BinOp} {t : TypeId} {k : IntKind} {x y : Operand} {T : Tm} {w : World} {K : Value → World → Prop}
    (h : Bin op k (ev T x) (ev T y) (fun v => K v w)) : V P (do eqGuard op t x y (ev T x) (ev T y); binOp op t (ev T x) (ev T y)) w K := by
  unfold Bin at h
  split at h
  · rename_i k1 a k2 b hx hy
    obtain ⟨rfl, rfl, h⟩ := h
    rw [hx, hy]
    split at h <;> first
      | exact h.elim
      | (refine V_of_run (w' := w) ?_ h; simp [eqGuard_at_int, binOp, Op.intCmp, Op.intArith, Op.intBits]; done)
      | (refine V_of_run (w' := w) ?_ h.2; simp [eqGuard_at_int, binOp, Op.intDiv, h.1]; done)
  · exact h.elim
theorem Shf_V {P : Program} {op : BinOp} {t : TypeId} {k : IntKind} {x y : Operand} {T : Tm} {w : World} {K : Value → World → Prop}
    (h : Shf op k (ev T x) (ev T y) (fun v => K v w)) : V P (do eqGuard op t x y (ev T x) (ev T y); binOp op t (ev T x) (ev T y)) w K := by
  unfold Shf at h
  split at h
  · rename_i k1 a k2 b hx hy
    obtain ⟨rfl, hb, h⟩ := h
    have hn : ¬ b < 0 := by omega
    rw [hx, hy]
    split at h <;> first
      | exact h.elim
      | (refine V_of_run (w' := w) ?_ h; simp [eqGuard_at_int, binOp, Op.shift, hn]; done)
  · exact h.elim
theorem BinS_V {P : Program} {op : BinOp} {t : TypeId} {x y : Operand} {T : Tm} {w : World} {K : Value → World → Prop}
    (h : BinS op (ev T x) (ev T y) (fun v => K v w)) : V P (do eqGuard op t x y (ev T x) (ev T y); binOp op t (ev T x) (ev T y)) w K := by
  unfold BinS at h
  split at h
  · rename_i a b hx hy
    rw [hx, hy]
    split at h <;> first
      | exact h.elim
      | (refine V_of_run (w' := w) ?_ h; simp [eqGuard_at_string, binOp, Op.stringOp]; done)
      | (refine V_of_run (w' := w) ?_ h.2; have h1 := h.1; simp [eqGuard_at_string, binOp, Op.stringOp]; omega)
  · exact h.elim
theorem isNilLit_cases {k : KTy} {y : Operand} (h : isNilLit k y = true) :
    (k = .iface ∧ y = .const .nilIface) ∨ (k = .ptr ∧ y = .const (.pointer none)) ∨ (k = .func ∧ y = .const .nilFunc) := by
  unfold isNilLit at h
  split at h
  · exact .inl ⟨rfl, rfl⟩
  · exact .inr (.inl ⟨rfl, rfl⟩)
  · exact .inr (.inr ⟨rfl, rfl⟩)
  · cases h
section
variable {P : Program} {t : TypeId} (w : World) (d : Nat)
theorem eqn_i0 {ms : Array (String × TypeId)} (hu : P.underlying t = some (.interface ms)) : (Op.equalIn (d + 1) t .nilIface .nilIface).run P w = .ok true w := by
  simp [Op.equalIn, run_underlying hu]
theorem eqn_i1 {ms : Array (String × TypeId)} (hu : P.underlying t = some (.interface ms)) (u : TypeId) (v : Value) : (Op.equalIn (d + 1) t (.iface u v) .nilIface).run P w = .ok false w := by
  simp [Op.equalIn, run_underlying hu]
theorem eqn_p0 {e : TypeId} (hu : P.underlying t = some (.pointer e)) : (Op.equalIn (d + 1) t (.pointer none) (.pointer none)).run P w = .ok true w := by
  simp [Op.equalIn, run_underlying hu]
theorem eqn_p1 {e : TypeId} (hu : P.underlying t = some (.pointer e)) (a : Addr) : (Op.equalIn (d + 1) t (.pointer (some a)) (.pointer none)).run P w = .ok false w := by
  simp [Op.equalIn, run_underlying hu]
theorem eqn_f0 {p r : Array TypeId} {v : Bool} (hu : P.underlying t = some (.func p r v)) : (Op.equalIn (d + 1) t .nilFunc .nilFunc).run P w = .ok true w := by
  simp [Op.equalIn, run_underlying hu]
theorem eqn_f1 {p r : Array TypeId} {v : Bool} (hu : P.underlying t = some (.func p r v)) (f : Fn) (a c : Array Value) : (Op.equalIn (d + 1) t (.func f a c) .nilFunc).run P w = .ok false w := by
  simp [Op.equalIn, run_underlying hu]
end
theorem nilB_run {P : Program} {t : TypeId} {x y : Operand} {T : Tm} {w : World} {b : Bool} (hl : isNilLit (kTy P t) y = true) (hb : nilB (kTy P t) (ev T x) = some b) (op : BinOp) :
    (Op.equal t (ev T x) (ev T y)).run P w = .ok b w ∧ eqGuard op t x y (ev T x) (ev T y) = pure () ∧
    (binOp .eql t (ev T x) (ev T y) = (do pure (.bool (← Op.equal t (ev T x) (ev T y))))) ∧ (binOp .neq t (ev T x) (ev T y) = (do pure (.bool (!(← Op.equal t (ev T x) (ev T y)))))) := by
  generalize hk : kTy P t = k at hl hb
  generalize hx : ev T x = z at hb ⊢
  rcases isNilLit_cases hl with ⟨rfl, rfl⟩ | ⟨rfl, rfl⟩ | ⟨rfl, rfl⟩
  · obtain ⟨ms, hu⟩ := kTy_iface hk
    have e : ev T (.const .nilIface) = .nilIface := rfl
    rw [e]
    cases z <;> simp only [nilB] at hb <;> cases hb
    · exact ⟨eqn_i1 w 9999 hu _ _, eqGuard_at_iface .., rfl, rfl⟩
    · exact ⟨eqn_i0 w 9999 hu, eqGuard_nil_constR .., rfl, rfl⟩
  · obtain ⟨ms, hu⟩ := kTy_ptr hk
    have e : ev T (.const (.pointer none)) = .pointer none := rfl
    rw [e]
    cases z <;> simp only [nilB] at hb <;> try cases hb
    rename_i a
    cases a <;> simp only at hb <;> cases hb
    · exact ⟨eqn_p0 w 9999 hu, eqGuard_at_pointer .., rfl, rfl⟩
    · exact ⟨eqn_p1 w 9999 hu _, eqGuard_at_pointer .., rfl, rfl⟩
  · obtain ⟨_, _, _, hu⟩ := kTy_func hk
    have e : ev T (.const .nilFunc) = .nilFunc := rfl
    rw [e]
    cases z <;> simp only [nilB] at hb <;> cases hb
    · exact ⟨eqn_f1 w 9999 hu _ _ _, eqGuard_at_func .., rfl, rfl⟩
    · exact ⟨eqn_f0 w 9999 hu, eqGuard_at_nilFunc .., rfl, rfl⟩
theorem stepBin_V {P : Program} {op : BinOp} {t : TypeId} {x y : Operand} {T : Tm} {w : World} {K : Value → World → Prop}
    (h : stepBin P op t x y T w K) : V P (do eqGuard op t x y (ev T x) (ev T y); binOp op t (ev T x) (ev T y)) w K := by
  unfold stepBin at h
  split at h
  · split at h
    · exact Shf_V h
    · exact Shf_V h
    · exact Bin_V h
  · exact BinS_V h
  · cases hl : isNilLit (kTy P t) y with
    | false => rw [hl] at h; exact h
    | true =>
      rw [hl, cond_true] at h
      split at h
      · unfold EqNil at h
        split at h
        · rename_i b hb
          obtain ⟨h1, h2, h3, h4⟩ := nilB_run (w := w) hl hb .eql
          exact V_of_run (w' := w) (by rw [h2, h3]; simp [h1]) h
        · exact h.elim
      · unfold NeNil at h
        split at h
        · rename_i b hb
          obtain ⟨h1, h2, h3, h4⟩ := nilB_run (w := w) hl hb .neq
          exact V_of_run (w' := w) (by rw [h2, h4]; simp [h1]) h
        · exact h.elim
      · exact h.elim

theorem run_callFunc {P : Program} {f : FuncId} (h : hasBody P f = true) (args : Array Value) (w : World) :
    (callFunc f args).run P w = .ok (.enter f args) w := by
  unfold hasBody at h
  rw [Array.getElem?_toList] at h
  cases hf : P.funcs[f]? with
  | none => rw [hf] at h; cases h
  | some fn =>
    rw [hf] at h
    simp at h
    simp [callFunc, program, Sem.run, hf, h.2]
    cases hb : fn.body with
    | none => simp [hb] at h
    | some c => simp


theorem evp_toArray (T : Tm) (ps : Array (Nat × Operand)) : (evp T ps.toList).toArray = ps.map (fun p => (p.1, ev T p.2)) := by
  rw [evp_map]; apply Array.toList_inj.1; simp
theorem evs_toArray (T : Tm) (ps : Array Operand) : (evs T ps.toList).toArray = ps.map (ev T) := by
  rw [evs_map]; apply Array.toList_inj.1; simp

theorem gen_pure {P : Program} {T : Tm} {o : Oper} {w : World} {K : Value → World → Prop} {v : Value}
    (he : execOp (ev T) o = pure (.value v)) (h : K v w) : Gen P T o w K := by
  unfold Gen; rw [he]; exact h

theorem stepBuiltin_gen {P : Program} {T : Tm} {o : Oper} {c : Call} {b : Builtin} {w : World} {K : Value → World → Prop}
    (ho : o.op = .call c) (hc : c.callee = .builtin b) (h : stepBuiltin P b c.argTypes o.type (evs T c.args.toList) w K (Gen P T o w K)) : Gen P T o w K := by
  unfold stepBuiltin at h
  rw [evs_toArray] at h
  split at h <;> first
    | exact h
    | (refine gen_V ?_ h; simp [execOp, ho, resolve, hc, invoke, builtin]; done)
    | skip
  have key : V P (Builtin.len_ c.argTypes o.type (c.args.map (ev T))) w K := by
    split at h
    · rename_i t x ht hx
      have e1 : c.argTypes = #[t] := Array.toList_inj.1 ht
      have e2 : c.args.map (ev T) = #[x] := by rw [← evs_toArray, hx]
      rw [e1, e2]
      split at h
      · exact LenS_V (by assumption) h
      · exact LenL_V (by assumption) h
      · rwa [e1, e2] at h
    · exact h
  exact gen_V (by simp [execOp, ho, resolve, hc, invoke, builtin]) key

theorem stepOp_gen {P : Program} {T : Tm} {o : Oper} {w : World} {K : Value → World → Prop} (h : stepOp P o T w K) : Gen P T o w K := by
  unfold stepOp at h
  split at h
  case h_1 x ho => exact gen_pure (by simp [execOp, ho]) h
  case h_2 x ho => exact gen_pure (by simp [execOp, ho]) h
  case h_3 c a b ho =>
    unfold Pick at h
    split at h
    · rename_i hc; exact gen_pure (v := ev T a) (by simp [execOp, ho, hc, asBool]) h
    · rename_i hc; exact gen_pure (v := ev T b) (by simp [execOp, ho, hc, asBool]) h
    · exact h.elim
  case h_4 x i ho =>
    unfold Ext at h
    split at h
    · rename_i vs hv
      split at h
      · rename_i v hi
        rw [Array.getElem?_toList] at hi
        exact gen_pure (v := v) (by simp [execOp, ho, hv, Instr.extract, hi]) h
      · exact h.elim
    · exact h.elim
  case h_5 x ho =>
    unfold NilCk at h
    split at h
    · rename_i a hv; exact gen_pure (by simp [execOp, ho, hv]) h
    · rename_i a hv; exact gen_pure (by simp [execOp, ho, hv]) h
    · exact h.elim
  case h_6 t a ho =>
    split at h
    · exact gen_V (s := Instr.loadAt t (ev T a)) (by simp [execOp, ho]) (Ld_V (by assumption) h)
    · exact gen_V (s := Instr.loadAt t (ev T a)) (by simp [execOp, ho]) (LdN_V (by assumption) h)
    · exact h.elim
  case h_7 t a x ho =>
    split at h
    · exact gen_U (s := Instr.storeAt t (ev T a) (ev T x)) (by simp [execOp, ho]) (St_U (by assumption) h)
    · exact gen_U (s := Instr.storeAt t (ev T a) (ev T x)) (by simp [execOp, ho]) (StN_U (by assumption) h)
    · exact h.elim
  case h_8 t ho =>
    split at h
    · exact gen_V (s := Instr.alloc t true (.tuple #[])) (by simp [execOp, ho]) (New_alloc (by assumption) h)
    · exact h.elim
  case h_9 t x ho => exact gen_V (by simp [execOp, ho]) (New_box h)
  case h_10 ho => rw [evp_toArray] at h; exact gen_V (by simp [execOp, ho]) h
  case h_11 ho => rw [evp_toArray] at h; exact gen_V (by simp [execOp, ho]) h
  case h_12 s x f ho =>
    split at h
    · exact gen_V (s := Instr.fieldAt s (ev T x) f) (by simp [execOp, ho]) (FA_V (by assumption) h)
    · exact gen_V (by simp [execOp, ho]) h
  case h_13 ho => exact gen_V (by simp [execOp, ho]) h
  case h_14 t x i ho =>
    split at h
    · exact gen_V (s := Instr.indexAt t (ev T x) (ev T i)) (by simp [execOp, ho]) (IxS_V (by assumption) h)
    · exact gen_V (s := Instr.indexAt t (ev T x) (ev T i)) (by simp [execOp, ho]) (IxA_V (by assumption) h)
    · exact gen_V (by simp [execOp, ho]) h
  case h_15 t x i ho =>
    split at h
    · exact gen_V (s := Instr.index t (ev T x) (ev T i)) (by simp [execOp, ho]) (IxStr_V (by assumption) h)
    · exact gen_V (by simp [execOp, ho]) h
  case h_16 op t x y u ho => exact gen_V (by simp [execOp, ho]) (stepBin_V h)
  case h_17 op t x ho =>
    split at h
    · exact gen_V (by simp [execOp, ho]) (Not_V h)
    · exact gen_V (by simp [execOp, ho]) h
  case h_18 ho => exact gen_V (by simp [execOp, ho]) h
  case h_19 t x ho =>
    split at h
    · exact h.elim
    · rename_i hk
      cases hu : P.underlying t with
      | none => rw [hu] at h; exact h.elim
      | some d =>
        rw [hu] at h
        refine gen_V (s := Instr.makeInterface t (ev T x)) (by simp [execOp, ho]) (V_of_run (w' := w) ?_ h)
        simp only [Instr.makeInterface, Sem.run_bind, run_underlying hu, Result.andThen_ok]
        cases d <;> first | rfl | (exact absurd (by simp [kTy, hu]) hk)
  case h_20 ho => rw [evs_toArray, evs_toArray] at h; exact gen_pure (by simp [execOp, ho, Instr.makeFunc]) h
  case h_21 ho => rw [evo_map] at h; exact gen_V (by simp [execOp, ho]) h
  case h_22 ho => exact gen_V (by simp [execOp, ho]) h
  case h_23 ho => rw [evo_map, evo_map, evo_map] at h; exact gen_V (by simp [execOp, ho]) h
  case h_24 ho => exact gen_V (by simp [execOp, ho]) h
  case h_25 ho => exact gen_U (by simp [execOp, ho]) h
  case h_26 ho => exact gen_U (by simp [execOp, ho]) h
  case h_27 ho => exact gen_V (by simp [execOp, ho]) h
  case h_28 ho => exact gen_V (by simp [execOp, ho]) h
  case h_29 ho => exact gen_V (by simp [execOp, ho]) h
  case h_30 ho => exact gen_V (by simp [execOp, ho]) h
  case h_31 c ho =>
    split at h
    · rename_i f hc
      cases hb : hasBody P f with
      | false =>
        rw [hb, cond_false] at h
        unfold CallX at h
        rw [evs_toArray] at h
        unfold Gen
        have : execOp (ev T) o = callFunc f (c.args.map (ev T)) := by
          simp [execOp, ho, resolve, hc, ev, Deferred.ofValue, invoke]
        rw [this]
        split at h
        · rename_i hr; rw [hr]; exact h
        · exact h.elim
      | true =>
        rw [hb] at h
        unfold Gen
        have : (execOp (ev T) o).run P w = .ok (.enter f (c.args.map (ev T))) w := by
          simp [execOp, ho, resolve, hc, ev, Deferred.ofValue, invoke, run_callFunc hb]
        rw [this]
        simpa [evs_map] using h
    · rename_i x name hc
      unfold CallI at h
      split at h
      · rename_i t v hx
        split at h
        · rename_i f r w' hr
          obtain ⟨hb, h⟩ := h
          unfold Gen
          have : (execOp (ev T) o).run P w = .ok (.enter f (#[r] ++ c.args.map (ev T))) w' := by
            have e2 : (#[ev T x] ++ c.args.map (ev T)).extract 1 (#[ev T x] ++ c.args.map (ev T)).size = c.args.map (ev T) := by
              apply Array.toList_inj.1; simp [List.take_of_length_le]
            have e3 : (#[ev T x] ++ c.args.map (ev T))[0]? = some (.iface t v) := by
              rw [← Array.getElem?_toList]; simp [hx]
            have e4 : execOp (ev T) o = invoke (.fn (.method name) #[]) (#[ev T x] ++ c.args.map (ev T)) := by
              simp [execOp, ho, resolve, hc]
            rw [e4]
            unfold invoke
            simp only [e3, e2, callMethod]
            have e5 : (do let (f, receiver) ← method ((← program).types.size + Made.depth) t v name; callFunc f (#[receiver] ++ c.args.map (ev T)) : Sem Next).run P w = .ok (.enter f (#[r] ++ c.args.map (ev T))) w' := by
              simp only [Sem.run_bind]
              show ((method (P.types.size + Made.depth) t v name).run P w).andThen _ = _
              rw [hr]
              exact run_callFunc hb _ _
            exact e5
          rw [this]
          simpa [evs_map] using h
        · exact h.elim
      · exact h.elim
    · rename_i t hc
      unfold CallV at h
      split at h
      · rename_i f first captured hv
        obtain ⟨hb, h⟩ := h
        unfold Gen
        have : (execOp (ev T) o).run P w = .ok (.enter f (first ++ c.args.map (ev T) ++ captured)) w := by
          simp [execOp, ho, resolve, hc, ev, hv, Deferred.ofValue, invoke, run_callFunc hb]
        rw [this]
        simpa [evs_map] using h
      · exact h.elim
    · rename_i b hc; exact stepBuiltin_gen ho hc h
    · exact h
  case h_32 => exact h.elim
  case h_33 => exact h


/-- the temps that are written lie in the frame -/
def dstOk (n : Nat) (o : Oper) : Bool :=
  match o.dst with
  | some d => Nat.blt d n
  | none => true
def opsOk (n : Nat) : List Oper → Bool
  | [] => true
  | o :: l => dstOk n o && opsOk n l
def codeOk (n : Nat) : Code → Bool
  | .region _ ops _ => opsOk n ops.toList
  | .seq a b => codeOk n a && codeOk n b
  | .cond _ a b => codeOk n a && codeOk n b
  | .block _ a => codeOk n a
  | .loop a => codeOk n a
  | _ => true

theorem dstOk_lt {n : Nat} {o : Oper} (h : dstOk n o = true) : ∀ k, o.dst = some k → k < n := by
  intro k hk
  unfold dstOk at h
  rw [hk] at h
  rw [Nat.blt_eq] at h; exact h
theorem opsOk_mem {n : Nat} {l : List Oper} (h : opsOk n l = true) : ∀ o ∈ l, dstOk n o = true := by
  induction l with
  | nil => simp
  | cons a l ih =>
    simp [opsOk] at h
    intro o ho
    cases ho with
    | head => exact h.1
    | tail _ hm => exact ih h.2 o hm

theorem upon_of_gen {P : Program} {o : Oper} {a : Act} {w : World} {K : Value → World → Prop} {next : Act → World → Prop} {Q : Exit → Act → World → Prop}
    (h : Gen P (Tof a) o w K) (hk : ∀ v w', K v w' → next (a.put o.dst v) w') : o.wp P a w next Q := by
  unfold Gen at h
  unfold Oper.wp
  rw [eval_Tof]
  cases hr : (execOp (ev (Tof a)) o).run P w with
  | ok x w' =>
    rw [hr] at h
    cases x <;> simp only [Oper.upon] <;> first
      | exact hk _ _ h
      | exact h.elim
      | skip
    rename_i f args
    exact Calls.mono h (fun e w'' he => by cases e <;> first | exact hk _ _ he | exact he.elim)
  | halt x w' => rw [hr] at h; exact h.elim

structure Good (n : Nat) (a : Act) : Prop where
  size : a.tmps.size = n
  defers : a.defers = []

theorem Good.put {n : Nat} {a : Act} (h : Good n a) (d : Option Tmp) (v : Value) : Good n (a.put d v) := by
  cases d with
  | none => exact h
  | some k => exact ⟨by simp [Act.put, h.size], h.defers⟩

theorem Tof_bool {a : Act} {g : Nat} {b : Bool} (h : Tof a g = .bool b) : a.tmps[g]? = some (.bool b) := by
  unfold Tof at h
  rw [Array.getD_eq_getD_getElem?] at h
  cases hg : a.tmps[g]? with
  | none => rw [hg] at h; simp [undef] at h
  | some v => rw [hg] at h; simpa using h

theorem yielded_of {ops : Array Oper} {a : Act} {j g : Nat} {b : Bool} (hg : guardTmp ops.toList j = some g) (h : Tof a g = .bool b) :
    yielded ops a.tmps j = some b := by
  unfold guardTmp at hg
  rw [Array.getElem?_toList] at hg
  unfold yielded
  cases ho : ops[j]? with
  | none => rw [ho] at hg; simp at hg
  | some o =>
    rw [ho] at hg
    simp at hg
    simp [hg, Tof_bool h]

/-- one operation of a region, as the kit's wpOps takes it -/
def oneWp (P : Program) (ops : Array Oper) (Q : Exit → Act → World → Prop) (o : Oper) (a : Act) (w : World) (next : Act → World → Prop) : Prop :=
  if Region.wanted o (yielded ops a.tmps) then o.wp P a w next Q ∨ (o.asks P a w ∧ LetsOut Q) else next (a.put o.dst undef) w

theorem guarded_sound {P : Program} {ops : Array Oper} {Q : Exit → Act → World → Prop} {n : Nat} {o : Oper} {a : Act} {w : World} {K : Tm → World → Prop} {next : Act → World → Prop}
    (hd : dstOk n o = true) (hg : Good n a) (h : guarded P ops.toList o (Tof a) w K)
    (hn : ∀ a' w', Good n a' → K (Tof a') w' → next a' w') : oneWp P ops Q o a w next := by
  have hput : ∀ v w', K (updO (Tof a) o.dst v) w' → next (a.put o.dst v) w' := fun v w' hK =>
    hn _ _ (hg.put _ _) (by rw [updO_Tof a o.dst v (fun k hk => hg.size ▸ dstOk_lt hd k hk)]; exact hK)
  unfold guarded at h
  unfold oneWp
  split at h
  · rename_i hgd
    have : Region.wanted o (yielded ops a.tmps) = true := by simp [Region.wanted, hgd]
    rw [if_pos this]
    exact .inl (upon_of_gen (stepOp_gen h) hput)
  · rename_i j want hgd
    split at h
    · exact h.elim
    · rename_i g hgt
      unfold IfV at h
      split at h
      · rename_i hT
        have hw : Region.wanted o (yielded ops a.tmps) = want := by
          simp only [Region.wanted, hgd, yielded_of hgt hT]; cases want <;> rfl
        rw [upd_same _ _ _ hT] at h
        cases want with
        | true => rw [cond_true] at h; rw [if_pos hw]; exact .inl (upon_of_gen (stepOp_gen h) hput)
        | false => rw [cond_false] at h; rw [if_neg (by simp [hw])]; exact hput _ _ h
      · rename_i hT
        have hw : Region.wanted o (yielded ops a.tmps) = !want := by
          simp only [Region.wanted, hgd, yielded_of hgt hT]; cases want <;> rfl
        rw [upd_same _ _ _ hT] at h
        cases want with
        | true => rw [cond_true] at h; rw [if_neg (by simp [hw])]; exact hput _ _ h
        | false => rw [cond_false] at h; rw [if_pos (by simp [hw])]; exact .inl (upon_of_gen (stepOp_gen h) hput)
      · exact h.elim

theorem ops_sound {P : Program} {ops : Array Oper} {Q : Exit → Act → World → Prop} {n : Nat} {K : Tm → World → Prop}
    (hd : ∀ o ∈ ops.toList, dstOk n o = true) (hQ : ∀ a' w', Good n a' → K (Tof a') w' → Q .normal a' w') :
    ∀ (m k : Nat) (a : Act) (w : World), k + m = ops.size → Good n a → evalOps P ops.toList (ops.toList.drop k) (Tof a) w K → wpOps P ops Q (List.range' k m) a w := by
  intro m
  induction m with
  | zero =>
    intro k a w hk hg h
    rw [List.drop_eq_nil_of_le (by simp; omega)] at h
    simpa [wpOps] using hQ _ _ hg h
  | succ m ih =>
    intro k a w hk hg h
    have hlt : k < ops.toList.length := by simp; omega
    rw [List.drop_eq_getElem_cons hlt] at h
    simp only [evalOps] at h
    have ho : ops[k]? = some (ops.toList[k]) := by rw [← Array.getElem?_toList]; exact List.getElem?_eq_getElem hlt
    simp only [List.range', wpOps, ho]
    exact guarded_sound (Q := Q) (hd _ (List.getElem_mem hlt)) hg h (fun a' w' hg' hK => ih (k + 1) a' w' (by omega) hg' hK)

/-- what the evaluator of drawn regions owes -/
def DrawSound (P : Program) (draw : List Oper → Tm → World → (Tm → World → Prop) → Prop) : Prop :=
  ∀ (id : Nat) (ops : Array Oper) (n : Nat) (Q : Exit → Act → World → Prop) (K : Tm → World → Prop) (a : Act) (w : World),
    (∀ o ∈ ops.toList, dstOk n o = true) → Good n a → (∀ a' w', Good n a' → K (Tof a') w' → Q .normal a' w') →
    draw ops.toList (Tof a) w K → (Code.region id ops true).wp P Q a w

theorem draw_none (P : Program) : DrawSound P (fun _ _ _ _ => False) := fun _ _ _ _ _ _ _ _ _ _ h => h.elim

/-- where a code comes out -/
def QK (n : Nat) (kn : Tm → World → Prop) (kx : Ex → Tm → World → Prop) : Exit → Act → World → Prop
  | .normal, a, w => Good n a ∧ kn (Tof a) w
  | .ret, a, w => Good n a ∧ kx .ret (Tof a) w
  | .exit id, a, w => Good n a ∧ kx (.exit id) (Tof a) w
  | _, _, _ => False

theorem code_sound {P : Program} {draw : List Oper → Tm → World → (Tm → World → Prop) → Prop} (hdraw : DrawSound P draw) {lv : Nat → List Nat} {n : Nat} (c : Code) :
    ∀ (p : Nat) (kn : Tm → World → Prop) (kx : Ex → Tm → World → Prop) (a : Act) (w : World), codeOk n c = true → Good n a → evalC P draw lv c p kn kx (Tof a) w →
      c.wp P (QK n kn kx) a w := by
  induction c with
  | skip => intro p kn kx a w _ hg h; exact wp_skip ⟨hg, h⟩
  | region id ops d =>
    intro p kn kx a w hc hg h
    have hd := opsOk_mem hc
    unfold evalC at h
    cases d with
    | true => exact hdraw id ops n _ kn a w hd hg (fun a' w' hg' hK => ⟨hg', hK⟩) h
    | false =>
      refine wp_region ?_
      rw [List.range_eq_range']
      exact ops_sound hd (fun a' w' hg' hK => ⟨hg', hK⟩) ops.size 0 a w (by omega) hg (by simpa using h)
  | seq x y ihx ihy =>
    intro p kn kx a w hc hg h
    simp only [codeOk, Bool.and_eq_true] at hc
    refine wp_seq (wp_mono (ihx _ _ kx a w hc.1 hg h) ?_)
    intro e a' w' hq
    cases e with
    | normal => exact ihy _ kn kx a' w' hc.2 hq.1 hq.2
    | _ => exact hq
  | cond c x y ihx ihy =>
    intro p kn kx a w hc hg h
    simp only [codeOk, Bool.and_eq_true] at hc
    unfold evalC IfV at h
    split at h
    · rename_i hv; exact wp_cond_true (by rw [eval_Tof]; exact hv) (ihx _ kn kx a w hc.1 hg h)
    · rename_i hv; exact wp_cond_false (by rw [eval_Tof]; exact hv) (ihy _ kn kx a w hc.2 hg h)
    · exact h.elim
  | block id x ih =>
    intro p kn kx a w hc hg h
    refine wp_block (wp_mono (ih _ kn (kBlock id kn kx) a w hc hg h) ?_)
    intro e a' w' hq
    cases e with
    | exit j =>
      obtain ⟨hg', hq⟩ := hq
      simp only [Exit.inBlock]
      by_cases hj : j = id
      · subst hj
        rw [if_pos rfl]
        simp only [kBlock] at hq
        have : Nat.beq j j = true := by exact Nat.beq_refl j
        rw [this] at hq
        exact ⟨hg', hq⟩
      · rw [if_neg hj]
        simp only [kBlock, nat_beq_ne hj] at hq
        exact ⟨hg', hq⟩
    | ret => exact hq
    | normal => exact hq
    | _ => exact hq
  | loop x ih =>
    intro p kn kx a w hc hg h
    obtain ⟨I, μ, h0, hr⟩ := h
    refine wp_loop (fun a w => Good n a ∧ I (temps (Tof a) (lv p)) w) (fun a w => μ (temps (Tof a) (lv p)) w) ⟨hg, h0⟩ ?_
    intro a w ⟨hg, hI⟩
    refine wp_mono (ih _ _ kx a w hc hg (hr _ _ hI)) ?_
    intro e a' w' hq
    cases e with
    | normal => exact ⟨⟨hq.1, hq.2.1⟩, hq.2.2⟩
    | _ => exact hq
  | exit id => intro p kn kx a w _ hg h; exact wp_exit ⟨hg, h⟩
  | ret => intro p kn kx a w _ hg h; exact wp_ret ⟨hg, h⟩
  | rangeFunc => intro p kn kx a w _ hg h; exact h.elim
  | scope => intro p kn kx a w _ hg h; exact h.elim
  | label => intro p kn kx a w _ hg h; exact h.elim
  | goto => intro p kn kx a w _ hg h; exact h.elim
  | refuse => intro p kn kx a w _ hg h; exact h.elim

/-! a function -/
def argT (args : List Value) : Tm := fun i => args.getD i undef
/-- the results are read -/
def resK (P : Program) (T : Tm) (w : World) : List ResultVar → List Value → (List Value → Prop) → Prop
  | [], acc, K => K acc
  | .tmp t :: l, acc, K => resK P T w l (acc ++ [T t]) K
  | .cell a t :: l, acc, K =>
    match kLoad P t with
    | some none => Ld (T a) w (fun v _ => resK P T w l (acc ++ [v]) K)
    | some (some n) => LdN (T a) n w (fun v _ => resK P T w l (acc ++ [v]) K)
    | none => False
def retV (K : Value → World → Prop) (w : World) : List Value → Prop
  | [v] => K v w
  | vs => K (.tuple vs.toArray) w
def RetK (P : Program) (rs : List ResultVar) (K : Value → World → Prop) (T : Tm) (w : World) : Prop := resK P T w rs [] (retV K w)
def kRet (P : Program) (rs : List ResultVar) (K : Value → World → Prop) : Ex → Tm → World → Prop
  | .ret, T, w => RetK P rs K T w
  | .exit _, _, _ => False
def evalF (P : Program) (draw : List Oper → Tm → World → (Tm → World → Prop) → Prop) (lv : Nat → List Nat) (rs : List ResultVar) (c : Code) (args : List Value) (w : World) (K : Value → World → Prop) : Prop :=
  evalC P draw lv c 1 (RetK P rs K) (kRet P rs K) (argT args) w

def resOne (tmps : Array Value) : ResultVar → Sem Value
  | .tmp t => pure (tmps.getD t undef)
  | .cell a t => do loadVar t (← asAddr (tmps.getD a undef))

theorem loadVar_run {P : Program} {t : TypeId} {x : Value} {w : World} {K : Value → Prop} (h : match kLoad P t with | some none => Ld x w (fun v _ => K v) | some (some n) => LdN x n w (fun v _ => K v) | none => False) :
    ∃ v, (do loadVar t (← asAddr x) : Sem Value).run P w = .ok v w ∧ K v := by
  split at h
  · rename_i ht
    unfold Ld at h
    split at h
    · rename_i a
      split at h
      · rename_i v hv; exact ⟨v, by simp [asAddr, loadVar, kLoad_none ht, hv], h⟩
      · exact h.elim
    · exact h.elim
  · rename_i n ht
    unfold LdN at h
    split at h
    · rename_i a
      split at h
      · rename_i l hl; exact ⟨_, by simp [asAddr, loadVar, (kLoad_some ht w).1, (kLoad_some ht w).2, loadCells, cellsAt_run n 0 l #[] hl], h⟩
      · exact h.elim
    · exact h.elim
  · exact h.elim

theorem resK_run {P : Program} (a : Act) (w : World) : ∀ (rs : List ResultVar) (acc : List Value) (K : List Value → Prop), resK P (Tof a) w rs acc K →
    ∃ vs, (rs.mapM (m := Sem) (resOne a.tmps)).run P w = .ok vs w ∧ K (acc ++ vs) := by
  intro rs
  induction rs with
  | nil => intro acc K h; exact ⟨[], by simp, by simpa [resK] using h⟩
  | cons r rs ih =>
    intro acc K h
    cases r with
    | tmp t =>
      obtain ⟨vs, h1, h2⟩ := ih _ _ h
      refine ⟨Tof a t :: vs, ?_, by simpa using h2⟩
      have h0 : (resOne a.tmps (.tmp t)).run P w = .ok (Tof a t) w := rfl
      simp only [List.mapM_cons, Sem.run_bind, h0, Result.andThen_ok, h1]
      rfl
    | cell b t =>
      simp only [resK] at h
      obtain ⟨v, h0, h⟩ := loadVar_run (K := fun v => resK P (Tof a) w rs (acc ++ [v]) K) h
      obtain ⟨vs, h1, h2⟩ := ih _ _ h
      refine ⟨v :: vs, ?_, by simpa using h2⟩
      have h0' : (resOne a.tmps (.cell b t)).run P w = .ok v w := h0
      simp only [List.mapM_cons, Sem.run_bind, h0', Result.andThen_ok, h1]
      rfl

theorem results_eq (fn : Func) (tmps : Array Value) : results fn tmps = (do
    let vs ← fn.results.mapM (resOne tmps)
    pure (if h : vs.size = 1 then vs[0] else .tuple vs)) := by
  unfold results
  congr 1

theorem results_run {P : Program} {fn : Func} {a : Act} {w : World} {K : Value → World → Prop} (h : RetK P fn.results.toList K (Tof a) w) :
    ∃ v, (results fn a.tmps).run P w = .ok v w ∧ K v w := by
  unfold RetK at h
  obtain ⟨vs, hv, hk⟩ := resK_run a w _ _ _ h
  have key : (results fn a.tmps).run P w = .ok (if h : vs.toArray.size = 1 then vs.toArray[0] else .tuple vs.toArray) w := by
    rw [results_eq, Array.mapM_eq_mapM_toList]
    simp only [Sem.run_bind, bind_map_left, hv]
    rfl
  simp only [List.nil_append] at hk
  unfold retV at hk
  split at hk
  · exact ⟨_, by rw [key]; rfl, hk⟩
  · rename_i hn
    refine ⟨_, key, ?_⟩
    rw [dif_neg]
    · exact hk
    · intro h1
      simp at h1
      obtain ⟨v, rfl⟩ := List.length_eq_one_iff.1 h1
      exact hn v rfl

theorem Tof_enter (args : List Value) (n : Nat) : Tof { tmps := args.toArray ++ Array.replicate (n - args.toArray.size) undef, defers := [] } = argT args := by
  funext i
  unfold Tof argT
  simp only [Array.getD_eq_getD_getElem?, List.getD_eq_getElem?_getD]
  by_cases h : i < args.length
  · rw [Array.getElem?_append_left (by simpa using h)]; simp
  · rw [Array.getElem?_append_right (by simpa using Nat.le_of_not_lt h)]
    simp only [Array.getElem?_replicate]
    rw [List.getElem?_eq_none (Nat.le_of_not_lt h)]
    split <;> rfl

/-- **A function's contract, out of the evaluator's run of its body.** -/
theorem callF_of {P : Program} {draw : List Oper → Tm → World → (Tm → World → Prop) → Prop} (hdraw : DrawSound P draw) (lv : Nat → List Nat) {f : FuncId} {fn : Func} {c : Code} {n : Nat} {rs : List ResultVar}
    (hf : P.funcs[f]? = some fn) (hb : fn.body = some c) (hn : fn.ntmps = n) (hr : fn.results.toList = rs) (hc : codeOk n c = true)
    {args : List Value} (ha : args.length ≤ n) {w : World} {K : Value → World → Prop} (h : evalF P draw lv rs c args w K) : CallF P f args w K := by
  subst hn hr
  refine calls_of_wp hf hb (wp_mono (code_sound hdraw c _ _ _ _ w hc ⟨?_, rfl⟩ (by rw [Tof_enter]; exact h)) ?_)
  · simp; omega
  · intro e a' w' hq
    cases e with
    | normal => obtain ⟨hg, hk⟩ := hq; obtain ⟨v, hv, hK⟩ := results_run (P := P) hk; exact ⟨hg.defers, v, hv, hK⟩
    | ret => obtain ⟨hg, hk⟩ := hq; obtain ⟨v, hv, hK⟩ := results_run (P := P) hk; exact ⟨hg.defers, v, hv, hK⟩
    | exit id => exact hq.2
    | goto l => exact hq
    | panic ch => exact hq.elim
    | outgrown => exact hq.elim

/-- the same, the run of the body being some statement -/
theorem callF_eq {P : Program} {draw : List Oper → Tm → World → (Tm → World → Prop) → Prop} (hdraw : DrawSound P draw) (lv : Nat → List Nat) {f : FuncId} {fn : Func} {c : Code} {n : Nat} {rs : List ResultVar}
    (hf : P.funcs[f]? = some fn) (hb : fn.body = some c) (hn : fn.ntmps = n) (hr : fn.results.toList = rs) (hc : codeOk n c = true)
    {args : List Value} (ha : Nat.ble args.length n = true) {w : World} {K : Value → World → Prop} {S : Prop} (e : evalF P draw lv rs c args w K = S) (h : S) : CallF P f args w K :=
  callF_of hdraw lv hf hb hn hr hc (Nat.le_of_ble_eq_true ha) (e ▸ h)

end Go.Lad

