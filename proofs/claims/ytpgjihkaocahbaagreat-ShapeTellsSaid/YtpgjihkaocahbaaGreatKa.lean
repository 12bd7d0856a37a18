import Derived.WalkKit
/- The interpreter: what a call of a Go function of this program computes, reckoned over values and blocks of its own, by plain recursion. Nothing here speaks of the machine. -/
namespace Go.Lan

abbrev Env := List (Nat × Value)
abbrev Hp := List (List Value × TypeId)

def getE : Env → Nat → Value
  | [], _ => .tuple #[]
  | (k, v) :: t, n => match Nat.beq k n with
    | true => v
    | false => getE t n

def nth {α : Type} : List α → Nat → Option α
  | [], _ => none
  | a :: _, 0 => some a
  | _ :: l, n + 1 => nth l n

def takeL {α : Type} : Nat → List α → List α
  | 0, _ => []
  | _ + 1, [] => []
  | n + 1, a :: l => a :: takeL n l

def dropL {α : Type} : Nat → List α → List α
  | 0, l => l
  | _ + 1, [] => []
  | n + 1, _ :: l => dropL n l

def lenL {α : Type} : List α → Nat
  | [] => 0
  | _ :: l => Nat.succ (lenL l)

def appL {α : Type} : List α → List α → List α
  | [], m => m
  | a :: l, m => a :: appL l m

def setL {α : Type} : List α → Nat → α → List α
  | [], _, _ => []
  | _ :: l, 0, b => b :: l
  | a :: l, n + 1, b => a :: setL l n b

/-- Kinds of the types that the code names: cells, the zero value's cells, what it is. -/
inductive TK where
  | int (k : IntKind)
  | float (k : FloatKind)
  | bool
  | string
  | struct (fs : List (Nat × TypeId))
  | array (n : Nat) (e : TypeId)
  | slice (e : TypeId)
  | pointer (e : TypeId)
  | other
structure TI where
  size : Nat
  zero : List Value
  k : TK
  /-- may two values of it be compared? -/
  cmp : Bool
def TK.agg : TK → Bool
  | .struct _ => true
  | .array _ _ => true
  | _ => false
abbrev Tab := List (TypeId × TI)
def Tab.get : Tab → TypeId → Option TI
  | [], _ => none
  | (k, v) :: t, n => match Nat.beq k n with
    | true => some v
    | false => Tab.get t n

/-- The operations on floats, by name: the interpreter does not look into them. -/
structure Prims where
  add : Nat → Nat → Nat
  sub : Nat → Nat → Nat
  mul : Nat → Nat → Nat
  quo : Nat → Nat → Nat
  eq : Nat → Nat → Bool
  ne : Nat → Nat → Bool
  lt : Nat → Nat → Bool
  le : Nat → Nat → Bool
  gt : Nat → Nat → Bool
  ge : Nat → Nat → Bool
  neg : Nat → Nat
  ofInt : Int → Nat
  min : Nat → Nat → Nat
  max : Nat → Nat → Nat
  toInt : Nat → Int
  okToInt : Nat → Bool
  and : IntKind → Int → Int → Int
  or : IntKind → Int → Int → Int
  xor : IntKind → Int → Int → Int
  andNot : IntKind → Int → Int → Int

def sameK (a b : IntKind) : Bool := decide (a = b)

def shlV (k : IntKind) (x y : Int) : Int := k.wrap (x * 2 ^ (min y.toNat k.bits))
def shrV (k : IntKind) (x y : Int) : Int := x.fdiv (2 ^ (min y.toNat k.bits))

/-- What an operation on two plain values gives, and whether it is one that gives something. -/
def binV (M : Prims) (op : BinOp) (x y : Value) : Option (Bool × Value) :=
  match x, y with
  | .int k a, .int k' b =>
    match op with
    | .shl => some (decide (0 ≤ b), .int k (shlV k a b))
    | .shr => some (decide (0 ≤ b), .int k (shrV k a b))
    | _ => match sameK k k' with
      | false => none
      | true => match op with
        | .add => some (true, .int k (k.wrap (a + b)))
        | .sub => some (true, .int k (k.wrap (a - b)))
        | .mul => some (true, .int k (k.wrap (a * b)))
        | .quo => some (!decide (b = 0), .int k (k.wrap (a.tdiv b)))
        | .rem => some (!decide (b = 0), .int k (a.tmod b))
        | .and => some (true, .int k (M.and k a b))
        | .or => some (true, .int k (M.or k a b))
        | .xor => some (true, .int k (M.xor k a b))
        | .andNot => some (true, .int k (M.andNot k a b))
        | .eql => some (true, .bool (a == b))
        | .neq => some (true, .bool (a != b))
        | .lss => some (true, .bool (decide (a < b)))
        | .leq => some (true, .bool (decide (a ≤ b)))
        | .gtr => some (true, .bool (decide (a > b)))
        | .geq => some (true, .bool (decide (a ≥ b)))
        | _ => none
  | .float .f64 a, .float .f64 b =>
    match op with
    | .add => some (true, .float .f64 (M.add a b))
    | .sub => some (true, .float .f64 (M.sub a b))
    | .mul => some (true, .float .f64 (M.mul a b))
    | .quo => some (true, .float .f64 (M.quo a b))
    | .eql => some (true, .bool (M.eq a b))
    | .neq => some (true, .bool (M.ne a b))
    | .lss => some (true, .bool (M.lt a b))
    | .leq => some (true, .bool (M.le a b))
    | .gtr => some (true, .bool (M.gt a b))
    | .geq => some (true, .bool (M.ge a b))
    | _ => none
  | _, _ => none

def unV (M : Prims) (op : UnOp) (x : Value) : Option (Bool × Value) :=
  match op, x with
  | .neg, .int k n => some (true, .int k (k.wrap (0 - n)))
  | .neg, .float .f64 b => some (true, .float .f64 (M.neg b))
  | .not, .bool b => some (true, .bool (!b))
  | _, _ => none

abbrev Fns := FuncId → List Value → Hp → Option (Bool × Value × Hp)

/-- A constant, if it names no memory; else nothing is known of it. -/
def constV : Value → Value
  | .bool b => .bool b
  | .int k n => .int k n
  | .float k n => .float k n
  | .string s => .string s
  | .pointer none => .pointer none
  | .slice none l c => .slice none l c
  | .map none => .map none
  | .nilFunc => .nilFunc
  | .nilIface => .nilIface
  | _ => .complex .f32 0 0

def opv (e : Env) : Operand → Value
  | .tmp t => getE e t
  | .const v => constV v
  | .func f => .func (.func f) ⟨[]⟩ ⟨[]⟩
  | .global _ => .complex .f32 0 0

def opvs (ρ : Operand → Value) : List Operand → List Value
  | [] => []
  | x :: l => ρ x :: opvs ρ l

/-- A value's cells; of a value that is not known (a complex number stands for it), or of none, nothing is said. -/
def cellsL : Value → Option (List Value)
  | .agg ⟨l⟩ => some l
  | .tuple _ => none
  | .complex _ _ _ => none
  | v => some [v]

/-- One cell's value, and known. -/
def oneV : Value → Bool
  | .agg _ => false
  | .tuple _ => false
  | .complex _ _ _ => false
  | _ => true

def allOne : List Value → Bool
  | [] => true
  | v :: l => oneV v && allOne l

def putL (cells : List Value) : Nat → List Value → List Value
  | _, [] => cells
  | off, v :: vs => putL (setL cells off v) (off + 1) vs

def fillL (place : Nat → Option (Nat × Nat)) (cells : List Value) : List (Nat × Value) → Option (List Value)
  | [] => some cells
  | (i, v) :: rest => match place i with
    | none => none
    | some (off, size) => match cellsL v with
      | none => none
      | some vs => match Nat.beq (lenL vs) size && Nat.ble (off + size) (lenL cells) with
        | true => fillL place (putL cells off vs) rest
        | false => none

def ptrAt (b off : Nat) : Value := .pointer (some ⟨b, off, none⟩)

/-- What stands in cells from a place on, as a value of a type. -/
def partL (ti : TI) (cells : List Value) (off : Nat) : Option Value :=
  match ti.k.agg with
  | true => match Nat.ble (off + ti.size) (lenL cells) with
    | true => some (.agg ⟨takeL ti.size (dropL off cells)⟩)
    | false => none
  | false => nth cells off

def storeL (ti : TI) (cells : List Value) (off : Nat) (v : Value) : Option (List Value) :=
  match cellsL v with
  | none => none
  | some vs => match Nat.beq (lenL vs) ti.size && Nat.ble (off + ti.size) (lenL cells) && allOne vs with
    | true => some (putL cells off vs)
    | false => none

def placeOf (T : Tab) (k : TK) (i : Nat) : Option (Nat × Nat) :=
  match k with
  | .struct fs => match nth fs i with
    | some (off, t) => match T.get t with
      | some ti => some (off, ti.size)
      | none => none
    | none => none
  | .array _ e => match T.get e with
    | some ti => some (i * ti.size, ti.size)
    | none => none
  | _ => none

def allTyped (T : Tab) : TK → Bool
  | .struct fs => go fs
  | .array _ e => (T.get e).isSome
  | _ => false
where go : List (Nat × TypeId) → Bool
  | [] => true
  | (_, t) :: l => match T.get t with
    | some _ => go l
    | none => false

def partsV (ρ : Operand → Value) : List (Nat × Operand) → List (Nat × Value)
  | [] => []
  | (i, x) :: l => (i, ρ x) :: partsV ρ l

def repL {α : Type} : Nat → List α → List α
  | 0, _ => []
  | n + 1, l => appL l (repL n l)

def convV (M : Prims) (k : TK) (x : Value) : Option (Bool × Value) :=
  match k, x with
  | .int k, .int _ n => some (true, .int k (k.wrap n))
  | .float .f64, .int _ n => some (true, .float .f64 (M.ofInt n))
  | .float .f64, .float .f64 b => some (true, .float .f64 b)
  | .int .i64, .float .f64 b => some (M.okToInt b, .int .i64 (M.toInt b))
  | _, _ => none

def builtinV (T : Tab) (M : Prims) (b : Builtin) (argTypes : List TypeId) (args : List Value) : Option (Bool × Value) :=
  match b, args with
  | .min, [.float .f64 x, .float .f64 y] => some (true, .float .f64 (M.min x y))
  | .max, [.float .f64 x, .float .f64 y] => some (true, .float .f64 (M.max x y))
  | .min, [.int k x, .int _ y] => some (true, .int k (if y < x then y else x))
  | .max, [.int k x, .int _ y] => some (true, .int k (if y > x then y else x))
  | .len, [.slice _ n _] => match argTypes with
    | [t] => match T.get t with
      | some ⟨_, _, .slice _, _⟩ => some (true, .int .i64 n)
      | _ => none
    | _ => none
  | _, _ => none

def eqAll (f : TypeId → Value → Value → Option Bool) (T : Tab) (l m : List Value) : List (Nat × TypeId) → Option Bool
  | [] => some true
  | (o, t) :: rest => match T.get t with
    | none => none
    | some ti => match partL ti l o, partL ti m o with
      | some x, some y => match f t x y, eqAll f T l m rest with
        | some r, some s => some (r && s)
        | _, _ => none
      | _, _ => none

def places (size : Nat) (e : TypeId) : Nat → Nat → List (Nat × TypeId)
  | 0, _ => []
  | n + 1, i => (i * size, e) :: places size e n (i + 1)

/-- '==' of two values of a type, where all that is compared in the end are numbers and bools. -/
def eqT (T : Tab) (M : Prims) : Nat → TypeId → Value → Value → Option Bool
  | 0, _, _, _ => none
  | d + 1, t, x, y => match T.get t with
    | none => none
    | some ti => match ti.k, x, y with
      | .int _, .int k a, .int k' b => match sameK k k' with
        | true => some (a == b)
        | false => none
      | .float _, .float .f64 a, .float .f64 b => some (M.eq a b)
      | .bool, .bool a, .bool b => some (a == b)
      | .pointer _, .pointer none, .pointer b => some b.isNone
      | .pointer _, .pointer (some _), .pointer none => some false
      | .slice _, .slice none _ _, .slice b _ _ => some b.isNone
      | .slice _, .slice (some _) _ _, .slice none _ _ => some false
      | .struct fs, .agg ⟨l⟩, .agg ⟨m⟩ => match ti.cmp with
        | true => eqAll (eqT T M d) T l m fs
        | false => none
      | .array n e, .agg ⟨l⟩, .agg ⟨m⟩ => match ti.cmp, T.get e with
        | true, some ei => eqAll (eqT T M d) T l m (places ei.size e n 0)
        | _, _ => none
      | _, _, _ => none

def callV (T : Tab) (M : Prims) (Φ : Fns) (ρ : Operand → Value) (h : Hp) (c : Call) : Option (Bool × Value × Hp) :=
  match c.callee with
  | .builtin b => match builtinV T M b c.argTypes.toList (opvs ρ c.args.toList) with
    | some (g, v) => some (g, v, h)
    | none => none
  | .value f => match ρ f with
    | .func (.func f) ⟨first⟩ ⟨captured⟩ => Φ f (appL first (appL (opvs ρ c.args.toList) captured)) h
    | _ => none
  | .invoke _ _ => none

/-- One operation: is it carried out without a panic, its value, the memory behind it. -/
def opR (T : Tab) (M : Prims) (Φ : Fns) (ρ : Operand → Value) (h : Hp) (op : Op) : Option (Bool × Value × Hp) :=
  match op with
  | .move x => some (true, ρ x, h)
  | .assign x => some (true, ρ x, h)
  | .alloc t => match T.get t with
    | some ti => some (true, ptrAt (lenL h) 0, appL h [(ti.zero, t)])
    | none => none
  | .box t x => match cellsL (ρ x) with
    | none => none
    | some vs => some (true, ptrAt (lenL h) 0, appL h [(vs, t)])
  | .build t parts => match T.get t with
    | some ti => match allTyped T ti.k with
      | true => match fillL (placeOf T ti.k) ti.zero (partsV ρ parts.toList) with
        | some l => some (true, .agg ⟨l⟩, h)
        | none => none
      | false => none
    | none => none
  | .load t a => match T.get t with
    | some ti => match ρ a with
      | .pointer (some ⟨b, off, none⟩) => match nth h b with
        | some (cells, _) => match partL ti cells off with
          | some v => some (true, v, h)
          | none => none
        | none => none
      | _ => none
    | none => none
  | .store t a x => match T.get t with
    | some ti => match ρ a with
      | .pointer (some ⟨b, off, none⟩) => match nth h b with
        | some (cells, t') => match storeL ti cells off (ρ x) with
          | some cells' => some (true, .tuple #[], setL h b (cells', t'))
          | none => none
        | none => none
      | _ => none
    | none => none
  | .nilCheck x => match ρ x with
    | .pointer (some a) => some (true, .pointer (some a), h)
    | _ => none
  | .binOp op t x y _ => match ρ x, ρ y with
    | .int k a, .int k' b => match binV M op (.int k a) (.int k' b) with
      | some (g, v) => some (g, v, h)
      | none => none
    | .float k a, .float k' b => match binV M op (.float k a) (.float k' b) with
      | some (g, v) => some (g, v, h)
      | none => none
    | x, y => match op with
      | .eql => match eqT T M 20 t x y with
        | some r => some (true, .bool r, h)
        | none => none
      | .neq => match eqT T M 20 t x y with
        | some r => some (true, .bool (!r), h)
        | none => none
      | _ => none
  | .unOp op _ x => match unV M op (ρ x) with
    | some (g, v) => some (g, v, h)
    | none => none
  | .convert s d x => match T.get s, T.get d with
    | some _, some ti => match convV M ti.k (ρ x) with
      | some (g, v) => some (g, v, h)
      | none => none
    | _, _ => none
  | .fieldAddr s x f => match T.get s with
    | some ti => match ti.k with
      | .struct fs => match nth fs f with
        | some (o, t) => match T.get t with
          | some fi => match Nat.beq fi.size 0 with
            | false => match ρ x with
              | .pointer (some ⟨b, off, none⟩) => some (true, ptrAt b (off + o), h)
              | _ => none
            | true => none
          | none => none
        | none => none
      | _ => none
    | none => none
  | .indexAddr t x ix => match T.get t with
    | some ti => match ρ ix with
      | .int _ i => match ti.k, ρ x with
        | .array n el, .pointer (some ⟨b, off, none⟩) => match T.get el with
          | some ei => some (decide (0 ≤ i) && decide (i < n), ptrAt b (off + i.toNat * ei.size), h)
          | none => none
        | .slice el, .slice (some ⟨b, off, none⟩) n _ => match T.get el with
          | some ei => some (decide (0 ≤ i) && decide (i < n), ptrAt b (off + i.toNat * ei.size), h)
          | none => none
        | _, _ => none
      | _ => none
    | none => none
  | .field t x f => match T.get t with
    | some ti => match ti.k, ρ x with
      | .struct fs, .agg ⟨l⟩ => match nth fs f with
        | some (o, ft) => match T.get ft with
          | some fi => match partL fi l o with
            | some v => some (true, v, h)
            | none => none
          | none => none
        | none => none
      | _, _ => none
    | none => none
  | .index t x ix => match T.get t with
    | some ti => match ρ ix with
      | .int _ i => match ti.k, ρ x with
        | .array n el, .agg ⟨l⟩ => match T.get el with
          | some ei => match decide (0 ≤ i) && decide (i < n) with
            | true => match partL ei l (i.toNat * ei.size) with
              | some v => some (true, v, h)
              | none => none
            | false => none
          | none => none
        | .string, .string s => some (decide (0 ≤ i) && decide (i < s.size), .int .u8 (s.data.toList.getD i.toNat 0).toNat, h)
        | _, _ => none
      | _ => none
    | none => none
  | .buildSlice t n parts => match T.get t with
    | some ⟨_, _, .slice el, _⟩ => match T.get el with
      | some ei => match Nat.ble (n * ei.size) 4096 && !Nat.beq (n * ei.size) 0 && Nat.beq (lenL ei.zero) ei.size with
        | true => match fillL (fun i => some (i * ei.size, ei.size)) (repL n ei.zero) (partsV ρ parts.toList) with
          | some l => some (true, .slice (some ⟨lenL h, 0, none⟩) n n, appL h [(l, el)])
          | none => none
        | false => none
      | none => none
    | _ => none
  | .extract x i => match ρ x with
    | .tuple ⟨l⟩ => match nth l i with
      | some v => some (true, v, h)
      | none => none
    | _ => none
  | .makeFunc fn first captured => some (true, .func fn ⟨opvs ρ first.toList⟩ ⟨opvs ρ captured.toList⟩, h)
  | .call c => callV T M Φ ρ h c
  | _ => none

abbrev R := Option (Value × Hp)
abbrev Loops := Nat → Env → Hp → Option (Bool × Nat × Env × Hp)

def putE (d : Option Tmp) (v : Value) (e : Env) : Env :=
  match d with
  | some d => (d, v) :: e
  | none => e

/-- A test's slot, refined to what the test gave. -/
def refine (c : Operand) (b : Bool) (e : Env) : Env :=
  match c with
  | .tmp t => (t, .bool b) :: e
  | _ => e

def asPick : Op → Option (Operand × Operand × Operand)
  | .pick c a b => some (c, a, b)
  | _ => none

def evOne {ρ : Type} (T : Tab) (M : Prims) (Φ : Fns) (o : Oper) (e : Env) (h : Hp) (k : Env → Hp → Option ρ) : Option ρ :=
  match asPick o.op with
  | some (c, a, b) => match opv e c with
    | .bool x => cond x (k (putE o.dst (opv e a) (refine c true e)) h) (k (putE o.dst (opv e b) (refine c false e)) h)
    | _ => none
  | none => match opR T M Φ (opv e) h o.op with
    | some (g, v, h') => cond g (k (putE o.dst v e) h') none
    | none => none

def guardSlot (all : List Oper) (j : Nat) : Option Tmp :=
  match nth all j with
  | some o => o.dst
  | none => none

def evOps {ρ : Type} (T : Tab) (M : Prims) (Φ : Fns) (all : List Oper) : List Oper → Env → Hp → (Env → Hp → Option ρ) → Option ρ
  | [], e, h, k => k e h
  | o :: rest, e, h, k =>
    match o.guard with
    | none => evOne T M Φ o e h fun e h => evOps T M Φ all rest e h k
    | some (j, want) => match guardSlot all j with
      | none => none
      | some s => match getE e s with
        | .bool b => match want with
          | true => cond b (evOne T M Φ o ((s, .bool true) :: e) h fun e h => evOps T M Φ all rest e h k) (evOps T M Φ all rest (putE o.dst (.tuple #[]) ((s, .bool false) :: e)) h k)
          | false => cond b (evOps T M Φ all rest (putE o.dst (.tuple #[]) ((s, .bool true) :: e)) h k) (evOne T M Φ o ((s, .bool false) :: e) h fun e h => evOps T M Φ all rest e h k)
        | .tuple _ => evOps T M Φ all rest (putE o.dst (.tuple #[]) e) h k
        | _ => none

/-- Does an operation look at memory (1), or write it or make some (2)? -/
def memK (pc : Bool) : Op → Nat
  | .load _ _ => 1
  | .store _ _ _ => 2
  | .alloc _ => 2
  | .box _ _ => 2
  | .buildSlice _ _ _ => 2
  | .call c => match c.callee with
    | .builtin .min => 0
    | .builtin .max => 0
    | .builtin .len => 0
    | .builtin _ => 2
    | .value _ => cond pc 1 2
    | .invoke _ _ => 2
  | .move _ => 0
  | .assign _ => 0
  | .pick _ _ _ => 0
  | .build _ _ => 0
  | .nilCheck _ => 0
  | .binOp _ _ _ _ _ => 0
  | .unOp _ _ _ => 0
  | .convert _ _ _ => 0
  | .fieldAddr _ _ _ => 0
  | .indexAddr _ _ _ => 0
  | .field _ _ _ => 0
  | .index _ _ _ => 0
  | .extract _ _ => 0
  | .makeFunc _ _ _ => 0
  | _ => 2

def tmpsOf : List Operand → List Nat
  | [] => []
  | .tmp t :: l => t :: tmpsOf l
  | _ :: l => tmpsOf l

def memN : List Nat → Nat → Bool
  | [], _ => false
  | a :: l, n => Nat.beq a n || memN l n

def looks (all : List Oper) (o : Oper) : List Nat :=
  match o.guard with
  | none => tmpsOf o.op.operands.toList
  | some (j, _) => match guardSlot all j with
    | some s => s :: tmpsOf o.op.operands.toList
    | none => tmpsOf o.op.operands.toList

def dstIn (d : Option Tmp) (l : List Nat) : Bool :=
  match d with
  | some d => memN l d
  | none => false

def dstEq (a b : Option Tmp) : Bool :=
  match a, b with
  | some a, some b => Nat.beq a b
  | _, _ => false

/-- May the two be carried out in either order? -/
def indep (pc : Bool) (all : List Oper) (x y : Oper) : Bool :=
  !dstIn x.dst (looks all y) && !dstIn y.dst (looks all x) && !dstEq x.dst y.dst && Nat.ble (memK pc x.op * memK pc y.op) 1

def edgeTo (j : Nat) : List Edge → Bool
  | [] => false
  | e :: l => (Nat.beq e.on j && match e.ground with
    | .textOnly _ => false
    | .gcOnly _ => false
    | _ => true) || edgeTo j l

def edgesBack (i : Nat) : List Edge → Bool
  | [] => true
  | e :: l => (Nat.blt e.on i || match e.ground with
    | .textOnly _ => true
    | .gcOnly _ => true
    | _ => false) && edgesBack i l

/-- Each of the operations from number j on that stand ahead of o (number i): they keep their order, or need none. -/
def drawOne (pc : Bool) (all : List Oper) (o : Oper) : Nat → List Oper → Bool
  | _, [] => true
  | j, x :: l => (edgeTo j o.after.toList || indep pc all x o) && drawOne pc all o (j + 1) l

def drawAll (pc : Bool) (all : List Oper) : Nat → List Oper → List Oper → Bool
  | _, _, [] => true
  | i, before, o :: l => edgesBack i o.after.toList && drawOne pc all o 0 before && drawAll pc all (i + 1) (appL before [o]) l

def drawOK (pc : Bool) (ops : List Oper) : Bool := drawAll pc ops 0 [] ops

/-- Does it make a block? -/
def isAl : Op → Bool
  | .alloc _ => true
  | .box _ _ => true
  | .buildSlice _ _ _ => true
  | _ => false

/-- What an operation touches of memory. -/
inductive FP where
  | no
  | rd (l : List Nat)
  | wr (b : Nat)
  | all

def blockOf : Value → Option Nat
  | .pointer (some ⟨b, _, none⟩) => some b
  | _ => none

def blks1 : Value → List Nat
  | .pointer (some ⟨b, _, _⟩) => [b]
  | .slice (some ⟨b, _, _⟩) _ _ => [b]
  | _ => []

def blks : List Value → List Nat
  | [] => []
  | v :: l => appL (blks1 v) (blks l)

def fpOp (pc : Bool) (ρ : Operand → Value) : Op → FP
  | .load _ a => match blockOf (ρ a) with
    | some b => .rd [b]
    | none => .all
  | .store _ a _ => match blockOf (ρ a) with
    | some b => .wr b
    | none => .all
  | .call c => match c.callee with
    | .value f => match ρ f with
      | .func _ ⟨first⟩ ⟨captured⟩ => cond pc (.rd (blks (appL first (appL (opvs ρ c.args.toList) captured)))) .all
      | _ => .all
    | .builtin _ => match memK pc (.call c) with
      | 0 => .no
      | _ => .all
    | .invoke _ _ => .all
  | op => match memK pc op with
    | 0 => .no
    | _ => .all

def allBelow (n : Nat) : List Nat → Bool
  | [] => true
  | b :: l => Nat.blt b n && allBelow n l

/-- All of it stands among n blocks. -/
def fpIn (n : Nat) : FP → Bool
  | .no => true
  | .rd l => allBelow n l
  | .wr b => Nat.blt b n
  | .all => false

def disj : FP → FP → Bool
  | .no, _ => true
  | _, .no => true
  | .rd _, .rd _ => true
  | .rd l, .wr c => !memN l c
  | .wr b, .rd l => !memN l b
  | .wr b, .wr c => !Nat.beq b c
  | _, _ => false

/-- What the operations of a region without tests touch, one behind the other; and the number of the block that one makes. -/
def fpRun (T : Tab) (M : Prims) (Φ : Fns) (pc : Bool) : List Oper → Env → Hp → Option (List (Option Nat × FP))
  | [], _, _ => some []
  | o :: l, e, h => match o.guard, asPick o.op with
    | none, none => match opR T M Φ (opv e) h o.op with
      | some (_, v, h') => match fpRun T M Φ pc l (putE o.dst v e) h' with
        | some t => match isAl o.op with
          | true => some ((some (lenL h), .wr (lenL h)) :: t)
          | false => match fpIn (lenL h) (fpOp pc (opv e) o.op) with
            | true => some ((none, fpOp pc (opv e) o.op) :: t)
            | false => none
        | none => none
      | none => none
    | _, _ => none

def apartRegs (all : List Oper) (x y : Oper) : Bool :=
  !dstIn x.dst (looks all y) && !dstIn y.dst (looks all x) && !dstEq x.dst y.dst

def dynOne (all : List Oper) (o : Oper) (t : FP) : Nat → List Oper → List (Option Nat × FP) → Bool
  | _, [], _ => true
  | j, x :: l, u :: us => (edgeTo j o.after.toList || (apartRegs all x o && disj u.2 t)) && dynOne all o t (j + 1) l us
  | _, _ :: _, [] => false

def dynAll (all : List Oper) : Nat → List Oper → List (Option Nat × FP) → List Oper → List (Option Nat × FP) → Bool
  | _, _, _, [], _ => true
  | i, before, tb, o :: l, t :: ts => edgesBack i o.after.toList && dynOne all o t.2 0 before tb && dynAll all (i + 1) (appL before [o]) (appL tb [t]) l ts
  | _, _, _, _ :: _, [] => false

/-- May the region be carried out in whatever order its edges leave, as memory stands? -/
def dynOK (T : Tab) (M : Prims) (Φ : Fns) (pc : Bool) (ops : List Oper) (e : Env) (h : Hp) : Bool :=
  match fpRun T M Φ pc ops e h with
  | some t => dynAll ops 0 [] [] ops t
  | none => false

def dstsOK (n : Nat) : List Oper → Bool
  | [] => true
  | o :: l => (match o.dst with
    | some d => Nat.blt d n
    | none => true) && dstsOK n l

def regionOK (T : Tab) (M : Prims) (Φ : Fns) (pc : Bool) (n : Nat) (ops : List Oper) (draw : Bool) (e : Env) (h : Hp) : Bool :=
  dstsOK n ops && cond draw (drawOK pc ops || dynOK T M Φ pc ops e h) true

inductive Out where
  | norm
  | exit (id : Nat)
  | ret

/-- A loop's name: the number of the first region in it. -/
def keyOf : Code → Nat
  | .region id _ _ => id
  | .seq a _ => keyOf a
  | .block _ a => keyOf a
  | .loop a => keyOf a
  | _ => 0

/-- The loops of a text, by their rounds. -/
def loopsOf : Code → List Code
  | .seq a b => appL (loopsOf a) (loopsOf b)
  | .cond _ a b => appL (loopsOf a) (loopsOf b)
  | .block _ a => loopsOf a
  | .loop a => a :: loopsOf a
  | _ => []

/-- The slots that operations fill. -/
def asgOps : List Oper → List Nat
  | [] => []
  | o :: l => match o.dst with
    | some d => d :: asgOps l
    | none => asgOps l

def asgs : Code → List Nat
  | .region _ ops _ => asgOps ops.toList
  | .seq a b => appL (asgs a) (asgs b)
  | .cond _ a b => appL (asgs a) (asgs b)
  | .block _ a => asgs a
  | .loop a => asgs a
  | _ => []

/-- Code that fills slots alone, and can't fail: the slots behind it. -/
def mvOps (T : Tab) (M : Prims) (Φ : Fns) (pc : Bool) : List Oper → Env → Hp → Option Env
  | [], e, _ => some e
  | o :: l, e, h => match o.guard with
    | some _ => none
    | none => match Nat.ble (memK pc o.op) 1 with
      | false => none
      | true => match opR T M Φ (opv e) h o.op with
        | some (true, v, _) => mvOps T M Φ pc l (putE o.dst v e) h
        | _ => none

def mv (T : Tab) (M : Prims) (Φ : Fns) (pc : Bool) (tn : Nat) : Code → Env → Hp → Option Env
  | .skip, e, _ => some e
  | .region _ ops d, e, h => match regionOK T M Φ pc tn ops.toList d e h with
    | true => mvOps T M Φ pc ops.toList e h
    | false => none
  | .seq a b, e, h => match mv T M Φ pc tn a e h with
    | some e => mv T M Φ pc tn b e h
    | none => none
  | _, _, _ => none

def ikEq : IntKind → IntKind → Bool
  | .i8, .i8 => true
  | .i16, .i16 => true
  | .i32, .i32 => true
  | .i64, .i64 => true
  | .u8, .u8 => true
  | .u16, .u16 => true
  | .u32, .u32 => true
  | .u64, .u64 => true
  | _, _ => false

/-- The one where t, else the other; or what says nothing. -/
def mrg1 (t : Bool) : Value → Value → Value
  | .int k a, .int k' b => match ikEq k k' with
    | true => .int k (cond t a b)
    | false => .complex .f32 0 0
  | .float .f64 a, .float .f64 b => .float .f64 (cond t a b)
  | .bool a, .bool b => .bool (cond t a b)
  | _, _ => .complex .f32 0 0

def mrgL (t : Bool) : List Value → List Value → List Value
  | a :: l, b :: m => mrg1 t a b :: mrgL t l m
  | _, _ => []

def mrgV (t : Bool) : Value → Value → Value
  | .agg ⟨l⟩, .agg ⟨m⟩ => match Nat.beq (lenL l) (lenL m) with
    | true => .agg ⟨mrgL t l m⟩
    | false => .complex .f32 0 0
  | a, b => mrg1 t a b

def mrgE (t : Bool) : List Nat → Env → Env → Env → Env
  | [], _, _, e => e
  | d :: l, e1, e2, e => (d, mrgV t (getE e1 d) (getE e2 d)) :: mrgE t l e1 e2 e

/-- A branch's name, if its ways are to be joined. -/
def joinKey : Code → Code → Nat
  | .skip, b => Nat.add 1000000 (keyOf b)
  | a, _ => Nat.add 1000000 (keyOf a)

def ev {ρ : Type} (T : Tab) (M : Prims) (Φ : Fns) (Λ : Loops) (pc : Bool) (tn : Nat) : Nat → Code → Env → Hp → (Out → Env → Hp → Option ρ) → Option ρ
  | 0, _, _, _, _ => none
  | n + 1, c, e, h, k =>
    match c with
    | .skip => k .norm e h
    | .region _ ops d => match regionOK T M Φ pc tn ops.toList d e h with
      | true => evOps T M Φ ops.toList ops.toList e h (k .norm)
      | false => none
    | .seq a b => ev T M Φ Λ pc tn n a e h fun o e h => match o with
      | .norm => ev T M Φ Λ pc tn n b e h k
      | o => k o e h
    | .cond x a b => match opv e x with
      | .bool t => match Λ (joinKey a b) e h with
        | none => cond t (ev T M Φ Λ pc tn n a (refine x true e) h k) (ev T M Φ Λ pc tn n b (refine x false e) h k)
        | some _ => match mv T M Φ pc tn a (refine x true e) h, mv T M Φ pc tn b (refine x false e) h with
          | some e1, some e2 => k .norm (mrgE t (appL (asgs a) (asgs b)) e1 e2 e) h
          | _, _ => none
      | _ => none
    | .block id a => ev T M Φ Λ pc tn n a e h fun o e h => match o with
      | .exit j => match Nat.beq j id with
        | true => k .norm e h
        | false => k (.exit j) e h
      | o => k o e h
    | .loop a => match Λ (keyOf a) e h with
      | some (g, x, e', h') => cond g (k (.exit x) e' h') none
      | none => ev T M Φ Λ pc tn n a e h fun o e h => match o with
        | .norm => ev T M Φ Λ pc tn n (.loop a) e h k
        | o => k o e h
    | .exit id => k (.exit id) e h
    | .ret => k .ret e h
    | _ => none

def argsE : Nat → List Value → Env
  | _, [] => []
  | i, v :: l => (i, v) :: argsE (i + 1) l

def resV (T : Tab) (e : Env) (h : Hp) : ResultVar → Option Value
  | .tmp t => some (getE e t)
  | .cell a t => match T.get t with
    | some ti => match getE e a with
      | .pointer (some ⟨b, off, none⟩) => match nth h b with
        | some (cells, _) => partL ti cells off
        | none => none
      | _ => none
    | none => none

def resVs (T : Tab) (e : Env) (h : Hp) : List ResultVar → Option (List Value)
  | [] => some []
  | r :: l => match resV T e h r with
    | some v => match resVs T e h l with
      | some vs => some (v :: vs)
      | none => none
    | none => none

def oneOf : List Value → Value
  | [v] => v
  | l => .tuple ⟨l⟩

def noLoops : Loops := fun _ _ _ => none

/-- A call of a function: what it hands back, and the memory behind it. -/
def evF (T : Tab) (M : Prims) (Φ : Fns) (Λ : Loops) (n : Nat) (fn : Func) (args : List Value) (h : Hp) : R :=
  match fn.body with
  | some c => ev T M Φ Λ false fn.ntmps n c (argsE 0 args) h fun o e h' => match o with
    | .exit _ => none
    | _ => match resVs T e h' fn.results.toList with
      | some l => some (oneOf l, takeL (lenL h) h')
      | none => none
  | none => none

/-- A slice with what it holds, as a value. -/
def deep1 (h : Hp) (v : Value) : Value :=
  match v with
  | .slice (some ⟨b, 0, none⟩) n c => match nth h b with
    | some (cells, t) => .tuple ⟨.int .i64 t :: .int .i64 n :: .int .i64 c :: cells⟩
    | none => v
  | .tuple _ => .complex .f32 0 0
  | v => v

def deepA (h : Hp) : List Value → List Value
  | [] => []
  | v :: l => deep1 h v :: deepA h l

/-- Such a value's slice, and its block. -/
def openA : Nat → List Value → List Value × Hp
  | _, [] => ([], [])
  | k, v :: l => match v with
    | .tuple ⟨.int .i64 t :: .int .i64 n :: .int .i64 c :: cells⟩ => match openA (k + 1) l with
      | (as, h) => (.slice (some ⟨k, 0, none⟩) n.toNat c.toNat :: as, (cells, t.toNat) :: h)
    | v => match openA k l with
      | (as, h) => (v :: as, h)

/-- Functions that write no memory but their own, and read what their arguments hold. -/
def pureFns (Φ : FuncId → List Value → Option (Bool × Value)) : Fns := fun f args h => match Φ f (deepA h args) with
  | some (g, v) => some (g, v, h)
  | none => none

/-- A call of a function that writes no memory but its own. -/
def evP (T : Tab) (M : Prims) (Φ : FuncId → List Value → Option (Bool × Value)) (Λ : Loops) (n : Nat) (fn : Func) (args : List Value) : R :=
  match fn.body with
  | some c => match openA 0 args with
    | (as, h0) => ev T M (pureFns Φ) Λ true fn.ntmps n c (argsE 0 as) h0 fun o e h => match o with
      | .exit _ => none
      | _ => match resVs T e h fn.results.toList with
        | some l => some (oneOf l, takeL (lenL h0) h)
        | none => none
  | none => none

end Go.Lan
