/-
  An abstract interpreter for the code of loaded Go functions: typed values, memory by allocation site, effects, and the run of a body as a decision tree. Definitions only.
-/
import Derived.Orders
import Derived.Below
namespace Go.Refl
open Go

/-! ### Types and typed values -/
inductive Ty where
  | int (k : IntKind) | bool | str | unit | opq
  | pair (a b : Ty) | arr (n : Nat) (t : Ty) | sl (t : Ty)
  deriving DecidableEq

@[reducible] def Ty.D : Ty → Type
  | .int _ => Int
  | .bool => Bool
  | .str => List UInt8
  | .unit => Unit
  | .opq => Unit
  | .pair a b => a.D × b.D
  | .arr _ t => List t.D
  | .sl t => List t.D

def Ty.zero : (t : Ty) → t.D
  | .int _ => (0 : Int)
  | .bool => false
  | .str => ([] : List UInt8)
  | .unit => ()
  | .opq => ()
  | .pair a b => (a.zero, b.zero)
  | .arr n t => List.replicate n t.zero
  | .sl _ => []

def Ty.size : Ty → Nat
  | .unit => 0
  | .pair a b => a.size + b.size
  | .arr n t => n * t.size
  | _ => 1

def Ty.agg : Ty → Bool
  | .unit | .pair .. | .arr .. => true
  | _ => false

/-- Does a value of the type lead to rows of memory? -/
def Ty.rows : Ty → Bool
  | .sl _ | .opq => true
  | .pair a b => a.rows || b.rows
  | .arr _ t => t.rows
  | _ => false

def Ty.cast {t u : Ty} (x : t.D) : Option u.D := if h : t = u then some (h ▸ x) else none

/-- The values of a list of types, in a chain of pairs. -/
@[reducible] def DL : List Ty → Type
  | [] => Unit
  | t :: ts => t.D × DL ts

inductive Step where
  | fld (j : Nat)
  | idx (i : Nat)

@[reducible] def TV : Type := (t : Ty) × t.D

def getF : (t : Ty) → t.D → Nat → Option TV
  | .pair a _, x, 0 => some ⟨a, x.1⟩
  | .pair _ b, x, j + 1 => getF b x.2 j
  | _, _, _ => none

def getI : (t : Ty) → t.D → Nat → Option TV
  | .arr _ u, l, i => some ⟨u, l.getD i u.zero⟩
  | _, _, _ => none

def getP : (t : Ty) → t.D → List Step → Option TV
  | t, x, [] => some ⟨t, x⟩
  | t, x, .fld j :: p => match getF t x j with
    | some y => getP y.1 y.2 p
    | none => none
  | t, x, .idx i :: p => match getI t x i with
    | some y => getP y.1 y.2 p
    | none => none

def setF : (t : Ty) → t.D → Nat → ((u : Ty) → u.D → Option u.D) → Option t.D
  | .pair a _, x, 0, f => match f a x.1 with
    | some y => some (y, x.2)
    | none => none
  | .pair _ b, x, j + 1, f => match setF b x.2 j f with
    | some y => some (x.1, y)
    | none => none
  | _, _, _, _ => none

def setI : (t : Ty) → t.D → Nat → ((u : Ty) → u.D → Option u.D) → Option t.D
  | .arr _ u, l, i, f => match f u (l.getD i u.zero) with
    | some y => some (l.set i y)
    | none => none
  | _, _, _, _ => none

def setP : List Step → TV → (t : Ty) → t.D → Option t.D
  | [], v, t, _ => Ty.cast v.2
  | .fld j :: p, v, t, x => setF t x j (setP p v)
  | .idx i :: p, v, t, x => setI t x i (setP p v)

/-- The type of a field; the type at the end of a path. -/
def tyF : Ty → Nat → Option Ty
  | .pair a _, 0 => some a
  | .pair _ b, j + 1 => tyF b j
  | _, _ => none

def tyAt : List Step → Ty → Option Ty
  | [], t => some t
  | .fld j :: p, t => match tyF t j with
    | some u => tyAt p u
    | none => none
  | .idx _ :: p, .arr _ u => tyAt p u
  | _, _ => none

/-! ### Abstract values -/
inductive AV where
  | val (t : Ty) (x : t.D)
  | nn (t : Ty) (xs : List t.D)
  | nil
  | nptr
  | ptr (b : Nat) (p : List Step)
  | rptr (b v i : Nat) (p : List Step)
  | ref (t : Ty) (x : t.D)
  | own (b v : Nat)
  | sub (b v lo n : Nat)
  | pr (a b : AV)
  | un
  | tp (l : AV)
  | fn (f : FuncId) (first cap : AV)
  | undef

/-- A value in its parts: structs fall into fields. -/
def explode : (t : Ty) → t.D → AV
  | .pair a b, x => .pr (explode a x.1) (explode b x.2)
  | .unit, _ => .un
  | t, x => .val t x

def AV.norm : AV → AV
  | .val t x => explode t x
  | .pr a b => .pr a.norm b.norm
  | a => a

/-- Field j of a chain. -/
def AV.nth : AV → Nat → Option AV
  | .pr a _, 0 => some a
  | .pr _ b, j + 1 => b.nth j
  | .val (.pair a _) x, 0 => some (.val a x.1)
  | .val (.pair _ b) x, j + 1 => match getF b x.2 j with
    | some y => some (.val y.1 y.2)
    | none => none
  | _, _ => none

def AV.get : AV → List Step → Option AV
  | a, [] => some a
  | .val t x, p => match getP t x p with
    | some y => some (.val y.1 y.2)
    | none => none
  | a, .fld j :: p => match a.nth j with
    | some b => AV.get b p
    | none => none
  | _, _ => none

def AV.setNth (f : AV → Option AV) : AV → Nat → Option AV
  | .pr a b, 0 => match f a with
    | some c => some (.pr c b)
    | none => none
  | .pr a b, j + 1 => match AV.setNth f b j with
    | some c => some (.pr a c)
    | none => none
  | _, _ => none

/-- A store into a variable: the parts are exploded ones. -/
def AV.set (v : AV) : List Step → AV → Option AV
  | [], _ => some v
  | .fld j :: p, a => AV.setNth (AV.set v p) a j
  | .idx i :: p, .val t x => match v with
    | .val u y => match setP (.idx i :: p) ⟨u, y⟩ t x with
      | some z => some (.val t z)
      | none => none
    | _ => none
  | _, _ => none

/-- Does a value fit a type, as the parts of a variable? -/
def AV.fits : Ty → AV → Bool
  | .pair a b, .pr x y => fits a x && fits b y
  | .unit, .un => true
  | .pair .., _ => false
  | .unit, _ => false
  | t, .val u _ => decide (t = u)
  | .sl _, .nn .. => false
  | .sl _, .nil => true
  | .sl _, .own .. => true
  | .sl _, .sub .. => true
  | .opq, .ptr .. => true
  | .opq, .rptr .. => true
  | .opq, .nptr => true
  | .opq, .ref .. => true
  | .opq, .fn .. => true
  | .arr .., .undef => false
  | _, .undef => true
  | _, _ => false

/-- Is every part known? -/
def AV.solid : AV → Bool
  | .pr a b => a.solid && b.solid
  | .undef | .tp _ => false
  | _ => true

/-! ### Memory -/
inductive Cn where
  | var (t : Ty) (c : AV)
  | row (e : TypeId) (t : Ty) (xs : List t.D) (v : Nat)

abbrev Mem := Nat → Option (Cn × Bool)
def Mem.set (m : Mem) (b : Nat) (c : Cn × Bool) : Mem := fun i => if i = b then some c else m i
def Mem.empty : Mem := fun _ => none

/-! ### Decision trees and effects -/
inductive Pr (α : Type) : Type 1 where
  | ret (a : α)
  | fail
  | tst (c : Bool) (y n : Pr α)
  | ask {β : Type} (m : Option β) (k : β → Pr α)

def Pr.bind {α β : Type} : Pr α → (α → Pr β) → Pr β
  | .ret a, f => f a
  | .fail, _ => .fail
  | .tst c y n, f => .tst c (y.bind f) (n.bind f)
  | .ask m k, f => .ask m fun b => (k b).bind f

def Pr.run {α : Type} : Pr α → Option α
  | .ret a => some a
  | .fail => none
  | .tst c y n => if c = true then y.run else n.run
  | .ask m k => m.bind fun b => (k b).run

def Pr.runK {α γ : Type} : Pr α → (α → Option γ) → Option γ
  | .ret a, K => K a
  | .fail, _ => none
  | .tst c y n, K => if c = true then y.runK K else n.runK K
  | .ask m k, K => m.bind fun b => (k b).runK K

inductive Eff (α : Type) : Type 1 where
  | ret (a : α)
  | fail
  | tst (c : Bool) (y n : Eff α)
  | ask {β : Type} (m : Option β) (k : β → Eff α)
  | rd (b : Nat) (k : Cn → Eff α)
  | wr (b : Nat) (c : Cn) (k : Eff α)
  | fz (b : Nat) (k : Eff α)
  | nw (b : Nat) (c : Cn) (k : Eff α)

def Eff.bind {α β : Type} : Eff α → (α → Eff β) → Eff β
  | .ret a, f => f a
  | .fail, _ => .fail
  | .tst c y n, f => .tst c (y.bind f) (n.bind f)
  | .ask m k, f => .ask m fun b => (k b).bind f
  | .rd b k, f => .rd b fun c => (k c).bind f
  | .wr b c k, f => .wr b c (k.bind f)
  | .fz b k, f => .fz b (k.bind f)
  | .nw b c k, f => .nw b c (k.bind f)

/-- The footprint: block and kind (0 read, 1 frozen, 2 written or new). -/
abbrev FP := List (Nat × Nat)

def Eff.go {α : Type} : Eff α → Mem → FP → Pr (α × Mem × FP)
  | .ret a, m, p => .ret (a, m, p)
  | .fail, _, _ => .fail
  | .tst c y n, m, p => .tst c (y.go m p) (n.go m p)
  | .ask x k, m, p => .ask x fun b => (k b).go m p
  | .rd b k, m, p => match m b with
    | some (c, _) => (k c).go m ((b, 0) :: p)
    | none => .fail
  | .wr b c k, m, p => match m b with
    | some (_, false) => k.go (m.set b (c, false)) ((b, 2) :: p)
    | _ => .fail
  | .fz b k, m, p => match m b with
    | some (c, _) => k.go (m.set b (c, true)) ((b, 1) :: p)
    | none => .fail
  | .nw b c k, m, p => match m b with
    | none => k.go (m.set b (c, false)) ((b, 2) :: p)
    | some _ => .fail

/-! ### The tables that a run goes by -/
structure TI where
  ty : Ty
  elem : TypeId := 0
  bytes : Nat := 0

structure Sig where
  args : List Ty
  res : List Ty
  f : DL args → Option (DL res)

/-- A function that changes a row of its caller's: the row, the cut of it that is handed over, the other arguments; the results and the row behind it. -/
structure MSig where
  u : Ty
  elem : TypeId
  args : List Ty
  res : List Ty
  f : List u.D → Nat → Nat → DL args → Option (DL res × List u.D)

/-- A function whose result is a row of its own: it becomes the caller's. -/
structure NSig where
  u : Ty
  elem : TypeId
  args : List Ty
  f : DL args → Option (List u.D)

structure Ann where
  keep : Nat
  frz : List Nat := []
  nils : List (Nat × Nat × TypeId) := []

structure Cx where
  types : List (TypeId × TI)
  sigs : List (FuncId × Sig)
  inl : List (FuncId × (Func × List (Nat × Ann))) := []
  muts : List (FuncId × MSig) := []
  news : List (FuncId × NSig) := []

def look {α : Type} : List (Nat × α) → Nat → Option α
  | [], _ => none
  | (i, a) :: l, n => if i = n then some a else look l n

def Cx.ty (cx : Cx) (t : TypeId) : Option TI := look cx.types t

/-! ### Operands and values -/
def cst : Value → AV
  | .int k n => .val (.int k) n
  | .bool b => .val .bool b
  | .string s => .val .str s.data.toList
  | .slice none 0 0 => .nil
  | .pointer none => .nptr
  | _ => .undef

def ev (env : List AV) : Operand → AV
  | .tmp t => env.getD t .undef
  | .const v => cst v
  | .func f => .fn f .un .un
  | .global _ => .undef

def Eff.opt {α β : Type} (o : Option α) (k : α → Eff β) : Eff β := match o with
  | some a => k a
  | none => .fail

/-- A value as one of a type; rows that it leads to are frozen where 'z' says so. -/
def toVal {β : Type} (z : Bool) : (t : Ty) → AV → (t.D → Eff β) → Eff β
  | t, .val u x, k => Eff.opt (Ty.cast (t := u) (u := t) x) k
  | .sl t, .nn u xs, k => Eff.opt (Ty.cast (t := .sl u) (u := .sl t) xs) k
  | .sl _, .nil, k => k []
  | .sl t, .own b v, k => .rd b fun
    | .row _ u xs v' => if v = v' then Eff.opt (Ty.cast (t := .sl u) (u := .sl t) xs) fun ys => if z then .fz b (k ys) else k ys else .fail
    | _ => .fail
  | .sl t, .sub b v lo n, k => .rd b fun
    | .row _ u xs v' => if v = v' then Eff.opt (Ty.cast (t := .sl u) (u := .sl t) xs) fun ys => if z then .fz b (k ((ys.drop lo).take n)) else k ((ys.drop lo).take n) else .fail
    | _ => .fail
  | .pair a b, .pr x y, k => toVal z a x fun u => toVal z b y fun v => k (u, v)
  | .unit, .un, k => k ()
  | _, _, _ => .fail

/-- The list that a slice is (of elements of type t), whatever its form. -/
def toVals {β : Type} (z : Bool) : (ts : List Ty) → List AV → (DL ts → Eff β) → Eff β
  | [], [], k => k ()
  | t :: ts, a :: as, k => toVal z t a fun x => toVals z ts as fun y => k (x, y)
  | _, _, _ => .fail

def chainOf : (ts : List Ty) → DL ts → AV
  | [], _ => .un
  | t :: ts, x => .pr (.val t x.1) (chainOf ts x.2)

/-- The results of a call, as one value. -/
def resOf : (ts : List Ty) → DL ts → AV
  | [t], x => .val t x.1
  | ts, x => .tp (chainOf ts x)

/-! ### Operations -/
def bitop (op : BinOp) (k : IntKind) (x y : Int) : Option Int :=
  match op with
  | .and => some (k.wrap (BitVec.ofInt k.bits x &&& BitVec.ofInt k.bits y).toNat)
  | .or => some (k.wrap (BitVec.ofInt k.bits x ||| BitVec.ofInt k.bits y).toNat)
  | .xor => some (k.wrap (BitVec.ofInt k.bits x ^^^ BitVec.ofInt k.bits y).toNat)
  | .andNot => some (k.wrap (BitVec.ofInt k.bits x &&& ~~~ BitVec.ofInt k.bits y).toNat)
  | _ => none

def intOp (op : BinOp) (k : IntKind) (x y : Int) : Eff AV :=
  match op with
  | .add => .ret (.val (.int k) (k.wrap (x + y)))
  | .sub => .ret (.val (.int k) (k.wrap (x - y)))
  | .mul => .ret (.val (.int k) (k.wrap (x * y)))
  | .quo => .tst (y == 0) .fail (.ret (.val (.int k) (k.wrap (x.tdiv y))))
  | .rem => .tst (y == 0) .fail (.ret (.val (.int k) (x.tmod y)))
  | .eql => .ret (.val .bool (x == y))
  | .neq => .ret (.val .bool (x != y))
  | .lss => .ret (.val .bool (decide (x < y)))
  | .leq => .ret (.val .bool (decide (x ≤ y)))
  | .gtr => .ret (.val .bool (decide (x > y)))
  | .geq => .ret (.val .bool (decide (x ≥ y)))
  | op => Eff.opt (bitop op k x y) fun r => .ret (.val (.int k) r)

def strOp (op : BinOp) (x y : List UInt8) : Eff AV :=
  match op with
  | .add => .tst (decide (x.length + y.length ≤ 9223372036854775807)) (.ret (.val .str (x ++ y))) .fail
  | .eql => .ret (.val .bool (x == y))
  | .neq => .ret (.val .bool (!(x == y)))
  | _ => .fail

def binop (cx : Cx) (op : BinOp) (t : TypeId) (x y : AV) : Eff AV :=
  match x, y with
  | .val (.int k) a, .val (.int k') b =>
    match op with
    | .shl => .tst (decide (b < 0)) .fail (.ret (.val (.int k) (k.wrap (a * 2 ^ (min b.toNat k.bits)))))
    | .shr => .tst (decide (b < 0)) .fail (.ret (.val (.int k) (a.fdiv (2 ^ (min b.toNat k.bits)))))
    | op => if k = k' then intOp op k a b else .fail
  | .val .bool a, .val .bool b =>
    match cx.ty t, op with
    | some ⟨.bool, _, _⟩, .eql => .ret (.val .bool (a == b))
    | some ⟨.bool, _, _⟩, .neq => .ret (.val .bool (!(a == b)))
    | _, _ => .fail
  | .val .str a, .val .str b => strOp op a b
  | .nil, .nil => match cx.ty t, op with
    | some ⟨.sl _, _, _⟩, .eql => .ret (.val .bool true)
    | some ⟨.sl _, _, _⟩, .neq => .ret (.val .bool false)
    | _, _ => .fail
  | .nn .., .nil => match cx.ty t, op with
    | some ⟨.sl _, _, _⟩, .eql => .ret (.val .bool false)
    | some ⟨.sl _, _, _⟩, .neq => .ret (.val .bool true)
    | _, _ => .fail
  | _, _ => .fail

def unop (op : UnOp) (x : AV) : Eff AV :=
  match op, x with
  | .neg, .val (.int k) n => .ret (.val (.int k) (k.wrap (0 - n)))
  | .xor, .val (.int k) n => Eff.opt (bitop .xor k (if k.signed then -1 else k.max) n) fun r => .ret (.val (.int k) r)
  | .not, .val .bool b => .ret (.val .bool (!b))
  | _, _ => .fail

def convOp (cx : Cx) (src dst : TypeId) (x : AV) : Eff AV :=
  match cx.ty src, cx.ty dst, x with
  | some ⟨.int _, _, _⟩, some ⟨.int k, _, _⟩, .val (.int _) n => .ret (.val (.int k) (k.wrap n))
  | _, _, _ => .fail

/-- An index that lies in range. -/
def inRange (i : AV) (n : Nat) (k : Nat → Eff AV) : Eff AV :=
  match i with
  | .val (.int _) i => .tst (decide (0 ≤ i) && decide (i < (n : Int))) (k i.toNat) .fail
  | _ => .fail

def indexAddrOp (cx : Cx) (t : TypeId) (x i : AV) : Eff AV :=
  match cx.ty t with
  | some ⟨.sl u, _, _⟩ => match x with
    | .own b v => .rd b fun
      | .row _ u' xs v' => if v = v' ∧ u = u' then inRange i xs.length fun j => .ret (.rptr b v j []) else .fail
      | _ => .fail
    | .sub b v lo n => .rd b fun
      | .row _ u' _ v' => if v = v' ∧ u = u' then inRange i n fun j => .ret (.rptr b v (lo + j) []) else .fail
      | _ => .fail
    | .val (.sl u') l => if u = u' then inRange i l.length fun j => .ret (.ref u' (l.getD j u'.zero)) else .fail
    | .nn u' l => if u = u' then inRange i l.length fun j => .ret (.ref u' (l.getD j u'.zero)) else .fail
    | _ => .fail
  | some ⟨.arr n u, _, _⟩ => if n < 2 then .fail else match x with
    | .ptr b p => .rd b fun
      | .var T _ => if tyAt p T = some (.arr n u) then inRange i n fun j => .ret (.ptr b (p ++ [.idx j])) else .fail
      | _ => .fail
    | .rptr b v k p => .rd b fun
      | .row _ T _ v' => if v = v' ∧ tyAt p T = some (.arr n u) then inRange i n fun j => .ret (.rptr b v k (p ++ [.idx j])) else .fail
      | _ => .fail
    | .ref (.arr n' u') l => if n = n' ∧ u = u' then inRange i n fun j => .ret (.ref u' (l.getD j u'.zero)) else .fail
    | _ => .fail
  | _ => .fail

def indexOp (cx : Cx) (t : TypeId) (x i : AV) : Eff AV :=
  match cx.ty t, x with
  | some ⟨.str, _, _⟩, .val .str s => inRange i s.length fun j => .ret (.val (.int .u8) ((s.getD j 0).toNat : Int))
  | some ⟨.arr n u, _, _⟩, .val (.arr n' u') l => if n = n' ∧ u = u' then inRange i n fun j => .ret (.val u' (l.getD j u'.zero)) else .fail
  | _, _ => .fail

def loadOp (cx : Cx) (t : TypeId) (x : AV) : Eff AV :=
  match cx.ty t with
  | some ⟨u, _, _⟩ => match x with
    | .ptr b p => .rd b fun
      | .var T c => if tyAt p T = some u then Eff.opt (c.get p) .ret else .fail
      | _ => .fail
    | .rptr b v i p => .rd b fun
      | .row _ T xs v' => if v = v' ∧ tyAt p T = some u then Eff.opt (getP T (xs.getD i T.zero) p) fun y => .ret (.val y.1 y.2) else .fail
      | _ => .fail
    | .ref u' x => if u = u' then .ret (.val u' x) else .fail
    | _ => .fail
  | none => .fail

def storeOp (cx : Cx) (t : TypeId) (x y : AV) : Eff AV :=
  match cx.ty t with
  | some ⟨u, _, _⟩ => match x with
    | .ptr b p => .rd b fun
      | .var T c => if tyAt p T = some u ∧ AV.fits u y.norm = true ∧ y.solid = true then Eff.opt (AV.set y.norm p c) fun c' => .wr b (.var T c') (.ret .undef) else .fail
      | _ => .fail
    | .rptr b v i p => toVal true u y fun z => .rd b fun
      | .row e T xs v' => if v = v' ∧ tyAt p T = some u then Eff.opt (setP p ⟨u, z⟩ T (xs.getD i T.zero)) fun x' => .wr b (.row e T (xs.set i x') v) (.ret .undef) else .fail
      | _ => .fail
    | _ => .fail
  | none => .fail

/-- The bounds of a cut of n elements: low, high. -/
def cutLow (h : Nat) (lo : Option AV) (k : Nat → Eff AV) : Eff AV := match lo with
  | none => k 0
  | some (.val (.int _) l) => .tst (decide (0 ≤ l) && decide (l ≤ (h : Int))) (k l.toNat) .fail
  | _ => .fail

def cutHigh (m n : Nat) (hi : Option AV) (open_ : Bool) (k : Nat → Eff AV) : Eff AV := match hi with
  | none => match open_ with
    | true => k n
    | false => .fail
  | some (.val (.int _) h) => .tst (decide (0 ≤ h) && decide (h ≤ (m : Int))) (k h.toNat) .fail
  | _ => .fail

def cutOp (n : Nat) (lo hi mx : Option AV) (k : Nat → Nat → Eff AV) : Eff AV := match mx with
  | none => cutHigh n n hi true fun h => cutLow h lo fun l => k l h
  | some (.val (.int _) m) => .tst (decide (0 ≤ m) && decide (m ≤ (n : Int))) (cutHigh m.toNat n hi false fun h => cutLow h lo fun l => k l h) .fail
  | _ => .fail

def cutList {α : Type} (lo hi : Bool) (l : List α) (a b : Nat) : List α :=
  match lo, hi with
  | false, false => l
  | false, true => l.take b
  | true, false => l.drop a
  | true, true => (l.take b).drop a

def sliceOp (cx : Cx) (t : TypeId) (x : AV) (lo hi mx : Option AV) : Eff AV :=
  match cx.ty t with
  | some ⟨.str, _, _⟩ => match x, mx with
    | .val .str s, none => cutOp s.length lo hi none fun a b => .ret (.val .str (cutList lo.isSome hi.isSome s a b))
    | _, _ => .fail
  | some ⟨.sl u, _, _⟩ => match x with
    | .val (.sl u') l => if u = u' then cutOp l.length lo hi mx fun a b => .ret (.val (.sl u') (cutList lo.isSome hi.isSome l a b)) else .fail
    | .nn u' l => if u = u' then cutOp l.length lo hi mx fun a b => .ret (.val (.sl u') (cutList lo.isSome hi.isSome l a b)) else .fail
    | .own b v => .rd b fun
      | .row _ u' xs v' => if v = v' ∧ u = u' then cutOp xs.length lo hi mx fun a b' => .ret (.sub b v a (b' - a)) else .fail
      | _ => .fail
    | .sub b v l n => .rd b fun
      | .row _ u' _ v' => if v = v' ∧ u = u' then cutOp n lo hi mx fun a b' => .ret (.sub b v (l + a) (b' - a)) else .fail
      | _ => .fail
    | _ => .fail
  | some ⟨.arr n u, _, _⟩ => match x with
    | .ptr b p => .rd b fun
      | .var T c => if tyAt p T = some (.arr n u) then match c.get p with
          | some (.val (.arr _ u') l) => cutOp n lo hi mx fun a b' => .fz b (.ret (.val (.sl u') (cutList lo.isSome hi.isSome l a b')))
          | _ => .fail
        else .fail
      | _ => .fail
    | _ => .fail
  | _ => .fail

def makeSliceOp (cx : Cx) (site : Nat) (t : TypeId) (n c : AV) : Eff AV :=
  match cx.ty t, n, c with
  | some ⟨.sl u, e, eb⟩, .val (.int _) n, .val (.int _) c =>
    .tst (decide (0 ≤ n) && decide (n ≤ c) && decide (c * (eb : Int) ≤ 140737488355328)) (.nw site (.row e u (List.replicate n.toNat u.zero) 0) (.ret (.own site 0))) .fail
  | _, _, _ => .fail

def fillSlice (u : Ty) : List (Nat × AV) → List u.D → (List u.D → Eff AV) → Eff AV
  | [], acc, k => k acc
  | (i, x) :: rest, acc, k => toVal true u x fun y => fillSlice u rest (acc.set i y) k

def buildSliceOp (cx : Cx) (site : Nat) (t : TypeId) (len : Nat) (parts : List (Nat × AV)) : Eff AV :=
  match cx.ty t with
  | some ⟨.sl u, e, _⟩ => if (parts.all fun q => decide (q.1 < len)) = true ∧ len * u.size ≤ 16777216 then fillSlice u parts (List.replicate len u.zero) fun l => .nw site (.row e u l 0) (.ret (.own site 0)) else .fail
  | _ => .fail

def fillStruct (T : Ty) : List (Nat × AV) → AV → Option AV
  | [], a => some a
  | (j, x) :: rest, a => match tyF T j with
    | some u => if AV.fits u x.norm = true ∧ x.solid = true then (match AV.setNth (fun _ => some x.norm) a j with
      | some b => fillStruct T rest b
      | none => none) else none
    | none => none

def fillArr (u : Ty) : List (Nat × AV) → List u.D → Option (List u.D)
  | [], acc => some acc
  | (i, .val t x) :: rest, acc => match Ty.cast (t := t) (u := u) x with
    | some y => fillArr u rest (acc.set i y)
    | none => none
  | _, _ => none

def buildOp (cx : Cx) (t : TypeId) (parts : List (Nat × AV)) : Eff AV :=
  match cx.ty t with
  | some ⟨.arr n u, _, _⟩ => if (parts.all fun q => decide (q.1 < n)) = true then Eff.opt (fillArr u parts (List.replicate n u.zero)) fun l => .ret (.val (.arr n u) l) else .fail
  | some ⟨.pair a b, _, _⟩ => Eff.opt (fillStruct (.pair a b) parts (explode (.pair a b) (Ty.zero (.pair a b)))) .ret
  | _ => .fail

def allocOp (cx : Cx) (site : Nat) (t : TypeId) : Eff AV :=
  match cx.ty t with
  | some ⟨u, _, _⟩ => .nw site (.var u (explode u u.zero)) (.ret (.ptr site []))
  | none => .fail

def boxOp (cx : Cx) (site : Nat) (t : TypeId) (x : AV) : Eff AV :=
  match cx.ty t with
  | some ⟨u, _, _⟩ => if AV.fits u x.norm = true ∧ x.solid = true then .nw site (.var u x.norm) (.ret (.ptr site [])) else .fail
  | none => .fail

def fieldAddrOp (cx : Cx) (t : TypeId) (x : AV) (f : Nat) : Eff AV :=
  match cx.ty t with
  | some ⟨u, _, _⟩ => match tyF u f, x with
    | some _, .ptr b p => .rd b fun
      | .var T _ => if tyAt p T = some u then .ret (.ptr b (p ++ [.fld f])) else .fail
      | _ => .fail
    | some _, .rptr b v i p => .rd b fun
      | .row _ T _ v' => if v = v' ∧ tyAt p T = some u then .ret (.rptr b v i (p ++ [.fld f])) else .fail
      | _ => .fail
    | some _, .ref u' x => if u = u' then Eff.opt (getF u' x f) fun y => .ret (.ref y.1 y.2) else .fail
    | _, _ => .fail
  | none => .fail

def fieldOp (cx : Cx) (t : TypeId) (x : AV) (f : Nat) : Eff AV :=
  match cx.ty t with
  | some ⟨u, _, _⟩ => match tyF u f with
    | some _ => if AV.fits u x.norm = true then Eff.opt (x.norm.nth f) .ret else .fail
    | none => .fail
  | none => .fail

def lenOp (cx : Cx) (t : TypeId) (x : AV) : Eff AV :=
  match cx.ty t with
  | some ⟨.str, _, _⟩ => match x with
    | .val .str s => .ret (.val (.int .i64) (s.length : Int))
    | _ => .fail
  | some ⟨.sl _, _, _⟩ => match x with
    | .val (.sl _) l => .ret (.val (.int .i64) (l.length : Int))
    | .nn _ l => .ret (.val (.int .i64) (l.length : Int))
    | .nil => .ret (.val (.int .i64) (0 : Int))
    | .own b v => .rd b fun
      | .row _ _ xs v' => if v = v' then .ret (.val (.int .i64) (xs.length : Int)) else .fail
      | _ => .fail
    | .sub b v _ n => .rd b fun
      | .row _ _ _ v' => if v = v' then .ret (.val (.int .i64) (n : Int)) else .fail
      | _ => .fail
    | _ => .fail
  | _ => .fail

def appendOp (cx : Cx) (site : Nat) (t t' : TypeId) (s x : AV) : Eff AV :=
  match cx.ty t, cx.ty t' with
  | some ⟨.sl u, e, eb⟩, some ⟨.sl _, _, _⟩ =>
    toVal false (.sl u) x fun ys =>
      match s with
      | .nil => .tst (decide (ys.length * eb ≤ 140737488355328)) (.nw site (.row e u ys 0) (.ret (.own site 0))) .fail
      | .own b v => .rd b fun
        | .row e' u' xs v' => if v = v' ∧ e = e' then Eff.opt (Ty.cast (t := .sl u') (u := .sl u) xs) fun zs =>
            .tst (decide ((zs.length + ys.length) * eb ≤ 140737488355328)) (.wr b (.row e u (zs ++ ys) (v + 1)) (.ret (.own b (v + 1)))) .fail else .fail
        | _ => .fail
      | _ => .fail
  | _, _ => .fail

def copyOp (cx : Cx) (t : TypeId) (d x : AV) : Eff AV :=
  match cx.ty t with
  | some ⟨.sl u, _, _⟩ =>
    toVal false (.sl u) x fun ys =>
      match d with
      | .own b v => .rd b fun
        | .row e' u' xs v' => if v = v' then Eff.opt (Ty.cast (t := .sl u') (u := .sl u) xs) fun zs =>
            .wr b (.row e' u (ys.take zs.length ++ zs.drop ys.length) v) (.ret (.val (.int .i64) ((min ys.length zs.length : Nat) : Int))) else .fail
        | _ => .fail
      | _ => .fail
  | _ => .fail

def minmax (mx : Bool) : List AV → Option AV
  | [.val (.int k) x, .val (.int k') y] => if k = k' then some (.val (.int k) (if mx then (if y > x then y else x) else (if y < x then y else x))) else none
  | _ => none

/-- A call that changes the row behind its first argument. -/
def mutOp (sg : MSig) (a : AV) (x : DL sg.args) : Eff AV :=
  match a with
  | .own b v => .rd b fun
    | .row e u xs v' => if v = v' ∧ e = sg.elem then Eff.opt (Ty.cast (t := .sl u) (u := .sl sg.u) xs) fun ys => .ask (sg.f ys 0 ys.length x) fun r => .wr b (.row e sg.u r.2 v) (.ret (resOf sg.res r.1)) else .fail
    | _ => .fail
  | .sub b v lo n => .rd b fun
    | .row e u xs v' => if v = v' ∧ e = sg.elem then Eff.opt (Ty.cast (t := .sl u) (u := .sl sg.u) xs) fun ys => .ask (sg.f ys lo n x) fun r => .wr b (.row e sg.u r.2 v) (.ret (resOf sg.res r.1)) else .fail
    | _ => .fail
  | _ => .fail

def callOp (cx : Cx) (site : Nat) (f : FuncId) (args : List AV) : Eff AV :=
  match look cx.sigs f with
  | some sg => toVals (sg.res.any Ty.rows) sg.args args fun xs => .ask (sg.f xs) fun r => .ret (resOf sg.res r)
  | none => match look cx.muts f, args with
    | some sg, a :: as => toVals true sg.args as fun x => mutOp sg a x
    | _, _ => match look cx.news f with
      | some sg => toVals true sg.args args fun xs => .ask (sg.f xs) fun ys => .nw site (.row sg.elem sg.u ys 0) (.ret (.own site 0))
      | none => .fail

/-- The callee and the arguments of a call of a function's value. -/
def AV.toList : AV → Option (List AV)
  | .un => some []
  | .pr a b => match b.toList with
    | some l => some (a :: l)
    | none => none
  | _ => none

def chain : List AV → AV
  | [] => .un
  | a :: l => .pr a (chain l)

def target (f : AV) (args : List AV) : Option (FuncId × List AV) :=
  match f with
  | .fn g first cap => match first.toList, cap.toList with
    | some l, some r => some (g, l ++ args ++ r)
    | _, _ => none
  | _ => none

/-- An operation (but for a call that is walked into), by its operands' values. -/
def opEff (cx : Cx) (site : Nat) (ρ : Operand → AV) (op : Op) : Eff AV :=
  match op with
  | .move x | .assign x => .ret (ρ x)
  | .pick c a b => match ρ c with
    | .val .bool t => .tst t (.ret (ρ a)) (.ret (ρ b))
    | _ => .fail
  | .alloc t => allocOp cx site t
  | .box t x => boxOp cx site t (ρ x)
  | .build t ps => buildOp cx t (ps.toList.map fun p => (p.1, ρ p.2))
  | .buildSlice t len ps => buildSliceOp cx site t len (ps.toList.map fun p => (p.1, ρ p.2))
  | .load t a => loadOp cx t (ρ a)
  | .store t a x => storeOp cx t (ρ a) (ρ x)
  | .nilCheck x => match ρ x with
    | .ptr b p => .ret (.ptr b p)
    | .rptr b v i p => .rd b fun
      | .row _ _ _ v' => if v = v' then .ret (.rptr b v i p) else .fail
      | _ => .fail
    | .ref t x => .ret (.ref t x)
    | _ => .fail
  | .binOp op t x y _ => binop cx op t (ρ x) (ρ y)
  | .unOp op _ x => unop op (ρ x)
  | .convert src dst x => convOp cx src dst (ρ x)
  | .makeFunc (.func f) first cap => .ret (.fn f (chain (first.toList.map ρ)) (chain (cap.toList.map ρ)))
  | .makeSlice t l c => makeSliceOp cx site t (ρ l) (ρ c)
  | .slice t x lo hi mx => sliceOp cx t (ρ x) (lo.map ρ) (hi.map ρ) (mx.map ρ)
  | .fieldAddr t x f => fieldAddrOp cx t (ρ x) f
  | .field t x f => fieldOp cx t (ρ x) f
  | .indexAddr t x i => indexAddrOp cx t (ρ x) (ρ i)
  | .index t x i => indexOp cx t (ρ x) (ρ i)
  | .extract x j => match ρ x with
    | .tp l => Eff.opt (l.nth j) .ret
    | _ => .fail
  | .call c => match c.callee with
    | .builtin b => match b, c.args.toList, c.argTypes.toList with
      | .len, [x], [t] => lenOp cx t (ρ x)
      | .append, [s, x], [t, t'] => appendOp cx site t t' (ρ s) (ρ x)
      | .copy, [s, x], [t, _] => copyOp cx t (ρ s) (ρ x)
      | .max, xs, _ => Eff.opt (minmax true (xs.map ρ)) .ret
      | .min, xs, _ => Eff.opt (minmax false (xs.map ρ)) .ret
      | _, _, _ => .fail
    | .value f => Eff.opt (target (ρ f) (c.args.toList.map ρ)) fun p => callOp cx site p.1 p.2
    | _ => .fail
  | _ => .fail

/-! ### States, regions, code -/
/-- 'ids': which blocks there are (a hint: what it leaves out is forgotten at the next loop's head). 'kn': which temporaries bear truth values written out (a hint: they are taken apart at once). -/
structure St where
  env : List AV
  mem : Mem
  ids : List Nat
  kn : List Nat

inductive Ex where
  | normal
  | exit (id : Nat)
  | ret
  deriving DecidableEq

def putEnv (env : List AV) (dst : Option Tmp) (v : AV) : List AV := match dst with
  | some d => env.set d v
  | none => env

def knows (kn : List Nat) : Operand → Bool
  | .tmp t => kn.any (Nat.beq t)
  | .const (.bool _) => true
  | _ => false

/-- Is the operation wanted? -/
def wantedK {β : Type} (ops : List Oper) (o : Oper) (env : List AV) (kn : List Nat) (k : Bool → List AV → List Nat → Pr β) : Pr β :=
  match o.guard with
  | none => k true env kn
  | some (j, want) => match (ops[j]?).bind (·.dst) with
    | some d => match env.getD d .undef with
      | .val .bool b => match kn.any (Nat.beq d) with
        | true => match (b : Bool) with
          | true => k want env kn
          | false => k (!want) env kn
        | false => .tst b (k want (env.set d (.val .bool true)) (d :: kn)) (k (!want) (env.set d (.val .bool false)) (d :: kn))
      | .tp .un => k false env kn
      | _ => .fail
    | none => .fail

/-- Does an operation yield a truth value written out? -/
def hint (kn : List Nat) (env : List AV) : Op → Bool
  | .move x | .assign x | .unOp _ _ x => knows kn x
  | .pick c x y => match knows kn c, ev env c with
    | true, .val .bool t => match (t : Bool) with
      | true => knows kn x
      | false => knows kn y
    | _, _ => false
  | _ => false

def putKn (kn : List Nat) (dst : Option Tmp) (h : Bool) : List Nat := match dst with
  | some d => match h with
    | true => d :: kn
    | false => kn.filter fun t => !Nat.beq t d
  | none => kn

/-- An operation; a choice by what is known is made at once. -/
def opEffK (cx : Cx) (site : Nat) (env : List AV) (kn : List Nat) (op : Op) : Eff AV :=
  match op with
  | .pick c x y => match knows kn c, ev env c with
    | true, .val .bool t => match (t : Bool) with
      | true => .ret (ev env x)
      | false => .ret (ev env y)
    | _, _ => opEff cx site (ev env) (.pick c x y)
  | op => opEff cx site (ev env) op

def AV.refs : AV → List Nat
  | .ptr b _ | .rptr b _ _ _ | .own b _ | .sub b _ _ _ => [b]
  | .pr a b => a.refs ++ b.refs
  | .tp l => l.refs
  | .fn _ a b => a.refs ++ b.refs
  | _ => []

def present (m : Mem) (b : Nat) : Bool := (m b).isSome

/-- Is every block that is named there? -/
def closed (m : Mem) (env : List AV) : List (Nat × (Cn × Bool)) → Bool
  | [] => env.all fun a => a.refs.all (present m)
  | (_, .var T c, _) :: l => AV.fits T c && c.refs.all (present m) && closed m env l
  | _ :: l => closed m env l

/-- Calls that are walked into: by the callee, the first number of its sites. -/
abbrev Inl := FuncId → Nat → Option (List AV → Mem → List Nat → Pr (AV × Mem))

def inlined (inl : Inl) (site : Nat) (env : List AV) (op : Op) : Option (Mem → List Nat → Pr (AV × Mem)) :=
  match op with
  | .call c => match c.callee with
    | .value f => match target (ev env f) (c.args.toList.map (ev env)) with
      | some p => match inl p.1 ((site + 1) * 1000000) with
        | some run => some (run p.2)
        | none => none
      | none => none
    | _ => none
  | _ => none

/-- One operation of a region. A call that is walked into leaves the mark (0, 3). -/
def stepR (cx : Cx) (inl : Inl) (ids : List Nat) (fb : Nat) (ops : List Oper) (site : Nat) (o : Oper) (env : List AV) (mem : Mem) (kn : List Nat) : Pr (List AV × Mem × FP × List Nat) :=
  wantedK ops o env kn fun w env kn =>
    match w with
    | true => match inlined inl site env o.op with
      | some run => (run mem ids).bind fun r => if closed r.2 env [] then .ret (putEnv env o.dst r.1, r.2, [(0, 3)], putKn kn o.dst false) else .fail
      | none => if site < fb + 1000000 then ((opEffK cx site env kn o.op).go mem []).bind fun r =>
          if (r.2.2.all fun x => Nat.ble fb x.1 || present mem x.1) = true then .ret (putEnv env o.dst r.1, r.2.1, r.2.2, putKn kn o.dst (hint kn env o.op)) else .fail
        else .fail
    | false => .ret (putEnv env o.dst (.tp .un), mem, [], putKn kn o.dst false)

/-- Operations, each with its number, one behind the other. -/
def runR (cx : Cx) (inl : Inl) (ids : List Nat) (fb base : Nat) (ops : List Oper) : List (Nat × Oper) → List AV → Mem → List Nat → Pr (List AV × Mem × List FP × List Nat)
  | [], env, mem, kn => .ret (env, mem, [], kn)
  | (i, o) :: rest, env, mem, kn => (stepR cx inl ids fb ops (base + i) o env mem kn).bind fun r => (runR cx inl ids fb base ops rest r.1 r.2.1 r.2.2.2).bind fun q => .ret (q.1, q.2.1, r.2.2.1 :: q.2.2.1, q.2.2.2)

def numbered : Nat → List Oper → List (Nat × Oper)
  | _, [] => []
  | i, o :: l => (i, o) :: numbered (i + 1) l

/-- Do two footprints leave each other alone? -/
def apartX (x y : Nat × Nat) : Bool := !Nat.beq x.1 y.1 || (Nat.blt x.2 2 && Nat.blt y.2 2)
def apartF (p q : FP) : Bool := p.all fun x => q.all fun y => apartX x y

def temps (o : Oper) : List Tmp := o.op.operands.toList.filterMap fun | .tmp t => some t | _ => none

def guardTmp (ops : List Oper) (o : Oper) : List Tmp := match o.guard with
  | some (j, _) => match (ops[j]?).bind (·.dst) with
    | some d => [d]
    | none => []
  | none => []

/-- The temporaries that an operation looks at. -/
def looks (ops : List Oper) (o : Oper) : List Tmp := temps o ++ guardTmp ops o

def apartT (ops : List Oper) (a b : Oper) : Bool :=
  (match a.dst with
   | some d => !(looks ops b).contains d && !(b.dst.toList.contains d)
   | none => true) &&
  (match b.dst with
   | some d => !(looks ops a).contains d
   | none => true)

/-- Does operation o wait for number j? -/
def waitsFor (o : Oper) (j : Nat) : Bool := o.after.toList.any fun e => Nat.beq e.on j && Region.binds .any e

/-- Operations that the text leaves unordered don't meet. -/
def apartAll (ops : List Oper) : List (Nat × Oper × FP) → List (Nat × Oper) → List FP → Bool
  | _, [], _ => true
  | _, _, [] => true
  | seen, (i, o) :: os, p :: ps =>
    (seen.all fun q => waitsFor o q.1 || (apartF q.2.2 p && apartT ops q.2.1 o)) && (o.after.toList.all fun e => !Region.binds .any e || Nat.blt e.on i) && (p.all fun x => x.2 != 3) && apartAll ops ((i, o, p) :: seen) os ps

/-! ### What is carried to the head of a loop -/
/-- Frozen rows give way to what they hold; what is of an elder version falls away; the version is counted anew (but for the caller's rows). -/
def AV.settle (m : Mem) (fb : Nat) : AV → AV
  | .own b v => if b < fb then .own b v else match m b with
    | some (.row _ t xs v', z) => if v = v' then (if z then .val (.sl t) xs else .own b 0) else .undef
    | _ => .undef
  | .sub b v lo n => if b < fb then .sub b v lo n else match m b with
    | some (.row _ t xs v', z) => if v = v' then (if z then .val (.sl t) ((xs.drop lo).take n) else .sub b 0 lo n) else .undef
    | _ => .undef
  | .rptr b v i p => if b < fb then .rptr b v i p else .undef
  | .pr a b => .pr (a.settle m fb) (b.settle m fb)
  | .tp l => .tp (l.settle m fb)
  | .fn f a b => .fn f (a.settle m fb) (b.settle m fb)
  | a => a

def maskEnv (keep : Nat) : List AV → Nat → List AV
  | [], _ => []
  | a :: l, i => (if keep.testBit i then a else .undef) :: maskEnv keep l (i + 1)

def Cn.settle (m : Mem) (fb b : Nat) : Cn → Cn
  | .var t c => .var t (c.settle m fb)
  | .row e t xs v => .row e t xs (if b < fb then v else 0)

def insertId (b : Nat) : List Nat → List Nat
  | [] => [b]
  | c :: l => if b < c then b :: c :: l else if b = c then c :: l else c :: insertId b l

def cnRefs (m : Mem) (b : Nat) : List Nat := match m b with
  | some (.var _ c, _) => c.refs
  | _ => []

def grow (m : Mem) : Nat → List Nat → List Nat
  | 0, l => l
  | n + 1, l => grow m n ((l.flatMap (cnRefs m)).foldl (fun acc b => insertId b acc) l)

def ofL (l : List (Nat × (Cn × Bool))) : Mem := look l

def freezeAll (m : Mem) (env : List AV) : List Nat → Option Mem
  | [] => some m
  | t :: ts => match env.getD t .undef with
    | .own b _ | .sub b _ _ _ => match m b with
      | some (c, _) => freezeAll (m.set b (c, true)) env ts
      | none => none
    | _ => freezeAll m env ts

def nilAll (cx : Cx) (fb : Nat) : List (Nat × Nat × TypeId) → List AV × Mem → Option (List AV × Mem)
  | [], s => some s
  | (t, b, ty) :: l, s => match s.1.getD t .undef with
    | .nil => match s.2 b, cx.ty ty with
      | none, some ⟨.sl u, e, _⟩ => if fb ≤ b ∧ b < fb + 1000000 then nilAll cx fb l (s.1.set t (.own b 0), s.2.set b (.row e u [] 0, false)) else none
      | _, _ => none
    | _ => nilAll cx fb l s

/-- The blocks that are kept, settled. -/
def gather (m : Mem) (fb : Nat) : List Nat → List (Nat × (Cn × Bool))
  | [] => []
  | b :: l => match m b with
    | some (c, z) => (b, (c.settle m fb b, z)) :: gather m fb l
    | none => gather m fb l

def canon (cx : Cx) (fb : Nat) (a : Ann) (s : St) : Option St :=
  match freezeAll s.mem s.env a.frz with
  | none => none
  | some m => match nilAll cx fb a.nils (maskEnv a.keep s.env 0, m) with
    | none => none
    | some s1 =>
      let env := s1.1.map (AV.settle s1.2 fb)
      let own := grow s1.2 4 ((env.flatMap AV.refs).foldl (fun acc b => insertId b acc) [])
      let ids := own.foldl (fun acc b => insertId b acc) (s.ids.filter fun b => Nat.blt b fb)
      if closed (ofL (gather s1.2 fb ids)) env (gather s1.2 fb ids) then some ⟨env, ofL (gather s1.2 fb ids), ids, []⟩ else none

def canonO (cx : Cx) (anns : List (Nat × Ann)) (fb : Nat) (id : Nat) (s : St) : Option St :=
  match look anns id with
  | none => some s
  | some a => canon cx fb a s

def firstId : Code → Nat
  | .region id _ _ => id
  | .seq a _ => firstId a
  | .block _ c => firstId c
  | .loop c => firstId c
  | _ => 0

/-! ### Loops -/
def iter (f : St → Option (Ex × St)) (cn : St → Option St) : Nat → St → Option (Ex × St)
  | 0, _ => none
  | n + 1, s => match f s with
    | some (.normal, s') => match cn s' with
      | some s2 => iter f cn n s2
      | none => none
    | some r => some r
    | none => none

open Classical in
noncomputable def loopSem (f : St → Option (Ex × St)) (cn : St → Option St) (s : St) : Option (Ex × St) :=
  if h : ∃ n r, iter f cn n s = some r then some (Classical.choose (Classical.choose_spec h)) else none

def seqK (f : St → Pr (Ex × St)) (r : Ex × St) : Pr (Ex × St) := match r.1 with
  | .normal => f r.2
  | _ => .ret r

def blockK (id : Nat) (r : Ex × St) : Pr (Ex × St) := match r.1 with
  | .exit j => if j = id then .ret (.normal, r.2) else .ret r
  | _ => .ret r

/-- Which blocks there are behind a region: those of before, and its own sites'. -/
def newIds (m : Mem) : Nat → Nat → List Nat → List Nat
  | _, 0, ids => ids
  | b, n + 1, ids => newIds m (b + 1) n (match m b with
    | some _ => insertId b ids
    | none => ids)

def regionK (base : Nat) (ids : List Nat) (ops : List Oper) (draw : Bool) (r : List AV × Mem × List FP × List Nat) : Pr (Ex × St) :=
  match draw with
  | true => if apartAll ops [] (numbered 0 ops) r.2.2.1 then .ret (.normal, ⟨r.1, r.2.1, newIds r.2.1 base ops.length ids, r.2.2.2⟩) else .fail
  | false => .ret (.normal, ⟨r.1, r.2.1, newIds r.2.1 base ops.length ids, r.2.2.2⟩)

def Pr.opt {α β : Type} (o : Option α) (k : α → Pr β) : Pr β := match o with
  | some a => k a
  | none => .fail

/-- What a condition has told. -/
def St.told (s : St) (c : Operand) (b : Bool) : St := match c with
  | .tmp t => ⟨s.env.set t (.val .bool b), s.mem, s.ids, t :: s.kn⟩
  | _ => s

noncomputable def exec (cx : Cx) (anns : List (Nat × Ann)) (inl : Inl) (fb : Nat) : Code → St → Pr (Ex × St)
  | .skip, s => .ret (.normal, s)
  | .region id ops draw, s => Pr.opt (canonO cx anns fb id s) fun s =>
      (runR cx inl s.ids fb (fb + 1024 * id) ops.toList (numbered 0 ops.toList) s.env s.mem s.kn).bind (regionK (fb + 1024 * id) s.ids ops.toList draw)
  | .seq a b, s => (exec cx anns inl fb a s).bind (seqK (exec cx anns inl fb b))
  | .cond c a b, s => match ev s.env c with
    | .val .bool t => match knows s.kn c with
      | true => match (t : Bool) with
        | true => exec cx anns inl fb a s
        | false => exec cx anns inl fb b s
      | false => .tst t (exec cx anns inl fb a (s.told c true)) (exec cx anns inl fb b (s.told c false))
    | _ => .fail
  | .block id c, s => (exec cx anns inl fb c s).bind (blockK id)
  | .loop c, s => Pr.opt (canonO cx anns fb (firstId c) s) fun s =>
      .ask (loopSem (fun s => (exec cx anns inl fb c s).run) (canonO cx anns fb (firstId c)) s) .ret
  | .exit id, s => .ret (.exit id, s)
  | .ret, s => .ret (.ret, s)
  | _, _ => .fail
termination_by structural c => c

/-! ### Functions -/
def resAV (cx : Cx) (env : List AV) (m : Mem) : ResultVar → Option AV
  | .tmp t => some (env.getD t .undef)
  | .cell a t => match env.getD a .undef with
    | .ptr b p => match m b, cx.ty t with
      | some (.var T c, _), some ti => if tyAt p T = some ti.ty then c.get p else none
      | _, _ => none
    | _ => none

def resAVs (cx : Cx) (env : List AV) (m : Mem) : List ResultVar → Option (List AV)
  | [] => some []
  | r :: rs => match resAV cx env m r, resAVs cx env m rs with
    | some a, some l => some (a :: l)
    | _, _ => none

def startEnv (fn : Func) (args : List AV) : List AV := args ++ List.replicate (fn.ntmps - args.length) .undef

def oneOf : List AV → AV
  | [a] => a
  | l => .tp (chain l)

/-- What a call that was walked into hands back: rows of its own as what they hold. -/
def inlK (cx : Cx) (fb : Nat) (ids : List Nat) (fn : Func) (r : Ex × St) : Pr (AV × Mem) :=
  match r.1 with
  | .exit _ => .fail
  | _ => match resAVs cx r.2.env r.2.mem fn.results.toList with
    | some l => match freezeAll r.2.mem l (List.range l.length) with
      | some m =>
        let v := (oneOf l).settle m fb
        if closed (ofL (gather m fb (ids.filter fun b => Nat.blt b fb))) [v] (gather m fb (ids.filter fun b => Nat.blt b fb)) then .ret (v, ofL (gather m fb (ids.filter fun b => Nat.blt b fb))) else .fail
      | none => .fail
    | none => .fail

/-- Bodies that are walked into: they share their caller's memory. -/
noncomputable def inlOf (cx : Cx) : Nat → Inl
  | 0 => fun _ _ => none
  | d + 1 => fun f fb => match look cx.inl f with
    | none => none
    | some p => match p.1.body with
      | none => none
      | some c => some fun args m ids => (exec cx p.2 (inlOf cx d) fb c ⟨startEnv p.1 args, m, ids, []⟩).bind (inlK cx fb ids p.1)

def valsOf : (ts : List Ty) → DL ts → List AV
  | [], _ => []
  | t :: ts, x => .val t x.1 :: valsOf ts x.2

def finish (cx : Cx) (ts : List Ty) (fn : Func) (r : Ex × St) : Pr (DL ts) :=
  match r.1 with
  | .exit _ => .fail
  | _ => match resAVs cx r.2.env r.2.mem fn.results.toList with
    | some l => ((toVals true ts l .ret).go r.2.mem []).bind fun q => .ret q.1
    | none => .fail

/-- The pure function that a body computes, at arguments in any form. -/
noncomputable def bodyAt (cx : Cx) (anns : List (Nat × Ann)) (fn : Func) (rts : List Ty) (args : List AV) : Pr (DL rts) :=
  match fn.body with
  | none => .fail
  | some c => (exec cx anns (inlOf cx 3) 0 c ⟨startEnv fn args, Mem.empty, [], []⟩).bind (finish cx rts fn)

noncomputable def body (cx : Cx) (anns : List (Nat × Ann)) (fn : Func) (ats rts : List Ty) (xs : DL ats) : Pr (DL rts) :=
  bodyAt cx anns fn rts (valsOf ats xs)

end Go.Refl
