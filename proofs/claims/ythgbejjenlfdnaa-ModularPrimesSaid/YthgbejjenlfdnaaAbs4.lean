import Derived.Orders
import Derived.Below
import Derived.Laws.AppendOwn
import Derived.Laws.OwnMore
/-
  An abstract interpreter for the code of loaded Go functions: typed values, memory by allocation site, effects, and the run of a body as a decision tree. Definitions only.
-/
set_option linter.unusedVariables false
namespace Go.Refl
open Go

/-! ### Types and typed values -/
inductive Ty where
  | int (k : IntKind) | bool | str | unit | opq
  | pair (a b : Ty) | arr (n : Nat) (t : Ty) | sl (t : Ty)
  deriving DecidableEq

@[reducible] def Ty.D : Ty → Type
  | .int _ => Int
  | .bool => Bool
  | .str => List UInt8
  | .unit => Unit
  | .opq => Unit
  | .pair a b => a.D × b.D
  | .arr _ t => List t.D
  | .sl t => List t.D

def Ty.zero : (t : Ty) → t.D
  | .int _ => (0 : Int)
  | .bool => false
  | .str => ([] : List UInt8)
  | .unit => ()
  | .opq => ()
  | .pair a b => (a.zero, b.zero)
  | .arr n t => List.replicate n t.zero
  | .sl _ => []

def Ty.size : Ty → Nat
  | .unit => 0
  | .pair a b => a.size + b.size
  | .arr n t => n * t.size
  | _ => 1

def Ty.agg : Ty → Bool
  | .unit | .pair .. | .arr .. => true
  | _ => false

/-- Does a value of the type lead to rows of memory? -/
def Ty.rows : Ty → Bool
  | .sl _ | .opq => true
  | .pair a b => a.rows || b.rows
  | .arr _ t => t.rows
  | _ => false

def Ty.cast {t u : Ty} (x : t.D) : Option u.D := if h : t = u then some (h ▸ x) else none

/-- The values of a list of types, in a chain of pairs. -/
@[reducible] def DL : List Ty → Type
  | [] => Unit
  | t :: ts => t.D × DL ts

inductive Step where
  | fld (j : Nat)
  | idx (i : Nat)

@[reducible] def TV : Type := (t : Ty) × t.D

def getF : (t : Ty) → t.D → Nat → Option TV
  | .pair a _, x, 0 => some ⟨a, x.1⟩
  | .pair _ b, x, j + 1 => getF b x.2 j
  | _, _, _ => none

def getI : (t : Ty) → t.D → Nat → Option TV
  | .arr _ u, l, i => some ⟨u, l.getD i u.zero⟩
  | _, _, _ => none

def getP : (t : Ty) → t.D → List Step → Option TV
  | t, x, [] => some ⟨t, x⟩
  | t, x, .fld j :: p => match getF t x j with
    | some y => getP y.1 y.2 p
    | none => none
  | t, x, .idx i :: p => match getI t x i with
    | some y => getP y.1 y.2 p
    | none => none

def setF : (t : Ty) → t.D → Nat → ((u : Ty) → u.D → Option u.D) → Option t.D
  | .pair a _, x, 0, f => match f a x.1 with
    | some y => some (y, x.2)
    | none => none
  | .pair _ b, x, j + 1, f => match setF b x.2 j f with
    | some y => some (x.1, y)
    | none => none
  | _, _, _, _ => none

def setI : (t : Ty) → t.D → Nat → ((u : Ty) → u.D → Option u.D) → Option t.D
  | .arr _ u, l, i, f => match f u (l.getD i u.zero) with
    | some y => some (l.set i y)
    | none => none
  | _, _, _, _ => none

def setP : List Step → TV → (t : Ty) → t.D → Option t.D
  | [], v, t, _ => Ty.cast v.2
  | .fld j :: p, v, t, x => setF t x j (setP p v)
  | .idx i :: p, v, t, x => setI t x i (setP p v)

/-- The type of a field; the type at the end of a path. -/
def tyF : Ty → Nat → Option Ty
  | .pair a _, 0 => some a
  | .pair _ b, j + 1 => tyF b j
  | _, _ => none

def tyAt : List Step → Ty → Option Ty
  | [], t => some t
  | .fld j :: p, t => match tyF t j with
    | some u => tyAt p u
    | none => none
  | .idx _ :: p, .arr _ u => tyAt p u
  | _, _ => none

/-! ### Abstract values -/
inductive AV where
  | val (t : Ty) (x : t.D)
  | nn (t : Ty) (xs : List t.D)
  | nil
  | nptr
  | ptr (b : Nat) (p : List Step)
  | rptr (b v i : Nat) (p : List Step)
  | ref (t : Ty) (x : t.D)
  | own (b v : Nat)
  | sub (b v lo n : Nat)
  | pr (a b : AV)
  | un
  | tp (l : AV)
  | fn (f : FuncId) (first cap : AV)
  | undef

/-- A value in its parts: structs fall into fields. -/
def explode : (t : Ty) → t.D → AV
  | .pair a b, x => .pr (explode a x.1) (explode b x.2)
  | .unit, _ => .un
  | t, x => .val t x

def AV.norm : AV → AV
  | .val t x => explode t x
  | .pr a b => .pr a.norm b.norm
  | a => a

/-- Field j of a chain. -/
def AV.nth : AV → Nat → Option AV
  | .pr a _, 0 => some a
  | .pr _ b, j + 1 => b.nth j
  | .val (.pair a _) x, 0 => some (.val a x.1)
  | .val (.pair _ b) x, j + 1 => match getF b x.2 j with
    | some y => some (.val y.1 y.2)
    | none => none
  | _, _ => none

def AV.get : AV → List Step → Option AV
  | a, [] => some a
  | .val t x, p => match getP t x p with
    | some y => some (.val y.1 y.2)
    | none => none
  | a, .fld j :: p => match a.nth j with
    | some b => AV.get b p
    | none => none
  | _, _ => none

def AV.setNth (f : AV → Option AV) : AV → Nat → Option AV
  | .pr a b, 0 => match f a with
    | some c => some (.pr c b)
    | none => none
  | .pr a b, j + 1 => match AV.setNth f b j with
    | some c => some (.pr a c)
    | none => none
  | _, _ => none

/-- A store into a variable: the parts are exploded ones. -/
def AV.set (v : AV) : List Step → AV → Option AV
  | [], _ => some v
  | .fld j :: p, a => AV.setNth (AV.set v p) a j
  | .idx i :: p, .val t x => match v with
    | .val u y => match setP (.idx i :: p) ⟨u, y⟩ t x with
      | some z => some (.val t z)
      | none => none
    | _ => none
  | _, _ => none

/-- Does a value fit a type, as the parts of a variable? -/
def AV.fits : Ty → AV → Bool
  | .pair a b, .pr x y => fits a x && fits b y
  | .unit, .un => true
  | .pair .., _ => false
  | .unit, _ => false
  | t, .val u _ => decide (t = u)
  | .sl _, .nn .. => false
  | .sl _, .nil => true
  | .sl _, .own .. => true
  | .sl _, .sub .. => true
  | .opq, .ptr .. => true
  | .opq, .rptr .. => true
  | .opq, .nptr => true
  | .opq, .ref .. => true
  | .opq, .fn .. => true
  | .arr .., .undef => false
  | _, .undef => true
  | _, _ => false

/-- Is every part known? -/
def AV.solid : AV → Bool
  | .pr a b => a.solid && b.solid
  | .undef | .tp _ => false
  | _ => true

/-! ### Memory -/
inductive Cn where
  | var (t : Ty) (c : AV)
  | row (e : TypeId) (t : Ty) (xs : List t.D) (v : Nat)

abbrev Mem := Nat → Option (Cn × Bool)
def Mem.set (m : Mem) (b : Nat) (c : Cn × Bool) : Mem := fun i => if i = b then some c else m i
def Mem.empty : Mem := fun _ => none

/-! ### Decision trees and effects -/
inductive Pr (α : Type) : Type 1 where
  | ret (a : α)
  | fail
  | tst (c : Bool) (y n : Pr α)
  | ask {β : Type} (m : Option β) (k : β → Pr α)

def Pr.bind {α β : Type} : Pr α → (α → Pr β) → Pr β
  | .ret a, f => f a
  | .fail, _ => .fail
  | .tst c y n, f => .tst c (y.bind f) (n.bind f)
  | .ask m k, f => .ask m fun b => (k b).bind f

def Pr.run {α : Type} : Pr α → Option α
  | .ret a => some a
  | .fail => none
  | .tst c y n => if c = true then y.run else n.run
  | .ask m k => m.bind fun b => (k b).run

def Pr.runK {α γ : Type} : Pr α → (α → Option γ) → Option γ
  | .ret a, K => K a
  | .fail, _ => none
  | .tst c y n, K => if c = true then y.runK K else n.runK K
  | .ask m k, K => m.bind fun b => (k b).runK K

inductive Eff (α : Type) : Type 1 where
  | ret (a : α)
  | fail
  | tst (c : Bool) (y n : Eff α)
  | ask {β : Type} (m : Option β) (k : β → Eff α)
  | rd (b : Nat) (k : Cn → Eff α)
  | wr (b : Nat) (c : Cn) (k : Eff α)
  | fz (b : Nat) (k : Eff α)
  | nw (b : Nat) (c : Cn) (k : Eff α)

def Eff.bind {α β : Type} : Eff α → (α → Eff β) → Eff β
  | .ret a, f => f a
  | .fail, _ => .fail
  | .tst c y n, f => .tst c (y.bind f) (n.bind f)
  | .ask m k, f => .ask m fun b => (k b).bind f
  | .rd b k, f => .rd b fun c => (k c).bind f
  | .wr b c k, f => .wr b c (k.bind f)
  | .fz b k, f => .fz b (k.bind f)
  | .nw b c k, f => .nw b c (k.bind f)

/-- The footprint: block and kind (0 read, 1 frozen, 2 written or new). -/
abbrev FP := List (Nat × Nat)

def Eff.go {α : Type} : Eff α → Mem → FP → Pr (α × Mem × FP)
  | .ret a, m, p => .ret (a, m, p)
  | .fail, _, _ => .fail
  | .tst c y n, m, p => .tst c (y.go m p) (n.go m p)
  | .ask x k, m, p => .ask x fun b => (k b).go m p
  | .rd b k, m, p => match m b with
    | some (c, _) => (k c).go m ((b, 0) :: p)
    | none => .fail
  | .wr b c k, m, p => match m b with
    | some (_, false) => k.go (m.set b (c, false)) ((b, 2) :: p)
    | _ => .fail
  | .fz b k, m, p => match m b with
    | some (c, _) => k.go (m.set b (c, true)) ((b, 1) :: p)
    | none => .fail
  | .nw b c k, m, p => match m b with
    | none => k.go (m.set b (c, false)) ((b, 2) :: p)
    | some _ => .fail

/-! ### The tables that a run goes by -/
structure TI where
  ty : Ty
  elem : TypeId := 0
  bytes : Nat := 0

structure Sig where
  args : List Ty
  res : List Ty
  f : DL args → Option (DL res)

/-- A function that changes a row of its caller's: the row, the cut of it that is handed over, the other arguments; the results and the row behind it. -/
structure MSig where
  u : Ty
  elem : TypeId
  args : List Ty
  res : List Ty
  f : List u.D → Nat → Nat → DL args → Option (DL res × List u.D)

/-- A function whose result is a row of its own: it becomes the caller's. -/
structure NSig where
  u : Ty
  elem : TypeId
  args : List Ty
  f : DL args → Option (List u.D)

structure Ann where
  keep : Nat
  frz : List Nat := []
  nils : List (Nat × Nat × TypeId) := []

structure Cx where
  types : List (TypeId × TI)
  sigs : List (FuncId × Sig)
  inl : List (FuncId × (Func × List (Nat × Ann))) := []
  muts : List (FuncId × MSig) := []
  news : List (FuncId × NSig) := []
  /-- Places of calls at which a callee's contract on its caller's row is taken. -/
  pref : List Nat := []
  /-- Places at which a row is frozen by append. -/
  apfz : List Nat := []

def look {α : Type} : List (Nat × α) → Nat → Option α
  | [], _ => none
  | (i, a) :: l, n => if i = n then some a else look l n

def Cx.ty (cx : Cx) (t : TypeId) : Option TI := look cx.types t

/-! ### Operands and values -/
def cst : Value → AV
  | .int k n => .val (.int k) n
  | .bool b => .val .bool b
  | .string s => .val .str s.data.toList
  | .slice none 0 0 => .nil
  | .pointer none => .nptr
  | _ => .undef

def ev (env : List AV) : Operand → AV
  | .tmp t => env.getD t .undef
  | .const v => cst v
  | .func f => .fn f .un .un
  | .global _ => .undef

def Eff.opt {α β : Type} (o : Option α) (k : α → Eff β) : Eff β := match o with
  | some a => k a
  | none => .fail

/-- A value as one of a type; rows that it leads to are frozen where 'z' says so. -/
def toVal {β : Type} (z : Bool) : (t : Ty) → AV → (t.D → Eff β) → Eff β
  | t, .val u x, k => Eff.opt (Ty.cast (t := u) (u := t) x) k
  | .sl t, .nn u xs, k => Eff.opt (Ty.cast (t := .sl u) (u := .sl t) xs) k
  | .sl _, .nil, k => k []
  | .sl t, .own b v, k => .rd b fun
    | .row _ u xs v' => if v = v' then Eff.opt (Ty.cast (t := .sl u) (u := .sl t) xs) fun ys => if z then .fz b (k ys) else k ys else .fail
    | _ => .fail
  | .sl t, .sub b v lo n, k => .rd b fun
    | .row _ u xs v' => if v = v' then Eff.opt (Ty.cast (t := .sl u) (u := .sl t) xs) fun ys => if z then .fz b (k ((ys.drop lo).take n)) else k ((ys.drop lo).take n) else .fail
    | _ => .fail
  | .pair a b, .pr x y, k => toVal z a x fun u => toVal z b y fun v => k (u, v)
  | .unit, .un, k => k ()
  | _, _, _ => .fail

/-- The list that a slice is (of elements of type t), whatever its form. -/
def toVals {β : Type} (z : Bool) : (ts : List Ty) → List AV → (DL ts → Eff β) → Eff β
  | [], [], k => k ()
  | t :: ts, a :: as, k => toVal z t a fun x => toVals z ts as fun y => k (x, y)
  | _, _, _ => .fail

def chainOf : (ts : List Ty) → DL ts → AV
  | [], _ => .un
  | t :: ts, x => .pr (.val t x.1) (chainOf ts x.2)

/-- The results of a call, as one value. -/
def resOf : (ts : List Ty) → DL ts → AV
  | [t], x => .val t x.1
  | ts, x => .tp (chainOf ts x)

/-! ### Operations -/
def bitop (op : BinOp) (k : IntKind) (x y : Int) : Option Int :=
  match op with
  | .and => some (k.wrap (BitVec.ofInt k.bits x &&& BitVec.ofInt k.bits y).toNat)
  | .or => some (k.wrap (BitVec.ofInt k.bits x ||| BitVec.ofInt k.bits y).toNat)
  | .xor => some (k.wrap (BitVec.ofInt k.bits x ^^^ BitVec.ofInt k.bits y).toNat)
  | .andNot => some (k.wrap (BitVec.ofInt k.bits x &&& ~~~ BitVec.ofInt k.bits y).toNat)
  | _ => none

def intOp (op : BinOp) (k : IntKind) (x y : Int) : Eff AV :=
  match op with
  | .add => .ret (.val (.int k) (k.wrap (x + y)))
  | .sub => .ret (.val (.int k) (k.wrap (x - y)))
  | .mul => .ret (.val (.int k) (k.wrap (x * y)))
  | .quo => .tst (y == 0) .fail (.ret (.val (.int k) (k.wrap (x.tdiv y))))
  | .rem => .tst (y == 0) .fail (.ret (.val (.int k) (x.tmod y)))
  | .eql => .ret (.val .bool (x == y))
  | .neq => .ret (.val .bool (x != y))
  | .lss => .ret (.val .bool (decide (x < y)))
  | .leq => .ret (.val .bool (decide (x ≤ y)))
  | .gtr => .ret (.val .bool (decide (x > y)))
  | .geq => .ret (.val .bool (decide (x ≥ y)))
  | op => Eff.opt (bitop op k x y) fun r => .ret (.val (.int k) r)

def strOp (op : BinOp) (x y : List UInt8) : Eff AV :=
  match op with
  | .add => .tst (decide (x.length + y.length ≤ 9223372036854775807)) (.ret (.val .str (x ++ y))) .fail
  | .eql => .ret (.val .bool (x == y))
  | .neq => .ret (.val .bool (!(x == y)))
  | _ => .fail

def binop (cx : Cx) (op : BinOp) (t : TypeId) (x y : AV) : Eff AV :=
  match x, y with
  | .val (.int k) a, .val (.int k') b =>
    match op with
    | .shl => .tst (decide (b < 0)) .fail (.ret (.val (.int k) (k.wrap (a * 2 ^ (min b.toNat k.bits)))))
    | .shr => .tst (decide (b < 0)) .fail (.ret (.val (.int k) (a.fdiv (2 ^ (min b.toNat k.bits)))))
    | op => if k = k' then intOp op k a b else .fail
  | .val .bool a, .val .bool b =>
    match cx.ty t, op with
    | some ⟨.bool, _, _⟩, .eql => .ret (.val .bool (a == b))
    | some ⟨.bool, _, _⟩, .neq => .ret (.val .bool (!(a == b)))
    | _, _ => .fail
  | .val .str a, .val .str b => strOp op a b
  | .nil, .nil => match cx.ty t, op with
    | some ⟨.sl _, _, _⟩, .eql => .ret (.val .bool true)
    | some ⟨.sl _, _, _⟩, .neq => .ret (.val .bool false)
    | _, _ => .fail
  | .nn .., .nil => match cx.ty t, op with
    | some ⟨.sl _, _, _⟩, .eql => .ret (.val .bool false)
    | some ⟨.sl _, _, _⟩, .neq => .ret (.val .bool true)
    | _, _ => .fail
  | _, _ => .fail

def unop (op : UnOp) (x : AV) : Eff AV :=
  match op, x with
  | .neg, .val (.int k) n => .ret (.val (.int k) (k.wrap (0 - n)))
  | .xor, .val (.int k) n => Eff.opt (bitop .xor k (if k.signed then -1 else k.max) n) fun r => .ret (.val (.int k) r)
  | .not, .val .bool b => .ret (.val .bool (!b))
  | _, _ => .fail

def convOp (cx : Cx) (src dst : TypeId) (x : AV) : Eff AV :=
  match cx.ty src, cx.ty dst, x with
  | some ⟨.int _, _, _⟩, some ⟨.int k, _, _⟩, .val (.int _) n => .ret (.val (.int k) (k.wrap n))
  | _, _, _ => .fail

/-- An index that lies in range. -/
def inRange (i : AV) (n : Nat) (k : Nat → Eff AV) : Eff AV :=
  match i with
  | .val (.int _) i => .tst (decide (0 ≤ i) && decide (i < (n : Int))) (k i.toNat) .fail
  | _ => .fail

def indexAddrOp (cx : Cx) (t : TypeId) (x i : AV) : Eff AV :=
  match cx.ty t with
  | some ⟨.sl u, _, _⟩ => match x with
    | .own b v => .rd b fun
      | .row _ u' xs v' => if v = v' ∧ u = u' then inRange i xs.length fun j => .ret (.rptr b v j []) else .fail
      | _ => .fail
    | .sub b v lo n => .rd b fun
      | .row _ u' _ v' => if v = v' ∧ u = u' then inRange i n fun j => .ret (.rptr b v (lo + j) []) else .fail
      | _ => .fail
    | .val (.sl u') l => if u = u' then inRange i l.length fun j => .ret (.ref u' (l.getD j u'.zero)) else .fail
    | .nn u' l => if u = u' then inRange i l.length fun j => .ret (.ref u' (l.getD j u'.zero)) else .fail
    | _ => .fail
  | some ⟨.arr n u, _, _⟩ => if n < 2 then .fail else match x with
    | .ptr b p => .rd b fun
      | .var T _ => if tyAt p T = some (.arr n u) then inRange i n fun j => .ret (.ptr b (p ++ [.idx j])) else .fail
      | _ => .fail
    | .rptr b v k p => .rd b fun
      | .row _ T _ v' => if v = v' ∧ tyAt p T = some (.arr n u) then inRange i n fun j => .ret (.rptr b v k (p ++ [.idx j])) else .fail
      | _ => .fail
    | .ref (.arr n' u') l => if n = n' ∧ u = u' then inRange i n fun j => .ret (.ref u' (l.getD j u'.zero)) else .fail
    | _ => .fail
  | _ => .fail

def indexOp (cx : Cx) (t : TypeId) (x i : AV) : Eff AV :=
  match cx.ty t, x with
  | some ⟨.str, _, _⟩, .val .str s => inRange i s.length fun j => .ret (.val (.int .u8) ((s.getD j 0).toNat : Int))
  | some ⟨.arr n u, _, _⟩, .val (.arr n' u') l => if n = n' ∧ u = u' then inRange i n fun j => .ret (.val u' (l.getD j u'.zero)) else .fail
  | _, _ => .fail

def loadOp (cx : Cx) (t : TypeId) (x : AV) : Eff AV :=
  match cx.ty t with
  | some ⟨u, _, _⟩ => match x with
    | .ptr b p => .rd b fun
      | .var T c => if tyAt p T = some u then Eff.opt (c.get p) .ret else .fail
      | _ => .fail
    | .rptr b v i p => .rd b fun
      | .row _ T xs v' => if v = v' ∧ tyAt p T = some u then Eff.opt (getP T (xs.getD i T.zero) p) fun y => .ret (.val y.1 y.2) else .fail
      | _ => .fail
    | .ref u' x => if u = u' then .ret (.val u' x) else .fail
    | _ => .fail
  | none => .fail

def storeOp (cx : Cx) (t : TypeId) (x y : AV) : Eff AV :=
  match cx.ty t with
  | some ⟨u, _, _⟩ => match x with
    | .ptr b p => .rd b fun
      | .var T c => if tyAt p T = some u ∧ AV.fits u y.norm = true ∧ y.solid = true then Eff.opt (AV.set y.norm p c) fun c' => .wr b (.var T c') (.ret .undef) else .fail
      | _ => .fail
    | .rptr b v i p => toVal true u y fun z => .rd b fun
      | .row e T xs v' => if v = v' ∧ tyAt p T = some u then Eff.opt (setP p ⟨u, z⟩ T (xs.getD i T.zero)) fun x' => .wr b (.row e T (xs.set i x') v) (.ret .undef) else .fail
      | _ => .fail
    | _ => .fail
  | none => .fail

/-- The bounds of a cut of n elements: low, high. -/
def cutLow (h : Nat) (lo : Option AV) (k : Nat → Eff AV) : Eff AV := match lo with
  | none => k 0
  | some (.val (.int _) l) => .tst (decide (0 ≤ l) && decide (l ≤ (h : Int))) (k l.toNat) .fail
  | _ => .fail

def cutHigh (m n : Nat) (hi : Option AV) (open_ : Bool) (k : Nat → Eff AV) : Eff AV := match hi with
  | none => match open_ with
    | true => k n
    | false => .fail
  | some (.val (.int _) h) => .tst (decide (0 ≤ h) && decide (h ≤ (m : Int))) (k h.toNat) .fail
  | _ => .fail

def cutOp (n : Nat) (lo hi mx : Option AV) (k : Nat → Nat → Eff AV) : Eff AV := match mx with
  | none => cutHigh n n hi true fun h => cutLow h lo fun l => k l h
  | some (.val (.int _) m) => .tst (decide (0 ≤ m) && decide (m ≤ (n : Int))) (cutHigh m.toNat n hi false fun h => cutLow h lo fun l => k l h) .fail
  | _ => .fail

def cutList {α : Type} (lo hi : Bool) (l : List α) (a b : Nat) : List α :=
  match lo, hi with
  | false, false => l
  | false, true => l.take b
  | true, false => l.drop a
  | true, true => (l.take b).drop a

def sliceOp (cx : Cx) (t : TypeId) (x : AV) (lo hi mx : Option AV) : Eff AV :=
  match cx.ty t with
  | some ⟨.str, _, _⟩ => match x, mx with
    | .val .str s, none => cutOp s.length lo hi none fun a b => .ret (.val .str (cutList lo.isSome hi.isSome s a b))
    | _, _ => .fail
  | some ⟨.sl u, _, _⟩ => match x with
    | .val (.sl u') l => if u = u' then cutOp l.length lo hi mx fun a b => .ret (.val (.sl u') (cutList lo.isSome hi.isSome l a b)) else .fail
    | .nn u' l => if u = u' then cutOp l.length lo hi mx fun a b => .ret (.val (.sl u') (cutList lo.isSome hi.isSome l a b)) else .fail
    | .own b v => .rd b fun
      | .row _ u' xs v' => if v = v' ∧ u = u' then cutOp xs.length lo hi mx fun a b' => .ret (.sub b v a (b' - a)) else .fail
      | _ => .fail
    | .sub b v l n => .rd b fun
      | .row _ u' _ v' => if v = v' ∧ u = u' then cutOp n lo hi mx fun a b' => .ret (.sub b v (l + a) (b' - a)) else .fail
      | _ => .fail
    | _ => .fail
  | some ⟨.arr n u, _, _⟩ => match x with
    | .ptr b p => .rd b fun
      | .var T c => if tyAt p T = some (.arr n u) then match c.get p with
          | some (.val (.arr _ u') l) => cutOp n lo hi mx fun a b' => .fz b (.ret (.val (.sl u') (cutList lo.isSome hi.isSome l a b')))
          | _ => .fail
        else .fail
      | _ => .fail
    | _ => .fail
  | _ => .fail

def makeSliceOp (cx : Cx) (site : Nat) (t : TypeId) (n c : AV) : Eff AV :=
  match cx.ty t, n, c with
  | some ⟨.sl u, e, eb⟩, .val (.int _) n, .val (.int _) c =>
    .tst (decide (0 ≤ n) && decide (n ≤ c) && decide (c * (eb : Int) ≤ 140737488355328)) (.nw site (.row e u (List.replicate n.toNat u.zero) 0) (.ret (.own site 0))) .fail
  | _, _, _ => .fail

def fillSlice (u : Ty) : List (Nat × AV) → List u.D → (List u.D → Eff AV) → Eff AV
  | [], acc, k => k acc
  | (i, x) :: rest, acc, k => toVal true u x fun y => fillSlice u rest (acc.set i y) k

def buildSliceOp (cx : Cx) (site : Nat) (t : TypeId) (len : Nat) (parts : List (Nat × AV)) : Eff AV :=
  match cx.ty t with
  | some ⟨.sl u, e, _⟩ => if (parts.all fun q => decide (q.1 < len)) = true ∧ len * u.size ≤ 16777216 then fillSlice u parts (List.replicate len u.zero) fun l => .nw site (.row e u l 0) (.ret (.own site 0)) else .fail
  | _ => .fail

def fillStruct (T : Ty) : List (Nat × AV) → AV → Option AV
  | [], a => some a
  | (j, x) :: rest, a => match tyF T j with
    | some u => if AV.fits u x.norm = true ∧ x.solid = true then (match AV.setNth (fun _ => some x.norm) a j with
      | some b => fillStruct T rest b
      | none => none) else none
    | none => none

def fillArr (u : Ty) : List (Nat × AV) → List u.D → Option (List u.D)
  | [], acc => some acc
  | (i, .val t x) :: rest, acc => match Ty.cast (t := t) (u := u) x with
    | some y => fillArr u rest (acc.set i y)
    | none => none
  | _, _ => none

def buildOp (cx : Cx) (t : TypeId) (parts : List (Nat × AV)) : Eff AV :=
  match cx.ty t with
  | some ⟨.arr n u, _, _⟩ => if (parts.all fun q => decide (q.1 < n)) = true then Eff.opt (fillArr u parts (List.replicate n u.zero)) fun l => .ret (.val (.arr n u) l) else .fail
  | some ⟨.pair a b, _, _⟩ => Eff.opt (fillStruct (.pair a b) parts (explode (.pair a b) (Ty.zero (.pair a b)))) .ret
  | _ => .fail

def allocOp (cx : Cx) (site : Nat) (t : TypeId) : Eff AV :=
  match cx.ty t with
  | some ⟨u, _, _⟩ => .nw site (.var u (explode u u.zero)) (.ret (.ptr site []))
  | none => .fail

def boxOp (cx : Cx) (site : Nat) (t : TypeId) (x : AV) : Eff AV :=
  match cx.ty t with
  | some ⟨u, _, _⟩ => if AV.fits u x.norm = true ∧ x.solid = true then .nw site (.var u x.norm) (.ret (.ptr site [])) else .fail
  | none => .fail

def fieldAddrOp (cx : Cx) (t : TypeId) (x : AV) (f : Nat) : Eff AV :=
  match cx.ty t with
  | some ⟨u, _, _⟩ => match tyF u f, x with
    | some _, .ptr b p => .rd b fun
      | .var T _ => if tyAt p T = some u then .ret (.ptr b (p ++ [.fld f])) else .fail
      | _ => .fail
    | some _, .rptr b v i p => .rd b fun
      | .row _ T _ v' => if v = v' ∧ tyAt p T = some u then .ret (.rptr b v i (p ++ [.fld f])) else .fail
      | _ => .fail
    | some _, .ref u' x => if u = u' then Eff.opt (getF u' x f) fun y => .ret (.ref y.1 y.2) else .fail
    | _, _ => .fail
  | none => .fail

def fieldOp (cx : Cx) (t : TypeId) (x : AV) (f : Nat) : Eff AV :=
  match cx.ty t with
  | some ⟨u, _, _⟩ => match tyF u f with
    | some _ => if AV.fits u x.norm = true then Eff.opt (x.norm.nth f) .ret else .fail
    | none => .fail
  | none => .fail

def lenOp (cx : Cx) (t : TypeId) (x : AV) : Eff AV :=
  match cx.ty t with
  | some ⟨.str, _, _⟩ => match x with
    | .val .str s => .ret (.val (.int .i64) (s.length : Int))
    | _ => .fail
  | some ⟨.sl _, _, _⟩ => match x with
    | .val (.sl _) l => .ret (.val (.int .i64) (l.length : Int))
    | .nn _ l => .ret (.val (.int .i64) (l.length : Int))
    | .nil => .ret (.val (.int .i64) (0 : Int))
    | .own b v => .rd b fun
      | .row _ _ xs v' => if v = v' then .ret (.val (.int .i64) (xs.length : Int)) else .fail
      | _ => .fail
    | .sub b v _ n => .rd b fun
      | .row _ _ _ v' => if v = v' then .ret (.val (.int .i64) (n : Int)) else .fail
      | _ => .fail
    | _ => .fail
  | _ => .fail

def appendOp (cx : Cx) (site : Nat) (t t' : TypeId) (s x : AV) : Eff AV :=
  match cx.ty t, cx.ty t' with
  | some ⟨.sl u, e, eb⟩, some ⟨.sl _, _, _⟩ =>
    toVal false (.sl u) x fun ys =>
      match s with
      | .nil => .tst (decide (ys.length * eb ≤ 140737488355328)) (.nw site (.row e u ys 0) (.ret (.own site 0))) .fail
      | .own b v => .rd b fun
        | .row e' u' xs v' => if v = v' ∧ e = e' then Eff.opt (Ty.cast (t := .sl u') (u := .sl u) xs) fun zs =>
            .tst (decide ((zs.length + ys.length) * eb ≤ 140737488355328)) (match cx.apfz.contains site with
              | false => .wr b (.row e u (zs ++ ys) (v + 1)) (.ret (.own b (v + 1)))
              | true => .wr b (.row e u zs v) (.fz b (.ret (.val (.sl u) (zs ++ ys))))) .fail else .fail
        | _ => .fail
      | _ => .fail
  | _, _ => .fail

def copyOp (cx : Cx) (t : TypeId) (d x : AV) : Eff AV :=
  match cx.ty t with
  | some ⟨.sl u, _, _⟩ =>
    toVal false (.sl u) x fun ys =>
      match d with
      | .own b v => .rd b fun
        | .row e' u' xs v' => if v = v' then Eff.opt (Ty.cast (t := .sl u') (u := .sl u) xs) fun zs =>
            .wr b (.row e' u (ys.take zs.length ++ zs.drop ys.length) v) (.ret (.val (.int .i64) ((min ys.length zs.length : Nat) : Int))) else .fail
        | _ => .fail
      | _ => .fail
  | _ => .fail

def minmax (mx : Bool) : List AV → Option AV
  | [.val (.int k) x, .val (.int k') y] => if k = k' then some (.val (.int k) (if mx then (if y > x then y else x) else (if y < x then y else x))) else none
  | _ => none

/-- A call that changes the row behind its first argument. -/
def mutOp (sg : MSig) (a : AV) (x : DL sg.args) : Eff AV :=
  match a with
  | .own b v => .rd b fun
    | .row e u xs v' => if v = v' ∧ e = sg.elem then Eff.opt (Ty.cast (t := .sl u) (u := .sl sg.u) xs) fun ys => .ask (sg.f ys 0 ys.length x) fun r => .wr b (.row e sg.u r.2 v) (.ret (resOf sg.res r.1)) else .fail
    | _ => .fail
  | .sub b v lo n => .rd b fun
    | .row e u xs v' => if v = v' ∧ e = sg.elem then Eff.opt (Ty.cast (t := .sl u) (u := .sl sg.u) xs) fun ys => .ask (sg.f ys lo n x) fun r => .wr b (.row e sg.u r.2 v) (.ret (resOf sg.res r.1)) else .fail
    | _ => .fail
  | _ => .fail

def Cx.sigAt (cx : Cx) (site : Nat) (f : FuncId) : Option Sig := match cx.pref.contains site with
  | true => none
  | false => look cx.sigs f

def callOp (cx : Cx) (site : Nat) (f : FuncId) (args : List AV) : Eff AV :=
  match cx.sigAt site f with
  | some sg => toVals (sg.res.any Ty.rows) sg.args args fun xs => .ask (sg.f xs) fun r => .ret (resOf sg.res r)
  | none => match look cx.muts f, args with
    | some sg, a :: as => toVals true sg.args as fun x => mutOp sg a x
    | _, _ => match look cx.news f with
      | some sg => toVals true sg.args args fun xs => .ask (sg.f xs) fun ys => .nw site (.row sg.elem sg.u ys 0) (.ret (.own site 0))
      | none => .fail

/-- The callee and the arguments of a call of a function's value. -/
def AV.toList : AV → Option (List AV)
  | .un => some []
  | .pr a b => match b.toList with
    | some l => some (a :: l)
    | none => none
  | _ => none

def chain : List AV → AV
  | [] => .un
  | a :: l => .pr a (chain l)

def target (f : AV) (args : List AV) : Option (FuncId × List AV) :=
  match f with
  | .fn g first cap => match first.toList, cap.toList with
    | some l, some r => some (g, l ++ args ++ r)
    | _, _ => none
  | _ => none

/-- An operation (but for a call that is walked into), by its operands' values. -/
def opEff (cx : Cx) (site : Nat) (ρ : Operand → AV) (op : Op) : Eff AV :=
  match op with
  | .move x | .assign x => .ret (ρ x)
  | .pick c a b => match ρ c with
    | .val .bool t => .tst t (.ret (ρ a)) (.ret (ρ b))
    | _ => .fail
  | .alloc t => allocOp cx site t
  | .box t x => boxOp cx site t (ρ x)
  | .build t ps => buildOp cx t (ps.toList.map fun p => (p.1, ρ p.2))
  | .buildSlice t len ps => buildSliceOp cx site t len (ps.toList.map fun p => (p.1, ρ p.2))
  | .load t a => loadOp cx t (ρ a)
  | .store t a x => storeOp cx t (ρ a) (ρ x)
  | .nilCheck x => match ρ x with
    | .ptr b p => .ret (.ptr b p)
    | .rptr b v i p => .rd b fun
      | .row _ _ _ v' => if v = v' then .ret (.rptr b v i p) else .fail
      | _ => .fail
    | .ref t x => .ret (.ref t x)
    | _ => .fail
  | .binOp op t x y _ => binop cx op t (ρ x) (ρ y)
  | .unOp op _ x => unop op (ρ x)
  | .convert src dst x => convOp cx src dst (ρ x)
  | .makeFunc (.func f) first cap => .ret (.fn f (chain (first.toList.map ρ)) (chain (cap.toList.map ρ)))
  | .makeSlice t l c => makeSliceOp cx site t (ρ l) (ρ c)
  | .slice t x lo hi mx => sliceOp cx t (ρ x) (lo.map ρ) (hi.map ρ) (mx.map ρ)
  | .fieldAddr t x f => fieldAddrOp cx t (ρ x) f
  | .field t x f => fieldOp cx t (ρ x) f
  | .indexAddr t x i => indexAddrOp cx t (ρ x) (ρ i)
  | .index t x i => indexOp cx t (ρ x) (ρ i)
  | .extract x j => match ρ x with
    | .tp l => Eff.opt (l.nth j) .ret
    | _ => .fail
  | .call c => match c.callee with
    | .builtin b => match b, c.args.toList, c.argTypes.toList with
      | .len, [x], [t] => lenOp cx t (ρ x)
      | .append, [s, x], [t, t'] => appendOp cx site t t' (ρ s) (ρ x)
      | .copy, [s, x], [t, _] => copyOp cx t (ρ s) (ρ x)
      | .max, xs, _ => Eff.opt (minmax true (xs.map ρ)) .ret
      | .min, xs, _ => Eff.opt (minmax false (xs.map ρ)) .ret
      | _, _, _ => .fail
    | .value f => Eff.opt (target (ρ f) (c.args.toList.map ρ)) fun p => callOp cx site p.1 p.2
    | _ => .fail
  | _ => .fail

/-! ### States, regions, code -/
/-- 'ids': which blocks there are (a hint: what it leaves out is forgotten at the next loop's head). 'kn': which temporaries bear truth values written out (a hint: they are taken apart at once). -/
structure St where
  env : List AV
  mem : Mem
  ids : List Nat
  kn : List Nat

inductive Ex where
  | normal
  | exit (id : Nat)
  | ret
  deriving DecidableEq

def putEnv (env : List AV) (dst : Option Tmp) (v : AV) : List AV := match dst with
  | some d => env.set d v
  | none => env

def knows (kn : List Nat) : Operand → Bool
  | .tmp t => kn.any (Nat.beq t)
  | .const (.bool _) => true
  | _ => false

/-- Is the operation wanted? -/
def wantedK {β : Type} (ops : List Oper) (o : Oper) (env : List AV) (kn : List Nat) (k : Bool → List AV → List Nat → Pr β) : Pr β :=
  match o.guard with
  | none => k true env kn
  | some (j, want) => match (ops[j]?).bind (·.dst) with
    | some d => match env.getD d .undef with
      | .val .bool b => match kn.any (Nat.beq d) with
        | true => match (b : Bool) with
          | true => k want env kn
          | false => k (!want) env kn
        | false => .tst b (k want (env.set d (.val .bool true)) (d :: kn)) (k (!want) (env.set d (.val .bool false)) (d :: kn))
      | .tp .un => k false env kn
      | _ => .fail
    | none => .fail

/-- Does an operation yield a truth value written out? -/
def hint (kn : List Nat) (env : List AV) : Op → Bool
  | .move x | .assign x | .unOp _ _ x => knows kn x
  | .pick c x y => match knows kn c, ev env c with
    | true, .val .bool t => match (t : Bool) with
      | true => knows kn x
      | false => knows kn y
    | _, _ => false
  | _ => false

def putKn (kn : List Nat) (dst : Option Tmp) (h : Bool) : List Nat := match dst with
  | some d => match h with
    | true => d :: kn
    | false => kn.filter fun t => !Nat.beq t d
  | none => kn

/-- An operation; a choice by what is known is made at once. -/
def opEffK (cx : Cx) (site : Nat) (env : List AV) (kn : List Nat) (op : Op) : Eff AV :=
  match op with
  | .pick c x y => match knows kn c, ev env c with
    | true, .val .bool t => match (t : Bool) with
      | true => .ret (ev env x)
      | false => .ret (ev env y)
    | _, _ => opEff cx site (ev env) (.pick c x y)
  | op => opEff cx site (ev env) op

def AV.refs : AV → List Nat
  | .ptr b _ | .rptr b _ _ _ | .own b _ | .sub b _ _ _ => [b]
  | .pr a b => a.refs ++ b.refs
  | .tp l => l.refs
  | .fn _ a b => a.refs ++ b.refs
  | _ => []

def present (m : Mem) (b : Nat) : Bool := (m b).isSome

/-- Is every block that is named there? -/
def closed (m : Mem) (env : List AV) : List (Nat × (Cn × Bool)) → Bool
  | [] => env.all fun a => a.refs.all (present m)
  | (_, .var T c, _) :: l => AV.fits T c && c.refs.all (present m) && closed m env l
  | _ :: l => closed m env l

/-- Calls that are walked into: by the callee, the first number of its sites. -/
abbrev Inl := FuncId → Nat → Option (List AV → Mem → List Nat → Pr (AV × Mem))

def inlined (inl : Inl) (site : Nat) (env : List AV) (op : Op) : Option (Mem → List Nat → Pr (AV × Mem)) :=
  match op with
  | .call c => match c.callee with
    | .value f => match target (ev env f) (c.args.toList.map (ev env)) with
      | some p => match inl p.1 ((site + 1) * 1000000) with
        | some run => some (run p.2)
        | none => none
      | none => none
    | _ => none
  | _ => none

/-- One operation of a region. A call that is walked into leaves the mark (0, 3). -/
def stepR (cx : Cx) (inl : Inl) (ids : List Nat) (fb : Nat) (ops : List Oper) (site : Nat) (o : Oper) (env : List AV) (mem : Mem) (kn : List Nat) : Pr (List AV × Mem × FP × List Nat) :=
  wantedK ops o env kn fun w env kn =>
    match w with
    | true => match inlined inl site env o.op with
      | some run => (run mem ids).bind fun r => if closed r.2 env [] then .ret (putEnv env o.dst r.1, r.2, [(0, 3)], putKn kn o.dst false) else .fail
      | none => if site < fb + 1000000 then ((opEffK cx site env kn o.op).go mem []).bind fun r =>
          if (r.2.2.all fun x => Nat.ble fb x.1 || present mem x.1) = true then .ret (putEnv env o.dst r.1, r.2.1, r.2.2, putKn kn o.dst (hint kn env o.op)) else .fail
        else .fail
    | false => .ret (putEnv env o.dst (.tp .un), mem, [], putKn kn o.dst false)

/-- Operations, each with its number, one behind the other. -/
def runR (cx : Cx) (inl : Inl) (ids : List Nat) (fb base : Nat) (ops : List Oper) : List (Nat × Oper) → List AV → Mem → List Nat → Pr (List AV × Mem × List FP × List Nat)
  | [], env, mem, kn => .ret (env, mem, [], kn)
  | (i, o) :: rest, env, mem, kn => (stepR cx inl ids fb ops (base + i) o env mem kn).bind fun r => (runR cx inl ids fb base ops rest r.1 r.2.1 r.2.2.2).bind fun q => .ret (q.1, q.2.1, r.2.2.1 :: q.2.2.1, q.2.2.2)

def numbered : Nat → List Oper → List (Nat × Oper)
  | _, [] => []
  | i, o :: l => (i, o) :: numbered (i + 1) l

/-- Do two footprints leave each other alone? -/
def apartX (x y : Nat × Nat) : Bool := !Nat.beq x.1 y.1 || (Nat.blt x.2 2 && Nat.blt y.2 2)
def apartF (p q : FP) : Bool := p.all fun x => q.all fun y => apartX x y

def temps (o : Oper) : List Tmp := o.op.operands.toList.filterMap fun | .tmp t => some t | _ => none

def guardTmp (ops : List Oper) (o : Oper) : List Tmp := match o.guard with
  | some (j, _) => match (ops[j]?).bind (·.dst) with
    | some d => [d]
    | none => []
  | none => []

/-- The temporaries that an operation looks at. -/
def looks (ops : List Oper) (o : Oper) : List Tmp := temps o ++ guardTmp ops o

def apartT (ops : List Oper) (a b : Oper) : Bool :=
  (match a.dst with
   | some d => !(looks ops b).contains d && !(b.dst.toList.contains d)
   | none => true) &&
  (match b.dst with
   | some d => !(looks ops a).contains d
   | none => true)

/-- Does operation o wait for number j? -/
def waitsFor (o : Oper) (j : Nat) : Bool := o.after.toList.any fun e => Nat.beq e.on j && Region.binds .any e

/-- Operations that the text leaves unordered don't meet. -/
def apartAll (ops : List Oper) : List (Nat × Oper × FP) → List (Nat × Oper) → List FP → Bool
  | _, [], _ => true
  | _, _, [] => true
  | seen, (i, o) :: os, p :: ps =>
    (seen.all fun q => waitsFor o q.1 || (apartF q.2.2 p && apartT ops q.2.1 o)) && (o.after.toList.all fun e => !Region.binds .any e || Nat.blt e.on i) && (p.all fun x => x.2 != 3) && apartAll ops ((i, o, p) :: seen) os ps

/-! ### What is carried to the head of a loop -/
/-- Frozen rows give way to what they hold; what is of an elder version falls away; the version is counted anew (but for the caller's rows). -/
def AV.settle (m : Mem) (fb : Nat) : AV → AV
  | .own b v => if b < fb then .own b v else match m b with
    | some (.row _ t xs v', z) => if v = v' then (if z then .val (.sl t) xs else .own b 0) else .undef
    | _ => .undef
  | .sub b v lo n => if b < fb then .sub b v lo n else match m b with
    | some (.row _ t xs v', z) => if v = v' then (if z then .val (.sl t) ((xs.drop lo).take n) else .sub b 0 lo n) else .undef
    | _ => .undef
  | .rptr b v i p => if b < fb then .rptr b v i p else .undef
  | .pr a b => .pr (a.settle m fb) (b.settle m fb)
  | .tp l => .tp (l.settle m fb)
  | .fn f a b => .fn f (a.settle m fb) (b.settle m fb)
  | a => a

def maskEnv (keep : Nat) : List AV → Nat → List AV
  | [], _ => []
  | a :: l, i => (if keep.testBit i then a else .undef) :: maskEnv keep l (i + 1)

def Cn.settle (m : Mem) (fb b : Nat) : Cn → Cn
  | .var t c => .var t (c.settle m fb)
  | .row e t xs v => .row e t xs (if b < fb then v else 0)

def insertId (b : Nat) : List Nat → List Nat
  | [] => [b]
  | c :: l => if b < c then b :: c :: l else if b = c then c :: l else c :: insertId b l

def cnRefs (m : Mem) (b : Nat) : List Nat := match m b with
  | some (.var _ c, _) => c.refs
  | _ => []

def grow (m : Mem) : Nat → List Nat → List Nat
  | 0, l => l
  | n + 1, l => grow m n ((l.flatMap (cnRefs m)).foldl (fun acc b => insertId b acc) l)

def ofL (l : List (Nat × (Cn × Bool))) : Mem := look l

def freezeAll (m : Mem) (env : List AV) : List Nat → Option Mem
  | [] => some m
  | t :: ts => match env.getD t .undef with
    | .own b _ | .sub b _ _ _ => match m b with
      | some (c, _) => freezeAll (m.set b (c, true)) env ts
      | none => none
    | _ => freezeAll m env ts

def nilAll (cx : Cx) (fb : Nat) : List (Nat × Nat × TypeId) → List AV × Mem → Option (List AV × Mem)
  | [], s => some s
  | (t, b, ty) :: l, s => match s.1.getD t .undef with
    | .nil => match s.2 b, cx.ty ty with
      | none, some ⟨.sl u, e, _⟩ => if fb ≤ b ∧ b < fb + 1000000 then nilAll cx fb l (s.1.set t (.own b 0), s.2.set b (.row e u [] 0, false)) else none
      | _, _ => none
    | _ => nilAll cx fb l s

/-- The blocks that are kept, settled. -/
def gather (m : Mem) (fb : Nat) : List Nat → List (Nat × (Cn × Bool))
  | [] => []
  | b :: l => match m b with
    | some (c, z) => (b, (c.settle m fb b, z)) :: gather m fb l
    | none => gather m fb l

def canon (cx : Cx) (fb : Nat) (a : Ann) (s : St) : Option St :=
  match freezeAll s.mem s.env a.frz with
  | none => none
  | some m => match nilAll cx fb a.nils (maskEnv a.keep s.env 0, m) with
    | none => none
    | some s1 =>
      let env := s1.1.map (AV.settle s1.2 fb)
      let own := grow s1.2 4 ((env.flatMap AV.refs).foldl (fun acc b => insertId b acc) [])
      let ids := own.foldl (fun acc b => insertId b acc) (s.ids.filter fun b => Nat.blt b fb)
      if closed (ofL (gather s1.2 fb ids)) env (gather s1.2 fb ids) then some ⟨env, ofL (gather s1.2 fb ids), ids, []⟩ else none

def canonO (cx : Cx) (anns : List (Nat × Ann)) (fb : Nat) (id : Nat) (s : St) : Option St :=
  match look anns id with
  | none => some s
  | some a => canon cx fb a s

def firstId : Code → Nat
  | .region id _ _ => id
  | .seq a _ => firstId a
  | .block _ c => firstId c
  | .loop c => firstId c
  | _ => 0

/-! ### Loops -/
def iter (f : St → Option (Ex × St)) (cn : St → Option St) : Nat → St → Option (Ex × St)
  | 0, _ => none
  | n + 1, s => match f s with
    | some (.normal, s') => match cn s' with
      | some s2 => iter f cn n s2
      | none => none
    | some r => some r
    | none => none

open Classical in
noncomputable def loopSem (f : St → Option (Ex × St)) (cn : St → Option St) (s : St) : Option (Ex × St) :=
  if h : ∃ n r, iter f cn n s = some r then some (Classical.choose (Classical.choose_spec h)) else none

def seqK (f : St → Pr (Ex × St)) (r : Ex × St) : Pr (Ex × St) := match r.1 with
  | .normal => f r.2
  | _ => .ret r

def blockK (id : Nat) (r : Ex × St) : Pr (Ex × St) := match r.1 with
  | .exit j => if j = id then .ret (.normal, r.2) else .ret r
  | _ => .ret r

/-- Which blocks there are behind a region: those of before, and its own sites'. -/
def newIds (m : Mem) : Nat → Nat → List Nat → List Nat
  | _, 0, ids => ids
  | b, n + 1, ids => newIds m (b + 1) n (match m b with
    | some _ => insertId b ids
    | none => ids)

def regionK (base : Nat) (ids : List Nat) (ops : List Oper) (draw : Bool) (r : List AV × Mem × List FP × List Nat) : Pr (Ex × St) :=
  match draw with
  | true => if apartAll ops [] (numbered 0 ops) r.2.2.1 then .ret (.normal, ⟨r.1, r.2.1, newIds r.2.1 base ops.length ids, r.2.2.2⟩) else .fail
  | false => .ret (.normal, ⟨r.1, r.2.1, newIds r.2.1 base ops.length ids, r.2.2.2⟩)

def Pr.opt {α β : Type} (o : Option α) (k : α → Pr β) : Pr β := match o with
  | some a => k a
  | none => .fail

/-- What a condition has told. -/
def St.told (s : St) (c : Operand) (b : Bool) : St := match c with
  | .tmp t => ⟨s.env.set t (.val .bool b), s.mem, s.ids, t :: s.kn⟩
  | _ => s

noncomputable def exec (cx : Cx) (anns : List (Nat × Ann)) (inl : Inl) (fb : Nat) : Code → St → Pr (Ex × St)
  | .skip, s => .ret (.normal, s)
  | .region id ops draw, s => Pr.opt (canonO cx anns fb id s) fun s =>
      (runR cx inl s.ids fb (fb + 1024 * id) ops.toList (numbered 0 ops.toList) s.env s.mem s.kn).bind (regionK (fb + 1024 * id) s.ids ops.toList draw)
  | .seq a b, s => (exec cx anns inl fb a s).bind (seqK (exec cx anns inl fb b))
  | .cond c a b, s => match ev s.env c with
    | .val .bool t => match knows s.kn c with
      | true => match (t : Bool) with
        | true => exec cx anns inl fb a s
        | false => exec cx anns inl fb b s
      | false => .tst t (exec cx anns inl fb a (s.told c true)) (exec cx anns inl fb b (s.told c false))
    | _ => .fail
  | .block id c, s => (exec cx anns inl fb c s).bind (blockK id)
  | .loop c, s => Pr.opt (canonO cx anns fb (firstId c) s) fun s =>
      .ask (loopSem (fun s => (exec cx anns inl fb c s).run) (canonO cx anns fb (firstId c)) s) .ret
  | .exit id, s => .ret (.exit id, s)
  | .ret, s => .ret (.ret, s)
  | _, _ => .fail
termination_by structural c => c

/-! ### Functions -/
def resAV (cx : Cx) (env : List AV) (m : Mem) : ResultVar → Option AV
  | .tmp t => some (env.getD t .undef)
  | .cell a t => match env.getD a .undef with
    | .ptr b p => match m b, cx.ty t with
      | some (.var T c, _), some ti => if tyAt p T = some ti.ty then c.get p else none
      | _, _ => none
    | _ => none

def resAVs (cx : Cx) (env : List AV) (m : Mem) : List ResultVar → Option (List AV)
  | [] => some []
  | r :: rs => match resAV cx env m r, resAVs cx env m rs with
    | some a, some l => some (a :: l)
    | _, _ => none

def startEnv (fn : Func) (args : List AV) : List AV := args ++ List.replicate (fn.ntmps - args.length) .undef

def oneOf : List AV → AV
  | [a] => a
  | l => .tp (chain l)

/-- What a call that was walked into hands back: rows of its own as what they hold. -/
def inlK (cx : Cx) (fb : Nat) (ids : List Nat) (fn : Func) (r : Ex × St) : Pr (AV × Mem) :=
  match r.1 with
  | .exit _ => .fail
  | _ => match resAVs cx r.2.env r.2.mem fn.results.toList with
    | some l => match freezeAll r.2.mem l (List.range l.length) with
      | some m =>
        let v := (oneOf l).settle m fb
        if closed (ofL (gather m fb (ids.filter fun b => Nat.blt b fb))) [v] (gather m fb (ids.filter fun b => Nat.blt b fb)) then .ret (v, ofL (gather m fb (ids.filter fun b => Nat.blt b fb))) else .fail
      | none => .fail
    | none => .fail

/-- Bodies that are walked into: they share their caller's memory. -/
noncomputable def inlOf (cx : Cx) : Nat → Inl
  | 0 => fun _ _ => none
  | d + 1 => fun f fb => match look cx.inl f with
    | none => none
    | some p => match p.1.body with
      | none => none
      | some c => some fun args m ids => (exec cx p.2 (inlOf cx d) fb c ⟨startEnv p.1 args, m, ids, []⟩).bind (inlK cx fb ids p.1)

def valsOf : (ts : List Ty) → DL ts → List AV
  | [], _ => []
  | t :: ts, x => .val t x.1 :: valsOf ts x.2

def finish (cx : Cx) (ts : List Ty) (fn : Func) (r : Ex × St) : Pr (DL ts) :=
  match r.1 with
  | .exit _ => .fail
  | _ => match resAVs cx r.2.env r.2.mem fn.results.toList with
    | some l => ((toVals true ts l .ret).go r.2.mem []).bind fun q => .ret q.1
    | none => .fail

/-- The pure function that a body computes, at arguments in any form. -/
noncomputable def bodyAt (cx : Cx) (anns : List (Nat × Ann)) (fn : Func) (rts : List Ty) (args : List AV) : Pr (DL rts) :=
  match fn.body with
  | none => .fail
  | some c => (exec cx anns (inlOf cx 3) 0 c ⟨startEnv fn args, Mem.empty, [], []⟩).bind (finish cx rts fn)

noncomputable def body (cx : Cx) (anns : List (Nat × Ann)) (fn : Func) (ats rts : List Ty) (xs : DL ats) : Pr (DL rts) :=
  bodyAt cx anns fn rts (valsOf ats xs)

end Go.Refl
/-
  How typed values lie in memory: the relation, and what becomes of it when memory grows, when a part is read and when a part is written.
-/
set_option linter.unusedVariables false
namespace Go.Refl
open Go

/-! ### Lists of values in rows of cells -/
def RepL {α : Type} (R : α → List Value → Prop) : List α → List Value → Prop
  | [], cs => cs = []
  | x :: l, cs => ∃ c1 c2, cs = c1 ++ c2 ∧ R x c1 ∧ RepL R l c2

section
variable {α : Type} {R R' : α → List Value → Prop}
theorem RepL.mono (h : ∀ x cs, R x cs → R' x cs) : ∀ {l : List α} {cs : List Value}, RepL R l cs → RepL R' l cs
  | [], _, hl => hl
  | _ :: _, _, ⟨c1, c2, e, h1, h2⟩ => ⟨c1, c2, e, h _ _ h1, RepL.mono h h2⟩
theorem RepL.length {n : Nat} (h : ∀ x cs, R x cs → cs.length = n) : ∀ {l : List α} {cs : List Value}, RepL R l cs → cs.length = l.length * n
  | [], _, hl => by simp [show _ = [] from hl]
  | _ :: _, _, ⟨c1, c2, e, h1, h2⟩ => by
    rw [e, List.length_append, h _ _ h1, RepL.length h h2, List.length_cons, Nat.succ_mul, Nat.add_comm]
theorem RepL.append : ∀ {a b : List α} {ca cb : List Value}, RepL R a ca → RepL R b cb → RepL R (a ++ b) (ca ++ cb)
  | [], _, _, _, ha, hb => by rw [show _ = [] from ha]; exact hb
  | _ :: _, _, _, _, ⟨c1, c2, e, h1, h2⟩, hb => ⟨c1, c2 ++ _, by rw [e, List.append_assoc], h1, RepL.append h2 hb⟩
theorem RepL.split : ∀ {a b : List α} {cs : List Value}, RepL R (a ++ b) cs → ∃ ca cb, cs = ca ++ cb ∧ RepL R a ca ∧ RepL R b cb
  | [], _, cs, h => ⟨[], cs, rfl, rfl, h⟩
  | _ :: _, _, _, ⟨c1, c2, e, h1, h2⟩ => by
    obtain ⟨ca, cb, e', ha, hb⟩ := RepL.split h2
    exact ⟨c1 ++ ca, cb, by rw [e, e', List.append_assoc], ⟨c1, ca, rfl, h1, ha⟩, hb⟩
theorem RepL.one {x : α} {cs : List Value} : RepL R [x] cs ↔ R x cs :=
  ⟨fun ⟨c1, c2, e, h1, h2⟩ => by rw [show c2 = [] from h2, List.append_nil] at e; exact e ▸ h1, fun h => ⟨cs, [], by simp, h, rfl⟩⟩
theorem RepL.take {n : Nat} (h : ∀ x cs, R x cs → cs.length = n) {l : List α} {cs : List Value} (hl : RepL R l cs) (k : Nat) : RepL R (l.take k) (cs.take (k * n)) := by
  have h0 := hl
  rw [← List.take_append_drop k l] at hl
  obtain ⟨ca, cb, e, ha, hb⟩ := hl.split
  have hla := ha.length h
  rcases Nat.le_total k l.length with hk | hk
  · rw [List.length_take, Nat.min_eq_left hk] at hla
    rw [e, List.take_left' hla]
    exact ha
  · have hlen := h0.length h
    rw [List.take_of_length_le hk, List.take_of_length_le (by rw [hlen]; exact Nat.mul_le_mul_right _ hk)]
    exact h0
theorem RepL.drop {n : Nat} (h : ∀ x cs, R x cs → cs.length = n) {l : List α} {cs : List Value} (hl : RepL R l cs) (k : Nat) : RepL R (l.drop k) (cs.drop (k * n)) := by
  have h0 := hl
  rw [← List.take_append_drop k l] at hl
  obtain ⟨ca, cb, e, ha, hb⟩ := hl.split
  have hla := ha.length h
  rcases Nat.le_total k l.length with hk | hk
  · rw [List.length_take, Nat.min_eq_left hk] at hla
    rw [e, List.drop_left' hla]
    exact hb
  · have hlen := h0.length h
    rw [List.drop_of_length_le hk, List.drop_of_length_le (by rw [hlen]; exact Nat.mul_le_mul_right _ hk)]
    rfl
theorem RepL.get {n : Nat} (h : ∀ x cs, R x cs → cs.length = n) {l : List α} {cs : List Value} (hl : RepL R l cs) (i : Nat) (d : α) (hi : i < l.length) :
    R (l.getD i d) ((cs.drop (i * n)).take n) := by
  have h1 := (hl.drop h i).take h 1
  rw [Nat.one_mul] at h1
  have h2 : (l.drop i).take 1 = [l[i]] := by rw [List.drop_eq_getElem_cons hi]; rfl
  have h3 : l.getD i d = l[i] := by simp [List.getD_eq_getElem?_getD, List.getElem?_eq_getElem hi]
  rw [h2, ← h3] at h1
  exact RepL.one.1 h1
theorem RepL.set {n : Nat} (h : ∀ x cs, R x cs → cs.length = n) {l : List α} {cs : List Value} (hl : RepL R l cs) (i : Nat) (hi : i < l.length) {x : α} {c : List Value} (hx : R x c) :
    RepL R (l.set i x) (cs.take (i * n) ++ (c ++ cs.drop (i * n + n))) := by
  have h1 := hl.take h i
  have h2 := hl.drop h (i + 1)
  rw [List.set_eq_take_append_cons_drop, if_pos hi]
  refine h1.append ⟨c, _, rfl, hx, ?_⟩
  rw [Nat.succ_mul] at h2
  exact h2
theorem RepL.replicate {x : α} {c : List Value} (hx : R x c) : ∀ n, RepL R (List.replicate n x) (List.replicate n c).flatten
  | 0 => rfl
  | n + 1 => ⟨c, _, rfl, hx, RepL.replicate hx n⟩
theorem RepL.all {p : Value → Prop} (h : ∀ x cs, R x cs → ∀ u ∈ cs, p u) : ∀ {l : List α} {cs : List Value}, RepL R l cs → ∀ u ∈ cs, p u
  | [], _, hl => by rw [show _ = [] from hl]; simp
  | _ :: _, _, ⟨c1, c2, e, h1, h2⟩ => by
    intro u hu
    rw [e, List.mem_append] at hu
    rcases hu with hu | hu
    · exact h _ _ h1 u hu
    · exact RepL.all h h2 u hu
end

/-! ### Typed values -/
def RowAt (w : World) (Fr : Nat → Prop) (A : Option Addr) (cs : List Value) : Prop :=
  cs = [] ∨ ∃ ad, A = some ad ∧ Fr ad.block ∧ ∀ j u, cs[j]? = some u → w.cell? (ad.add j) = some u

def RepV (w : World) (Fr : Nat → Prop) : (t : Ty) → t.D → List Value → Prop
  | .int k, n, cs => cs = [.int k n]
  | .bool, b, cs => cs = [.bool b]
  | .str, s, cs => cs = [.string ⟨s.toArray⟩]
  | .unit, _, cs => cs = []
  | .opq, _, cs => ∃ v, cs = [v] ∧ v.oneCell' = true
  | .pair a b, x, cs => ∃ c1 c2, cs = c1 ++ c2 ∧ RepV w Fr a x.1 c1 ∧ RepV w Fr b x.2 c2
  | .arr n t, l, cs => l.length = n ∧ RepL (RepV w Fr t) l cs
  | .sl t, l, cs => ∃ A c cells, cs = [.slice A l.length c] ∧ l.length ≤ c ∧ RepL (RepV w Fr t) l cells ∧ RowAt w Fr A cells

theorem RepV.length {w : World} {Fr : Nat → Prop} : ∀ (t : Ty) (x : t.D) (cs : List Value), RepV w Fr t x cs → cs.length = t.size
  | .int _, _, _, h => by rw [show _ = [_] from h]; rfl
  | .bool, _, _, h => by rw [show _ = [_] from h]; rfl
  | .str, _, _, h => by rw [show _ = [_] from h]; rfl
  | .unit, _, _, h => by rw [show _ = [] from h]; rfl
  | .opq, _, _, ⟨v, h, _⟩ => by rw [h]; rfl
  | .pair a b, x, _, ⟨c1, c2, e, h1, h2⟩ => by rw [e, List.length_append, RepV.length a _ _ h1, RepV.length b _ _ h2]; rfl
  | .arr n t, l, _, ⟨hn, hl⟩ => by rw [hl.length (fun x cs => RepV.length t x cs), hn]; rfl
  | .sl _, _, _, ⟨A, c, cells, e, _⟩ => by rw [e]; rfl

theorem RowAt.mono {w w' : World} {Fr Fr' : Nat → Prop} (h : ∀ k, Fr k → Fr' k ∧ w'.heap[k]? = w.heap[k]?) {A : Option Addr} {cs : List Value} (hr : RowAt w Fr A cs) : RowAt w' Fr' A cs := by
  rcases hr with hr | ⟨ad, e, hf, hc⟩
  · exact .inl hr
  · exact .inr ⟨ad, e, (h _ hf).1, fun j u hu => by
      have hb : (ad.add j).block = ad.block := by unfold Addr.add; split <;> rfl
      rw [World.cell?_of_block (w := w) (by rw [hb]; exact (h _ hf).2)]
      exact hc j u hu⟩

theorem RepV.mono {w w' : World} {Fr Fr' : Nat → Prop} (h : ∀ k, Fr k → Fr' k ∧ w'.heap[k]? = w.heap[k]?) : ∀ (t : Ty) (x : t.D) (cs : List Value), RepV w Fr t x cs → RepV w' Fr' t x cs
  | .int _, _, _, hr => hr
  | .bool, _, _, hr => hr
  | .str, _, _, hr => hr
  | .unit, _, _, hr => hr
  | .opq, _, _, hr => hr
  | .pair a b, _, _, ⟨c1, c2, e, h1, h2⟩ => ⟨c1, c2, e, RepV.mono h a _ _ h1, RepV.mono h b _ _ h2⟩
  | .arr _ t, _, _, ⟨hn, hl⟩ => ⟨hn, hl.mono fun x cs hx => RepV.mono h t x cs hx⟩
  | .sl t, _, _, ⟨A, c, cells, e, hc, hl, hr⟩ => ⟨A, c, cells, e, hc, hl.mono fun x cs hx => RepV.mono h t x cs hx, hr.mono h⟩

theorem RepV.one {w : World} {Fr : Nat → Prop} : ∀ (t : Ty) (x : t.D) (cs : List Value), RepV w Fr t x cs → ∀ u ∈ cs, u.oneCell' = true
  | .int _, _, _, h => by rw [show _ = [_] from h]; simp [Value.oneCell']
  | .bool, _, _, h => by rw [show _ = [_] from h]; simp [Value.oneCell']
  | .str, _, _, h => by rw [show _ = [_] from h]; simp [Value.oneCell']
  | .unit, _, _, h => by rw [show _ = [] from h]; simp
  | .opq, _, _, ⟨v, h, h1⟩ => by rw [h]; simpa using h1
  | .pair a b, _, _, ⟨c1, c2, e, h1, h2⟩ => by
    intro u hu
    rw [e, List.mem_append] at hu
    rcases hu with hu | hu
    · exact RepV.one a _ _ h1 u hu
    · exact RepV.one b _ _ h2 u hu
  | .arr _ t, _, _, ⟨_, hl⟩ => hl.all fun x cs hx => RepV.one t x cs hx
  | .sl _, _, _, ⟨A, c, cells, e, _⟩ => by rw [e]; simp [Value.oneCell']

/-- The value of an operand. -/
def RepO (w : World) (Fr : Nat → Prop) (t : Ty) (x : t.D) (v : Value) : Prop :=
  if t.agg = true then ∃ cs : List Value, v = .agg cs.toArray ∧ RepV w Fr t x cs else RepV w Fr t x [v]

theorem RepO.mono {w w' : World} {Fr Fr' : Nat → Prop} (h : ∀ k, Fr k → Fr' k ∧ w'.heap[k]? = w.heap[k]?) {t : Ty} {x : t.D} {v : Value} (hr : RepO w Fr t x v) : RepO w' Fr' t x v := by
  unfold RepO at *
  split at hr
  · rename_i ha
    obtain ⟨cs, e, hc⟩ := hr
    rw [if_pos ha]
    exact ⟨cs, e, RepV.mono h t x cs hc⟩
  · rename_i ha
    rw [if_neg ha]
    exact RepV.mono h t x _ hr

theorem not_agg_size : ∀ (t : Ty), t.agg = false → t.size = 1
  | .int _, _ | .bool, _ | .str, _ | .opq, _ | .sl _, _ => rfl
  | .unit, h | .pair .., h | .arr .., h => by simp [Ty.agg] at h

/-- The cells of an operand's value. -/
theorem RepO.cells {w : World} {Fr : Nat → Prop} {t : Ty} {x : t.D} {v : Value} (h : RepO w Fr t x v) : RepV w Fr t x v.cells.toList := by
  unfold RepO at h
  split at h
  · obtain ⟨cs, rfl, hc⟩ := h
    simpa [Value.cells] using hc
  · rename_i ha
    have h1 : v.oneCell' = true := RepV.one t x _ h v (by simp)
    have : v.cells.toList = [v] := by cases v <;> first | rfl | simp [Value.oneCell'] at h1
    rw [this]
    exact h

/-- A value out of its cells, as a load makes it. -/
def ofCells (t : Ty) (cs : List Value) : Value := if t.agg = true then .agg cs.toArray else cs.getD 0 undef

theorem RepV.operand {w : World} {Fr : Nat → Prop} {t : Ty} {x : t.D} {cs : List Value} (h : RepV w Fr t x cs) : RepO w Fr t x (ofCells t cs) := by
  unfold RepO ofCells
  split
  · exact ⟨cs, rfl, h⟩
  · rename_i ha
    have hl := RepV.length t x cs h
    rw [not_agg_size t (by simpa using ha)] at hl
    obtain ⟨v, rfl⟩ := List.length_eq_one_iff.1 hl
    exact h

theorem RepV.zeroL {w : World} {Fr : Nat → Prop} (t : Ty) (x : t.D) (cs : List Value) (h : RepV w Fr t x cs) (n : Nat) : RepL (RepV w Fr t) (List.replicate n x) (List.replicate n cs).flatten := RepL.replicate h n

/-! ### Paths -/
def offF : Ty → Nat → Nat
  | .pair _ _, 0 => 0
  | .pair a b, j + 1 => a.size + offF b j
  | _, _ => 0

def offP : List Step → Ty → Nat
  | [], _ => 0
  | .fld j :: p, t => offF t j + (match tyF t j with
    | some u => offP p u
    | none => 0)
  | .idx i :: p, .arr _ u => i * u.size + offP p u
  | _, _ => 0

def okP : List Step → Ty → Prop
  | [], _ => True
  | .fld j :: p, t => ∃ u, tyF t j = some u ∧ okP p u
  | .idx i :: p, .arr n u => i < n ∧ okP p u
  | _, _ => False

/-- A piece of a list: from o on, n elements. -/
def piece (cs : List Value) (o n : Nat) : List Value := (cs.drop o).take n
/-- A piece replaced. -/
def patch (cs : List Value) (o : Nat) (c : List Value) : List Value := cs.take o ++ (c ++ cs.drop (o + c.length))

theorem piece_append_left {a b : List Value} {o n : Nat} (h : o + n ≤ a.length) : piece (a ++ b) o n = piece a o n := by
  unfold piece
  rw [List.drop_append_of_le_length (by omega), List.take_append_of_le_length (by rw [List.length_drop]; omega)]
theorem piece_append_right {a b : List Value} {o n : Nat} : piece (a ++ b) (a.length + o) n = piece b o n := by
  unfold piece
  rw [List.drop_append, List.drop_of_length_le (by omega)]
  simp
theorem piece_piece {cs : List Value} {o n o' n' : Nat} (h : o' + n' ≤ n) : piece (piece cs o n) o' n' = piece cs (o + o') n' := by
  unfold piece
  rw [List.drop_take, List.take_take, List.drop_drop, Nat.min_eq_left (by omega)]
theorem piece_length {cs : List Value} {o n : Nat} (h : o + n ≤ cs.length) : (piece cs o n).length = n := by
  unfold piece
  rw [List.length_take, List.length_drop]
  omega
theorem patch_length {cs c : List Value} {o : Nat} (h : o + c.length ≤ cs.length) : (patch cs o c).length = cs.length := by
  unfold patch
  simp only [List.length_append, List.length_take, List.length_drop]
  omega
theorem patch_append_left {a b c : List Value} {o : Nat} (h : o + c.length ≤ a.length) : patch (a ++ b) o c = patch a o c ++ b := by
  unfold patch
  rw [List.take_append_of_le_length (by omega), List.drop_append_of_le_length (by omega)]
  simp only [List.append_assoc]
theorem patch_append_right {a b c : List Value} {o : Nat} : patch (a ++ b) (a.length + o) c = a ++ patch b o c := by
  unfold patch
  rw [show a.length + o + c.length = a.length + (o + c.length) by omega, List.take_append, List.drop_append]
  simp [List.take_of_length_le]
/-- A piece of a piece replaced. -/
theorem patch_patch {cs c : List Value} {o n o' : Nat} (h : o + n ≤ cs.length) (h' : o' + c.length ≤ n) : patch cs o (patch (piece cs o n) o' c) = patch cs (o + o') c := by
  have hl : (patch (piece cs o n) o' c).length = n := by rw [patch_length (by rw [piece_length h]; exact h'), piece_length h]
  have e : cs = cs.take o ++ (piece cs o n ++ cs.drop (o + n)) := by
    unfold piece
    rw [show cs.drop (o + n) = (cs.drop o).drop n by rw [List.drop_drop], List.take_append_drop, List.take_append_drop]
  have ho : (cs.take o).length = o := by rw [List.length_take]; omega
  conv => rhs; rw [e]
  rw [show o + o' = (cs.take o).length + o' by rw [ho], patch_append_right, patch_append_left (by rw [piece_length h]; exact h')]
  unfold patch
  rw [← show patch (piece cs o n) o' c = (piece cs o n).take o' ++ (c ++ (piece cs o n).drop (o' + c.length)) from rfl, hl]

theorem tyF_off : ∀ {t : Ty} {j : Nat} {u : Ty}, tyF t j = some u → offF t j + u.size ≤ t.size
  | .pair a b, 0, u, h => by simp [tyF] at h; subst h; simp [offF, Ty.size]
  | .pair a b, j + 1, u, h => by
    have := tyF_off (t := b) (by simpa [tyF] using h)
    simp only [offF, Ty.size]
    omega
  | .int _, _, _, h | .bool, _, _, h | .str, _, _, h | .unit, _, _, h | .opq, _, _, h | .arr .., _, _, h | .sl _, _, _, h => by simp [tyF] at h

theorem okP_off : ∀ {p : List Step} {t u : Ty}, okP p t → tyAt p t = some u → offP p t + u.size ≤ t.size
  | [], t, u, _, h => by simp [tyAt] at h; subst h; simp [offP]
  | .fld j :: p, t, u, ⟨v, hv, hp⟩, h => by
    simp only [tyAt, hv] at h
    have h1 := okP_off hp h
    have h2 := tyF_off hv
    simp only [offP, hv]
    omega
  | .idx i :: p, .arr n v, u, ⟨hi, hp⟩, h => by
    simp only [tyAt] at h
    have h1 := okP_off hp h
    simp only [offP, Ty.size]
    have : (i + 1) * v.size ≤ n * v.size := Nat.mul_le_mul_right _ hi
    rw [Nat.succ_mul] at this
    omega
  | .idx _ :: _, .int _, _, hp, _ | .idx _ :: _, .bool, _, hp, _ | .idx _ :: _, .str, _, hp, _ | .idx _ :: _, .unit, _, hp, _ | .idx _ :: _, .opq, _, hp, _
  | .idx _ :: _, .pair .., _, hp, _ | .idx _ :: _, .sl _, _, hp, _ => hp.elim

section
variable {w : World} {Fr : Nat → Prop}
theorem getF_rep : ∀ {t : Ty} {x : t.D} {j : Nat} {y : TV} {cs : List Value}, getF t x j = some y → RepV w Fr t x cs → tyF t j = some y.1 ∧ RepV w Fr y.1 y.2 (piece cs (offF t j) y.1.size)
  | .pair a b, x, 0, y, cs, h, ⟨c1, c2, e, h1, h2⟩ => by
    simp [getF] at h
    subst h
    refine ⟨rfl, ?_⟩
    have hl := RepV.length a _ _ h1
    show RepV w Fr a x.1 (piece cs 0 a.size)
    rw [e, piece_append_left (by omega)]
    simpa [piece, ← hl] using h1
  | .pair a b, x, j + 1, y, cs, h, ⟨c1, c2, e, h1, h2⟩ => by
    obtain ⟨ht, hr⟩ := getF_rep (t := b) (by simpa [getF] using h) h2
    refine ⟨ht, ?_⟩
    rw [e, offF, ← RepV.length a _ _ h1, piece_append_right]
    exact hr
  | .int _, _, _, _, _, h, _ | .bool, _, _, _, _, h, _ | .str, _, _, _, _, h, _ | .unit, _, _, _, _, h, _ | .opq, _, _, _, _, h, _ | .arr .., _, _, _, _, h, _ | .sl _, _, _, _, _, h, _ => by
    simp [getF] at h

theorem getP_rep : ∀ {p : List Step} {t : Ty} {x : t.D} {y : TV} {cs : List Value}, okP p t → getP t x p = some y → RepV w Fr t x cs → tyAt p t = some y.1 ∧ RepV w Fr y.1 y.2 (piece cs (offP p t) y.1.size)
  | [], t, x, y, cs, _, h, hr => by
    simp [getP] at h
    subst h
    refine ⟨rfl, ?_⟩
    simpa [piece, offP, ← RepV.length t x cs hr] using hr
  | .fld j :: p, t, x, y, cs, ⟨u, hu, hp⟩, h, hr => by
    simp only [getP] at h
    split at h
    · rename_i z hz
      obtain ⟨ht, hz'⟩ := getF_rep hz hr
      rw [hu] at ht
      injection ht with ht
      subst ht
      obtain ⟨ht, hy⟩ := getP_rep hp h hz'
      refine ⟨by simpa [tyAt, hu] using ht, ?_⟩
      rw [piece_piece (okP_off hp ht)] at hy
      simpa [offP, hu] using hy
    · cases h
  | .idx i :: p, .arr n u, l, y, cs, ⟨hi, hp⟩, h, ⟨hn, hl⟩ => by
    simp only [getP, getI] at h
    have hz := hl.get (fun x cs => RepV.length u x cs) i u.zero (by omega)
    obtain ⟨ht, hy⟩ := getP_rep hp h hz
    refine ⟨by simpa [tyAt] using ht, ?_⟩
    have hy' : RepV w Fr y.1 y.2 (piece (piece cs (i * u.size) u.size) (offP p u) y.1.size) := hy
    rw [piece_piece (okP_off hp ht)] at hy'
    simpa [offP] using hy'
  | .idx _ :: _, .int _, _, _, _, hp, _, _ | .idx _ :: _, .bool, _, _, _, hp, _, _ | .idx _ :: _, .str, _, _, _, hp, _, _ | .idx _ :: _, .unit, _, _, _, hp, _, _ | .idx _ :: _, .opq, _, _, _, hp, _, _
  | .idx _ :: _, .pair .., _, _, _, hp, _, _ | .idx _ :: _, .sl _, _, _, _, hp, _, _ => hp.elim

theorem setF_rep : ∀ {t : Ty} {x x' : t.D} {j : Nat} {f : (u : Ty) → u.D → Option u.D} {cs : List Value}, setF t x j f = some x' → RepV w Fr t x cs →
    ∃ u, tyF t j = some u ∧ ∃ y y', f u y = some y' ∧ RepV w Fr u y (piece cs (offF t j) u.size) ∧ ∀ c, RepV w Fr u y' c → RepV w Fr t x' (patch cs (offF t j) c)
  | .pair a b, x, x', 0, f, cs, h, ⟨c1, c2, e, h1, h2⟩ => by
    simp only [setF] at h
    split at h
    · rename_i y hy
      injection h with h
      subst h
      have hl := RepV.length a _ _ h1
      refine ⟨a, rfl, x.1, y, hy, ?_, fun c hc => ?_⟩
      · rw [e, offF, piece_append_left (by omega)]
        simpa [piece, ← hl] using h1
      · have hlc := RepV.length a _ _ hc
        rw [e, offF, patch_append_left (by omega)]
        refine ⟨_, _, rfl, ?_, h2⟩
        have : patch c1 0 c = c := by unfold patch; simp [List.drop_of_length_le (show c1.length ≤ c.length by omega)]
        rw [this]
        exact hc
    · cases h
  | .pair a b, x, x', j + 1, f, cs, h, ⟨c1, c2, e, h1, h2⟩ => by
    simp only [setF] at h
    split at h
    · rename_i y hy
      injection h with h
      subst h
      obtain ⟨u, ht, z, z', hz, hr, hs⟩ := setF_rep hy h2
      refine ⟨u, ht, z, z', hz, ?_, fun c hc => ?_⟩
      · rw [e, offF, ← RepV.length a _ _ h1, piece_append_right]
        exact hr
      · rw [e, offF, ← RepV.length a _ _ h1, patch_append_right]
        exact ⟨_, _, rfl, h1, hs c hc⟩
    · cases h
  | .int _, _, _, _, _, _, h, _ | .bool, _, _, _, _, _, h, _ | .str, _, _, _, _, _, h, _ | .unit, _, _, _, _, _, h, _ | .opq, _, _, _, _, _, h, _ | .arr .., _, _, _, _, _, h, _ | .sl _, _, _, _, _, _, h, _ => by
    simp [setF] at h

theorem cast_rep {t u : Ty} {x : t.D} {y : u.D} (h : Ty.cast x = some y) : t = u ∧ HEq x y := by
  unfold Ty.cast at h
  split at h
  · rename_i e
    subst e
    injection h with h
    exact ⟨rfl, heq_of_eq h⟩
  · cases h

theorem setP_rep : ∀ {p : List Step} {t : Ty} {x x' : t.D} {v : TV} {cs : List Value}, okP p t → setP p v t x = some x' → RepV w Fr t x cs →
    tyAt p t = some v.1 ∧ ∀ c, RepV w Fr v.1 v.2 c → RepV w Fr t x' (patch cs (offP p t) c)
  | [], t, x, x', v, cs, _, h, hr => by
    obtain ⟨e, h'⟩ := cast_rep h
    obtain ⟨u, y⟩ := v
    dsimp only at e
    subst e
    cases h'
    refine ⟨rfl, fun c hc => ?_⟩
    have h1 := RepV.length _ _ _ hr
    have h2 := RepV.length _ _ _ hc
    dsimp only at h1 h2
    have : patch cs 0 c = c := by unfold patch; simp [List.drop_of_length_le (show cs.length ≤ c.length by omega)]
    rw [offP, this]
    exact hc
  | .fld j :: p, t, x, x', v, cs, ⟨u, hu, hp⟩, h, hr => by
    simp only [setP] at h
    obtain ⟨u', ht, y, y', hf, hy, hs⟩ := setF_rep h hr
    rw [hu] at ht
    injection ht with ht
    subst ht
    obtain ⟨ht, hq⟩ := setP_rep hp hf hy
    refine ⟨by simpa [tyAt, hu] using ht, fun c hc => ?_⟩
    have := hs _ (hq c hc)
    have hlc := RepV.length _ _ _ hc
    rw [patch_patch (by rw [RepV.length t x cs hr]; exact tyF_off hu) (by rw [hlc]; exact okP_off hp ht)] at this
    simpa [offP, hu] using this
  | .idx i :: p, .arr n u, l, l', v, cs, ⟨hi, hp⟩, h, ⟨hn, hl⟩ => by
    simp only [setP, setI] at h
    split at h
    · rename_i y hy
      injection h with h
      subst h
      have hz := hl.get (fun x cs => RepV.length u x cs) i u.zero (by omega)
      obtain ⟨ht, hq⟩ := setP_rep hp hy hz
      refine ⟨by simpa [tyAt] using ht, fun c hc => ⟨by simpa using hn, ?_⟩⟩
      have h1 := hq c hc
      have hlc := RepV.length _ _ _ hc
      have hlcs : cs.length = n * u.size := by rw [hl.length (fun x cs => RepV.length u x cs), hn]
      have hle : (i + 1) * u.size ≤ n * u.size := Nat.mul_le_mul_right _ hi
      rw [Nat.succ_mul] at hle
      have h2 := hl.set (fun x cs => RepV.length u x cs) i (by omega) h1
      have h3 : cs.take (i * u.size) ++ (patch ((cs.drop (i * u.size)).take u.size) (offP p u) c ++ cs.drop (i * u.size + u.size)) = patch cs (i * u.size) (patch (piece cs (i * u.size) u.size) (offP p u) c) := by
        have hl' := RepV.length u _ _ h1
        unfold piece
        conv => rhs; unfold patch
        rw [← show patch ((cs.drop (i * u.size)).take u.size) (offP p u) c = ((cs.drop (i * u.size)).take u.size).take (offP p u) ++ (c ++ ((cs.drop (i * u.size)).take u.size).drop (offP p u + c.length)) from rfl, hl']
      rw [h3, patch_patch (by omega) (by rw [hlc]; exact okP_off hp ht)] at h2
      simpa [offP] using h2
    · cases h
  | .idx _ :: _, .int _, _, _, _, _, hp, _, _ | .idx _ :: _, .bool, _, _, _, _, hp, _, _ | .idx _ :: _, .str, _, _, _, _, hp, _, _ | .idx _ :: _, .unit, _, _, _, _, hp, _, _ | .idx _ :: _, .opq, _, _, _, _, hp, _, _
  | .idx _ :: _, .pair .., _, _, _, _, hp, _, _ | .idx _ :: _, .sl _, _, _, _, _, hp, _, _ => hp.elim
end
end Go.Refl
/-
  How abstract values and abstract memory stand to the machine's: the relation, what keeps it, parts of variables.
-/
set_option linter.unusedVariables false
namespace Go.Refl
open Go Go.RowKit

inductive Md where
  | one | chain | cells

/-- The block behind a header. -/
def hdNo : Value → Option Nat
  | .pointer (some a) => some a.block
  | .slice (some a) _ _ => some a.block
  | _ => none

/-- The blocks that stay as they are: those of F (what came in, and what is new) that are no live block of the abstract memory. -/
def Frz (B : Nat) (F : Nat → Prop) (m : Mem) (G : Nat → Value) (w : World) (k : Nat) : Prop :=
  F k ∧ k < w.heap.size ∧ ∀ b c, m b = some (c, false) → hdNo (G b) ≠ some k

/-- What a value in one cell is. -/
def repS (w : World) (Fr : Nat → Prop) (m : Mem) (G : Nat → Value) : AV → Value → Prop
  | .nn t xs, v => RepV w Fr (.sl t) xs [v] ∧ ∃ a n c, v = .slice (some a) n c
  | .nil, v => v = .slice none 0 0
  | .nptr, v => v = .pointer none
  | .ptr b p, v => ∃ T c z g, m b = some (.var T c, z) ∧ okP p T ∧ G b = .pointer (some ⟨g, 0, none⟩) ∧ v = .pointer (some ⟨g, offP p T, none⟩)
  | .rptr b ve i p, v => v.oneCell' = true ∧ ∃ e t xs v' z, m b = some (.row e t xs v', z) ∧ ve ≤ v' ∧ okP p t ∧
      (ve = v' → i < xs.length ∧ ∃ g n cap, G b = .slice (some ⟨g, 0, none⟩) n cap ∧ v = .pointer (some ⟨g, i * t.size + offP p t, none⟩))
  | .ref t x, v => ∃ ad, v = .pointer (some ad) ∧ Fr ad.block ∧ ∃ cs, RepV w Fr t x cs ∧ ∀ j u, cs[j]? = some u → w.cell? (ad.add j) = some u
  | .own b ve, v => v.oneCell' = true ∧ ∃ e t xs v' z, m b = some (.row e t xs v', z) ∧ ve ≤ v' ∧ (ve = v' → v = G b)
  | .sub b ve lo n, v => v.oneCell' = true ∧ ∃ e t xs v' z, m b = some (.row e t xs v', z) ∧ ve ≤ v' ∧
      (ve = v' → lo + n ≤ xs.length ∧ ∃ A c, v = .slice A n c ∧ n ≤ c ∧ (n ≠ 0 → ∃ g nn cap, G b = .slice (some ⟨g, 0, none⟩) nn cap ∧ A = some ⟨g, lo * t.size, none⟩))
  | .undef, v => v.oneCell' = true
  | _, _ => False

def repA (w : World) (Fr : Nat → Prop) (m : Mem) (G : Nat → Value) : AV → Md → List Value → Prop
  | .val t x, .one, vs => ∃ v, vs = [v] ∧ RepO w Fr t x v
  | .val t x, .cells, cs => RepV w Fr t x cs
  | .pr a b, .one, vs => ∃ c1 c2, vs = [.agg (c1 ++ c2).toArray] ∧ repA w Fr m G a .cells c1 ∧ repA w Fr m G b .cells c2
  | .pr a b, .cells, cs => ∃ c1 c2, cs = c1 ++ c2 ∧ repA w Fr m G a .cells c1 ∧ repA w Fr m G b .cells c2
  | .pr a b, .chain, vs => ∃ v l, vs = v :: l ∧ repA w Fr m G a .one [v] ∧ repA w Fr m G b .chain l
  | .un, .one, vs => vs = [.agg #[]]
  | .un, _, vs => vs = []
  | .tp l, .one, vs => ∃ ws, vs = [.tuple ws.toArray] ∧ repA w Fr m G l .chain ws
  | .fn f a b, .one, vs => ∃ x y, vs = [.func (.func f) x.toArray y.toArray] ∧ repA w Fr m G a .chain x ∧ repA w Fr m G b .chain y
  | .fn f a b, .cells, vs => ∃ x y, vs = [.func (.func f) x.toArray y.toArray] ∧ repA w Fr m G a .chain x ∧ repA w Fr m G b .chain y
  | .undef, .one, vs => ∃ v, vs = [v]
  | .val _ _, .chain, _ => False
  | .tp _, _, _ => False
  | _, .chain, _ => False
  | a, _, vs => ∃ v, vs = [v] ∧ repS w Fr m G a v

/-! ### Steps that keep what is known -/
def compat : Cn → Cn → Prop
  | .var T _, .var T' _ => T = T'
  | .row e t xs v, .row e' t' xs' v' => e = e' ∧ t = t' ∧ v ≤ v' ∧ (v = v' → xs.length = xs'.length)
  | _, _ => False

def sameHead : Cn → Cn → Prop
  | .row _ _ _ v, .row _ _ _ v' => v = v'
  | _, _ => True

structure Tr (B : Nat) (F : Nat → Prop) (m : Mem) (G : Nat → Value) (w : World) (m' : Mem) (G' : Nat → Value) (w' : World) : Prop where
  fr0 : ∀ k, Frz B (fun _ => True) m G w k → Frz B (fun _ => True) m' G' w' k ∧ w'.heap[k]? = w.heap[k]?
  blk : ∀ b c z, m b = some (c, z) → ∃ c' z', m' b = some (c', z') ∧ compat c c' ∧ (sameHead c c' → G' b = G b)

theorem Tr.fr {B : Nat} {F : Nat → Prop} {m m' : Mem} {G G' : Nat → Value} {w w' : World} (h : Tr B F m G w m' G' w') (k : Nat) (hk : Frz B F m G w k) : Frz B F m' G' w' k ∧ w'.heap[k]? = w.heap[k]? := by
  obtain ⟨h1, h2, h3⟩ := hk
  obtain ⟨⟨_, k2, k3⟩, k4⟩ := h.fr0 k ⟨trivial, h2, h3⟩
  exact ⟨⟨h1, k2, k3⟩, k4⟩

theorem compat.refl (c : Cn) : compat c c := by cases c <;> simp [compat]
theorem compat.trans : ∀ {a b c : Cn}, compat a b → compat b c → compat a c
  | .var _ _, .var _ _, .var _ _, h, k => Eq.trans (show _ = _ from h) (show _ = _ from k)
  | .row _ _ _ _, .row _ _ _ _, .row _ _ _ _, ⟨h1, h2, h3, h4⟩, ⟨k1, k2, k3, k4⟩ => by
    subst h1; subst h2; subst k1; subst k2
    refine ⟨rfl, rfl, by omega, fun e => ?_⟩
    rw [h4 (by omega), k4 (by omega)]
  | .var _ _, .var _ _, .row _ _ _ _, _, k => k.elim
  | .var _ _, .row _ _ _ _, _, h, _ => h.elim
  | .row _ _ _ _, .var _ _, _, h, _ => h.elim
  | .row _ _ _ _, .row _ _ _ _, .var _ _, _, k => k.elim

theorem sameHead.trans : ∀ {a b c : Cn}, compat a b → compat b c → sameHead a c → sameHead a b ∧ sameHead b c
  | .var _ _, .var _ _, .var _ _, _, _, _ => ⟨trivial, trivial⟩
  | .row _ _ _ _, .row _ _ _ _, .row _ _ _ _, ⟨_, _, h3, _⟩, ⟨_, _, k3, _⟩, hs => by
    simp only [sameHead] at *
    omega
  | .var _ _, .var _ _, .row _ _ _ _, _, k, _ => k.elim
  | .var _ _, .row _ _ _ _, _, h, _, _ => h.elim
  | .row _ _ _ _, .var _ _, _, h, _, _ => h.elim
  | .row _ _ _ _, .row _ _ _ _, .var _ _, _, k, _ => k.elim

theorem Tr.refl (B : Nat) (F : Nat → Prop) (m : Mem) (G : Nat → Value) (w : World) : Tr B F m G w m G w :=
  ⟨fun _ h => ⟨h, rfl⟩, fun b c z h => ⟨c, z, h, compat.refl c, fun _ => rfl⟩⟩

theorem Tr.trans {B : Nat} {F : Nat → Prop} {m m' m'' : Mem} {G G' G'' : Nat → Value} {w w' w'' : World} (h : Tr B F m G w m' G' w') (k : Tr B F m' G' w' m'' G'' w'') : Tr B F m G w m'' G'' w'' := by
  refine ⟨fun j hj => ?_, fun b c z hb => ?_⟩
  · obtain ⟨h1, h2⟩ := h.fr0 j hj
    obtain ⟨k1, k2⟩ := k.fr0 j h1
    exact ⟨k1, k2.trans h2⟩
  · obtain ⟨c', z', h1, h2, h3⟩ := h.blk b c z hb
    obtain ⟨c'', z'', k1, k2, k3⟩ := k.blk b c' z' h1
    refine ⟨c'', z'', k1, h2.trans k2, fun hs => ?_⟩
    obtain ⟨s1, s2⟩ := sameHead.trans h2 k2 hs
    rw [k3 s2, h3 s1]

section
variable {B : Nat} {F : Nat → Prop} {m m' : Mem} {G G' : Nat → Value} {w w' : World}

theorem repS.mono (h : Tr B F m G w m' G' w') : ∀ {a : AV} {v : Value}, repS w (Frz B F m G w) m G a v → repS w' (Frz B F m' G' w') m' G' a v
  | .nn t xs, v, ⟨h1, h2⟩ => ⟨RepV.mono h.fr _ _ _ h1, h2⟩
  | .nil, _, hr => hr
  | .nptr, _, hr => hr
  | .ptr b p, v, ⟨T, c, z, g, h1, h2, h3, h4⟩ => by
    obtain ⟨c', z', k1, k2, k3⟩ := h.blk b _ z h1
    cases c' <;> simp [compat] at k2
    subst k2
    exact ⟨_, _, z', g, k1, h2, by rw [k3 trivial]; exact h3, h4⟩
  | .rptr b ve i p, v, ⟨h0, e, t, xs, v', z, h1, h2, h3, h4⟩ => by
    obtain ⟨c', z', k1, k2, k3⟩ := h.blk b _ z h1
    cases c' <;> simp [compat] at k2
    obtain ⟨rfl, rfl, k4, k5⟩ := k2
    refine ⟨h0, _, _, _, _, z', k1, by omega, h3, fun hv => ?_⟩
    have : ve = v' := by omega
    obtain ⟨q1, q2⟩ := h4 this
    subst this
    rw [k3 hv]
    exact ⟨by rw [← k5 hv]; exact q1, q2⟩
  | .ref t x, v, ⟨ad, h1, h2, cs, h3, h4⟩ => by
    obtain ⟨q1, q2⟩ := h.fr _ h2
    refine ⟨ad, h1, q1, cs, RepV.mono h.fr _ _ _ h3, fun j u hu => ?_⟩
    have hb : (ad.add j).block = ad.block := by unfold Addr.add; split <;> rfl
    rw [World.cell?_of_block (w := w) (by rw [hb]; exact q2)]
    exact h4 j u hu
  | .own b ve, v, ⟨h0, e, t, xs, v', z, h1, h2, h3⟩ => by
    obtain ⟨c', z', k1, k2, k3⟩ := h.blk b _ z h1
    cases c' <;> simp [compat] at k2
    obtain ⟨rfl, rfl, k4, k5⟩ := k2
    refine ⟨h0, _, _, _, _, z', k1, by omega, fun hv => ?_⟩
    have : ve = v' := by omega
    rw [h3 this]
    subst this
    exact (k3 hv).symm
  | .sub b ve lo n, v, ⟨h0, e, t, xs, v', z, h1, h2, h3⟩ => by
    obtain ⟨c', z', k1, k2, k3⟩ := h.blk b _ z h1
    cases c' <;> simp [compat] at k2
    obtain ⟨rfl, rfl, k4, k5⟩ := k2
    refine ⟨h0, _, _, _, _, z', k1, by omega, fun hv => ?_⟩
    have : ve = v' := by omega
    obtain ⟨q1, q2⟩ := h3 this
    subst this
    rw [k3 hv, ← k5 hv]
    exact ⟨q1, q2⟩
  | .undef, _, hr => hr

theorem repA.mono (h : Tr B F m G w m' G' w') : ∀ (a : AV) (md : Md) (vs : List Value), repA w (Frz B F m G w) m G a md vs → repA w' (Frz B F m' G' w') m' G' a md vs
  | .val t x, .one, vs, ⟨v, e, hr⟩ => ⟨v, e, hr.mono h.fr⟩
  | .val t x, .cells, cs, hr => RepV.mono h.fr _ _ _ hr
  | .pr a b, .one, vs, ⟨c1, c2, e, h1, h2⟩ => ⟨c1, c2, e, repA.mono h a _ _ h1, repA.mono h b _ _ h2⟩
  | .pr a b, .cells, vs, ⟨c1, c2, e, h1, h2⟩ => ⟨c1, c2, e, repA.mono h a _ _ h1, repA.mono h b _ _ h2⟩
  | .pr a b, .chain, vs, ⟨v, l, e, h1, h2⟩ => ⟨v, l, e, repA.mono h a _ _ h1, repA.mono h b _ _ h2⟩
  | .un, .one, _, hr => hr
  | .un, .cells, _, hr => hr
  | .un, .chain, _, hr => hr
  | .tp l, .one, _, ⟨ws, e, hr⟩ => ⟨ws, e, repA.mono h l _ _ hr⟩
  | .fn f a b, .one, vs, ⟨x, y, e, h1, h2⟩ => ⟨x, y, e, repA.mono h a _ _ h1, repA.mono h b _ _ h2⟩
  | .fn f a b, .cells, vs, ⟨x, y, e, h1, h2⟩ => ⟨x, y, e, repA.mono h a _ _ h1, repA.mono h b _ _ h2⟩
  | .undef, .one, _, hr => hr
  | .undef, .cells, _, ⟨v, e, hr⟩ => ⟨v, e, repS.mono h hr⟩
  | .nn .., .one, _, ⟨v, e, hr⟩ => ⟨v, e, repS.mono h hr⟩
  | .nn .., .cells, _, ⟨v, e, hr⟩ => ⟨v, e, repS.mono h hr⟩
  | .nil, .one, _, ⟨v, e, hr⟩ => ⟨v, e, repS.mono (a := .nil) h hr⟩
  | .nil, .cells, _, ⟨v, e, hr⟩ => ⟨v, e, repS.mono (a := .nil) h hr⟩
  | .nptr, .one, _, ⟨v, e, hr⟩ => ⟨v, e, repS.mono (a := .nptr) h hr⟩
  | .nptr, .cells, _, ⟨v, e, hr⟩ => ⟨v, e, repS.mono (a := .nptr) h hr⟩
  | .ptr .., .one, _, ⟨v, e, hr⟩ => ⟨v, e, repS.mono h hr⟩
  | .ptr .., .cells, _, ⟨v, e, hr⟩ => ⟨v, e, repS.mono h hr⟩
  | .rptr .., .one, _, ⟨v, e, hr⟩ => ⟨v, e, repS.mono h hr⟩
  | .rptr .., .cells, _, ⟨v, e, hr⟩ => ⟨v, e, repS.mono h hr⟩
  | .ref .., .one, _, ⟨v, e, hr⟩ => ⟨v, e, repS.mono h hr⟩
  | .ref .., .cells, _, ⟨v, e, hr⟩ => ⟨v, e, repS.mono h hr⟩
  | .own .., .one, _, ⟨v, e, hr⟩ => ⟨v, e, repS.mono h hr⟩
  | .own .., .cells, _, ⟨v, e, hr⟩ => ⟨v, e, repS.mono h hr⟩
  | .sub .., .one, _, ⟨v, e, hr⟩ => ⟨v, e, repS.mono h hr⟩
  | .sub .., .cells, _, ⟨v, e, hr⟩ => ⟨v, e, repS.mono h hr⟩
end

/-! ### Values, their parts, their cells -/
section
variable {w : World} {Fr : Nat → Prop} {m : Mem} {G : Nat → Value}

theorem repS.oneCell : ∀ {a : AV} {v : Value}, repS w Fr m G a v → v.oneCell' = true
  | .nn t xs, v, ⟨_, a, n, c, h2⟩ => by rw [h2]; rfl
  | .nil, _, hr => by rw [show _ = Value.slice none 0 0 from hr]; rfl
  | .nptr, _, hr => by rw [show _ = Value.pointer none from hr]; rfl
  | .ptr b p, v, ⟨T, c, z, g, h1, h2, h3, h4⟩ => by rw [h4]; rfl
  | .rptr b ve i p, v, ⟨h0, _⟩ => h0
  | .ref t x, v, ⟨ad, h1, _⟩ => by rw [h1]; rfl
  | .own b ve, v, ⟨h0, _⟩ => h0
  | .sub b ve lo n, v, ⟨h0, _⟩ => h0
  | .undef, _, hr => hr

theorem cells_one {v : Value} (h : v.oneCell' = true) : v.cells.toList = [v] := by cases v <;> first | rfl | simp [Value.oneCell'] at h

/-- An operand's value, in its cells. -/
theorem repA.toCells : ∀ {a : AV} {v : Value}, a.solid = true → repA w Fr m G a .one [v] → repA w Fr m G a .cells v.cells.toList
  | .val t x, v, _, ⟨v', e, hr⟩ => by injection e with e; subst e; exact hr.cells
  | .pr a b, v, _, ⟨c1, c2, e, h1, h2⟩ => by injection e with e; subst e; exact ⟨c1, c2, by simp [Value.cells], h1, h2⟩
  | .un, v, _, hr => by injection (show [v] = [_] from hr) with e; subst e; show _ = []; simp [Value.cells]
  | .fn f a b, v, _, ⟨x, y, e, h1, h2⟩ => by injection e with e; subst e; exact ⟨x, y, rfl, h1, h2⟩
  | .nn .., v, _, ⟨v', e, hr⟩ => by injection e with e; subst e; exact ⟨v, cells_one hr.oneCell, hr⟩
  | .nil, v, _, ⟨v', e, hr⟩ => by injection e with e; subst e; exact ⟨v, cells_one (repS.oneCell (a := .nil) hr), hr⟩
  | .nptr, v, _, ⟨v', e, hr⟩ => by injection e with e; subst e; exact ⟨v, cells_one (repS.oneCell (a := .nptr) hr), hr⟩
  | .ptr .., v, _, ⟨v', e, hr⟩ => by injection e with e; subst e; exact ⟨v, cells_one hr.oneCell, hr⟩
  | .rptr .., v, _, ⟨v', e, hr⟩ => by injection e with e; subst e; exact ⟨v, cells_one hr.oneCell, hr⟩
  | .ref .., v, _, ⟨v', e, hr⟩ => by injection e with e; subst e; exact ⟨v, cells_one hr.oneCell, hr⟩
  | .own .., v, _, ⟨v', e, hr⟩ => by injection e with e; subst e; exact ⟨v, cells_one hr.oneCell, hr⟩
  | .sub .., v, _, ⟨v', e, hr⟩ => by injection e with e; subst e; exact ⟨v, cells_one hr.oneCell, hr⟩
  | .tp _, _, h, _ | .undef, _, h, _ => by simp [AV.solid] at h

theorem explode_rep : ∀ (t : Ty) (x : t.D) (cs : List Value), RepV w Fr t x cs → repA w Fr m G (explode t x) .cells cs
  | .pair a b, x, cs, ⟨c1, c2, e, h1, h2⟩ => ⟨c1, c2, e, explode_rep a _ _ h1, explode_rep b _ _ h2⟩
  | .unit, _, _, h => h
  | .int _, _, _, h | .bool, _, _, h | .str, _, _, h | .opq, _, _, h | .arr .., _, _, h | .sl _, _, _, h => h

theorem norm_rep : ∀ (a : AV) (cs : List Value), repA w Fr m G a .cells cs → repA w Fr m G a.norm .cells cs
  | .val t x, cs, h => explode_rep t x cs h
  | .pr a b, cs, ⟨c1, c2, e, h1, h2⟩ => ⟨c1, c2, e, norm_rep a _ h1, norm_rep b _ h2⟩
  | .un, _, h => h
  | .tp _, _, h => h
  | .fn .., _, h => h
  | .undef, _, h => h
  | .nn .., _, h => h
  | .nil, _, h => h
  | .nptr, _, h => h
  | .ptr .., _, h => h
  | .rptr .., _, h => h
  | .ref .., _, h => h
  | .own .., _, h => h
  | .sub .., _, h => h

/-- Out of its cells a value is an operand's. -/
theorem repA.ofCells' : ∀ {t : Ty} {a : AV} {cs : List Value}, AV.fits t a = true → repA w Fr m G a .cells cs → repA w Fr m G a .one [ofCells t cs]
  | t, .val u x, cs, hf, hr => by
    have e : t = u := by
      cases t <;> simp [AV.fits] at hf <;> exact hf
    subst e
    exact ⟨_, rfl, hr.operand⟩
  | t, .pr a b, cs, hf, ⟨c1, c2, e, h1, h2⟩ => by
    have ha : t.agg = true := by cases t <;> simp [AV.fits] at hf <;> rfl
    refine ⟨c1, c2, ?_, h1, h2⟩
    rw [ofCells, if_pos ha, e]
  | t, .un, cs, hf, h => by
    have ha : t.agg = true := by cases t <;> simp [AV.fits] at hf <;> rfl
    show [_] = [_]
    rw [ofCells, if_pos ha, show cs = [] from h]
  | t, .fn f a b, cs, hf, ⟨x, y, e, h1, h2⟩ => by
    have ha : t.agg = false := by cases t <;> simp [AV.fits] at hf <;> rfl
    exact ⟨x, y, by rw [ofCells, if_neg (by simp [ha]), e]; rfl, h1, h2⟩
  | t, .undef, cs, hf, ⟨v, e, h⟩ => by
    have ha : t.agg = false := by cases t <;> simp [AV.fits] at hf <;> rfl
    exact ⟨v, by rw [ofCells, if_neg (by simp [ha]), e]; rfl⟩
  | t, .tp _, _, hf, _ => by cases t <;> simp [AV.fits] at hf
  | t, .nn .., _, hf, ⟨v, e, h⟩ => by
    have ha : t.agg = false := by cases t <;> simp [AV.fits] at hf <;> rfl
    exact ⟨v, by rw [ofCells, if_neg (by simp [ha]), e]; rfl, h⟩
  | t, .nil, _, hf, ⟨v, e, h⟩ => by
    have ha : t.agg = false := by cases t <;> simp [AV.fits] at hf <;> rfl
    exact ⟨v, by rw [ofCells, if_neg (by simp [ha]), e]; rfl, h⟩
  | t, .nptr, _, hf, ⟨v, e, h⟩ => by
    have ha : t.agg = false := by cases t <;> simp [AV.fits] at hf <;> rfl
    exact ⟨v, by rw [ofCells, if_neg (by simp [ha]), e]; rfl, h⟩
  | t, .ptr .., _, hf, ⟨v, e, h⟩ => by
    have ha : t.agg = false := by cases t <;> simp [AV.fits] at hf <;> rfl
    exact ⟨v, by rw [ofCells, if_neg (by simp [ha]), e]; rfl, h⟩
  | t, .rptr .., _, hf, ⟨v, e, h⟩ => by
    have ha : t.agg = false := by cases t <;> simp [AV.fits] at hf <;> rfl
    exact ⟨v, by rw [ofCells, if_neg (by simp [ha]), e]; rfl, h⟩
  | t, .ref .., _, hf, ⟨v, e, h⟩ => by
    have ha : t.agg = false := by cases t <;> simp [AV.fits] at hf <;> rfl
    exact ⟨v, by rw [ofCells, if_neg (by simp [ha]), e]; rfl, h⟩
  | t, .own .., _, hf, ⟨v, e, h⟩ => by
    have ha : t.agg = false := by cases t <;> simp [AV.fits] at hf <;> rfl
    exact ⟨v, by rw [ofCells, if_neg (by simp [ha]), e]; rfl, h⟩
  | t, .sub .., _, hf, ⟨v, e, h⟩ => by
    have ha : t.agg = false := by cases t <;> simp [AV.fits] at hf <;> rfl
    exact ⟨v, by rw [ofCells, if_neg (by simp [ha]), e]; rfl, h⟩

theorem fits_pair {a b : Ty} {c : AV} (h : AV.fits (.pair a b) c = true) : ∃ x y, c = .pr x y ∧ AV.fits a x = true ∧ AV.fits b y = true := by
  cases c <;> simp [AV.fits] at h
  exact ⟨_, _, rfl, h⟩
theorem fits_arr {n : Nat} {t : Ty} {c : AV} (h : AV.fits (.arr n t) c = true) : ∃ x, c = .val (.arr n t) x := by
  cases c <;> simp [AV.fits] at h
  subst h
  exact ⟨_, rfl⟩

theorem fits_length : ∀ {t : Ty} {c : AV} {cs : List Value}, AV.fits t c = true → repA w Fr m G c .cells cs → cs.length = t.size
  | .pair a b, c, cs, hf, hr => by
    obtain ⟨x, y, rfl, h1, h2⟩ := fits_pair hf
    obtain ⟨c1, c2, rfl, r1, r2⟩ := hr
    rw [List.length_append, fits_length h1 r1, fits_length h2 r2]
    rfl
  | .unit, c, cs, hf, hr => by
    cases c <;> simp [AV.fits] at hf
    rw [show cs = [] from hr]
    rfl
  | .arr n t, c, cs, hf, hr => by
    obtain ⟨x, rfl⟩ := fits_arr hf
    exact RepV.length _ _ _ hr
  | .int k, c, cs, hf, hr => by
    cases c <;> simp [AV.fits] at hf
    · subst hf; exact RepV.length _ _ _ hr
    · obtain ⟨v, e, _⟩ := hr; rw [e]; rfl
  | .bool, c, cs, hf, hr => by
    cases c <;> simp [AV.fits] at hf
    · subst hf; exact RepV.length _ _ _ hr
    · obtain ⟨v, e, _⟩ := hr; rw [e]; rfl
  | .str, c, cs, hf, hr => by
    cases c <;> simp [AV.fits] at hf
    · subst hf; exact RepV.length _ _ _ hr
    · obtain ⟨v, e, _⟩ := hr; rw [e]; rfl
  | .opq, c, cs, hf, hr => by
    cases c <;> simp [AV.fits] at hf
    all_goals first
      | (subst hf; exact RepV.length _ _ _ hr)
      | (obtain ⟨v, e, _⟩ := hr; rw [e]; rfl)
      | (obtain ⟨x, y, e, _⟩ := hr; rw [e]; rfl)
  | .sl t, c, cs, hf, hr => by
    cases c <;> simp [AV.fits] at hf
    all_goals first
      | (subst hf; exact RepV.length _ _ _ hr)
      | (obtain ⟨v, e, _⟩ := hr; rw [e]; rfl)

theorem nth_rep : ∀ {t : Ty} {c : AV} {j : Nat} {a : AV} {u : Ty} {cs : List Value}, AV.fits t c = true → tyF t j = some u → c.nth j = some a → repA w Fr m G c .cells cs →
    AV.fits u a = true ∧ repA w Fr m G a .cells (piece cs (offF t j) u.size)
  | .pair ta tb, c, 0, a, u, cs, hf, ht, hn, hr => by
    obtain ⟨x, y, rfl, h1, h2⟩ := fits_pair hf
    obtain ⟨c1, c2, rfl, r1, r2⟩ := hr
    simp [AV.nth] at hn
    simp [tyF] at ht
    subst hn; subst ht
    have hl := fits_length h1 r1
    refine ⟨h1, ?_⟩
    rw [offF, piece_append_left (by omega)]
    simpa [piece, ← hl] using r1
  | .pair ta tb, c, j + 1, a, u, cs, hf, ht, hn, hr => by
    obtain ⟨x, y, rfl, h1, h2⟩ := fits_pair hf
    obtain ⟨c1, c2, rfl, r1, r2⟩ := hr
    simp only [AV.nth] at hn
    obtain ⟨q1, q2⟩ := nth_rep h2 (by simpa [tyF] using ht) hn r2
    refine ⟨q1, ?_⟩
    rw [offF, ← fits_length h1 r1, piece_append_right]
    exact q2
  | .int _, _, _, _, _, _, _, h, _, _ | .bool, _, _, _, _, _, _, h, _, _ | .str, _, _, _, _, _, _, h, _, _ | .unit, _, _, _, _, _, _, h, _, _ | .opq, _, _, _, _, _, _, h, _, _ | .arr .., _, _, _, _, _, _, h, _, _
  | .sl _, _, _, _, _, _, _, h, _, _ => by simp [tyF] at h

theorem fits_val : ∀ {t : Ty} {u : Ty} {x : u.D}, AV.fits t (.val u x) = true → t = u := by
  intro t u x h
  cases t <;> simp [AV.fits] at h <;> exact h

theorem val_fits {t : Ty} (ht : ∀ a b, t ≠ .pair a b) (hu : t ≠ .unit) (x : t.D) : AV.fits t (.val t x) = true := by
  cases t <;> simp [AV.fits] at * 

theorem get_rep : ∀ {p : List Step} {t : Ty} {c a : AV} {u : Ty} {cs : List Value}, okP p t → AV.fits t c = true → tyAt p t = some u → c.get p = some a → repA w Fr m G c .cells cs →
    repA w Fr m G a .cells (piece cs (offP p t) u.size) ∧ (AV.fits u a = true ∨ ∃ x, a = .val u x)
  | [], t, c, a, u, cs, _, hf, ht, hg, hr => by
    have : c.get [] = some c := by cases c <;> rfl
    rw [this] at hg
    injection hg with hg
    subst hg
    simp [tyAt] at ht
    subst ht
    refine ⟨?_, .inl hf⟩
    have := fits_length hf hr
    simpa [piece, offP, ← this] using hr
  | .fld j :: p, t, c, a, u, cs, ⟨v, hv, hp⟩, hf, ht, hg, hr => by
    cases c
    case val t' x =>
      have e := fits_val hf
      subst e
      simp only [AV.get] at hg
      split at hg
      · rename_i y hy
        injection hg with hg
        subst hg
        obtain ⟨q1, q2⟩ := getP_rep (p := .fld j :: p) ⟨v, hv, hp⟩ hy hr
        rw [ht] at q1
        injection q1 with q1
        subst q1
        exact ⟨q2, .inr ⟨_, rfl⟩⟩
      · cases hg
    all_goals
      simp only [AV.get] at hg
      split at hg
      · rename_i b hb
        obtain ⟨q1, q2⟩ := nth_rep hf hv hb hr
        simp only [tyAt, hv] at ht
        obtain ⟨r1, r2⟩ := get_rep hp q1 ht hg q2
        rw [piece_piece (okP_off hp ht)] at r1
        exact ⟨by simpa [offP, hv] using r1, r2⟩
      · cases hg
  | .idx i :: p, t, c, a, u, cs, hp, hf, ht, hg, hr => by
    cases c
    case val t' x =>
      have e := fits_val hf
      subst e
      simp only [AV.get] at hg
      split at hg
      · rename_i y hy
        injection hg with hg
        subst hg
        obtain ⟨q1, q2⟩ := getP_rep hp hy hr
        rw [ht] at q1
        injection q1 with q1
        subst q1
        exact ⟨q2, .inr ⟨_, rfl⟩⟩
      · cases hg
    all_goals simp [AV.get] at hg

theorem setNth_rep : ∀ {t : Ty} {c c' : AV} {j : Nat} {f : AV → Option AV} {cs : List Value}, AV.fits t c = true → AV.setNth f c j = some c' → repA w Fr m G c .cells cs →
    ∃ u x x', tyF t j = some u ∧ f x = some x' ∧ AV.fits u x = true ∧ repA w Fr m G x .cells (piece cs (offF t j) u.size) ∧
      ∀ d, d.length = u.size → AV.fits u x' = true → repA w Fr m G x' .cells d → AV.fits t c' = true ∧ repA w Fr m G c' .cells (patch cs (offF t j) d)
  | .pair ta tb, c, c', 0, f, cs, hf, hs, hr => by
    obtain ⟨x, y, rfl, h1, h2⟩ := fits_pair hf
    obtain ⟨c1, c2, rfl, r1, r2⟩ := hr
    simp only [AV.setNth] at hs
    split at hs
    · rename_i x' hx
      injection hs with hs
      subst hs
      have hl := fits_length h1 r1
      refine ⟨ta, x, x', rfl, hx, h1, ?_, fun d hd h3 h4 => ⟨by simp [AV.fits, h3, h2], ?_⟩⟩
      · rw [offF, piece_append_left (by omega)]
        simpa [piece, ← hl] using r1
      · rw [offF, patch_append_left (by omega)]
        have : patch c1 0 d = d := by unfold patch; simp [List.drop_of_length_le (show c1.length ≤ d.length by omega)]
        rw [this]
        exact ⟨_, _, rfl, h4, r2⟩
    · cases hs
  | .pair ta tb, c, c', j + 1, f, cs, hf, hs, hr => by
    obtain ⟨x, y, rfl, h1, h2⟩ := fits_pair hf
    obtain ⟨c1, c2, rfl, r1, r2⟩ := hr
    simp only [AV.setNth] at hs
    split at hs
    · rename_i y' hy
      injection hs with hs
      subst hs
      obtain ⟨u, z, z', q1, q2, q3, q4, q5⟩ := setNth_rep h2 hy r2
      refine ⟨u, z, z', by simpa [tyF] using q1, q2, q3, ?_, fun d hd h3 h4 => ?_⟩
      · rw [offF, ← fits_length h1 r1, piece_append_right]
        exact q4
      · obtain ⟨s1, s2⟩ := q5 d hd h3 h4
        rw [offF, ← fits_length h1 r1, patch_append_right]
        exact ⟨by simp [AV.fits, h1, s1], _, _, rfl, r1, s2⟩
    · cases hs
  | .unit, c, c', j, f, cs, hf, hs, hr | .int _, c, c', j, f, cs, hf, hs, hr | .bool, c, c', j, f, cs, hf, hs, hr | .str, c, c', j, f, cs, hf, hs, hr | .opq, c, c', j, f, cs, hf, hs, hr
  | .arr .., c, c', j, f, cs, hf, hs, hr | .sl _, c, c', j, f, cs, hf, hs, hr => by
    cases c <;> first | (simp [AV.fits] at hf; done) | (cases j <;> simp [AV.setNth] at hs)

theorem set_rep : ∀ {p : List Step} {t : Ty} {c c' v : AV} {u : Ty} {cs d : List Value}, okP p t → AV.fits t c = true → tyAt p t = some u → AV.set v p c = some c' →
    AV.fits u v = true → repA w Fr m G v .cells d → repA w Fr m G c .cells cs → AV.fits t c' = true ∧ repA w Fr m G c' .cells (patch cs (offP p t) d)
  | [], t, c, c', v, u, cs, d, _, hf, ht, hs, hfv, hv, hr => by
    simp [AV.set] at hs
    simp [tyAt] at ht
    subst hs; subst ht
    have h1 := fits_length hf hr
    have h2 := fits_length hfv hv
    have : patch cs 0 d = d := by unfold patch; simp [List.drop_of_length_le (show cs.length ≤ d.length by omega)]
    rw [offP, this]
    exact ⟨hfv, hv⟩
  | .fld j :: p, t, c, c', v, u, cs, d, ⟨u1, hu1, hp⟩, hf, ht, hs, hfv, hv, hr => by
    simp only [AV.set] at hs
    obtain ⟨u', x, x', q1, q2, q3, q4, q5⟩ := setNth_rep hf hs hr
    rw [hu1] at q1
    injection q1 with q1
    subst q1
    simp only [tyAt, hu1] at ht
    obtain ⟨s1, s2⟩ := set_rep hp q3 ht q2 hfv hv q4
    have hd := fits_length hfv hv
    obtain ⟨r1, r2⟩ := q5 _ (fits_length s1 s2) s1 s2
    refine ⟨r1, ?_⟩
    rw [patch_patch (by rw [fits_length hf hr]; exact tyF_off hu1) (by rw [hd]; exact okP_off hp ht)] at r2
    simpa [offP, hu1] using r2
  | .idx i :: p, t, c, c', v, u, cs, d, hp, hf, ht, hs, hfv, hv, hr => by
    cases c <;> simp only [AV.set] at hs <;> try (cases hs; done)
    rename_i t' x
    cases v <;> simp only at hs <;> try (cases hs; done)
    rename_i u' y
    split at hs
    · rename_i z hz
      injection hs with hs
      subst hs
      have e := fits_val hf
      subst e
      have e := fits_val hfv
      subst e
      obtain ⟨q1, q2⟩ := setP_rep hp hz hr
      have ht' : t ≠ .unit ∧ ∀ a b, t ≠ .pair a b := by
        cases t <;> simp_all [okP]
      exact ⟨val_fits ht'.2 ht'.1 _, q2 d hv⟩
    · cases hs
end

/-! ### The memory -/
def CnOk (B : Nat) (F : Nat → Prop) (m : Mem) (G : Nat → Value) (w : World) (b : Nat) : Cn → Prop
  | .var T c => ∃ g arr e, G b = .pointer (some ⟨g, 0, none⟩) ∧ B ≤ g ∧ w.heap[g]? = some (.cells arr e (0, 0)) ∧ AV.fits T c = true ∧ repA w (Frz B F m G w) m G c .cells arr.toList
  | .row e t xs _ => ∃ cells, w.ownsRow B e t.size (G b) xs.length cells ∧ RepL (RepV w (Frz B F m G w) t) xs cells ∧ 0 < t.size

structure MemOk (B : Nat) (F : Nat → Prop) (w0 : World) (lim : Nat) (m : Mem) (G : Nat → Value) (w : World) : Prop where
  below : Below B w0 w
  base : B ≤ w.heap.size
  blk : ∀ b c z, m b = some (c, z) → CnOk B F m G w b c
  dist : ∀ b b' x y, b ≠ b' → m b = some x → m b' = some y → ∀ k, hdNo (G b) = some k → hdNo (G b') ≠ some k
  lim : ∀ b x, m b = some x → b < lim
  nw : ∀ k, w.heap.size ≤ k → F k
  hd : ∀ b c z, m b = some (c, z) → ∀ k, hdNo (G b) = some k → F k

end Go.Refl
/-
  What a table of types says of a program's types; one step of memory.
-/
set_option linter.unusedVariables false
namespace Go.Refl
open Go Go.RowKit

/-! ### The program's types -/
def zeroChk : Ty → List Value → Bool
  | .int k, [.int k' n] => decide (k = k') && n == 0
  | .bool, [.bool b] => !b
  | .str, [.string s] => s.data.toList.isEmpty
  | .unit, [] => true
  | .opq, [v] => v.oneCell'
  | .pair a b, cs => zeroChk a (cs.take a.size) && zeroChk b (cs.drop a.size)
  | .arr n t, cs => cs.length == n * t.size && (List.range n).all fun i => zeroChk t (piece cs (i * t.size) t.size)
  | .sl _, [.slice none 0 0] => true
  | _, _ => false

theorem RepL.of_pieces {α : Type} {R : α → List Value → Prop} {x : α} {k : Nat} : ∀ (n : Nat) (cs : List Value), cs.length = n * k → (∀ i, i < n → R x (piece cs (i * k) k)) → RepL R (List.replicate n x) cs
  | 0, cs, hl, _ => List.eq_nil_of_length_eq_zero (by simpa using hl)
  | n + 1, cs, hl, h => by
    refine ⟨cs.take k, cs.drop k, (List.take_append_drop k cs).symm, by simpa [piece] using h 0 (by omega), RepL.of_pieces (k := k) n _ ?_ fun i hi => ?_⟩
    · rw [List.length_drop, hl, Nat.succ_mul]; omega
    · have := h (i + 1) (by omega)
      unfold piece at *
      rw [List.drop_drop, show k + i * k = (i + 1) * k by rw [Nat.succ_mul, Nat.add_comm]]
      exact this

theorem zeroChk_rep {w : World} {Fr : Nat → Prop} : ∀ (t : Ty) (cs : List Value), zeroChk t cs = true → RepV w Fr t t.zero cs
  | .int k, cs, h => by
    rcases cs with _ | ⟨v, _ | ⟨_, _⟩⟩ <;> (try (simp [zeroChk] at h; done))
    cases v <;> (try (simp [zeroChk] at h; done))
    simp only [zeroChk, Bool.and_eq_true, decide_eq_true_eq, beq_iff_eq] at h
    obtain ⟨rfl, rfl⟩ := h
    rfl
  | .bool, cs, h => by
    unfold zeroChk at h
    split at h <;> simp_all
    rfl
  | .str, cs, h => by
    unfold zeroChk at h
    split at h <;> simp_all
    rename_i s
    obtain ⟨d⟩ := s
    have : d = #[] := by simpa using h
    subst this
    rfl
  | .unit, cs, h => by
    unfold zeroChk at h
    split at h <;> simp_all
    rfl
  | .opq, cs, h => by
    unfold zeroChk at h
    split at h <;> simp_all
    exact ⟨_, rfl, h⟩
  | .pair a b, cs, h => by
    simp only [zeroChk, Bool.and_eq_true] at h
    exact ⟨_, _, (List.take_append_drop a.size cs).symm, zeroChk_rep a _ h.1, zeroChk_rep b _ h.2⟩
  | .arr n t, cs, h => by
    simp only [zeroChk, Bool.and_eq_true, beq_iff_eq, List.all_eq_true, List.mem_range] at h
    exact ⟨by simp [Ty.zero], RepL.of_pieces n cs h.1 fun i hi => zeroChk_rep t _ (h.2 i hi)⟩
  | .sl t, cs, h => by
    unfold zeroChk at h
    split at h <;> simp_all
    exact ⟨none, 0, [], rfl, Nat.le_refl _, rfl, .inl rfl⟩

def fieldsChk (T : List (TypeId × TI)) : List Field → Nat → Ty → Bool
  | [], _, .unit => true
  | f :: fs, off, .pair a b => f.offset == off && a.size != 0 && (match look T f.type with
    | some te => decide (te.ty = a)
    | none => false) && fieldsChk T fs (off + a.size) b
  | _, _, _ => false

def undChk (P : Program) (T : List (TypeId × TI)) (t : TypeId) (ti : TI) : Bool :=
  match ti.ty, P.underlying t with
  | .int k, some (.int k') => decide (k = k')
  | .bool, some .bool => true
  | .str, some .string => true
  | .opq, some (.pointer _) | .opq, some (.func ..) | .opq, some (.map ..) => true
  | .sl u, some (.slice e) => Nat.beq e ti.elem && (match look T e, P.info? e with
    | some te, some i => decide (te.ty = u) && Nat.beq i.bytes ti.bytes && Nat.blt 0 ti.bytes && Nat.blt 0 u.size
    | _, _ => false)
  | .arr n u, some (.array n' e) => Nat.beq n n' && Nat.beq e ti.elem && (match look T e with
    | some te => decide (te.ty = u) && Nat.blt 0 u.size
    | none => false)
  | .unit, some (.struct fs) => fieldsChk T fs.toList 0 .unit
  | .pair a b, some (.struct fs) => fieldsChk T fs.toList 0 (.pair a b)
  | _, _ => false

def tyChk (P : Program) (T : List (TypeId × TI)) (t : TypeId) (ti : TI) : Bool :=
  undChk P T t ti && match P.info? t with
    | some i => Nat.beq i.size ti.ty.size && (match i.zero with
      | some z => zeroChk ti.ty z.cells.toList && ((match z with | .agg _ => true | _ => false) == ti.ty.agg)
      | none => false)
    | none => false

def typesChk (P : Program) (T : List (TypeId × TI)) : Bool := T.all fun x => tyChk P T x.1 x.2

theorem look_mem {α : Type} : ∀ {l : List (Nat × α)} {n : Nat} {a : α}, look l n = some a → (n, a) ∈ l
  | (i, b) :: l, n, a, h => by
    simp only [look] at h
    split at h
    · rename_i e
      injection h with h
      subst e; subst h
      exact .head _
    · exact .tail _ (look_mem h)

structure TyFact (P : Program) (T : List (TypeId × TI)) (t : TypeId) (ti : TI) : Prop where
  und : undChk P T t ti = true
  info : ∃ i z, P.info? t = some i ∧ i.size = ti.ty.size ∧ i.zero = some z ∧ zeroChk ti.ty z.cells.toList = true ∧ (ti.ty.agg = true → ∃ cs, z = .agg cs)

theorem tyFact_of {P : Program} {T : List (TypeId × TI)} (h : typesChk P T = true) {t : TypeId} {ti : TI} (hl : look T t = some ti) : TyFact P T t ti := by
  have := List.all_eq_true.1 h _ (look_mem hl)
  simp only [tyChk, Bool.and_eq_true] at this
  obtain ⟨h1, h2⟩ := this
  refine ⟨h1, ?_⟩
  split at h2
  · rename_i i hi
    simp only [Bool.and_eq_true] at h2
    obtain ⟨h3, h4⟩ := h2
    split at h4
    · rename_i z hz
      simp only [Bool.and_eq_true] at h4
      refine ⟨i, z, hi, Nat.eq_of_beq_eq_true h3, hz, h4.1, fun ha => ?_⟩
      rw [ha] at h4
      have := h4.2
      cases z <;> simp at this
      exact ⟨_, rfl⟩
    · cases h4
  · cases h2

section
variable {P : Program} {T : List (TypeId × TI)} {t : TypeId} {ti : TI}

theorem TyFact.isAgg (h : TyFact P T t ti) (w : World) : (isAgg t).run P w = .ok ti.ty.agg w := by
  have hu := h.und
  unfold undChk at hu
  split at hu <;> (try (cases hu; done)) <;> (rename_i e1 e2; simp [Go.isAgg, run_underlying e2, e1, Ty.agg])
theorem TyFact.sizeOf (h : TyFact P T t ti) (w : World) : (Go.sizeOf t).run P w = .ok ti.ty.size w := by
  obtain ⟨i, z, hi, hs, _⟩ := h.info
  simp [Go.sizeOf, typeInfo, hi, hs]
theorem TyFact.cellsOf (h : TyFact P T t ti) : P.cellsOf t = ti.ty.size := by
  obtain ⟨i, z, hi, hs, _⟩ := h.info
  simp [Program.cellsOf, hi, hs]
theorem TyFact.int {k : IntKind} {e : TypeId} {b : Nat} (h : TyFact P T t ⟨.int k, e, b⟩) : P.underlying t = some (.int k) := by
  have hu := h.und
  unfold undChk at hu
  split at hu <;> simp_all
theorem TyFact.bool {e : TypeId} {b : Nat} (h : TyFact P T t ⟨.bool, e, b⟩) : P.underlying t = some .bool := by
  have hu := h.und
  unfold undChk at hu
  split at hu <;> simp_all
theorem TyFact.str {e : TypeId} {b : Nat} (h : TyFact P T t ⟨.str, e, b⟩) : P.underlying t = some .string := by
  have hu := h.und
  unfold undChk at hu
  split at hu <;> simp_all
theorem TyFact.sl {u : Ty} {e : TypeId} {b : Nat} (h : TyFact P T t ⟨.sl u, e, b⟩) : P.underlying t = some (.slice e) ∧ 0 < u.size ∧ (∃ te, look T e = some te ∧ te.ty = u) ∧ ∃ i, P.info? e = some i ∧ i.bytes = b ∧ 0 < b := by
  have hu := h.und
  unfold undChk at hu
  split at hu <;> (try (simp_all; done))
  rename_i e' h1 h2
  simp only [Ty.sl.injEq] at h1
  subst h1
  simp only [Bool.and_eq_true] at hu
  obtain ⟨h3, h4⟩ := hu
  have h3 := Nat.eq_of_beq_eq_true h3
  subst h3
  split at h4
  · rename_i te i hte hi
    simp only [Bool.and_eq_true, decide_eq_true_eq] at h4
    exact ⟨h2, by have := h4.2; simp [Nat.blt] at this; omega, ⟨te, hte, h4.1.1.1⟩, i, hi, Nat.eq_of_beq_eq_true h4.1.1.2, by have := h4.1.2; simp [Nat.blt] at this; omega⟩
  · cases h4
theorem TyFact.arr {n : Nat} {u : Ty} {e : TypeId} {b : Nat} (h : TyFact P T t ⟨.arr n u, e, b⟩) : P.underlying t = some (.array n e) ∧ 0 < u.size ∧ ∃ te, look T e = some te ∧ te.ty = u := by
  have hu := h.und
  unfold undChk at hu
  split at hu <;> (try (simp_all; done))
  rename_i n' e' h1 h2
  simp only [Ty.arr.injEq] at h1
  obtain ⟨rfl, rfl⟩ := h1
  simp only [Bool.and_eq_true] at hu
  obtain ⟨⟨h3, h3'⟩, h4⟩ := hu
  have h3 := Nat.eq_of_beq_eq_true h3
  have h3' := Nat.eq_of_beq_eq_true h3'
  subst h3; subst h3'
  split at h4
  · rename_i te hte
    simp only [Bool.and_eq_true, decide_eq_true_eq] at h4
    exact ⟨h2, by have := h4.2; simp [Nat.blt] at this; omega, te, hte, h4.1⟩
  · cases h4
theorem fieldsChk_at : ∀ {fs : List Field} {off : Nat} {t : Ty} {j : Nat} {u : Ty}, fieldsChk T fs off t = true → tyF t j = some u → ∃ f, fs[j]? = some f ∧ f.offset = off + offF t j ∧ u.size ≠ 0 ∧ ∃ te, look T f.type = some te ∧ te.ty = u
  | [], off, .unit, j, u, _, h => by simp [tyF] at h
  | f :: fs, off, .pair a b, j, u, hc, h => by
    simp only [fieldsChk, Bool.and_eq_true] at hc
    obtain ⟨⟨⟨h1, h2⟩, h3⟩, h4⟩ := hc
    cases j with
    | zero =>
      simp [tyF] at h
      subst h
      split at h3
      · rename_i te hte
        exact ⟨f, rfl, by simpa [offF] using h1, by simpa using h2, te, hte, by simpa using h3⟩
      · cases h3
    | succ j =>
      obtain ⟨g, hg, ho, hr⟩ := fieldsChk_at h4 (by simpa [tyF] using h)
      exact ⟨g, by simpa using hg, by rw [ho, offF]; omega, hr⟩
  | [], _, .int _, _, _, hc, _ | [], _, .bool, _, _, hc, _ | [], _, .str, _, _, hc, _ | [], _, .opq, _, _, hc, _ | [], _, .pair .., _, _, hc, _ | [], _, .arr .., _, _, hc, _ | [], _, .sl _, _, _, hc, _
  | _ :: _, _, .int _, _, _, hc, _ | _ :: _, _, .bool, _, _, hc, _ | _ :: _, _, .str, _, _, hc, _ | _ :: _, _, .opq, _, _, hc, _ | _ :: _, _, .unit, _, _, hc, _ | _ :: _, _, .arr .., _, _, hc, _
  | _ :: _, _, .sl _, _, _, hc, _ => by simp [fieldsChk] at hc
theorem TyFact.field {j : Nat} {u : Ty} (h : TyFact P T t ti) (hf : tyF ti.ty j = some u) : ∃ fs f, P.underlying t = some (.struct fs) ∧ fs[j]? = some f ∧ f.offset = offF ti.ty j ∧ u.size ≠ 0 ∧ ∃ te, look T f.type = some te ∧ te.ty = u := by
  have hu := h.und
  unfold undChk at hu
  split at hu <;> (try (cases hu; done)) <;> (rename_i e1 e2; try (rw [e1] at hf; simp [tyF] at hf; done))
  rename_i a b fs
  rw [e1] at hf ⊢
  obtain ⟨f, hf1, hf2, hf3⟩ := fieldsChk_at hu hf
  exact ⟨_, f, e2, by simpa using hf1, by simpa using hf2, hf3⟩
end

/-! ### One step of memory -/
section
variable {B : Nat} {F : Nat → Prop} {w0 : World} {lim : Nat} {m : Mem} {G : Nat → Value} {w : World}

theorem CnOk.no {b : Nat} {c : Cn} (h : CnOk B F m G w b c) {k : Nat} (hk : hdNo (G b) = some k) : B ≤ k ∧ k < w.heap.size := by
  cases c with
  | var T c =>
    obtain ⟨g, arr, e, h1, h2, h3, _⟩ := h
    rw [h1] at hk
    simp [hdNo] at hk
    subst hk
    exact ⟨h2, (Array.getElem?_eq_some_iff.1 h3).1⟩
  | row e t xs v =>
    obtain ⟨cells, h1, _⟩ := h
    have : (G b).ownBlock = some k := by
      rcases h1.2 with ⟨h2, _⟩ | ⟨g, cap, cur, h2, _⟩
      · rw [h2] at hk; simp [hdNo] at hk
      · rw [h2] at hk ⊢; simpa [hdNo, Value.ownBlock] using hk
    exact h1.lt k this

/-- What is known of a block stays known where neither it nor its header has turned. -/
theorem CnOk.mono {m' : Mem} {G' : Nat → Value} {w' : World} (ht : Tr B F m G w m' G' w') {b : Nat} {c : Cn} (h : CnOk B F m G w b c) (hg : G' b = G b) (hk : ∀ k, hdNo (G b) = some k → w'.heap[k]? = w.heap[k]?) : CnOk B F m' G' w' b c := by
  cases c with
  | var T c =>
    obtain ⟨g, arr, e, h1, h2, h3, h4, h5⟩ := h
    exact ⟨g, arr, e, hg.trans h1, h2, (hk g (by rw [h1]; rfl)).trans h3, h4, repA.mono ht _ _ _ h5⟩
  | row e t xs v =>
    obtain ⟨cells, h1, h2, h3⟩ := h
    refine ⟨cells, ?_, h2.mono fun x cs hx => RepV.mono ht.fr _ _ _ hx, h3⟩
    rw [hg]
    refine ⟨h1.1, ?_⟩
    rcases h1.2 with h2 | ⟨g, cap, cur, h2, h4, h5, h6⟩
    · exact .inl h2
    · exact .inr ⟨g, cap, cur, h2, h4, (hk g (by rw [h2]; rfl)).trans h5, h6⟩

def upd (G : Nat → Value) (b : Nat) (v : Value) : Nat → Value := fun i => if i = b then v else G i

/-- One block changes, or comes into being. -/
theorem MemOk.step (h : MemOk B F w0 lim m G w) {b0 : Nat} {c0 : Cn} {z0 : Bool} {g0 : Value} {w' : World}
    (hb : Below B w w') (hheap : ∀ k, k < w.heap.size → (∀ c, m b0 = some (c, false) → hdNo (G b0) ≠ some k) → w'.heap[k]? = w.heap[k]?)
    (hnum : ∀ k, hdNo g0 = some k → ((∃ x, m b0 = some x) ∧ hdNo (G b0) = some k) ∨ (w.heap.size ≤ k))
    (hold : ∀ c z, m b0 = some (c, z) → compat c c0 ∧ (sameHead c c0 → g0 = G b0) ∧ (z = true → z0 = true))
    (hlim : b0 < lim)
    (hc : Tr B F m G w (m.set b0 (c0, z0)) (upd G b0 g0) w' → CnOk B F (m.set b0 (c0, z0)) (upd G b0 g0) w' b0 c0) :
    MemOk B F w0 lim (m.set b0 (c0, z0)) (upd G b0 g0) w' ∧ Tr B F m G w (m.set b0 (c0, z0)) (upd G b0 g0) w' := by
  have htr : Tr B F m G w (m.set b0 (c0, z0)) (upd G b0 g0) w' := by
    refine ⟨fun k hk => ?_, fun b c z hbc => ?_⟩
    · obtain ⟨h1, h2, h3⟩ := hk
      · refine ⟨⟨h1, by have := hb.size; omega, fun b c hbc => ?_⟩, hheap k h2 fun c hc => h3 b0 c hc⟩
        unfold Mem.set at hbc
        unfold upd
        split
        · rename_i e
          subst e
          rw [if_pos rfl] at hbc
          injection hbc with hbc
          injection hbc with _ hz
          subst hz
          intro hk
          rcases hnum k hk with ⟨⟨⟨c', z'⟩, hx⟩, hk'⟩ | hk'
          · cases z' with
            | true => have := (hold c' true hx).2.2 rfl; cases this
            | false => exact h3 b c' hx hk'
          · omega
        · rename_i e
          rw [if_neg e] at hbc
          exact h3 b c hbc
    · by_cases e : b = b0
      · subst e
        obtain ⟨k1, k2, _⟩ := hold c z hbc
        exact ⟨c0, z0, by simp [Mem.set], k1, fun hs => by rw [upd, if_pos rfl]; exact k2 hs⟩
      · exact ⟨c, z, by simpa [Mem.set, e] using hbc, compat.refl c, fun _ => by simp [upd, e]⟩
  refine ⟨⟨h.below.trans hb, Nat.le_trans h.base hb.size, fun b c z hbc => ?_, fun b b' x y hne hx hy k hk => ?_, fun b x hx => ?_, fun k hk => h.nw k (by have := hb.size; omega), fun b c z hbc k hk => ?_⟩, htr⟩
  · by_cases e : b = b0
    · subst e
      simp [Mem.set] at hbc
      obtain ⟨rfl, rfl⟩ := hbc
      exact hc htr
    · have hbc' : m b = some (c, z) := by simpa [Mem.set, e] using hbc
      have hok := h.blk b c z hbc'
      refine hok.mono htr (by simp [upd, e]) fun k hk => ?_
      refine hheap k (hok.no hk).2 fun c' hc' hk' => ?_
      exact h.dist b b0 _ _ e hbc' hc' k hk hk'
  · have key : ∀ b, b ≠ b0 → ∀ x, m b = some x → ∀ k, hdNo g0 = some k → hdNo (G b) ≠ some k := by
      intro b hb x hx k hk hk'
      rcases hnum k hk with ⟨⟨y, hy⟩, h2⟩ | h2
      · exact h.dist b b0 _ _ hb hx hy k hk' h2
      · have := ((h.blk b x.1 x.2 hx).no hk').2
        omega
    by_cases e : b = b0
    · subst e
      have e' : b' ≠ b := fun q => hne q.symm
      rw [upd, if_pos rfl] at hk
      rw [upd, if_neg e']
      exact key b' e' y (by simpa [Mem.set, e'] using hy) k hk
    · have hx' : m b = some x := by simpa [Mem.set, e] using hx
      rw [upd, if_neg e] at hk
      by_cases e' : b' = b0
      · subst e'
        rw [upd, if_pos rfl]
        exact fun hk' => key b e x hx' k hk' hk
      · rw [upd, if_neg e']
        exact h.dist b b' x y hne hx' (by simpa [Mem.set, e'] using hy) k hk
  · by_cases e : b = b0
    · subst e; exact hlim
    · exact h.lim b x (by simpa [Mem.set, e] using hx)
  · by_cases e : b = b0
    · subst e
      rw [upd, if_pos rfl] at hk
      rcases hnum k hk with ⟨⟨⟨c', z'⟩, hx⟩, hk'⟩ | hk'
      · exact h.hd b c' z' hx k hk'
      · exact h.nw k hk'
    · rw [upd, if_neg e] at hk
      exact h.hd b c z (by simpa [Mem.set, e] using hbc) k hk

/-- A block is frozen. -/
theorem MemOk.freeze (h : MemOk B F w0 lim m G w) {b0 : Nat} {c0 : Cn} {z0 : Bool} (hm : m b0 = some (c0, z0)) :
    MemOk B F w0 lim (m.set b0 (c0, true)) G w ∧ Tr B F m G w (m.set b0 (c0, true)) G w := by
  have hg : upd G b0 (G b0) = G := by
    funext i
    unfold upd
    split
    · rename_i e; rw [e]
    · rfl
  have := h.step (b0 := b0) (c0 := c0) (z0 := true) (g0 := G b0) (w' := w) (Below.refl _ _) (fun _ _ _ => rfl) (fun k hk => .inl ⟨⟨_, hm⟩, hk⟩)
    (fun c z hc => by rw [hm] at hc; injection hc with hc; injection hc with h1 h2; subst h1; exact ⟨compat.refl _, fun _ => rfl, fun _ => rfl⟩) (h.lim _ _ hm)
    (fun ht => (h.blk _ _ _ hm).mono ht (by simp [upd]) fun _ _ => rfl)
  rwa [hg] at this

/-- The world grows; no block that was there turns. -/
theorem MemOk.grown (h : MemOk B F w0 lim m G w) {w' : World} (hb : Below w.heap.size w w') : MemOk B F w0 lim m G w' ∧ Tr B F m G w m G w' := by
  have htr : Tr B F m G w m G w' := by
    refine ⟨fun k hk => ?_, fun b c z hbc => ⟨c, z, hbc, compat.refl c, fun _ => rfl⟩⟩
    obtain ⟨h1, h2, h3⟩ := hk
    exact ⟨⟨h1, by have := hb.size; omega, h3⟩, hb.block k h2⟩
  refine ⟨⟨h.below.trans (hb.mono h.base), Nat.le_trans h.base hb.size, fun b c z hbc => ?_, h.dist, h.lim, fun k hk => h.nw k (by have := hb.size; omega), h.hd⟩, htr⟩
  have hok := h.blk b c z hbc
  exact hok.mono htr rfl fun k hk => hb.block k (hok.no hk).2

theorem MemOk.frz_live (h : MemOk B F w0 lim m G w) {b : Nat} {c : Cn} {k : Nat} (hm : m b = some (c, true)) (hk : hdNo (G b) = some k) : Frz B F m G w k := by
  have := (h.blk _ _ _ hm).no hk
  refine ⟨h.hd _ _ _ hm k hk, this.2, fun b' c' hb' hk' => ?_⟩
  by_cases e : b' = b
  · subst e
    rw [hm] at hb'
    injection hb' with hb'
    injection hb' with _ hz
    cases hz
  · exact h.dist b b' _ _ (fun q => e q.symm) hm hb' k hk hk'
end
end Go.Refl
