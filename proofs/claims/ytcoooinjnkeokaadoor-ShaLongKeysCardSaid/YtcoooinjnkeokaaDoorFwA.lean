/-
Definitions of a small abstract machine for the operations of the given program's form: data as trees, own memory as a short list of blocks, and a predicate transformer W over code. No conditions.
-/
import Derived.Orders
import Derived.Below
namespace Go.Fw
set_option linter.unusedVariables false
set_option linter.unusedSimpArgs false

/-- The shape of a variable: one cell, an array of n parts of one shape, or a struct's parts. -/
inductive Sh where
  | one
  | arr (n : Nat) (e : Sh)
  | st (l : List Sh)

mutual
def Sh.csz : Sh → Nat
  | .one => 1
  | .arr n e => n * e.csz
  | .st l => Sh.cszs l
def Sh.cszs : List Sh → Nat
  | [] => 0
  | x :: xs => x.csz + Sh.cszs xs
end

mutual
def Sh.beq : Sh → Sh → Bool
  | .one, .one => true
  | .arr n e, .arr m f => (n == m) && e.beq f
  | .st l, .st m => Sh.beqs l m
  | _, _ => false
def Sh.beqs : List Sh → List Sh → Bool
  | [], [] => true
  | x :: xs, y :: ys => x.beq y && Sh.beqs xs ys
  | _, _ => false
end

/-- Where a part begins, and its shape. -/
def poff : Sh → List Nat → Option (Nat × Sh)
  | s, [] => some (0, s)
  | .arr n e, i :: p => if i < n then (poff e p).map fun x => (i * e.csz + x.1, x.2) else none
  | .st l, i :: p => match l[i]? with
    | some s => (poff s p).map fun x => (Sh.cszs (l.take i) + x.1, x.2)
    | none => none
  | .one, _ :: _ => none

/-- Data: whole values without references to memory that may still change. -/
inductive D where
  | int (k : IntKind) (n : Int)
  | bool (b : Bool)
  | str (l : List UInt8)
  | nils
  | nilp
  | ro (e : Sh) (t : Bool) (xs : List D)
  | arr (n : Nat) (e : Sh) (xs : List D)
  | st (xs : List D)
  | tup (xs : List D)
  | fn (f : FuncId) (caps : List D)

mutual
def D.sh : D → Sh
  | .arr n e _ => .arr n e
  | .st xs => .st (D.shs xs)
  | _ => .one
def D.shs : List D → List Sh
  | [] => []
  | x :: xs => x.sh :: D.shs xs
end

/-- Values: data, or references to blocks of the running call's own. -/
inductive V where
  | d (x : D)
  | st (xs : List V)
  | tup (xs : List V)
  | sl (b off ver : Nat)
  | sub (b off len ver : Nat)
  | sa (b : Nat) (path : List Nat) (off len : Nat)
  | ptr (b ver : Nat) (path : List Nat) (sh : Sh)
  | parr (b off n ver : Nat)
  | rop (x : D)
  | any

mutual
def V.sh : V → Sh
  | .d x => x.sh
  | .st xs => .st (V.shs xs)
  | _ => .one
def V.shs : List V → List Sh
  | [] => []
  | x :: xs => x.sh :: V.shs xs
end

inductive Blk where
  | fix (v : V)
  | grow (ver : Nat) (e : Sh) (xs : List D)

abbrev Heap := List (Option Blk)
abbrev Eff := List (Nat × Option Blk)

abbrev Env := Nat → V

def upd (e : Env) (d : Nat) (v : V) (i : Nat) : V :=
  match Nat.beq i d with
  | true => v
  | false => e i

def put (e : Env) (t : Option Tmp) (v : V) : Env :=
  match t with
  | some d => upd e d v
  | none => e

/-- The heap with block b set, spelled out. -/
def setK (H : Heap) (b : Nat) (x : Option Blk) (k : Heap → Prop) : Prop :=
  match H, b with
  | [], _ => k []
  | _ :: r, 0 => k (x :: r)
  | y :: r, n + 1 => setK r n x fun r' => k (y :: r')

def appK (H : Heap) (e : Eff) (k : Heap → Prop) : Prop :=
  match e with
  | [] => k H
  | (b, x) :: r => setK H b x fun H' => appK H' r k

/-- The heap with n dead places behind it, spelled out. -/
def moreK (H : Heap) (n : Nat) (k : Heap → Prop) : Prop :=
  match H with
  | [] => k (List.replicate n none)
  | y :: r => moreK r n fun r' => k (y :: r')

/-- What is known of a type. -/
inductive Ty where
  | int (k : IntKind)
  | bool
  | str
  | sl (e : TypeId)
  | arr (n : Nat) (e : TypeId)
  | st (fs : List TypeId)
  | ptr (e : TypeId)
  | fn
  | tup

structure TyE where
  ty : Ty
  sh : Sh
  bytes : Nat
  zero : D

structure Cx where
  P : Program
  ty : TypeId → Option TyE
  G : Nat → Option D

def elemN (n : Nat) : List Nat → Bool
  | [] => false
  | m :: l => bif Nat.beq n m then true else elemN n l

/-- Which own blocks the operations of a region may look at: these only (true), or all but these (false). -/
abbrev Vis := Nat → Option (Bool × List Nat)

def seen (v : Option (Bool × List Nat)) (b : Nat) : Bool :=
  match v with
  | none => true
  | some (true, l) => elemN b l
  | some (false, l) => !elemN b l

/-! Continuations -/

def onS {α : Type} (o : Option α) (k : α → Prop) : Prop :=
  match o with
  | some a => k a
  | none => False

def onT (b : Bool) (k : Prop) : Prop :=
  match b with
  | true => k
  | false => False

def onE (a b : Nat) (k : Prop) : Prop :=
  match Nat.beq a b with
  | true => k
  | false => False

def br (b : Bool) (x y : Prop) : Prop :=
  match b with
  | true => x
  | false => y

def asI (v : V) (k : IntKind → Int → Prop) : Prop :=
  match v with
  | .d (.int a n) => k a n
  | _ => False

def asB (v : V) (k : Bool → Prop) : Prop :=
  match v with
  | .d (.bool b) => k b
  | _ => False

/-! Parts of data -/

def getD : List Nat → D → (D → Prop) → Prop
  | [], x, k => k x
  | i :: p, .arr _ _ xs, k => onS xs[i]? fun x => getD p x k
  | i :: p, .st xs, k => onS xs[i]? fun x => getD p x k
  | _ :: _, _, _ => False

def setD : List Nat → D → D → (D → Prop) → Prop
  | [], y, x, k => onT (y.sh.beq x.sh) (k y)
  | [i], y, .arr n e xs, k => onT (decide (i < n)) (onT (y.sh.beq e) (k (.arr n e (xs.set i y))))
  | i :: p, y, .arr n e xs, k => onS xs[i]? fun x => setD p y x fun z => k (.arr n e (xs.set i z))
  | i :: p, y, .st xs, k => onS xs[i]? fun x => setD p y x fun z => k (.st (xs.set i z))
  | _ :: _, _, _, _ => False

def getV : List Nat → V → (V → Prop) → Prop
  | [], v, k => k v
  | i :: p, .d x, k => getD (i :: p) x fun y => k (.d y)
  | i :: p, .st xs, k => onS xs[i]? fun v => getV p v k
  | _ :: _, _, _ => False

def allD : List V → Option (List D)
  | [] => some []
  | .d x :: l => (allD l).map (x :: ·)
  | _ :: _ => none

/-- A struct out of its parts: data if all parts are. -/
def mkSt (l : List V) : V :=
  match allD l with
  | some ds => .d (.st ds)
  | none => .st l

def setV : List Nat → V → V → (V → Prop) → Prop
  | [], u, v, k => onT (u.sh.beq v.sh) (k u)
  | i :: p, .d y, .d x, k => setD (i :: p) y x fun z => k (.d z)
  | i :: p, u, .d (.st xs), k => onS xs[i]? fun x => setV p u (.d x) fun z => k (mkSt ((xs.map V.d).set i z))
  | i :: p, u, .st xs, k => onS xs[i]? fun x => setV p u x fun z => k (mkSt (xs.set i z))
  | _ :: _, _, _, _ => False

def cutL {α : Type} (off len n : Nat) (xs : List α) : List α :=
  if (off == 0) && (len == n) then xs else (xs.drop off).take len

/-- A value as data, as it stands now: slices of the call's own read as they are. The Bool: does it borrow. -/
def vslice (rd : Nat → Option Blk) (v : V) (k : Bool → D → Prop) : Prop :=
  match v with
  | .d x => k false x
  | .sl b off ver => onS (rd b) fun
    | .grow ver' e xs => onE ver ver' (k true (.ro e false (xs.drop off)))
    | _ => False
  | .sub b off len ver => onS (rd b) fun
    | .grow ver' e xs => onE ver ver' (k true (.ro e false ((xs.drop off).take len)))
    | _ => False
  | .sa b path off len => onS (rd b) fun
    | .fix v => getV path v fun
      | .d (.arr n e xs) => k true (.ro e false (cutL off len n xs))
      | _ => False
    | _ => False
  | _ => False

mutual
def view (rd : Nat → Option Blk) : V → (Bool → D → Prop) → Prop
  | .st xs, k => views rd xs fun b l => k b (.st l)
  | v, k => vslice rd v k
def views (rd : Nat → Option Blk) : List V → (Bool → List D → Prop) → Prop
  | [], k => k false []
  | v :: vs, k => view rd v fun b x => views rd vs fun c l => k (b || c) (x :: l)
end

/-- The elements of a slice value, of shape e. -/
def elems (rd : Nat → Option Blk) (e : Sh) (v : V) (k : List D → Prop) : Prop :=
  match v with
  | .d .nils => k []
  | v => vslice rd v fun _ => fun
    | .ro e' _ xs => onT (e'.beq e) (k xs)
    | _ => False

def asByte : D → Option UInt8
  | .int .u8 n => some (UInt8.ofNat n.toNat)
  | _ => none

def happ (H : Heap) : Eff → Heap
  | [] => H
  | (b, x) :: r => happ (H.set b x) r

/-! Operations on numbers -/

/-- Element by element. -/
def eqL (f : D → D → Option Bool) : List D → List D → Option Bool
  | [], [] => some true
  | x :: xs, y :: ys => match f x y, eqL f xs ys with
    | some a, some b => some (a && b)
    | _, _ => none
  | _, _ => none

/-- Field by field. -/
def eqF (f : TypeId → D → D → Option Bool) : List TypeId → List D → List D → Option Bool
  | [], [], [] => some true
  | t :: ts, x :: xs, y :: ys => match f t x y, eqF f ts xs ys with
    | some a, some b => some (a && b)
    | _, _ => none
  | _, _, _ => none

/-- Equality of plain data of a type: numbers, bools, strings, arrays and structs of these. -/
def eqT (cx : Cx) : Nat → TypeId → D → D → Option Bool
  | 0, _, _, _ => none
  | n + 1, t, x, y => match cx.ty t with
    | none => none
    | some te => match te.ty, x, y with
      | .int _, .int a p, .int b q => match decide (a = b) with
        | true => some (p == q)
        | false => none
      | .bool, .bool a, .bool b => some (a == b)
      | .str, .str a, .str b => some (a == b)
      | .arr _ e, .arr _ _ xs, .arr _ _ ys => eqL (eqT cx n e) xs ys
      | .st fs, .st xs, .st ys => eqF (eqT cx n) fs xs ys
      | _, _, _ => none

/-- A type of numbers, bools, strings, and arrays and structs of these. -/
def plainT (cx : Cx) : Nat → TypeId → Bool
  | 0, _ => false
  | n + 1, t => match cx.ty t with
    | none => false
    | some te => match te.ty with
      | .int _ | .bool | .str => true
      | .arr _ e => plainT cx n e
      | .st fs => fs.all (plainT cx n)
      | _ => false

/-! The operations -/

def optI (ρ : Operand → V) (o : Option Operand) (d : Nat) (hi : Nat) (k : Nat → Prop) : Prop :=
  match o with
  | none => k d
  | some x => asI (ρ x) fun _ i => onT (decide (0 ≤ i ∧ i ≤ hi)) (k i.toNat)

/-- A value that can stand in a variable. -/
def cellV : V → Bool
  | .any => false
  | .tup _ => false
  | .d (.tup _) => false
  | _ => true

/-- Arguments of a call, as data. -/
def argsV (rd : Nat → Option Blk) : List V → (Bool → List D → Prop) → Prop
  | [], k => k false []
  | v :: vs, k => onT (cellV v) (view rd v fun b x => argsV rd vs fun c l => k (b || c) (x :: l))

/-- parts put into a list of values. -/
def fillV (ρ : Operand → V) : List (Nat × Operand) → List V → (List V → Prop) → Prop
  | [], l, k => k l
  | (i, x) :: r, l, k => onS l[i]? fun z => onT (cellV (ρ x)) (onT ((ρ x).sh.beq z.sh) (fillV ρ r (l.set i (ρ x)) k))

def room : Nat := 140737488355328

/-- append's two sides. -/
def appendV (rd : Nat → Option Blk) (slot : Nat) (e : Sh) (bytes : Nat) (dst src : V) (k : V → Eff → Prop) : Prop :=
  match dst with
  | .d .nils => elems rd e src fun ys => onT (decide (ys.length * bytes ≤ room)) (k (.sl slot 0 0) [(slot, some (.grow 0 e ys))])
  | .sl b off ver => onS (rd b) fun
    | .grow ver' e' xs => onE ver ver' (onT (e'.beq e) (onE off 0 (elems rd e src fun ys =>
        onT (decide ((xs.length + ys.length) * bytes ≤ room)) (k (.sl b 0 (ver + 1)) [(b, some (.grow (ver + 1) e (xs ++ ys)))]))))
    | _ => False
  | .sa b path off len => onS (rd b) fun
    | .fix v => getV path v fun
      | .d (.arr n e' xs) => onE (off + len) n (onT (e'.beq e) (elems rd e src fun ys =>
          onT (decide ((len + ys.length) * bytes ≤ room)) (
            match src with
            | .sa _ _ _ (_ + 1) => k (.sl slot 0 0) [(slot, some (.grow 0 e (cutL off len n xs ++ ys)))]
            | _ => match path, off with
              | [], 0 => k (.sl slot 0 0) [(slot, some (.grow 0 e (xs ++ ys))), (b, none)]
              | _, _ => False)))
      | _ => False
    | _ => False
  | .d (.ro e' true xs) => onT (e'.beq e) (elems rd e src fun ys =>
      onT (decide ((xs.length + ys.length) * bytes ≤ room)) (
        match ys with
        | y :: ys' => k (.sl slot 0 0) [(slot, some (.grow 0 e (xs ++ (y :: ys'))))]
        | [] => k (.d (.ro e' true xs)) []))
  | _ => False

/-- Zeros appended: append of a made slice. -/
def appendZ (rd : Nat → Option Blk) (e : Sh) (bytes : Nat) (zero : D) (dst src : V) (k : V → Eff → Prop) : Prop :=
  match dst with
  | .sl b off ver => match src with
    | .d (.int .i64 n) => onS (rd b) fun
      | .grow ver' e' xs => onE ver ver' (onT (e'.beq e) (onE off 0 (onT (decide (0 ≤ n ∧ (xs.length + n.toNat) * bytes ≤ room))
          (k (.sl b 0 (ver + 1)) [(b, some (.grow (ver + 1) e (xs ++ List.replicate n.toNat zero)))]))))
      | _ => False
    | _ => False
  | _ => False

def copyL {α : Type} (xs ys : List α) : List α := ys.take xs.length ++ xs.drop ys.length

def copyV (rd : Nat → Option Blk) (e : Sh) (dst src : V) (k : V → Eff → Prop) : Prop :=
  match dst with
  | .sa b path off len => onS (rd b) fun
    | .fix v => getV path v fun
      | .d (.arr n e' xs) => onT (e'.beq e) (elems rd e src fun ys =>
          setV path (.d (.arr n e (xs.take off ++ (copyL ((xs.drop off).take len) ys ++ xs.drop (off + len))))) v fun v' =>
            k (.d (.int .i64 (Nat.min ys.length len))) [(b, some (.fix v'))])
      | _ => False
    | _ => False
  | .sl b off ver => onS (rd b) fun
    | .grow ver' e' xs => onE ver ver' (onT (e'.beq e) (elems rd e src fun ys =>
        k (.d (.int .i64 (Nat.min ys.length (xs.length - off)))) [(b, some (.grow ver e (xs.take off ++ copyL (xs.drop off) ys)))]))
    | _ => False
  | .sub b off len ver => onS (rd b) fun
    | .grow ver' e' xs => onE ver ver' (onT (e'.beq e) (elems rd e src fun ys =>
        k (.d (.int .i64 (Nat.min ys.length len))) [(b, some (.grow ver e (xs.take off ++ (copyL ((xs.drop off).take len) ys ++ xs.drop (off + len)))))]))
    | _ => False
  | _ => False

def lenV (cx : Cx) (rd : Nat → Option Blk) (t : TypeId) (v : V) (k : Nat → Prop) : Prop :=
  onS (cx.ty t) fun te => match te.ty, v with
  | .str, .d (.str l) => k l.length
  | .arr n _, .d (.arr ..) => k n
  | .sl _, .d .nils => k 0
  | .sl _, .d (.ro _ _ xs) => k xs.length
  | .sl _, .sl b off ver => onS (rd b) fun
    | .grow ver' _ xs => onE ver ver' (k (xs.length - off))
    | _ => False
  | .sl _, .sub b _ len ver => onS (rd b) fun
    | .grow ver' _ _ => onE ver ver' (k len)
    | _ => False
  | .sl _, .sa b _ _ len => onS (rd b) fun
    | .fix _ => k len
    | _ => False
  | _, _ => False

end Go.Fw
