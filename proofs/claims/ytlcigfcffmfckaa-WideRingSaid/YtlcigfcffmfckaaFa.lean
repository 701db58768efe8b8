/-
Definitions of a small abstract machine for the operations of the given program's form: data as trees, own memory as a short list of blocks, and a predicate transformer W over code. No conditions.
-/
import Derived.Orders
import Derived.Below
import Derived.Laws.CopyRow
import Derived.Laws.Cells
import Derived.Laws.StructEq
import Derived.ChangeKeysEq
import Derived.Laws.BytesString
import Derived.Lib.ConvBytes
import Derived.Laws.MakeOwn
namespace Go.Fw
set_option linter.unusedVariables false
set_option linter.unusedSimpArgs false

/-- The shape of a variable: one cell, an array of n parts of one shape, or a struct's parts. -/
inductive Sh where
  | one
  | arr (n : Nat) (e : Sh)
  | st (l : List Sh)

mutual
def Sh.csz : Sh → Nat
  | .one => 1
  | .arr n e => n * e.csz
  | .st l => Sh.cszs l
def Sh.cszs : List Sh → Nat
  | [] => 0
  | x :: xs => x.csz + Sh.cszs xs
end

mutual
def Sh.beq : Sh → Sh → Bool
  | .one, .one => true
  | .arr n e, .arr m f => (n == m) && e.beq f
  | .st l, .st m => Sh.beqs l m
  | _, _ => false
def Sh.beqs : List Sh → List Sh → Bool
  | [], [] => true
  | x :: xs, y :: ys => x.beq y && Sh.beqs xs ys
  | _, _ => false
end

/-- Where a part begins, and its shape. -/
def poff : Sh → List Nat → Option (Nat × Sh)
  | s, [] => some (0, s)
  | .arr n e, i :: p => if i < n then (poff e p).map fun x => (i * e.csz + x.1, x.2) else none
  | .st l, i :: p => match l[i]? with
    | some s => (poff s p).map fun x => (Sh.cszs (l.take i) + x.1, x.2)
    | none => none
  | .one, _ :: _ => none

/-- Data: whole values without references to memory that may still change. -/
inductive D where
  | int (k : IntKind) (n : Int)
  | bool (b : Bool)
  | str (l : List UInt8)
  | nils
  | nilp
  | ro (e : Sh) (t : Bool) (xs : List D)
  | arr (n : Nat) (e : Sh) (xs : List D)
  | st (xs : List D)
  | tup (xs : List D)
  | fn (f : FuncId) (caps : List D)

mutual
def D.sh : D → Sh
  | .arr n e _ => .arr n e
  | .st xs => .st (D.shs xs)
  | _ => .one
def D.shs : List D → List Sh
  | [] => []
  | x :: xs => x.sh :: D.shs xs
end

/-- Values: data, or references to blocks of the running call's own. -/
inductive V where
  | d (x : D)
  | st (xs : List V)
  | tup (xs : List V)
  | sl (b off ver : Nat)
  | sub (b off len ver : Nat)
  | sa (b : Nat) (path : List Nat) (off len : Nat)
  | ptr (b ver : Nat) (path : List Nat) (sh : Sh)
  | parr (b off n ver : Nat)
  | rop (x : D)
  | any

mutual
def V.sh : V → Sh
  | .d x => x.sh
  | .st xs => .st (V.shs xs)
  | _ => .one
def V.shs : List V → List Sh
  | [] => []
  | x :: xs => x.sh :: V.shs xs
end

inductive Blk where
  | fix (v : V)
  | grow (ver : Nat) (e : Sh) (xs : List D)

abbrev Heap := List (Option Blk)
abbrev Eff := List (Nat × Option Blk)

abbrev Env := Nat → V

def upd (e : Env) (d : Nat) (v : V) (i : Nat) : V :=
  match Nat.beq i d with
  | true => v
  | false => e i

def put (e : Env) (t : Option Tmp) (v : V) : Env :=
  match t with
  | some d => upd e d v
  | none => e

/-- The heap with block b set, spelled out. -/
def setK (H : Heap) (b : Nat) (x : Option Blk) (k : Heap → Prop) : Prop :=
  match H, b with
  | [], _ => k []
  | _ :: r, 0 => k (x :: r)
  | y :: r, n + 1 => setK r n x fun r' => k (y :: r')

def appK (H : Heap) (e : Eff) (k : Heap → Prop) : Prop :=
  match e with
  | [] => k H
  | (b, x) :: r => setK H b x fun H' => appK H' r k

/-- The heap with n dead places behind it, spelled out. -/
def moreK (H : Heap) (n : Nat) (k : Heap → Prop) : Prop :=
  match H with
  | [] => k (List.replicate n none)
  | y :: r => moreK r n fun r' => k (y :: r')

/-- What is known of a type. -/
inductive Ty where
  | int (k : IntKind)
  | bool
  | str
  | sl (e : TypeId)
  | arr (n : Nat) (e : TypeId)
  | st (fs : List TypeId)
  | ptr (e : TypeId)
  | fn
  | tup

structure TyE where
  ty : Ty
  sh : Sh
  bytes : Nat
  zero : D

structure Cx where
  P : Program
  ty : TypeId → Option TyE
  G : Nat → Option D

def elemN (n : Nat) : List Nat → Bool
  | [] => false
  | m :: l => bif Nat.beq n m then true else elemN n l

/-- Which own blocks the operations of a region may look at: these only (true), or all but these (false). -/
abbrev Vis := Nat → Option (Bool × List Nat)

def seen (v : Option (Bool × List Nat)) (b : Nat) : Bool :=
  match v with
  | none => true
  | some (true, l) => elemN b l
  | some (false, l) => !elemN b l

/-! Continuations -/

def onS {α : Type} (o : Option α) (k : α → Prop) : Prop :=
  match o with
  | some a => k a
  | none => False

def onT (b : Bool) (k : Prop) : Prop :=
  match b with
  | true => k
  | false => False

def onE (a b : Nat) (k : Prop) : Prop :=
  match Nat.beq a b with
  | true => k
  | false => False

def br (b : Bool) (x y : Prop) : Prop :=
  match b with
  | true => x
  | false => y

def asI (v : V) (k : IntKind → Int → Prop) : Prop :=
  match v with
  | .d (.int a n) => k a n
  | _ => False

def asB (v : V) (k : Bool → Prop) : Prop :=
  match v with
  | .d (.bool b) => k b
  | _ => False

/-! Parts of data -/

def getD : List Nat → D → (D → Prop) → Prop
  | [], x, k => k x
  | i :: p, .arr _ _ xs, k => onS xs[i]? fun x => getD p x k
  | i :: p, .st xs, k => onS xs[i]? fun x => getD p x k
  | _ :: _, _, _ => False

def setD : List Nat → D → D → (D → Prop) → Prop
  | [], y, x, k => onT (y.sh.beq x.sh) (k y)
  | [i], y, .arr n e xs, k => onT (decide (i < n)) (onT (y.sh.beq e) (k (.arr n e (xs.set i y))))
  | i :: p, y, .arr n e xs, k => onS xs[i]? fun x => setD p y x fun z => k (.arr n e (xs.set i z))
  | i :: p, y, .st xs, k => onS xs[i]? fun x => setD p y x fun z => k (.st (xs.set i z))
  | _ :: _, _, _, _ => False

def getV : List Nat → V → (V → Prop) → Prop
  | [], v, k => k v
  | i :: p, .d x, k => getD (i :: p) x fun y => k (.d y)
  | i :: p, .st xs, k => onS xs[i]? fun v => getV p v k
  | _ :: _, _, _ => False

def allD : List V → Option (List D)
  | [] => some []
  | .d x :: l => (allD l).map (x :: ·)
  | _ :: _ => none

/-- A struct out of its parts: data if all parts are. -/
def mkSt (l : List V) : V :=
  match allD l with
  | some ds => .d (.st ds)
  | none => .st l

def setV : List Nat → V → V → (V → Prop) → Prop
  | [], u, v, k => onT (u.sh.beq v.sh) (k u)
  | i :: p, .d y, .d x, k => setD (i :: p) y x fun z => k (.d z)
  | i :: p, u, .d (.st xs), k => onS xs[i]? fun x => setV p u (.d x) fun z => k (mkSt ((xs.map V.d).set i z))
  | i :: p, u, .st xs, k => onS xs[i]? fun x => setV p u x fun z => k (mkSt (xs.set i z))
  | _ :: _, _, _, _ => False

def cutL {α : Type} (off len n : Nat) (xs : List α) : List α :=
  if (off == 0) && (len == n) then xs else (xs.drop off).take len

/-- A value as data, as it stands now: slices of the call's own read as they are. The Bool: does it borrow. -/
def vslice (rd : Nat → Option Blk) (v : V) (k : Bool → D → Prop) : Prop :=
  match v with
  | .d x => k false x
  | .sl b off ver => onS (rd b) fun
    | .grow ver' e xs => onE ver ver' (k true (.ro e false (xs.drop off)))
    | _ => False
  | .sub b off len ver => onS (rd b) fun
    | .grow ver' e xs => onE ver ver' (k true (.ro e false ((xs.drop off).take len)))
    | _ => False
  | .sa b path off len => onS (rd b) fun
    | .fix v => getV path v fun
      | .d (.arr n e xs) => k true (.ro e false (cutL off len n xs))
      | _ => False
    | _ => False
  | _ => False

mutual
def view (rd : Nat → Option Blk) : V → (Bool → D → Prop) → Prop
  | .st xs, k => views rd xs fun b l => k b (.st l)
  | v, k => vslice rd v k
def views (rd : Nat → Option Blk) : List V → (Bool → List D → Prop) → Prop
  | [], k => k false []
  | v :: vs, k => view rd v fun b x => views rd vs fun c l => k (b || c) (x :: l)
end

/-- The elements of a slice value, of shape e. -/
def elems (rd : Nat → Option Blk) (e : Sh) (v : V) (k : List D → Prop) : Prop :=
  match v with
  | .d .nils => k []
  | v => vslice rd v fun _ => fun
    | .ro e' _ xs => onT (e'.beq e) (k xs)
    | _ => False

def asByte : D → Option UInt8
  | .int .u8 n => some (UInt8.ofNat n.toNat)
  | _ => none

def happ (H : Heap) : Eff → Heap
  | [] => H
  | (b, x) :: r => happ (H.set b x) r

/-! Operations on numbers -/

/-- Element by element. -/
def eqL (f : D → D → Option Bool) : List D → List D → Option Bool
  | [], [] => some true
  | x :: xs, y :: ys => match f x y, eqL f xs ys with
    | some a, some b => some (a && b)
    | _, _ => none
  | _, _ => none

/-- Field by field. -/
def eqF (f : TypeId → D → D → Option Bool) : List TypeId → List D → List D → Option Bool
  | [], [], [] => some true
  | t :: ts, x :: xs, y :: ys => match f t x y, eqF f ts xs ys with
    | some a, some b => some (a && b)
    | _, _ => none
  | _, _, _ => none

/-- Equality of plain data of a type: numbers, bools, strings, arrays and structs of these. -/
def eqT (cx : Cx) : Nat → TypeId → D → D → Option Bool
  | 0, _, _, _ => none
  | n + 1, t, x, y => match cx.ty t with
    | none => none
    | some te => match te.ty, x, y with
      | .int _, .int a p, .int b q => match decide (a = b) with
        | true => some (p == q)
        | false => none
      | .bool, .bool a, .bool b => some (a == b)
      | .str, .str a, .str b => some (a == b)
      | .arr _ e, .arr _ _ xs, .arr _ _ ys => eqL (eqT cx n e) xs ys
      | .st fs, .st xs, .st ys => eqF (eqT cx n) fs xs ys
      | _, _, _ => none

/-- A type of numbers, bools, strings, and arrays and structs of these. -/
def plainT (cx : Cx) : Nat → TypeId → Bool
  | 0, _ => false
  | n + 1, t => match cx.ty t with
    | none => false
    | some te => match te.ty with
      | .int _ | .bool | .str => true
      | .arr _ e => plainT cx n e
      | .st fs => fs.all (plainT cx n)
      | _ => false

/-! The operations -/

def optI (ρ : Operand → V) (o : Option Operand) (d : Nat) (hi : Nat) (k : Nat → Prop) : Prop :=
  match o with
  | none => k d
  | some x => asI (ρ x) fun _ i => onT (decide (0 ≤ i ∧ i ≤ hi)) (k i.toNat)

/-- A value that can stand in a variable. -/
def cellV : V → Bool
  | .any => false
  | .tup _ => false
  | .d (.tup _) => false
  | _ => true

/-- Arguments of a call, as data. -/
def argsV (rd : Nat → Option Blk) : List V → (Bool → List D → Prop) → Prop
  | [], k => k false []
  | v :: vs, k => onT (cellV v) (view rd v fun b x => argsV rd vs fun c l => k (b || c) (x :: l))

/-- parts put into a list of values. -/
def fillV (ρ : Operand → V) : List (Nat × Operand) → List V → (List V → Prop) → Prop
  | [], l, k => k l
  | (i, x) :: r, l, k => onS l[i]? fun z => onT (cellV (ρ x)) (onT ((ρ x).sh.beq z.sh) (fillV ρ r (l.set i (ρ x)) k))

def room : Nat := 140737488355328

/-- append's two sides. -/
def appendV (rd : Nat → Option Blk) (slot : Nat) (e : Sh) (bytes : Nat) (dst src : V) (k : V → Eff → Prop) : Prop :=
  match dst with
  | .d .nils => elems rd e src fun ys => onT (decide (ys.length * bytes ≤ room)) (k (.sl slot 0 0) [(slot, some (.grow 0 e ys))])
  | .sl b off ver => onS (rd b) fun
    | .grow ver' e' xs => onE ver ver' (onT (e'.beq e) (onE off 0 (elems rd e src fun ys =>
        onT (decide ((xs.length + ys.length) * bytes ≤ room)) (k (.sl b 0 (ver + 1)) [(b, some (.grow (ver + 1) e (xs ++ ys)))]))))
    | _ => False
  | .sa b path off len => onS (rd b) fun
    | .fix v => getV path v fun
      | .d (.arr n e' xs) => onE (off + len) n (onT (e'.beq e) (elems rd e src fun ys =>
          onT (decide ((len + ys.length) * bytes ≤ room)) (
            match src with
            | .sa _ _ _ (_ + 1) => k (.sl slot 0 0) [(slot, some (.grow 0 e (cutL off len n xs ++ ys)))]
            | _ => match path, off with
              | [], 0 => k (.sl slot 0 0) [(slot, some (.grow 0 e (xs ++ ys))), (b, none)]
              | _, _ => False)))
      | _ => False
    | _ => False
  | .d (.ro e' true xs) => onT (e'.beq e) (elems rd e src fun ys =>
      onT (decide ((xs.length + ys.length) * bytes ≤ room)) (
        match ys with
        | y :: ys' => k (.sl slot 0 0) [(slot, some (.grow 0 e (xs ++ (y :: ys'))))]
        | [] => k (.d (.ro e' true xs)) []))
  | _ => False

/-- Zeros appended: append of a made slice. -/
def appendZ (rd : Nat → Option Blk) (e : Sh) (bytes : Nat) (zero : D) (dst src : V) (k : V → Eff → Prop) : Prop :=
  match dst with
  | .sl b off ver => match src with
    | .d (.int .i64 n) => onS (rd b) fun
      | .grow ver' e' xs => onE ver ver' (onT (e'.beq e) (onE off 0 (onT (decide (0 ≤ n ∧ (xs.length + n.toNat) * bytes ≤ room))
          (k (.sl b 0 (ver + 1)) [(b, some (.grow (ver + 1) e (xs ++ List.replicate n.toNat zero)))]))))
      | _ => False
    | _ => False
  | _ => False

def copyL {α : Type} (xs ys : List α) : List α := ys.take xs.length ++ xs.drop ys.length

def copyV (rd : Nat → Option Blk) (e : Sh) (dst src : V) (k : V → Eff → Prop) : Prop :=
  match dst with
  | .sa b path off len => onS (rd b) fun
    | .fix v => getV path v fun
      | .d (.arr n e' xs) => onT (e'.beq e) (elems rd e src fun ys =>
          setV path (.d (.arr n e (xs.take off ++ (copyL ((xs.drop off).take len) ys ++ xs.drop (off + len))))) v fun v' =>
            k (.d (.int .i64 (Nat.min ys.length len))) [(b, some (.fix v'))])
      | _ => False
    | _ => False
  | .sl b off ver => onS (rd b) fun
    | .grow ver' e' xs => onE ver ver' (onT (e'.beq e) (elems rd e src fun ys =>
        k (.d (.int .i64 (Nat.min ys.length (xs.length - off)))) [(b, some (.grow ver e (xs.take off ++ copyL (xs.drop off) ys)))]))
    | _ => False
  | .sub b off len ver => onS (rd b) fun
    | .grow ver' e' xs => onE ver ver' (onT (e'.beq e) (elems rd e src fun ys =>
        k (.d (.int .i64 (Nat.min ys.length len))) [(b, some (.grow ver e (xs.take off ++ (copyL ((xs.drop off).take len) ys ++ xs.drop (off + len)))))]))
    | _ => False
  | _ => False

def lenV (cx : Cx) (rd : Nat → Option Blk) (t : TypeId) (v : V) (k : Nat → Prop) : Prop :=
  onS (cx.ty t) fun te => match te.ty, v with
  | .str, .d (.str l) => k l.length
  | .arr n _, .d (.arr ..) => k n
  | .sl _, .d .nils => k 0
  | .sl _, .d (.ro _ _ xs) => k xs.length
  | .sl _, .sl b off ver => onS (rd b) fun
    | .grow ver' _ xs => onE ver ver' (k (xs.length - off))
    | _ => False
  | .sl _, .sub b _ len ver => onS (rd b) fun
    | .grow ver' _ _ => onE ver ver' (k len)
    | _ => False
  | .sl _, .sa b _ _ len => onS (rd b) fun
    | .fix _ => k len
    | _ => False
  | _, _ => False

end Go.Fw

/-
How data reads in memory, what a call of a function returns on data, and the predicate transformer W over the program's code. No conditions.
-/
namespace Go.Fw
set_option linter.unusedVariables false
set_option linter.unusedSimpArgs false
open Go.RowKit

/-- The value of a variable out of its cells. -/
def pack : Sh → List Value → Value
  | .one, c :: _ => c
  | .one, [] => undef
  | _, cs => .agg cs.toArray

/-- 'd', of shape 'sh', stands in these cells; the memory that it refers to lies outside 'own'. -/
inductive RC (w : World) (own : Nat → Prop) : Sh → D → List Value → Prop
  | int (k : IntKind) (n : Int) : RC w own .one (.int k n) [.int k n]
  | bool (b : Bool) : RC w own .one (.bool b) [.bool b]
  | str (l : List UInt8) : RC w own .one (.str l) [.string ⟨l.toArray⟩]
  | nils : RC w own .one .nils [.slice none 0 0]
  | nilp : RC w own .one .nilp [.pointer none]
  | fn (f : FuncId) (caps : List D) (css : List (List Value)) (hl : css.length = caps.length)
      (h : ∀ (i : Nat) x cs, caps[i]? = some x → css[i]? = some cs → RC w own x.sh x cs) :
      RC w own .one (.fn f caps) [.func (.func f) #[] (List.zipWith (fun x cs => pack x.sh cs) caps css).toArray]
  | ro (e : Sh) (t : Bool) (xs : List D) (a : Option Addr) (cap : Nat) (css : List (List Value)) (hl : css.length = xs.length) (hc : xs.length ≤ cap) (ht : t = true → cap = xs.length)
      (h : ∀ (i : Nat) x cs, xs[i]? = some x → css[i]? = some cs → RC w own e x cs)
      (hm : ∀ (i : Nat) cs (j : Nat) c, css[i]? = some cs → cs[j]? = some c → ∃ ad, a = some ad ∧ w.cell? (ad.add (i * e.csz + j)) = some c ∧ ¬ own ad.block) :
      RC w own .one (.ro e t xs) [.slice a xs.length cap]
  | arr (n : Nat) (e : Sh) (xs : List D) (css : List (List Value)) (hl : css.length = xs.length) (hn : xs.length = n)
      (h : ∀ (i : Nat) x cs, xs[i]? = some x → css[i]? = some cs → RC w own e x cs) : RC w own (.arr n e) (.arr n e xs) css.flatten
  | st (shs : List Sh) (xs : List D) (css : List (List Value)) (hl : css.length = xs.length) (hs : shs.length = xs.length)
      (h : ∀ (i : Nat) s x cs, shs[i]? = some s → xs[i]? = some x → css[i]? = some cs → RC w own s x cs) : RC w own (.st shs) (.st xs) css.flatten

/-- Data of one variable. -/
def RD1 (w : World) (own : Nat → Prop) (d : D) (c : Value) : Prop := ∃ cells, RC w own d.sh d cells ∧ c = pack d.sh cells

/-- Data, or several results. -/
def RD (w : World) (own : Nat → Prop) (d : D) (c : Value) : Prop :=
  match d with
  | .tup xs => ∃ cs : List Value, c = .tuple cs.toArray ∧ cs.length = xs.length ∧ ∀ (i : Nat) x c, xs[i]? = some x → cs[i]? = some c → RD1 w own x c
  | d => RD1 w own d c

def noOwn : Nat → Prop := fun _ => False

/-- The listed package variables hold what they are said to hold, away from 'own'. -/
def GOK (cx : Cx) (w : World) (own : Nat → Prop) : Prop := ∀ g x, cx.G g = some x → ¬ own g ∧ 0 < x.sh.csz ∧ ∃ cells, RC w own x.sh x cells ∧ ∀ (j : Nat) c, cells[j]? = some c → w.cell? ⟨g, j, none⟩ = some c

/-- Function f can be called: it has a body. -/
def Callable (P : Program) (f : FuncId) : Prop := ∃ fn, P.funcs[f]? = some fn ∧ (fn.name == "runtime.NumGoroutine") = false ∧ fn.body.isSome = true

/-- Function f, called on this data, returns this data; nothing that was there changes. What lies away from 'far' before the call (far: what the callers may still change) is all that the result refers to. -/
def Runs (cx : Cx) (f : FuncId) (args : List D) (v : D) : Prop :=
  Callable cx.P f ∧ ∀ (w : World) (cargs : List Value) (far : Nat → Prop), (∀ k, far k → k < w.heap.size) → GOK cx w far → cargs.length = args.length → (∀ (i : Nat) x c, args[i]? = some x → cargs[i]? = some c → RD1 w far x c) →
    Calls cx.P f cargs.toArray w fun e w' => ∃ c, e = .returned c ∧ RD w' far v c ∧ Below w.heap.size w w'

/-- Function f has no body: the model answers at once, and the world stays. -/
def Ext (cx : Cx) (f : FuncId) (args : List D) (v : D) : Prop :=
  (∀ fn, cx.P.funcs[f]? = some fn → fn.body.isSome = false) ∧ ∀ (w : World) (cargs : List Value) (far : Nat → Prop), cargs.length = args.length → (∀ (i : Nat) x c, args[i]? = some x → cargs[i]? = some c → RD1 w far x c) →
    ∃ c, (callFunc f cargs.toArray).run cx.P w = .ok (.value c) w ∧ RD w far v c

/-- Called on this data, it returns this data. -/
def Returns (cx : Cx) (f : FuncId) (args : List D) (v : D) : Prop := Runs cx f args v ∨ Ext cx f args v

theorem Returns.runs {cx : Cx} {f : FuncId} {args : List D} {v : D} (h : Returns cx f args v) (hc : Callable cx.P f) : Runs cx f args v := by
  rcases h with h | h
  · exact h
  · obtain ⟨fn, h1, _, h2⟩ := hc
    rw [h.1 fn h1] at h2; cases h2

/-- No slice, function or several results inside: nothing of it lies elsewhere. -/
inductive D.flat : D → Prop
  | int (k : IntKind) (n : Int) : D.flat (.int k n)
  | bool (b : Bool) : D.flat (.bool b)
  | str (l : List UInt8) : D.flat (.str l)
  | nils : D.flat .nils
  | nilp : D.flat .nilp
  | arr (n : Nat) (e : Sh) (xs : List D) (h : ∀ x ∈ xs, D.flat x) : D.flat (.arr n e xs)
  | st (xs : List D) (h : ∀ x ∈ xs, D.flat x) : D.flat (.st xs)
  | tup (xs : List D) (h : ∀ x ∈ xs, D.flat x) : D.flat (.tup xs)

def onB (b : Bool) (v : D) (k : Prop) : Prop :=
  match b with
  | true => D.flat v ∧ k
  | false => k

/-- Data that reads as other data: a nil slice as an empty one, a full one as one whose room is not known. -/
inductive D.le : D → D → Prop
  | refl (x : D) : D.le x x
  | nils (e : Sh) : D.le .nils (.ro e false [])
  | loose (e : Sh) (xs : List D) : D.le (.ro e true xs) (.ro e false xs)
  | st (xs ys : List D) (hl : xs.length = ys.length) (h : ∀ (i : Nat) x y, xs[i]? = some x → ys[i]? = some y → D.le x y) (hs : D.shs xs = D.shs ys) : D.le (.st xs) (.st ys)

def D.les : List D → List D → Prop
  | [], [] => True
  | x :: xs, y :: ys => D.le x y ∧ D.les xs ys
  | _, _ => False

/-! The operations -/

def eqV (cx : Cx) (t : TypeId) (op : BinOp) (x y : D) (k : V → Prop) : Prop :=
  onS (cx.ty t) fun te => onT (te.sh.beq x.sh) (onT (te.sh.beq y.sh) (onT (plainT cx 20 t) (onS (eqT cx 20 t x y) fun b =>
    match op with
    | .eql => k (.d (.bool b))
    | .neq => k (.d (.bool (!b)))
    | _ => False)))

def binV (cx : Cx) (t : TypeId) (op : BinOp) (x y : V) (k : V → Prop) : Prop :=
  match x, y with
  | .d (.int kx a), .d (.int ky b) =>
    match op with
    | .shl => onT (decide (0 ≤ b)) (k (.d (.int kx (kx.wrap (a * 2 ^ (min b.toNat kx.bits))))))
    | .shr => onT (decide (0 ≤ b)) (k (.d (.int kx (a.fdiv (2 ^ (min b.toNat kx.bits))))))
    | .add => onT (decide (kx = ky)) (k (.d (.int kx (kx.wrap (a + b)))))
    | .sub => onT (decide (kx = ky)) (k (.d (.int kx (kx.wrap (a - b)))))
    | .mul => onT (decide (kx = ky)) (k (.d (.int kx (kx.wrap (a * b)))))
    | .quo => onT (decide (kx = ky)) (onT (decide (b ≠ 0)) (k (.d (.int kx (kx.wrap (a.tdiv b))))))
    | .rem => onT (decide (kx = ky)) (onT (decide (b ≠ 0)) (k (.d (.int kx (a.tmod b)))))
    | .and => onT (decide (kx = ky)) (k (.d (.int kx (kx.wrap (BitVec.ofInt kx.bits a &&& BitVec.ofInt kx.bits b).toNat))))
    | .or => onT (decide (kx = ky)) (k (.d (.int kx (kx.wrap (BitVec.ofInt kx.bits a ||| BitVec.ofInt kx.bits b).toNat))))
    | .xor => onT (decide (kx = ky)) (k (.d (.int kx (kx.wrap (BitVec.ofInt kx.bits a ^^^ BitVec.ofInt kx.bits b).toNat))))
    | .andNot => onT (decide (kx = ky)) (k (.d (.int kx (kx.wrap (BitVec.ofInt kx.bits a &&& ~~~ BitVec.ofInt kx.bits b).toNat))))
    | .eql => onT (decide (kx = ky)) (k (.d (.bool (a == b))))
    | .neq => onT (decide (kx = ky)) (k (.d (.bool (a != b))))
    | .lss => onT (decide (kx = ky)) (k (.d (.bool (decide (a < b)))))
    | .leq => onT (decide (kx = ky)) (k (.d (.bool (decide (a ≤ b)))))
    | .gtr => onT (decide (kx = ky)) (k (.d (.bool (decide (a > b)))))
    | .geq => onT (decide (kx = ky)) (k (.d (.bool (decide (a ≥ b)))))
  | .d (.str a), .d (.str b) =>
    match op with
    | .eql => k (.d (.bool (a == b)))
    | .neq => k (.d (.bool (!(a == b))))
    | .add => onT (decide (a.length + b.length ≤ 9223372036854775807)) (k (.d (.str (a ++ b))))
    | _ => False
  | .d (.bool a), .d (.bool b) => onS (cx.ty t) fun te => match te.ty, op with
    | .bool, .eql => k (.d (.bool (a == b)))
    | .bool, .neq => k (.d (.bool (!(a == b))))
    | _, _ => False
  | .d (.arr n e xs), .d (.arr m f ys) => eqV cx t op (.arr n e xs) (.arr m f ys) k
  | .d (.st xs), .d (.st ys) => eqV cx t op (.st xs) (.st ys) k
  | _, _ => False

def unV (op : UnOp) (x : V) (k : V → Prop) : Prop :=
  match op, x with
  | .neg, .d (.int a n) => k (.d (.int a (a.wrap (0 - n))))
  | .xor, .d (.int a n) => k (.d (.int a (a.wrap (BitVec.ofInt a.bits (if a.signed then -1 else a.max) ^^^ BitVec.ofInt a.bits n).toNat)))
  | .not, .d (.bool b) => k (.d (.bool (!b)))
  | _, _ => False

/-- The type of an address's element, for an index. -/
def idxV (cx : Cx) (rd : Nat → Option Blk) (t : TypeId) (x : V) (i : Int) (k : V → Prop) : Prop :=
  onS (cx.ty t) fun te => match te.ty, x with
  | .arr _ _, .ptr b ver path (.arr n e) => onT (te.sh.beq (.arr n e)) (onT (decide (0 ≤ i ∧ i < n)) (k (.ptr b ver (path ++ [i.toNat]) e)))
  | .arr _ _, .rop (.arr n e xs) => onT (te.sh.beq (.arr n e)) (onT (decide (0 ≤ i ∧ i < n)) (onS xs[i.toNat]? fun y => k (.rop y)))
  | .sl e, x => onS (cx.ty e) fun ee => match x with
    | .d (.ro e _ xs) => onT (ee.sh.beq e) (onT (decide (0 ≤ i ∧ i < xs.length)) (onS xs[i.toNat]? fun y => k (.rop y)))
    | .sl b off ver => onS (rd b) fun
      | .grow ver' e xs => onE ver ver' (onT (ee.sh.beq e) (onT (decide (0 ≤ i ∧ i < (xs.length - off : Nat))) (k (.ptr b ver [off + i.toNat] e))))
      | _ => False
    | .sub b off len ver => onS (rd b) fun
      | .grow ver' e _ => onE ver ver' (onT (ee.sh.beq e) (onT (decide (0 ≤ i ∧ i < len)) (k (.ptr b ver [off + i.toNat] e))))
      | _ => False
    | _ => False
  | _, _ => False

def sliceV (cx : Cx) (ρ : Operand → V) (rd : Nat → Option Blk) (t : TypeId) (x : V) (lo hi mx : Option Operand) (k : V → Prop) : Prop :=
  onS (cx.ty t) fun te => match te.ty, x with
  | .arr _ _, .ptr b _ path (.arr n e) => onT (te.sh.beq (.arr n e)) (match mx with
      | none => optI ρ hi n n fun h => optI ρ lo 0 h fun l => k (.sa b path l (h - l))
      | some _ => False)
  | .str, .d (.str s) => match mx with
    | none => optI ρ hi s.length s.length fun h => optI ρ lo 0 h fun l => k (.d (.str ((s.take h).drop l)))
    | some _ => False
  | .sl e, x => onS (cx.ty e) fun ee => match x with
    | .d (.ro e t xs) => onT (ee.sh.beq e) (match mx with
      | none => match hi with
        | none => optI ρ lo 0 xs.length fun l => k (.d (.ro e t (xs.drop l)))
        | some h => optI ρ (some h) 0 xs.length fun h => optI ρ lo 0 h fun l => k (.d (.ro e false ((xs.take h).drop l)))
      | some m => match hi with
        | none => False
        | some hi => optI ρ (some m) 0 xs.length fun m => optI ρ (some hi) 0 m fun h => optI ρ lo 0 h fun l => k (.d (.ro e (Nat.beq m h) ((xs.take h).drop l))))
    | .d .nils => match mx with
      | none => optI ρ hi 0 0 fun h => optI ρ lo 0 h fun _ => k (.d .nils)
      | some _ => False
    | .sl b off ver => onS (rd b) fun
      | .grow ver' e xs => onE ver ver' (onT (ee.sh.beq e) (match mx with
        | none => match hi with
          | none => optI ρ lo 0 (xs.length - off) fun l => k (.sl b (off + l) ver)
          | some h => optI ρ (some h) 0 (xs.length - off) fun h => optI ρ lo 0 h fun l => k (.sub b (off + l) (h - l) ver)
        | some _ => False))
      | _ => False
    | .sub b off len ver => onS (rd b) fun
      | .grow ver' e _ => onE ver ver' (onT (ee.sh.beq e) (match mx with
        | none => optI ρ hi len len fun h => optI ρ lo 0 h fun l => k (.sub b (off + l) (h - l) ver)
        | some _ => False))
      | _ => False
    | .sa b path off len => onS (rd b) fun
      | .fix v => onS (poff v.sh path) fun p => match p.2 with
        | .arr _ e => onT (ee.sh.beq e) (match mx with
          | none => optI ρ hi len len fun h => optI ρ lo 0 h fun l => k (.sa b path (off + l) (h - l))
          | some _ => False)
        | _ => False
      | _ => False
    | _ => False
  | _, _ => False

def bytesV (rd : Nat → Option Blk) (x : V) (k : V → Prop) : Prop :=
  match x with
  | .d .nils => k (.d (.str []))
  | v => vslice rd v fun _ => fun
    | .ro _ _ xs => onS (xs.mapM asByte) fun l => k (.d (.str l))
    | _ => False

def convV (cx : Cx) (rd : Nat → Option Blk) (src dst : TypeId) (x : V) (k : V → Prop) : Prop :=
  onS (cx.ty src) fun ts => onS (cx.ty dst) fun te => match te.ty with
  | .int kd => match x with
    | .d (.int _ n) => k (.d (.int kd (kd.wrap n)))
    | _ => False
  | .str => match ts.ty with
    | .str => match x with
      | .d (.str s) => k (.d (.str s))
      | _ => False
    | .sl e => onS (cx.ty e) fun ee => match ee.ty with
      | .int .u8 => bytesV rd x k
      | _ => False
    | _ => False
  | .sl e => match x with
    | .d (.str s) => onS (cx.ty e) fun ee => match ee.ty with
      | .int .u8 => k (.d (.ro .one false (s.map fun c => .int .u8 c.toNat)))
      | _ => False
    | _ => False
  | _ => False

/-- A conversion of a type to itself: of bytes, what was an own slice is only read from then on. -/
def convS (cx : Cx) (rd : Nat → Option Blk) (t : TypeId) (x : V) (k : V → Eff → Prop) : Prop :=
  onS (cx.ty t) fun te => match te.ty, x with
  | .int kd, .d (.int _ n) => k (.d (.int kd (kd.wrap n))) []
  | .str, .d (.str s) => k (.d (.str s)) []
  | .sl e, .sl b off ver => onS (cx.ty e) fun ee => match ee.ty with
    | .int .u8 => onS (rd b) fun
      | .grow ver' e' xs => onE ver ver' (onT (decide (off < xs.length)) (k (.d (.ro e' false (xs.drop off))) [(b, none)]))
      | _ => False
    | _ => False
  | _, _ => False

def litV (v : Value) : V :=
  match v with
  | .int k n => .d (.int k n)
  | .bool b => .d (.bool b)
  | .string s => .d (.str s.data.toList)
  | .slice none 0 0 => .d .nils
  | .pointer none => .d .nilp
  | _ => .any

def evO (cx : Cx) (e : Env) : Operand → V
  | .tmp t => e t
  | .const v => litV v
  | .global g => match cx.G g with
    | some x => .rop x
    | none => .any
  | .func f => .d (.fn f [])

def minI (op : Builtin) (l : List V) (k : V → Prop) : Prop :=
  match op, l with
  | .min, [.d (.int a x), .d (.int b y)] => onT (decide (a = b)) (k (.d (.int a (if y < x then y else x))))
  | .max, [.d (.int a x), .d (.int b y)] => onT (decide (a = b)) (k (.d (.int a (if x < y then y else x))))
  | _, _ => False

def loadV (cx : Cx) (rd : Nat → Option Blk) (t : TypeId) (p : V) (k : V → Prop) : Prop :=
  onS (cx.ty t) fun te => match p with
  | .rop x => onT (te.sh.beq x.sh) (k (.d x))
  | .ptr b ver path s => onT (te.sh.beq s) (onS (rd b) fun
    | .fix v => getV path v k
    | .grow ver' _ xs => onE ver ver' (match path with
      | i :: p => onS xs[i]? fun x => getD p x fun y => k (.d y)
      | [] => False))
  | .parr b off n ver => onS (rd b) fun
    | .grow ver' e xs => onE ver ver' (onT (te.sh.beq (.arr n e)) (k (.d (.arr n e ((xs.drop off).take n)))))
    | _ => False
  | _ => False

def storeV (cx : Cx) (rd : Nat → Option Blk) (t : TypeId) (p u : V) (k : Eff → Prop) : Prop :=
  onS (cx.ty t) fun te => onT (cellV u) (onT (te.sh.beq u.sh) (match p with
  | .ptr b ver path _ => onS (rd b) fun
    | .fix v => setV path u v fun v' => k [(b, some (.fix v'))]
    | .grow ver' e xs => onE ver ver' (match path, u with
      | i :: p, .d y => setD (i :: p) y (.arr xs.length e xs) fun
        | .arr _ _ xs' => k [(b, some (.grow ver' e xs'))]
        | _ => False
      | _, _ => False)
  | _ => False))

def buildV (cx : Cx) (ρ : Operand → V) (t : TypeId) (parts : List (Nat × Operand)) (k : V → Prop) : Prop :=
  onS (cx.ty t) fun te => match te.zero with
  | .st zs => fillV ρ parts (zs.map V.d) fun l => k (mkSt l)
  | .arr n e zs => fillV ρ parts (zs.map V.d) fun l => onS (allD l) fun ds => k (.d (.arr n e ds))
  | _ => False

/-- A slice as a pointer at an array. -/
def arrV (cx : Cx) (rd : Nat → Option Blk) (arr : TypeId) (x : V) (k : V → Prop) : Prop :=
  onS (cx.ty arr) fun te => match te.ty with
    | .arr n _ => match x with
      | .d (.ro e _ xs) => onT (te.sh.beq (.arr n e)) (onT (decide (0 < n ∧ n ≤ xs.length)) (k (.rop (.arr n e (xs.take n)))))
      | .sl b off ver => onS (rd b) fun
        | .grow ver' _ xs => onE ver ver' (onT (decide (n ≤ xs.length - off)) (k (.parr b off n ver)))
        | _ => False
      | .sub b off len ver => onS (rd b) fun
        | .grow ver' _ _ => onE ver ver' (onT (decide (n ≤ len)) (k (.parr b off n ver)))
        | _ => False
      | _ => False
    | _ => False

def fieldAtV (cx : Cx) (t : TypeId) (x : V) (f : Nat) (k : V → Prop) : Prop :=
  onS (cx.ty t) fun te => match te.ty with
    | .st _ => match x with
      | .ptr b ver path (.st l) => onT (te.sh.beq (.st l)) (onS l[f]? fun s => k (.ptr b ver (path ++ [f]) s))
      | .rop (.st xs) => onT (te.sh.beq (.st (D.shs xs))) (onS xs[f]? fun y => k (.rop y))
      | _ => False
    | _ => False

def fieldV (cx : Cx) (t : TypeId) (x : V) (f : Nat) (k : V → Prop) : Prop :=
  onS (cx.ty t) fun te => match te.ty with
    | .st _ => match x with
      | .d (.st xs) => onT (te.sh.beq (.st (D.shs xs))) (onS xs[f]? fun y => k (.d y))
      | .st xs => onT (te.sh.beq (.st (V.shs xs))) (onS xs[f]? fun y => k y)
      | _ => False
    | _ => False

def indexV (cx : Cx) (t : TypeId) (x : V) (i : Int) (k : V → Prop) : Prop :=
  onS (cx.ty t) fun te => match te.ty with
    | .arr _ _ => match x with
      | .d (.arr n e xs) => onT (te.sh.beq (.arr n e)) (onT (decide (0 ≤ i ∧ i < n)) (onS xs[i.toNat]? fun y => k (.d y)))
      | _ => False
    | .str => match x with
      | .d (.str s) => onT (decide (0 ≤ i ∧ i < s.length)) (onS s[i.toNat]? fun c => k (.d (.int .u8 c.toNat)))
      | _ => False
    | _ => False

/-- One operation: its value, and what it does to the call's own blocks. -/
def Wop (cx : Cx) (ρ : Operand → V) (rd : Nat → Option Blk) (slot : Nat) (o : Oper) (k : V → Eff → Prop) : Prop :=
  match o.op with
  | .move x | .assign x => k (ρ x) []
  | .pick c a b => asB (ρ c) fun t => br t (k (ρ a) []) (k (ρ b) [])
  | .alloc elem => onS (cx.ty elem) fun te => k (.ptr slot 0 [] te.sh) [(slot, some (.fix (.d te.zero)))]
  | .box _ x => onT (cellV (ρ x)) (k (.ptr slot 0 [] (ρ x).sh) [(slot, some (.fix (ρ x)))])
  | .build t parts => buildV cx ρ t parts.toList fun v => k v []
  | .buildSlice t len parts => onS (cx.ty t) fun te => match te.ty with
    | .sl e => onS (cx.ty e) fun ee => onT (decide (len * ee.sh.csz ≤ 16777216)) (fillV ρ parts.toList ((List.replicate len ee.zero).map V.d) fun l => onS (allD l) fun ds => k (.sl slot 0 0) [(slot, some (.grow 0 ee.sh ds))])
    | _ => False
  | .load t a => loadV cx rd t (ρ a) fun v => k v []
  | .store t a x => storeV cx rd t (ρ a) (ρ x) fun e => k .any e
  | .nilCheck x => match ρ x with
    | .ptr b v p s => k (.ptr b v p s) []
    | .rop x => k (.rop x) []
    | _ => False
  | .binOp op t x y _ => binV cx t op (ρ x) (ρ y) fun v => k v []
  | .unOp op _ x => unV op (ρ x) fun v => k v []
  | .convert src dst x => match Nat.beq src dst with
    | true => convS cx rd dst (ρ x) k
    | false => convV cx rd src dst (ρ x) fun v => k v []
  | .sliceToArrayPointer arr x => arrV cx rd arr (ρ x) fun v => k v []
  | .makeSlice t l c => onS (cx.ty t) fun te => match te.ty with
    | .sl e => onS (cx.ty e) fun ee => asI (ρ l) fun _ n => asI (ρ c) fun _ m =>
        onT (decide (0 ≤ n ∧ n ≤ m ∧ ee.bytes * m ≤ 281474976710656 ∧ m ≤ 9223372036854775807)) (k (.sl slot 0 0) [(slot, some (.grow 0 ee.sh (List.replicate n.toNat ee.zero)))])
    | _ => False
  | .slice t x lo hi mx => sliceV cx ρ rd t (ρ x) lo hi mx fun v => k v []
  | .fieldAddr t x f => fieldAtV cx t (ρ x) f fun v => k v []
  | .field t x f => fieldV cx t (ρ x) f fun v => k v []
  | .indexAddr t x i => asI (ρ i) fun _ i => idxV cx rd t (ρ x) i fun v => k v []
  | .index t x i => asI (ρ i) fun _ i => indexV cx t (ρ x) i fun v => k v []
  | .extract x i => match ρ x with
    | .d (.tup xs) => onS xs[i]? fun y => k (.d y) []
    | .tup xs => onS xs[i]? fun y => k y []
    | _ => False
  | .makeFunc (.func f) first captured => match first.toList with
    | [] => onS (allD (captured.toList.map ρ)) fun ds => onT (ds.all fun x => cellV (.d x)) (k (.d (.fn f ds)) [])
    | _ => False
  | .call c => match c.callee with
    | .builtin b => match b with
      | .len => match c.args.toList, c.argTypes.toList with
        | [x], [t] => lenV cx rd t (ρ x) fun n => k (.d (.int .i64 n)) []
        | _, _ => False
      | .append => match c.args.toList, c.argTypes.toList with
        | [x, y], [t, t'] => br (t == t') (onS (cx.ty t) fun te => match te.ty with
          | .sl e => onS (cx.ty e) fun ee => appendV rd slot ee.sh ee.bytes (ρ x) (ρ y) k
          | _ => False) (onS (cx.ty t) fun te => match te.ty with
          | .sl e => onS (cx.ty e) fun ee => onS (cx.ty t') fun te' => match te'.ty with
            | .int .i64 => appendZ rd ee.sh ee.bytes ee.zero (ρ x) (ρ y) k
            | _ => False
          | _ => False)
        | _, _ => False
      | .copy => match c.args.toList, c.argTypes.toList with
        | [x, y], [t, _] => onS (cx.ty t) fun te => match te.ty with
          | .sl e => onS (cx.ty e) fun ee => copyV rd ee.sh (ρ x) (ρ y) k
          | _ => False
        | _, _ => False
      | b => minI b (c.args.toList.map ρ) fun v => k v []
    | .value f => match ρ f with
      | .d (.fn f caps) => argsV rd (c.args.toList.map ρ) fun bor ds => ∃ ds' v, D.les ds ds' ∧ Returns cx f (ds' ++ caps) v ∧ onB bor v (k (.d v) [])
      | _ => False
    | _ => False
  | _ => False

/-- Which operations take a block's number for themselves. -/
def newOp (o : Oper) : Bool :=
  match o.op with
  | .alloc _ | .box .. | .buildSlice .. | .makeSlice .. => true
  | .call { callee := .builtin .append, .. } => true
  | _ => false

/-- Operation i comes by its edges (three at most) before operation j. -/
def before3 (ops : List Oper) (i j : Nat) : Nat → Bool
  | 0 => false
  | n + 1 => match ops[j]? with
    | some o => o.after.toList.any fun e => Region.binds .any e && (e.on == i || before3 ops i e.on n)
    | none => false

/-- The place in the region of the operation that has taken number base + n. -/
def newAt : List Oper → Nat → Nat → Option Nat
  | [], _, _ => none
  | o :: r, i, n => match newOp o, n with
    | true, 0 => some i
    | true, n + 1 => newAt r (i + 1) n
    | false, n => newAt r (i + 1) n

/-- What operation j of a region may read of the own blocks: what was there when the region began, and what operations made that come before it by their edges. -/
def rdAt (vis : Vis) (ops : List Oper) (base : Nat) (H : Heap) (j : Nat) (b : Nat) : Option Blk :=
  match seen (vis j) b with
  | false => none
  | true => match Nat.blt b base with
  | true => H.getD b none
  | false => match newAt ops 0 (b - base) with
    | some i => match before3 ops i j 4 with
      | true => H.getD b none
      | false => none
    | none => none

/-- A guard's value; an operation that was left out has none. -/
def asG (v : V) (u : Prop) (k : Bool → Prop) : Prop :=
  match v with
  | .d (.bool b) => k b
  | .tup [] => u
  | _ => False

def Wops (cx : Cx) (vis : Vis) (ops : List Oper) (base : Nat) (K : Env → Heap → Prop) : List Oper → Nat → Nat → Env → Heap → Prop
  | [], _, _, a, H => K a H
  | o :: rest, j, slot, a, H =>
    match o.guard with
    | none => Wop cx (evO cx a) (rdAt vis ops base H j) slot o fun v e => appK H e fun H' => Wops cx vis ops base K rest (j + 1) (bif newOp o then slot + 1 else slot) (put a o.dst v) H'
    | some (i, want) => match (ops[i]?).bind (·.dst) with
      | some t => asG (a t) (Wops cx vis ops base K rest (j + 1) (bif newOp o then slot + 1 else slot) (put a o.dst (.tup [])) H) fun g => br g
          (match want with
            | true => Wop cx (evO cx (upd a t (.d (.bool true)))) (rdAt vis ops base H j) slot o fun v e => appK H e fun H' => Wops cx vis ops base K rest (j + 1) (bif newOp o then slot + 1 else slot) (put (upd a t (.d (.bool true))) o.dst v) H'
            | false => Wops cx vis ops base K rest (j + 1) (bif newOp o then slot + 1 else slot) (put (upd a t (.d (.bool true))) o.dst (.tup [])) H)
          (match want with
            | true => Wops cx vis ops base K rest (j + 1) (bif newOp o then slot + 1 else slot) (put (upd a t (.d (.bool false))) o.dst (.tup [])) H
            | false => Wop cx (evO cx (upd a t (.d (.bool false)))) (rdAt vis ops base H j) slot o fun v e => appK H e fun H' => Wops cx vis ops base K rest (j + 1) (bif newOp o then slot + 1 else slot) (put (upd a t (.d (.bool false))) o.dst v) H')
      | none => False

def news : List Oper → Nat
  | [] => 0
  | o :: r => bif newOp o then news r + 1 else news r

def Wregion (cx : Cx) (vis : Vis) (ops : List Oper) (a : Env) (H : Heap) (K : Env → Heap → Prop) : Prop :=
  moreK H (news ops) fun H' => Wops cx vis ops H.length K ops 0 H.length a H'

end Go.Fw

/-
The predicate transformer W over code, weakenings of a state, and the rule for loops. No conditions.
-/
namespace Go.Fw
set_option linter.unusedVariables false
set_option linter.unusedSimpArgs false
open Go.RowKit

inductive Ex where
  | normal
  | exit (id : Nat)
  | ret

abbrev Post := Ex → Env → Heap → Prop

def thenK (K : Env → Heap → Prop) (Q : Post) : Post
  | .normal, a, H => K a H
  | e, a, H => Q e a H

def inBlockK (id : Nat) (Q : Post) : Post
  | .exit i, a, H => br (Nat.beq i id) (Q .normal a H) (Q (.exit i) a H)
  | e, a, H => Q e a H

/-- No reference to a block from n on. -/
inductive V.lowV (n : Nat) : V → Prop
  | d (x : D) : V.lowV n (.d x)
  | st (xs : List V) (h : ∀ x ∈ xs, V.lowV n x) : V.lowV n (.st xs)
  | sl (b off ver : Nat) (h : b < n) : V.lowV n (.sl b off ver)
  | sub (b off len ver : Nat) (h : b < n) : V.lowV n (.sub b off len ver)
  | sa (b : Nat) (p : List Nat) (off len : Nat) (h : b < n) : V.lowV n (.sa b p off len)
  | ptr (b ver : Nat) (p : List Nat) (s : Sh) (h : b < n) : V.lowV n (.ptr b ver p s)
  | parr (b off m ver : Nat) (h : b < n) : V.lowV n (.parr b off m ver)
  | rop (x : D) : V.lowV n (.rop x)
  | any : V.lowV n .any

def Blk.lowB (n : Nat) : Blk → Prop
  | .fix v => V.lowV n v
  | .grow .. => True

/-- The state reads as the second one too, which says less. -/
inductive Wk : Env → Heap → Env → Heap → Prop
  | env (e e' : Env) (H : Heap) (h : ∀ t, e' t = .any ∨ e' t = e t) : Wk e H e' H
  | le (e e' : Env) (H : Heap) (h : ∀ t, e' t = e t ∨ ∃ x y, e t = .d x ∧ e' t = .d y ∧ D.le x y) : Wk e H e' H
  | kill (e : Env) (H : Heap) (b : Nat) : Wk e H e (H.set b none)
  | freeze (e e' : Env) (H : Heap) (b ver : Nat) (sh : Sh) (xs : List D) (hb : H[b]? = some (some (.grow ver sh xs)))
      (h : ∀ t, e' t = e t ∨ ∃ off, e t = .sl b off ver ∧ e' t = .d (.ro sh false (xs.drop off))) : Wk e H e' (H.set b none)
  | freezeA (e e' : Env) (H : Heap) (b n : Nat) (sh : Sh) (xs : List D) (hb : H[b]? = some (some (.fix (.d (.arr n sh xs)))))
      (h : ∀ t, e' t = e t ∨ ∃ off len, e t = .sa b [] off len ∧ e' t = .d (.ro sh false (cutL off len n xs))) : Wk e H e' (H.set b none)
  | born (e e' : Env) (H : Heap) (sh : Sh) (h : ∀ t, e' t = e t ∨ (e t = .d .nils ∧ e' t = .sl H.length 0 0)) : Wk e H e' (H ++ [some (.grow 0 sh [])])
  | trunc (e : Env) (H : Heap) (n : Nat) (h : ∀ t, V.lowV n (e t)) (hH : ∀ b x, H[b]? = some (some x) → b < n → Blk.lowB n x) : Wk e H e (H.take n)
  | trans (a : Env) (A : Heap) (b : Env) (B : Heap) (c : Env) (C : Heap) (h1 : Wk a A b B) (h2 : Wk b B c C) : Wk a A c C

theorem Wk.refl (a : Env) (H : Heap) : Wk a H a H := .env a a H fun _ => .inr rfl

abbrev Tr := Env → Heap → (Env → Heap → Prop) → Prop

def iterW (F : Tr) : Nat → Env → Heap → Prop
  | 0, _, _ => False
  | n + 1, a, H => ∃ a' H', Wk a H a' H' ∧ F a' H' (iterW F n)

@[irreducible] def LoopW (F : Tr) (a : Env) (H : Heap) : Prop := ∃ n, iterW F n a H

def cutK (b : Bool) (a : Env) (H : Heap) (k : Env → Heap → Prop) : Prop :=
  match b with
  | true => ∃ a' H', Wk a H a' H' ∧ k a' H'
  | false => k a H

/-- What the proof says of a body's regions: where to weaken first, and who looks at what. -/
structure Hints where
  cuts : List Nat := []
  vis : List (Nat × List (Nat × Bool × List Nat)) := []
  flip : List (Nat × List Nat) := []

def lookN {α : Type} (n : Nat) : List (Nat × α) → Option α
  | [] => none
  | (m, a) :: r => match Nat.beq n m with
    | true => some a
    | false => lookN n r

def visOf (hs : Hints) (id : Nat) : Vis := fun j =>
  match lookN id hs.vis with
  | some l => lookN j l
  | none => none

def W (cx : Cx) (hs : Hints) : Code → Env → Heap → Post → Prop
  | .skip, a, H, Q => Q .normal a H
  | .region id ops _, a, H, Q => cutK (elemN id hs.cuts) a H fun a H => Wregion cx (visOf hs id) ops.toList a H (Q .normal)
  | .seq x y, a, H, Q => W cx hs x a H (thenK (fun a H => W cx hs y a H Q) Q)
  | .cond c x y, a, H, Q =>
    match c with
    | .tmp t => asB (a t) fun g => br g (W cx hs x (upd a t (.d (.bool true))) H Q) (W cx hs y (upd a t (.d (.bool false))) H Q)
    | c => asB (evO cx a c) fun g => br g (W cx hs x a H Q) (W cx hs y a H Q)
  | .block id b, a, H, Q => W cx hs b a H (inBlockK id Q)
  | .loop b, a, H, Q => LoopW (fun a H K => W cx hs b a H (thenK K Q)) a H
  | .exit id, a, H, Q => Q (.exit id) a H
  | .ret, a, H, Q => Q .ret a H
  | .scope b, a, H, Q => W cx hs b a H Q
  | .label _, a, H, Q => Q .normal a H
  | _, _, _, _ => False

/-! Intro rules -/

theorem onS_intro {α : Type} {o : Option α} {a : α} {k : α → Prop} (h : o = some a) (hk : k a) : onS o k := by subst h; exact hk
theorem onT_intro {b : Bool} {k : Prop} (h : b = true) (hk : k) : onT b k := by subst h; exact hk
theorem onT_dec {p : Prop} [Decidable p] {k : Prop} (h : p) (hk : k) : onT (decide p) k := onT_intro (decide_eq_true h) hk
theorem onE_rfl {a : Nat} {k : Prop} (hk : k) : onE a a k := by unfold onE; rw [show Nat.beq a a = true from Nat.beq_refl a]; exact hk
theorem onE_intro {a b : Nat} {k : Prop} (h : a = b) (hk : k) : onE a b k := by subst h; exact onE_rfl hk
theorem br_intro {b : Bool} {x y : Prop} (h1 : b = true → x) (h2 : b = false → y) : br b x y := by cases b; exact h2 rfl; exact h1 rfl
theorem br_true {b : Bool} {x y : Prop} (h : b = true) (hx : x) : br b x y := by subst h; exact hx
theorem br_false {b : Bool} {x y : Prop} (h : b = false) (hy : y) : br b x y := by subst h; exact hy

def envOf : List (Nat × V) → Nat → V
  | [], _ => .any
  | (t, v) :: r, i => if i = t then v else envOf r i

def has (e : Nat → V) : List (Nat × V) → Prop
  | [] => True
  | (t, v) :: r => e t = v ∧ has e r

theorem has_envOf {e : Nat → V} : ∀ {l : List (Nat × V)}, has e l → ∀ t, envOf l t = .any ∨ envOf l t = e t
  | [], _, _ => .inl rfl
  | (u, v) :: r, h, t => by
    unfold envOf
    by_cases e : t = u
    · subst e; rw [if_pos rfl]; exact .inr h.1.symm
    · rw [if_neg e]; exact has_envOf h.2 t

theorem Wk.mk {e : Env} {H : Heap} {l : List (Nat × V)} (h : has e l) : Wk e H (envOf l) H := .env _ _ _ (has_envOf h)

def belowL (n : Nat) : List (Nat × V) → Prop
  | [] => True
  | (_, v) :: r => V.lowV n v ∧ belowL n r

theorem belowL_envOf {n : Nat} : ∀ {l : List (Nat × V)}, belowL n l → ∀ t, V.lowV n (envOf l t)
  | [], _, _ => .any
  | (u, v) :: r, h, t => by
    unfold envOf
    by_cases e : t = u
    · rw [if_pos e]; exact h.1
    · rw [if_neg e]; exact belowL_envOf h.2 t

def belowH (n : Nat) : Heap → Prop
  | [] => True
  | none :: r => belowH n r
  | some x :: r => Blk.lowB n x ∧ belowH n r

theorem belowH_get {n : Nat} : ∀ {H : Heap}, belowH n H → ∀ (b : Nat) x, H[b]? = some (some x) → Blk.lowB n x
  | some y :: r, h, 0, x, hx => by simp at hx; subst hx; exact h.1
  | none :: r, h, 0, x, hx => by simp at hx
  | some y :: r, h, b + 1, x, hx => belowH_get h.2 b x (by simpa using hx)
  | none :: r, h, b + 1, x, hx => belowH_get (H := r) h b x (by simpa using hx)

/-- What a loop's head or a cut keeps: the listed slots, and the first n blocks. -/
theorem Wk.keep {e : Env} {H : Heap} {l : List (Nat × V)} (n : Nat) {H' : Heap} (h : has e l) (hb : belowL n l) (hH : H.take n = H') (hB : belowH n H') : Wk e H (envOf l) H' := by
  subst hH
  refine .trans _ _ _ _ _ _ (Wk.mk h) (.trunc _ _ n (belowL_envOf hb) fun b x hx hn => belowH_get hB b x ?_)
  rw [List.getElem?_take, if_pos hn]; exact hx

/-- THE RULE FOR A LOOP: the states mk p, p of a type of our own; each round leads back to one of them, with a smaller measure. -/
theorem LoopW_rule {α : Type} (mk : α → Env) (mh : α → Heap) (I : α → Prop) (μ : α → Nat) {F : Tr} {a : Env} {H : Heap}
    (hmono : ∀ a H K K', (∀ a H, K a H → K' a H) → F a H K → F a H K')
    (p0 : α) (h0 : Wk a H (mk p0) (mh p0)) (hI0 : I p0)
    (round : ∀ p, I p → F (mk p) (mh p) fun a' H' => ∃ p', Wk a' H' (mk p') (mh p') ∧ I p' ∧ μ p' < μ p) : LoopW F a H := by
  have key : ∀ n p, μ p < n → I p → ∀ a H, Wk a H (mk p) (mh p) → iterW F n a H := by
    intro n
    induction n with
    | zero => intro p h; omega
    | succ n ih =>
      intro p hp hI a H hs
      refine ⟨mk p, mh p, hs, hmono _ _ _ _ ?_ (round p hI)⟩
      rintro a' H' ⟨p', hw, hI', hlt⟩
      exact ih p' (by omega) hI' a' H' hw
  unfold LoopW
  exact ⟨μ p0 + 1, key _ p0 (by omega) hI0 a H h0⟩

def envArgs : List D → Nat → V
  | [], _ => .any
  | x :: _, 0 => .d x
  | _ :: r, n + 1 => envArgs r n

def rdH (H : Heap) (b : Nat) : Option Blk := H.getD b none

def resV (cx : Cx) (a : Env) (H : Heap) (r : ResultVar) (k : D → Prop) : Prop :=
  match r with
  | .tmp t => onT (cellV (a t)) (view (rdH H) (a t) fun _ d => k d)
  | .cell c t => loadV cx (rdH H) t (a c) fun v => onT (cellV v) (view (rdH H) v fun _ d => k d)

def resVs (cx : Cx) (a : Env) (H : Heap) : List ResultVar → (List D → Prop) → Prop
  | [], k => k []
  | r :: rs, k => resV cx a H r fun x => resVs cx a H rs fun l => k (x :: l)

def resK (cx : Cx) (a : Env) (H : Heap) (rs : List ResultVar) (k : D → Prop) : Prop :=
  match rs with
  | [r] => resV cx a H r k
  | rs => resVs cx a H rs fun l => k (.tup l)

def postK (cx : Cx) (rs : List ResultVar) (k : D → Prop) : Post
  | .exit _, _, _ => False
  | _, a, H => resK cx a H rs k

end Go.Fw

/-
Sizes and parts: how data, and values with references, lie in cells; parts read and set. No conditions.
-/
namespace Go.Fw
set_option linter.unusedVariables false
set_option linter.unusedSimpArgs false
open Go.RowKit

/-! Lists of lists -/

theorem flat_get {α : Type} : ∀ {css : List (List α)} {i : Nat} {cs : List α}, css[i]? = some cs →
    (css.flatten.drop ((css.take i).map List.length).sum).take cs.length = cs ∧ ((css.take i).map List.length).sum + cs.length ≤ css.flatten.length
  | c :: r, 0, cs, h => by
    simp at h; subst h
    simp
  | c :: r, i + 1, cs, h => by
    have ih := flat_get (css := r) (i := i) (cs := cs) (by simpa using h)
    simp only [List.take_succ_cons, List.map_cons, List.sum_cons, List.flatten_cons]
    constructor
    · rw [List.drop_append, List.drop_eq_nil_of_le (Nat.le_add_right _ _), List.nil_append, Nat.add_sub_cancel_left]; exact ih.1
    · rw [List.length_append]; omega
  | [], i, cs, h => by simp at h

theorem flat_set {α : Type} : ∀ {css : List (List α)} {i : Nat} {cs ds : List α}, css[i]? = some cs →
    (css.set i ds).flatten = css.flatten.take ((css.take i).map List.length).sum ++ ds ++ css.flatten.drop (((css.take i).map List.length).sum + cs.length)
  | c :: r, 0, cs, ds, h => by
    simp at h; subst h
    simp
  | c :: r, i + 1, cs, ds, h => by
    have ih := flat_set (css := r) (i := i) (cs := cs) (ds := ds) (by simpa using h)
    simp only [List.set_cons_succ, List.take_succ_cons, List.map_cons, List.sum_cons, List.flatten_cons]
    rw [ih, List.take_append, List.take_of_length_le (Nat.le_add_right _ _), Nat.add_sub_cancel_left, List.drop_append,
      List.drop_eq_nil_of_le (as := c) (by omega),
      show c.length + ((r.take i).map List.length).sum + cs.length - c.length = ((r.take i).map List.length).sum + cs.length from by omega]
    simp only [List.append_assoc, List.nil_append]
  | [], i, cs, ds, h => by simp at h

theorem sum_const {css : List (List Value)} {m : Nat} (h : ∀ cs ∈ css, cs.length = m) : (css.map List.length).sum = css.length * m := by
  induction css with
  | nil => simp
  | cons c r ih =>
    simp only [List.map_cons, List.sum_cons, List.length_cons]
    rw [h c (by simp), ih (fun cs hc => h cs (by simp [hc])), Nat.add_mul]
    omega

theorem len_flat {css : List (List Value)} : css.flatten.length = (css.map List.length).sum := by simp [List.length_flatten]

/-! Shapes -/

theorem Sh.beq_eq : ∀ (a b : Sh), a.beq b = true → a = b := by
  intro a
  refine Sh.rec (motive_1 := fun a => ∀ b, a.beq b = true → a = b) (motive_2 := fun l => ∀ m, Sh.beqs l m = true → l = m) ?_ ?_ ?_ ?_ ?_ a
  · intro b h; cases b <;> simp [Sh.beq] at h; rfl
  · intro n e ih b h
    cases b <;> simp [Sh.beq] at h
    rw [h.1, ih _ h.2]
  · intro l ih b h
    cases b <;> simp [Sh.beq] at h
    rw [ih _ h]
  · intro m h; cases m <;> simp [Sh.beqs] at h; rfl
  · intro x xs ih1 ih2 m h
    cases m <;> simp [Sh.beqs] at h
    rw [ih1 _ h.1, ih2 _ h.2]

theorem D.shs_eq : ∀ l : List D, D.shs l = l.map D.sh
  | [] => rfl
  | x :: r => by simp [D.shs, D.shs_eq r]
theorem V.shs_eq : ∀ l : List V, V.shs l = l.map V.sh
  | [] => rfl
  | x :: r => by simp [V.shs, V.shs_eq r]
theorem Sh.cszs_eq : ∀ l : List Sh, Sh.cszs l = (l.map Sh.csz).sum
  | [] => rfl
  | x :: r => by simp [Sh.cszs, Sh.cszs_eq r]

section
variable {w : World} {own : Nat → Prop}

theorem RC.sh_eq {sh : Sh} {x : D} {cs : List Value} (h : RC w own sh x cs) : x.sh = sh := by
  induction h with
  | st shs xs css hl hs h ih =>
    simp only [D.sh, D.shs_eq]
    congr 1
    apply List.ext_getElem?
    intro i
    rw [List.getElem?_map]
    rcases hx : xs[i]? with _ | x
    · rw [List.getElem?_eq_none_iff] at hx; rw [List.getElem?_eq_none (l := shs) (by omega)]; rfl
    · have hi : i < xs.length := (List.getElem?_eq_some_iff.1 hx).1
      have h1 : shs[i]? = some shs[i] := List.getElem?_eq_getElem (by omega)
      have h2 : css[i]? = some css[i] := List.getElem?_eq_getElem (by omega)
      rw [h1]; simp [ih i _ x _ h1 hx h2]
  | _ => rfl

theorem RC.len {sh : Sh} {x : D} {cs : List Value} (h : RC w own sh x cs) : cs.length = sh.csz := by
  induction h with
  | arr n e xs css hl hn h ih =>
    rw [len_flat, sum_const (m := e.csz), hl, hn]; rfl
    intro cs hcs
    obtain ⟨i, hi, he⟩ := List.getElem_of_mem hcs
    exact ih i xs[i] cs (List.getElem?_eq_getElem (by omega)) (by rw [← he]; exact List.getElem?_eq_getElem hi)
  | st shs xs css hl hs h ih =>
    rw [len_flat]; simp only [Sh.csz, Sh.cszs_eq]
    congr 1
    apply List.ext_getElem?
    intro i
    rw [List.getElem?_map, List.getElem?_map]
    rcases hx : css[i]? with _ | x
    · rw [List.getElem?_eq_none_iff] at hx; rw [List.getElem?_eq_none (l := shs) (by omega)]; rfl
    · have hi : i < css.length := (List.getElem?_eq_some_iff.1 hx).1
      have h1 : shs[i]? = some shs[i] := List.getElem?_eq_getElem (by omega)
      have h2 : xs[i]? = some xs[i] := List.getElem?_eq_getElem (by omega)
      rw [h1]; simp [ih i _ _ x h1 h2 hx]
  | _ => rfl

theorem RC.mono {w' : World} {own' : Nat → Prop} (hk : ∀ a c, w.cell? a = some c → ¬ own a.block → w'.cell? a = some c ∧ ¬ own' a.block)
    {sh : Sh} {x : D} {cs : List Value} (h : RC w own sh x cs) : RC w' own' sh x cs := by
  induction h with
  | int k n => exact .int k n
  | bool b => exact .bool b
  | str l => exact .str l
  | nils => exact .nils
  | nilp => exact .nilp
  | fn f caps css hl h ih => exact .fn f caps css hl ih
  | ro e t xs a cap css hl hc ht h hm ih =>
    refine .ro e t xs a cap css hl hc ht ih ?_
    intro i cs j c h1 h2
    obtain ⟨ad, ha, hce, ho⟩ := hm i cs j c h1 h2
    obtain ⟨h3, h4⟩ := hk _ _ hce (by unfold Addr.add; split <;> exact ho)
    exact ⟨ad, ha, h3, by unfold Addr.add at h4; split at h4 <;> exact h4⟩
  | arr n e xs css hl hn h ih => exact .arr n e xs css hl hn ih
  | st shs xs css hl hs h ih => exact .st shs xs css hl hs ih
end

/-! Own blocks -/

/-- Where the own blocks lie, and which have ever been made. -/
structure M where
  ι : Nat → Option (Nat × Nat)
  born : Nat → Prop
  far : Nat → Prop

def live (H : Heap) (b : Nat) (x : Blk) : Prop := H[b]? = some (some x)

def Own (m : M) (H : Heap) (k : Nat) : Prop := m.far k ∨ ∃ b x cap, live H b x ∧ m.ι b = some (k, cap)

def Blk.ver : Blk → Nat
  | .fix _ => 0
  | .grow v _ _ => v

def Blk.bsh : Blk → Sh
  | .fix v => v.sh
  | .grow _ e xs => .arr xs.length e

/-- A value with references, in cells. -/
inductive RCV (w : World) (m : M) (H : Heap) : Sh → V → List Value → Prop
  | d (sh : Sh) (x : D) (cs : List Value) (h : RC w (Own m H) sh x cs) : RCV w m H sh (.d x) cs
  | st (shs : List Sh) (xs : List V) (css : List (List Value)) (hl : css.length = xs.length) (hs : shs.length = xs.length)
      (h : ∀ (i : Nat) s x cs, shs[i]? = some s → xs[i]? = some x → css[i]? = some cs → RCV w m H s x cs) : RCV w m H (.st shs) (.st xs) css.flatten
  | any (c : Value) (h : c.oneCell' = true) : RCV w m H .one .any [c]
  | ptr (b ver : Nat) (path : List Nat) (sh : Sh) (a : Addr) (hb : m.born b)
      (h : ∀ x, live H b x → ver ≤ x.ver ∧ (ver = x.ver → ∃ k cap o, m.ι b = some (k, cap) ∧ poff x.bsh path = some (o, sh) ∧ a = ⟨k, o, none⟩)) : RCV w m H .one (.ptr b ver path sh) [.pointer (some a)]
  | sl (b off ver : Nat) (c : Value) (ho : c.oneCell' = true) (hb : m.born b)
      (h : ∀ ver' e xs, live H b (.grow ver' e xs) → ver ≤ ver' ∧ (ver = ver' → off ≤ xs.length ∧
        ((m.ι b = none ∧ c = .slice none 0 0) ∨ ∃ k cap a, m.ι b = some (k, cap) ∧ xs.length ≤ cap ∧ c = .slice a (xs.length - off) (cap - off) ∧ (off < cap → a = some ⟨k, off * e.csz, none⟩)))) : RCV w m H .one (.sl b off ver) [c]
  | sub (b off len ver : Nat) (c : Value) (ho : c.oneCell' = true) (hb : m.born b)
      (h : ∀ ver' e xs, live H b (.grow ver' e xs) → ver ≤ ver' ∧ (ver = ver' → off + len ≤ xs.length ∧
        ∃ cap a, c = .slice a len cap ∧ len ≤ cap ∧ (0 < len → ∃ k cap, m.ι b = some (k, cap) ∧ a = some ⟨k, off * e.csz, none⟩))) : RCV w m H .one (.sub b off len ver) [c]
  | sa (b : Nat) (path : List Nat) (off len : Nat) (c : Value) (ho : c.oneCell' = true) (hb : m.born b)
      (h : ∀ v, live H b (.fix v) → ∃ k cap o n e a, m.ι b = some (k, cap) ∧ poff v.sh path = some (o, .arr n e) ∧ off + len ≤ n ∧ c = .slice a len (n - off) ∧ (off < n → a = some ⟨k, o + off * e.csz, none⟩)) : RCV w m H .one (.sa b path off len) [c]
  | parr (b off n ver : Nat) (c : Value) (ho : c.oneCell' = true) (hb : m.born b)
      (h : ∀ ver' e xs, live H b (.grow ver' e xs) → ver ≤ ver' ∧ (ver = ver' → off + n ≤ xs.length ∧
        (0 < n → ∃ k cap, m.ι b = some (k, cap) ∧ c = .pointer (some ⟨k, off * e.csz, none⟩)))) : RCV w m H .one (.parr b off n ver) [c]
  | rop (x : D) (a : Addr) (cs : List Value) (h : RC w (Own m H) x.sh x cs) (hm : ∀ (j : Nat) c, cs[j]? = some c → w.cell? (a.add j) = some c ∧ ¬ Own m H a.block) : RCV w m H .one (.rop x) [.pointer (some a)]

section
variable {w : World} {m : M} {H : Heap}

theorem RCV.sh_eq {sh : Sh} {v : V} {cs : List Value} (h : RCV w m H sh v cs) : v.sh = sh := by
  induction h with
  | d sh x cs h => exact h.sh_eq
  | st shs xs css hl hs h ih =>
    simp only [V.sh, V.shs_eq]
    congr 1
    apply List.ext_getElem?
    intro i
    rw [List.getElem?_map]
    rcases hx : xs[i]? with _ | x
    · rw [List.getElem?_eq_none_iff] at hx; rw [List.getElem?_eq_none (l := shs) (by omega)]; rfl
    · have hi : i < xs.length := (List.getElem?_eq_some_iff.1 hx).1
      have h1 : shs[i]? = some shs[i] := List.getElem?_eq_getElem (by omega)
      have h2 : css[i]? = some css[i] := List.getElem?_eq_getElem (by omega)
      rw [h1]; simp [ih i _ x _ h1 hx h2]
  | _ => rfl

theorem RC.one {own : Nat → Prop} {sh : Sh} {x : D} {cs : List Value} (h : RC w own sh x cs) : ∀ c ∈ cs, c.oneCell' = true := by
  induction h with
  | arr n e xs css hl hn h ih =>
    intro c hc
    obtain ⟨l, hl', hc⟩ := List.mem_flatten.1 hc
    obtain ⟨i, hi, he⟩ := List.getElem_of_mem hl'
    exact ih i (xs[i]'(by omega)) l (List.getElem?_eq_getElem (by omega)) (by rw [← he]; exact List.getElem?_eq_getElem hi) c hc
  | st shs xs css hl hs h ih =>
    intro c hc
    obtain ⟨l, hl', hc⟩ := List.mem_flatten.1 hc
    obtain ⟨i, hi, he⟩ := List.getElem_of_mem hl'
    exact ih i (shs[i]'(by omega)) (xs[i]'(by omega)) l (List.getElem?_eq_getElem (by omega)) (List.getElem?_eq_getElem (by omega)) (by rw [← he]; exact List.getElem?_eq_getElem hi) c hc
  | _ => intro c hc; simp at hc; subst hc; rfl

theorem RCV.one {sh : Sh} {v : V} {cs : List Value} (h : RCV w m H sh v cs) : ∀ c ∈ cs, c.oneCell' = true := by
  induction h with
  | d sh x cs h => exact RC.one h
  | st shs xs css hl hs h ih =>
    intro c hc
    obtain ⟨l, hl', hc⟩ := List.mem_flatten.1 hc
    obtain ⟨i, hi, he⟩ := List.getElem_of_mem hl'
    exact ih i (shs[i]'(by omega)) (xs[i]'(by omega)) l (List.getElem?_eq_getElem (by omega)) (List.getElem?_eq_getElem (by omega)) (by rw [← he]; exact List.getElem?_eq_getElem hi) c hc
  | rop x a cs h hm => intro c hc; simp at hc; subst hc; rfl
  | ptr b ver path sh a hb h => intro c hc; simp at hc; subst hc; rfl
  | _ => intro c hc; simp at hc; subst hc; assumption

theorem RCV.len {sh : Sh} {v : V} {cs : List Value} (h : RCV w m H sh v cs) : cs.length = sh.csz := by
  induction h with
  | d sh x cs h => exact h.len
  | st shs xs css hl hs h ih =>
    rw [len_flat]; simp only [Sh.csz, Sh.cszs_eq]
    congr 1
    apply List.ext_getElem?
    intro i
    rw [List.getElem?_map, List.getElem?_map]
    rcases hx : css[i]? with _ | x
    · rw [List.getElem?_eq_none_iff] at hx; rw [List.getElem?_eq_none (l := shs) (by omega)]; rfl
    · have hi : i < css.length := (List.getElem?_eq_some_iff.1 hx).1
      have h1 : shs[i]? = some shs[i] := List.getElem?_eq_getElem (by omega)
      have h2 : xs[i]? = some xs[i] := List.getElem?_eq_getElem (by omega)
      rw [h1]; simp [ih i _ _ x h1 h2 hx]
  | _ => rfl

/-- How an own block may have changed: its parts, not their sizes; or it is another by its version. -/
inductive BK (m m' : M) (b : Nat) : Blk → Blk → Prop
  | fix (v v' : V) (h : v'.sh = v.sh) (hi : m'.ι b = m.ι b) : BK m m' b (.fix v) (.fix v')
  | grow (ver : Nat) (e : Sh) (xs xs' : List D) (h : xs'.length = xs.length) (hi : m'.ι b = m.ι b) : BK m m' b (.grow ver e xs) (.grow ver e xs')
  | later (ver ver' : Nat) (e e' : Sh) (xs xs' : List D) (h : ver < ver') : BK m m' b (.grow ver e xs) (.grow ver' e' xs')

theorem BK.refl (m : M) (b : Nat) (x : Blk) : BK m m b x x := by
  cases x
  · exact .fix _ _ rfl rfl
  · exact .grow _ _ _ _ rfl rfl

theorem BK.trans {m1 m2 m3 : M} {b : Nat} {x y z : Blk} (h : BK m1 m2 b x y) (h' : BK m2 m3 b y z) : BK m1 m3 b x z := by
  cases h with
  | fix v v' h hi => cases h' with
    | fix _ v'' h2 hi2 => exact .fix _ _ (h2.trans h) (hi2.trans hi)
  | grow ver e xs xs' h hi => cases h' with
    | grow _ _ _ xs'' h2 hi2 => exact .grow _ _ _ _ (h2.trans h) (hi2.trans hi)
    | later _ ver' _ e' _ xs'' h2 => exact .later _ _ _ _ _ _ h2
  | later ver ver' e e' xs xs' h => cases h' with
    | grow _ _ _ xs'' h2 hi2 => exact .later _ _ _ _ _ _ h
    | later _ ver'' _ e' _ xs'' h2 => exact .later _ _ _ _ _ _ (Nat.lt_trans h h2)

/-- What must hold between two states for values to go on reading as they did. -/
structure Keep (w : World) (m : M) (H : Heap) (w' : World) (m' : M) (H' : Heap) : Prop where
  cell : ∀ a c, w.cell? a = some c → ¬ Own m H a.block → w'.cell? a = some c ∧ ¬ Own m' H' a.block
  born : ∀ b, m.born b → m'.born b
  blk : ∀ b, m.born b → ∀ x', live H' b x' → ∃ x, live H b x ∧ BK m m' b x x'
  far : ∀ k, m.far k → m'.far k

theorem Keep.refl (w : World) (m : M) (H : Heap) : Keep w m H w m H :=
  ⟨fun _ _ h1 h2 => ⟨h1, h2⟩, fun _ h => h, fun b _ x hx => ⟨x, hx, BK.refl m b x⟩, fun _ h => h⟩

theorem Keep.trans {w1 w2 : World} {m1 m2 : M} {H1 H2 : Heap} (h : Keep w m H w1 m1 H1) (h' : Keep w1 m1 H1 w2 m2 H2) : Keep w m H w2 m2 H2 := by
  refine ⟨fun a c h1 h2 => ?_, fun b hb => h'.born b (h.born b hb), fun b hb x2 hx2 => ?_, fun k hk => h'.far k (h.far k hk)⟩
  · obtain ⟨h3, h4⟩ := h.cell a c h1 h2; exact h'.cell a c h3 h4
  · obtain ⟨x1, hx1, h1⟩ := h'.blk b (h.born b hb) x2 hx2
    obtain ⟨x0, hx0, h0⟩ := h.blk b hb x1 hx1
    exact ⟨x0, hx0, h0.trans h1⟩

theorem RCV.keep {w' : World} {m' : M} {H' : Heap} (hk : Keep w m H w' m' H') {sh : Sh} {v : V} {cs : List Value} (h : RCV w m H sh v cs) : RCV w' m' H' sh v cs := by
  induction h with
  | d sh x cs h => exact .d sh x cs (h.mono hk.cell)
  | st shs xs css hl hs h ih => exact .st shs xs css hl hs ih
  | any c h => exact .any c h
  | ptr b ver path sh a hb h =>
    refine .ptr b ver path sh a (hk.born b hb) fun x' hx' => ?_
    obtain ⟨x, hx, h1⟩ := hk.blk b hb x' hx'
    have h0 := h x hx
    cases h1 with
    | fix v v' he hi => simp only [Blk.bsh, he, hi, Blk.ver] at h0 ⊢; exact h0
    | grow ver e xs xs' he hi => simp only [Blk.bsh, he, hi, Blk.ver] at h0 ⊢; exact h0
    | later ver ver' e e' xs xs' hlt => simp only [Blk.ver] at h0 ⊢; exact ⟨by omega, fun e => by omega⟩
  | sl b off ver c ho hb h =>
    refine .sl b off ver c ho (hk.born b hb) fun ver' e xs' hx' => ?_
    obtain ⟨x, hx, h1⟩ := hk.blk b hb _ hx'
    cases h1 with
    | grow ver e xs xs' he hi => rw [he, hi]; exact h _ _ _ hx
    | later ver ver' e e' xs xs' hlt => have h0 := h _ _ _ hx; exact ⟨by omega, fun e => by omega⟩
  | sub b off len ver c ho hb h =>
    refine .sub b off len ver c ho (hk.born b hb) fun ver' e xs' hx' => ?_
    obtain ⟨x, hx, h1⟩ := hk.blk b hb _ hx'
    cases h1 with
    | grow ver e xs xs' he hi => rw [he, hi]; exact h _ _ _ hx
    | later ver ver' e e' xs xs' hlt => have h0 := h _ _ _ hx; exact ⟨by omega, fun e => by omega⟩
  | sa b path off len c ho hb h =>
    refine .sa b path off len c ho (hk.born b hb) fun v' hx' => ?_
    obtain ⟨x, hx, h1⟩ := hk.blk b hb _ hx'
    cases h1 with
    | fix v v' he hi => rw [he, hi]; exact h _ hx
  | parr b off n ver c ho hb h =>
    refine .parr b off n ver c ho (hk.born b hb) fun ver' e xs' hx' => ?_
    obtain ⟨x, hx, h1⟩ := hk.blk b hb _ hx'
    cases h1 with
    | grow ver e xs xs' he hi => rw [he, hi]; exact h _ _ _ hx
    | later ver ver' e e' xs xs' hlt => have h0 := h _ _ _ hx; exact ⟨by omega, fun e => by omega⟩
  | rop x a cs h hm =>
    refine .rop x a cs (h.mono hk.cell) fun j c hc => ?_
    obtain ⟨h1, h2⟩ := hm j c hc
    obtain ⟨h3, h4⟩ := hk.cell _ _ h1 (by unfold Addr.add; split <;> exact h2)
    exact ⟨h3, by unfold Addr.add at h4; split at h4 <;> exact h4⟩
end

end Go.Fw

/-
Reading and setting parts of data and values is reading and setting their cells. No conditions.
-/
namespace Go.Fw
set_option linter.unusedVariables false
set_option linter.unusedSimpArgs false
open Go.RowKit

theorem onS_elim {α : Type} {o : Option α} {k : α → Prop} (h : onS o k) : ∃ a, o = some a ∧ k a := by
  cases o with
  | none => exact h.elim
  | some a => exact ⟨a, rfl, h⟩
theorem onT_elim {b : Bool} {k : Prop} (h : onT b k) : b = true ∧ k := by
  cases b with
  | false => exact h.elim
  | true => exact ⟨rfl, h⟩
theorem onE_elim {a b : Nat} {k : Prop} (h : onE a b k) : a = b ∧ k := by
  unfold onE at h
  split at h
  · rename_i he; exact ⟨Nat.eq_of_beq_eq_true he, h⟩
  · exact h.elim

theorem slice_slice {α : Type} (l : List α) (a n b m : Nat) (h : b + m ≤ n) : (((l.drop a).take n).drop b).take m = (l.drop (a + b)).take m := by
  rw [List.drop_take, List.drop_drop, List.take_take]
  congr 1
  omega

theorem splice_splice {α : Type} (l ys : List α) (a n b : Nat) (h : b + ys.length ≤ n) :
    l.take a ++ (((l.drop a).take n).take b ++ ys ++ ((l.drop a).take n).drop (b + ys.length)) ++ l.drop (a + n) = l.take (a + b) ++ ys ++ l.drop (a + b + ys.length) := by
  rw [List.take_take, Nat.min_eq_left (by omega : b ≤ n), List.take_add, List.drop_take, List.drop_drop]
  simp only [List.append_assoc]
  congr 3
  have : l.drop (a + b + ys.length) = (l.drop (a + b + ys.length)).take (n - (b + ys.length)) ++ l.drop (a + n) := by
    conv => lhs; rw [← List.take_append_drop (n - (b + ys.length)) (l.drop (a + b + ys.length))]
    rw [List.drop_drop]
    congr 2
    omega
  rw [this, show a + (b + ys.length) = a + b + ys.length from by omega]

theorem take_splice {α : Type} (l ys : List α) (N o : Nat) (h : o + ys.length ≤ N) (hN : N ≤ l.length) :
    (l.take o ++ ys ++ l.drop (o + ys.length)).take N = (l.take N).take o ++ ys ++ (l.take N).drop (o + ys.length) := by
  rw [List.take_take, Nat.min_eq_left (by omega : o ≤ N), List.drop_take, List.take_append, List.take_of_length_le (by simp; omega)]
  congr 2
  simp; omega

section
variable {w : World} {own : Nat → Prop}

theorem sum_take_const {css : List (List Value)} {m i : Nat} (h : ∀ cs ∈ css, cs.length = m) (hi : i ≤ css.length) : ((css.take i).map List.length).sum = i * m := by
  rw [sum_const (m := m) (fun cs hc => h cs (List.mem_of_mem_take hc)), List.length_take, Nat.min_eq_left hi]

theorem arr_lens {e : Sh} {xs : List D} {css : List (List Value)} (hl : css.length = xs.length)
    (h : ∀ (i : Nat) x cs, xs[i]? = some x → css[i]? = some cs → RC w own e x cs) : ∀ cs ∈ css, cs.length = e.csz := by
  intro cs hcs
  obtain ⟨i, hi, he⟩ := List.getElem_of_mem hcs
  exact (h i xs[i] cs (List.getElem?_eq_getElem (by omega)) (by rw [← he]; exact List.getElem?_eq_getElem hi)).len

theorem st_sum {shs : List Sh} {css : List (List Value)} {i : Nat} (hl : css.length = shs.length)
    (h : ∀ (j : Nat) s cs, shs[j]? = some s → css[j]? = some cs → cs.length = s.csz) : ((css.take i).map List.length).sum = Sh.cszs (shs.take i) := by
  rw [Sh.cszs_eq]
  congr 1
  apply List.ext_getElem?
  intro j
  rw [List.getElem?_map, List.getElem?_map, List.getElem?_take, List.getElem?_take]
  split
  · rcases hx : css[j]? with _ | x
    · rw [List.getElem?_eq_none_iff] at hx; rw [List.getElem?_eq_none (l := shs) (by omega)]; rfl
    · have hi : j < css.length := (List.getElem?_eq_some_iff.1 hx).1
      have h1 : shs[j]? = some shs[j] := List.getElem?_eq_getElem (by omega)
      rw [h1]; simp [h j _ x h1 hx]
  · rfl

theorem flat_drop {m : Nat} : ∀ {css : List (List Value)} (i : Nat), (∀ cs ∈ css, cs.length = m) → i ≤ css.length → (css.drop i).flatten = css.flatten.drop (i * m)
  | css, 0, _, _ => by simp
  | [], i + 1, _, hi => by simp at hi
  | c :: r, i + 1, h, hi => by
    rw [List.drop_succ_cons, flat_drop i (fun cs hc => h cs (by simp [hc])) (by simpa using hi), List.flatten_cons, Nat.succ_mul, Nat.add_comm, ← h c (by simp), List.drop_length_add_append]

theorem flat_take {m : Nat} : ∀ {css : List (List Value)} (i : Nat), (∀ cs ∈ css, cs.length = m) → i ≤ css.length → (css.take i).flatten = css.flatten.take (i * m)
  | css, 0, _, _ => by simp
  | [], i + 1, _, hi => by simp at hi
  | c :: r, i + 1, h, hi => by
    rw [List.take_succ_cons, List.flatten_cons, flat_take i (fun cs hc => h cs (by simp [hc])) (by simpa using hi), List.flatten_cons, Nat.succ_mul, Nat.add_comm, ← h c (by simp), List.take_length_add_append]

theorem RC.sub {N : Nat} {e : Sh} {xs : List D} {cs : List Value} (h : RC w own (.arr N e) (.arr N e xs) cs) {off n : Nat} (hle : off + n ≤ N) :
    RC w own (.arr n e) (.arr n e ((xs.drop off).take n)) ((cs.drop (off * e.csz)).take (n * e.csz)) := by
  cases h with
  | arr _ _ _ css hl hn h =>
    have hlen := arr_lens hl h
    rw [← flat_drop off hlen (by omega), ← flat_take n (fun c hc => hlen c (List.mem_of_mem_drop hc)) (by simp; omega)]
    refine .arr n e _ _ (by simp [hl]) (by simp; omega) fun i x c h1 h2 => ?_
    rw [List.getElem?_take, List.getElem?_drop] at h1 h2
    split at h1
    · rename_i hi
      rw [if_pos hi] at h2
      exact h _ x c h1 h2
    · cases h1

theorem st_lens {shs : List Sh} {xs : List D} {css : List (List Value)} (hl : css.length = xs.length)
    (h : ∀ (i : Nat) s x cs, shs[i]? = some s → xs[i]? = some x → css[i]? = some cs → RC w own s x cs) (j : Nat) (s : Sh) (cs : List Value) (h1 : shs[j]? = some s) (h2 : css[j]? = some cs) : cs.length = s.csz := by
  have hj := (List.getElem?_eq_some_iff.1 h2).1
  exact (h j s (xs[j]'(by omega)) cs h1 (List.getElem?_eq_getElem (by omega)) h2).len

theorem getD_sound {k : D → Prop} : ∀ (p : List Nat) {sh : Sh} {x : D} {cs : List Value}, RC w own sh x cs → getD p x k →
    ∃ y o s, k y ∧ poff sh p = some (o, s) ∧ RC w own s y ((cs.drop o).take s.csz) ∧ o + s.csz ≤ cs.length
  | [], sh, x, cs, hr, hg => by
    refine ⟨x, 0, sh, hg, rfl, ?_, ?_⟩
    · rw [List.drop_zero, ← hr.len, List.take_length]; exact hr
    · rw [hr.len]; omega
  | i :: p, sh, x, cs, hr, hg => by
    cases hr with
    | arr n e xs css hl hn h =>
      obtain ⟨y, hy, hg⟩ := onS_elim hg
      have hi : i < xs.length := (List.getElem?_eq_some_iff.1 hy).1
      have hc : css[i]? = some css[i] := List.getElem?_eq_getElem (by omega)
      obtain ⟨z, o, s, hk, hp, hz, hle⟩ := getD_sound p (h i y _ hy hc) hg
      obtain ⟨f1, f2⟩ := flat_get hc
      have hci := (h i y _ hy hc).len
      rw [sum_take_const (arr_lens hl h) (by omega)] at f1 f2
      refine ⟨z, i * e.csz + o, s, hk, ?_, ?_, ?_⟩
      · simp [poff, hp]; omega
      · rw [← slice_slice css.flatten (i * e.csz) css[i].length o s.csz hle, f1]; exact hz
      · omega
    | st shs xs css hl hs h =>
      obtain ⟨y, hy, hg⟩ := onS_elim hg
      have hi : i < xs.length := (List.getElem?_eq_some_iff.1 hy).1
      have hc : css[i]? = some css[i] := List.getElem?_eq_getElem (by omega)
      have hsi : shs[i]? = some shs[i] := List.getElem?_eq_getElem (by omega)
      obtain ⟨z, o, s, hk, hp, hz, hle⟩ := getD_sound p (h i _ y _ hsi hy hc) hg
      obtain ⟨f1, f2⟩ := flat_get hc
      rw [st_sum (shs := shs) (by omega) (st_lens hl h)] at f1 f2
      refine ⟨z, Sh.cszs (shs.take i) + o, s, hk, ?_, ?_, ?_⟩
      · simp [poff, hsi, hp]
      · rw [← slice_slice css.flatten _ css[i].length o s.csz hle, f1]; exact hz
      · omega
    | _ => exact hg.elim

theorem arr_set {n : Nat} {e : Sh} {xs : List D} {css : List (List Value)} {i : Nat} {y : D} {ys : List Value} (hl : css.length = xs.length) (hn : xs.length = n)
    (h : ∀ (i : Nat) x cs, xs[i]? = some x → css[i]? = some cs → RC w own e x cs) (hi : i < n) (hy : RC w own e y ys) :
    RC w own (.arr n e) (.arr n e (xs.set i y)) (css.flatten.take (i * e.csz) ++ ys ++ css.flatten.drop (i * e.csz + ys.length)) ∧ i * e.csz + ys.length ≤ css.flatten.length := by
  have hc : css[i]? = some css[i] := List.getElem?_eq_getElem (by omega)
  have hx : xs[i]? = some xs[i] := List.getElem?_eq_getElem (by omega)
  have hlen : css[i].length = ys.length := by rw [(h i _ _ hx hc).len, hy.len]
  have f := flat_set (ds := ys) hc
  have g := (flat_get hc).2
  rw [sum_take_const (arr_lens hl h) (by omega), hlen] at f g
  refine ⟨?_, g⟩
  rw [← f]
  refine .arr n e _ _ (by simp [hl]) (by simp [hn]) fun j x cs h1 h2 => ?_
  rw [List.getElem?_set] at h1 h2
  split at h1
  · rename_i hij
    rw [if_pos hij] at h2
    split at h1 <;> cases h1
    split at h2 <;> cases h2
    exact hy
  · rename_i hij
    rw [if_neg hij] at h2
    exact h j x cs h1 h2

theorem st_set {shs : List Sh} {xs : List D} {css : List (List Value)} {i : Nat} {s : Sh} {y : D} {ys : List Value} (hl : css.length = xs.length) (hs : shs.length = xs.length)
    (h : ∀ (i : Nat) s x cs, shs[i]? = some s → xs[i]? = some x → css[i]? = some cs → RC w own s x cs) (hi : shs[i]? = some s) (hy : RC w own s y ys) :
    RC w own (.st shs) (.st (xs.set i y)) (css.flatten.take (Sh.cszs (shs.take i)) ++ ys ++ css.flatten.drop (Sh.cszs (shs.take i) + ys.length)) ∧ Sh.cszs (shs.take i) + ys.length ≤ css.flatten.length := by
  have hil := (List.getElem?_eq_some_iff.1 hi).1
  have hc : css[i]? = some css[i] := List.getElem?_eq_getElem (by omega)
  have hx : xs[i]? = some xs[i] := List.getElem?_eq_getElem (by omega)
  have hlen : css[i].length = ys.length := by rw [(h i _ _ _ hi hx hc).len, hy.len]
  have f := flat_set (ds := ys) hc
  have g := (flat_get hc).2
  rw [st_sum (shs := shs) (by omega) (st_lens hl h), hlen] at f g
  refine ⟨?_, g⟩
  rw [← f]
  refine .st shs _ _ (by simp [hl]) (by simp [hs]) fun j s' x cs h0 h1 h2 => ?_
  rw [List.getElem?_set] at h1 h2
  split at h1
  · rename_i hij
    rw [if_pos hij] at h2
    split at h1 <;> cases h1
    split at h2 <;> cases h2
    subst hij; rw [hi] at h0; cases h0
    exact hy
  · rename_i hij
    rw [if_neg hij] at h2
    exact h j s' x cs h0 h1 h2

theorem setD_sound {k : D → Prop} {y : D} {ys : List Value} (hy : RC w own y.sh y ys) : ∀ (p : List Nat) {sh : Sh} {x : D} {cs : List Value}, RC w own sh x cs → setD p y x k →
    ∃ z o, k z ∧ poff sh p = some (o, y.sh) ∧ RC w own sh z (cs.take o ++ ys ++ cs.drop (o + ys.length)) ∧ o + ys.length ≤ cs.length
  | [], sh, x, cs, hr, hg => by
    obtain ⟨he, hk⟩ := onT_elim hg
    have e1 := Sh.beq_eq _ _ he
    rw [hr.sh_eq] at e1
    subst e1
    refine ⟨y, 0, hk, rfl, ?_, ?_⟩
    · rw [List.take_zero, List.nil_append, Nat.zero_add, hy.len, ← hr.len, List.drop_length, List.append_nil]; exact hy
    · rw [hr.len, hy.len]; omega
  | [i], sh, x, cs, hr, hg => by
    cases hr with
    | arr n e xs css hl hn h =>
      obtain ⟨h1, hg⟩ := onT_elim hg
      obtain ⟨he, hk⟩ := onT_elim hg
      have e1 := Sh.beq_eq _ _ he
      subst e1
      have hi : i < n := by simpa using h1
      obtain ⟨r1, r2⟩ := arr_set hl hn h hi hy
      exact ⟨_, i * y.sh.csz, hk, by simp [poff, hi], r1, r2⟩
    | st shs xs css hl hs h =>
      obtain ⟨z, hz, hg⟩ := onS_elim hg
      have hi : i < xs.length := (List.getElem?_eq_some_iff.1 hz).1
      have hc : css[i]? = some css[i] := List.getElem?_eq_getElem (by omega)
      have hsi : shs[i]? = some shs[i] := List.getElem?_eq_getElem (by omega)
      obtain ⟨u, o, hk, hp, hu, hle⟩ := setD_sound hy [] (h i _ z _ hsi hz hc) hg
      simp only [poff, Option.some.injEq, Prod.mk.injEq] at hp
      obtain ⟨rfl, hp⟩ := hp
      have hl2 : css[i].length = ys.length := by rw [(h i _ z _ hsi hz hc).len, hp, hy.len]
      rw [List.take_zero, List.nil_append, Nat.zero_add, ← hl2, List.drop_length, List.append_nil] at hu
      obtain ⟨r1, r2⟩ := st_set hl hs h hsi hu
      exact ⟨_, Sh.cszs (shs.take i), hk, by simp [poff, hsi, hp], r1, r2⟩
    | _ => exact hg.elim
  | i :: j :: p, sh, x, cs, hr, hg => by
    cases hr with
    | arr n e xs css hl hn h =>
      obtain ⟨z, hz, hg⟩ := onS_elim hg
      have hi : i < xs.length := (List.getElem?_eq_some_iff.1 hz).1
      have hc : css[i]? = some css[i] := List.getElem?_eq_getElem (by omega)
      obtain ⟨u, o, hk, hp, hu, hle⟩ := setD_sound hy (j :: p) (h i z _ hz hc) hg
      obtain ⟨r1, r2⟩ := arr_set (i := i) hl hn h (by omega) hu
      obtain ⟨f1, f2⟩ := flat_get hc
      rw [sum_take_const (arr_lens hl h) (by omega)] at f1 f2
      refine ⟨_, i * e.csz + o, hk, ?_, ?_, by omega⟩
      · simp [poff] at hp ⊢; exact ⟨by omega, by rw [hp]⟩
      · have hlen : (css[i].take o ++ ys ++ css[i].drop (o + ys.length)).length = css[i].length := by simp only [List.length_append, List.length_take, List.length_drop]; omega
        rw [hlen] at r1
        have := splice_splice css.flatten ys (i * e.csz) css[i].length o hle
        rw [f1] at this
        rw [← this]; exact r1
    | st shs xs css hl hs h =>
      obtain ⟨z, hz, hg⟩ := onS_elim hg
      have hi : i < xs.length := (List.getElem?_eq_some_iff.1 hz).1
      have hc : css[i]? = some css[i] := List.getElem?_eq_getElem (by omega)
      have hsi : shs[i]? = some shs[i] := List.getElem?_eq_getElem (by omega)
      obtain ⟨u, o, hk, hp, hu, hle⟩ := setD_sound hy (j :: p) (h i _ z _ hsi hz hc) hg
      obtain ⟨r1, r2⟩ := st_set hl hs h hsi hu
      obtain ⟨f1, f2⟩ := flat_get hc
      rw [st_sum (shs := shs) (by omega) (st_lens hl h)] at f1 f2
      refine ⟨_, Sh.cszs (shs.take i) + o, hk, ?_, ?_, by omega⟩
      · simp [poff, hsi] at hp ⊢; rw [hp]
      · have hlen : (css[i].take o ++ ys ++ css[i].drop (o + ys.length)).length = css[i].length := by simp only [List.length_append, List.length_take, List.length_drop]; omega
        rw [hlen] at r1
        have := splice_splice css.flatten ys (Sh.cszs (shs.take i)) css[i].length o hle
        rw [f1] at this
        rw [← this]; exact r1
    | _ => exact hg.elim
end

theorem RC.arr_inv {w : World} {own : Nat → Prop} {sh : Sh} {n : Nat} {e : Sh} {xs : List D} {cs : List Value} (h : RC w own sh (.arr n e xs) cs) : xs.length = n ∧ sh = .arr n e := by
  cases h with
  | arr _ _ _ css hl hn h => exact ⟨hn, rfl⟩

theorem getD_lin {k : D → Prop} : ∀ (p : List Nat) (x : D), getD p x k → ∃ y, k y ∧ getD p x fun z => z = y
  | [], x, h => ⟨x, h, rfl⟩
  | i :: p, x, h => by
    cases x with
    | arr n e xs =>
      obtain ⟨y, hy, h⟩ := onS_elim h
      obtain ⟨z, hz, h'⟩ := getD_lin p y h
      exact ⟨z, hz, onS_intro hy h'⟩
    | st xs =>
      obtain ⟨y, hy, h⟩ := onS_elim h
      obtain ⟨z, hz, h'⟩ := getD_lin p y h
      exact ⟨z, hz, onS_intro hy h'⟩
    | _ => exact h.elim

theorem getD_mono {k k' : D → Prop} : ∀ (p : List Nat) (x : D), (∀ y, k y → k' y) → getD p x k → getD p x k'
  | [], x, hk, h => hk x h
  | i :: p, x, hk, h => by
    cases x with
    | arr n e xs => obtain ⟨y, hy, h⟩ := onS_elim h; exact onS_intro hy (getD_mono p y hk h)
    | st xs => obtain ⟨y, hy, h⟩ := onS_elim h; exact onS_intro hy (getD_mono p y hk h)
    | _ => exact h.elim

theorem getV_lin {k : V → Prop} : ∀ (p : List Nat) (v : V), getV p v k → ∃ y, k y ∧ getV p v fun z => z = y
  | [], v, h => ⟨v, h, rfl⟩
  | i :: p, v, h => by
    cases v with
    | d x =>
      obtain ⟨y, hy, h'⟩ := getD_lin (i :: p) x h
      refine ⟨.d y, hy, ?_⟩
      clear h hy
      exact getD_mono (i :: p) x (fun z hz => by rw [hz]) h'
    | st xs =>
      obtain ⟨y, hy, h⟩ := onS_elim h
      obtain ⟨z, hz, h'⟩ := getV_lin p y h
      exact ⟨z, hz, onS_intro hy h'⟩
    | _ => exact h.elim

section
variable {w : World} {m : M} {H : Heap}

theorem RCV.of_d {sh : Sh} {x : D} {cs : List Value} (h : RCV w m H sh (.d x) cs) : RC w (Own m H) sh x cs := by cases h; assumption

theorem RCV.st_lens {shs : List Sh} {xs : List V} {css : List (List Value)} (hl : css.length = xs.length)
    (h : ∀ (i : Nat) s x cs, shs[i]? = some s → xs[i]? = some x → css[i]? = some cs → RCV w m H s x cs) (j : Nat) (s : Sh) (cs : List Value) (h1 : shs[j]? = some s) (h2 : css[j]? = some cs) : cs.length = s.csz := by
  have hj := (List.getElem?_eq_some_iff.1 h2).1
  exact (h j s (xs[j]'(by omega)) cs h1 (List.getElem?_eq_getElem (by omega)) h2).len

theorem getV_sound {k : V → Prop} : ∀ (p : List Nat) {sh : Sh} {v : V} {cs : List Value}, RCV w m H sh v cs → getV p v k →
    ∃ u o s, k u ∧ poff sh p = some (o, s) ∧ RCV w m H s u ((cs.drop o).take s.csz) ∧ o + s.csz ≤ cs.length
  | [], sh, v, cs, hr, hg => by
    refine ⟨v, 0, sh, hg, rfl, ?_, ?_⟩
    · rw [List.drop_zero, ← hr.len, List.take_length]; exact hr
    · rw [hr.len]; omega
  | i :: p, sh, v, cs, hr, hg => by
    cases hr with
    | d sh x cs h =>
      obtain ⟨y, o, s, hk, hp, hy, hle⟩ := getD_sound (i :: p) h hg
      exact ⟨.d y, o, s, hk, hp, .d _ _ _ hy, hle⟩
    | st shs xs css hl hs h =>
      obtain ⟨y, hy, hg⟩ := onS_elim hg
      have hi : i < xs.length := (List.getElem?_eq_some_iff.1 hy).1
      have hc : css[i]? = some css[i] := List.getElem?_eq_getElem (by omega)
      have hsi : shs[i]? = some shs[i] := List.getElem?_eq_getElem (by omega)
      obtain ⟨z, o, s, hk, hp, hz, hle⟩ := getV_sound p (h i _ y _ hsi hy hc) hg
      obtain ⟨f1, f2⟩ := flat_get hc
      rw [st_sum (shs := shs) (by omega) (RCV.st_lens hl h)] at f1 f2
      refine ⟨z, Sh.cszs (shs.take i) + o, s, hk, ?_, ?_, ?_⟩
      · simp [poff, hsi, hp]
      · rw [← slice_slice css.flatten _ css[i].length o s.csz hle, f1]; exact hz
      · omega
    | _ => exact hg.elim

theorem allD_some : ∀ {l : List V} {ds : List D}, allD l = some ds → l = ds.map V.d
  | [], ds, h => by simp [allD] at h; subst h; rfl
  | .d x :: l, ds, h => by
    simp only [allD, Option.map_eq_some_iff] at h
    obtain ⟨e, he, rfl⟩ := h
    rw [allD_some he]; rfl
  | .st _ :: l, ds, h => by simp [allD] at h
  | .tup _ :: l, ds, h => by simp [allD] at h
  | .sl .. :: l, ds, h => by simp [allD] at h
  | .sub .. :: l, ds, h => by simp [allD] at h
  | .sa .. :: l, ds, h => by simp [allD] at h
  | .ptr .. :: l, ds, h => by simp [allD] at h
  | .parr .. :: l, ds, h => by simp [allD] at h
  | .rop _ :: l, ds, h => by simp [allD] at h
  | .any :: l, ds, h => by simp [allD] at h

theorem RCV.mkSt {shs : List Sh} {l : List V} {cs : List Value} (h : RCV w m H (.st shs) (.st l) cs) : RCV w m H (.st shs) (Fw.mkSt l) cs := by
  unfold Fw.mkSt
  split
  · rename_i ds hd
    have := allD_some hd
    subst this
    cases h with
    | st _ _ css hl hs h =>
      refine .d _ _ _ (.st shs ds css (by simpa using hl) (by simpa using hs) fun i s x cs h1 h2 h3 => ?_)
      exact (h i s (.d x) cs h1 (by simp [h2]) h3).of_d
  · exact h

theorem mkSt_sh (l : List V) : (mkSt l).sh = .st (V.shs l) := by
  unfold mkSt
  split
  · rename_i ds hd
    rw [allD_some hd]
    simp [V.sh, D.sh, D.shs_eq, V.shs_eq, Function.comp_def]
  · rfl

theorem stV_set {shs : List Sh} {xs : List V} {css : List (List Value)} {i : Nat} {s : Sh} {y : V} {ys : List Value} (hl : css.length = xs.length) (hs : shs.length = xs.length)
    (h : ∀ (i : Nat) s x cs, shs[i]? = some s → xs[i]? = some x → css[i]? = some cs → RCV w m H s x cs) (hi : shs[i]? = some s) (hy : RCV w m H s y ys) :
    RCV w m H (.st shs) (.st (xs.set i y)) (css.flatten.take (Sh.cszs (shs.take i)) ++ ys ++ css.flatten.drop (Sh.cszs (shs.take i) + ys.length)) ∧ Sh.cszs (shs.take i) + ys.length ≤ css.flatten.length := by
  have hil := (List.getElem?_eq_some_iff.1 hi).1
  have hc : css[i]? = some css[i] := List.getElem?_eq_getElem (by omega)
  have hx : xs[i]? = some xs[i] := List.getElem?_eq_getElem (by omega)
  have hlen : css[i].length = ys.length := by rw [(h i _ _ _ hi hx hc).len, hy.len]
  have f := flat_set (ds := ys) hc
  have g := (flat_get hc).2
  rw [st_sum (shs := shs) (by omega) (RCV.st_lens hl h), hlen] at f g
  refine ⟨?_, g⟩
  rw [← f]
  refine .st shs _ _ (by simp [hl]) (by simp [hs]) fun j s' x cs h0 h1 h2 => ?_
  rw [List.getElem?_set] at h1 h2
  split at h1
  · rename_i hij
    rw [if_pos hij] at h2
    split at h1 <;> cases h1
    split at h2 <;> cases h2
    subst hij; rw [hi] at h0; cases h0
    exact hy
  · rename_i hij
    rw [if_neg hij] at h2
    exact h j s' x cs h0 h1 h2

/-- The struct case of setV, for parts that are values. -/
theorem setV_st {k : V → Prop} {u : V} {ys : List Value} {i : Nat} {p : List Nat} {shs : List Sh} {xs : List V} {css : List (List Value)} {z z' : V} {o : Nat} (hl : css.length = xs.length) (hs : shs.length = xs.length)
    (h : ∀ (i : Nat) s x cs, shs[i]? = some s → xs[i]? = some x → css[i]? = some cs → RCV w m H s x cs) (hz : xs[i]? = some z)
    (hk : k (mkSt (xs.set i z'))) (hp : ∀ s c, shs[i]? = some s → css[i]? = some c → poff s p = some (o, u.sh) ∧ RCV w m H s z' (c.take o ++ ys ++ c.drop (o + ys.length)) ∧ o + ys.length ≤ c.length) :
    ∃ z o, k z ∧ poff (.st shs) (i :: p) = some (o, u.sh) ∧ RCV w m H (.st shs) z (css.flatten.take o ++ ys ++ css.flatten.drop (o + ys.length)) ∧ o + ys.length ≤ css.flatten.length := by
  have hi : i < xs.length := (List.getElem?_eq_some_iff.1 hz).1
  have hc : css[i]? = some css[i] := List.getElem?_eq_getElem (by omega)
  have hsi : shs[i]? = some shs[i] := List.getElem?_eq_getElem (by omega)
  obtain ⟨hp, hu, hle⟩ := hp _ _ hsi hc
  obtain ⟨r1, r2⟩ := stV_set hl hs h hsi hu
  obtain ⟨f1, f2⟩ := flat_get hc
  rw [st_sum (shs := shs) (by omega) (RCV.st_lens hl h)] at f1 f2
  refine ⟨_, Sh.cszs (shs.take i) + o, hk, ?_, ?_, by omega⟩
  · simp [poff, hsi, hp]
  · have hlen : (css[i].take o ++ ys ++ css[i].drop (o + ys.length)).length = css[i].length := by simp only [List.length_append, List.length_take, List.length_drop]; omega
    rw [hlen] at r1
    have := splice_splice css.flatten ys (Sh.cszs (shs.take i)) css[i].length o hle
    rw [f1] at this
    rw [← this]; exact r1.mkSt

theorem setV_ds {k : V → Prop} {u : V} {i : Nat} {p : List Nat} {xs : List D} (hu : ∀ y, u ≠ .d y) :
    setV (i :: p) u (.d (.st xs)) k = onS xs[i]? fun x => setV p u (.d x) fun z => k (mkSt ((xs.map V.d).set i z)) := by
  cases u <;> first | rfl | exact absurd rfl (hu _)

theorem setV_s {k : V → Prop} {u : V} {i : Nat} {p : List Nat} {xs : List V} :
    setV (i :: p) u (.st xs) k = onS xs[i]? fun x => setV p u x fun z => k (mkSt (xs.set i z)) := by
  cases u <;> rfl

theorem setV_d {k : V → Prop} {u : V} {i : Nat} {p : List Nat} {x : D} (hu : ∀ y, u ≠ .d y) (hx : ∀ xs, x ≠ .st xs) : setV (i :: p) u (.d x) k = False := by
  cases u <;> first | exact absurd rfl (hu _) | (cases x <;> first | rfl | exact absurd rfl (hx _))

theorem setV_sound {k : V → Prop} {u : V} {ys : List Value} (hu : RCV w m H u.sh u ys) : ∀ (p : List Nat) {sh : Sh} {v : V} {cs : List Value}, RCV w m H sh v cs → setV p u v k →
    ∃ z o, k z ∧ poff sh p = some (o, u.sh) ∧ RCV w m H sh z (cs.take o ++ ys ++ cs.drop (o + ys.length)) ∧ o + ys.length ≤ cs.length
  | [], sh, v, cs, hr, hg => by
    obtain ⟨he, hk⟩ := onT_elim hg
    have e1 := Sh.beq_eq _ _ he
    rw [hr.sh_eq] at e1
    subst e1
    refine ⟨u, 0, hk, rfl, ?_, ?_⟩
    · rw [List.take_zero, List.nil_append, Nat.zero_add, hu.len, ← hr.len, List.drop_length, List.append_nil]; exact hu
    · rw [hr.len, hu.len]; omega
  | i :: p, sh, v, cs, hr, hg => by
    cases hr with
    | d sh x cs h =>
      by_cases hy : ∃ y, u = .d y
      · obtain ⟨y, rfl⟩ := hy
        obtain ⟨z, o, hk, hp, hz, hle⟩ := setD_sound hu.of_d (i :: p) h hg
        exact ⟨.d z, o, hk, hp, .d _ _ _ hz, hle⟩
      · have hu' : ∀ y, u ≠ .d y := fun y e => hy ⟨y, e⟩
        by_cases hx : ∃ xs, x = .st xs
        · obtain ⟨xs, rfl⟩ := hx
          rw [setV_ds hu'] at hg
          cases h with
          | st shs xs css hl hs h =>
            obtain ⟨x, hx, hg⟩ := onS_elim hg
            have hi : i < xs.length := (List.getElem?_eq_some_iff.1 hx).1
            have hc : css[i]? = some css[i] := List.getElem?_eq_getElem (by omega)
            have hsi : shs[i]? = some shs[i] := List.getElem?_eq_getElem (by omega)
            obtain ⟨z, o, hk, hp, hz, hle⟩ := setV_sound hu p (RCV.d _ _ _ (h i _ x _ hsi hx hc)) hg
            refine setV_st (o := o) (xs := xs.map V.d) (by simpa using hl) (by simpa using hs) (fun i s x cs h1 h2 h3 => ?_) (by rw [List.getElem?_map, hx]; rfl) hk (fun s c h1 h2 => ?_)
            · rw [List.getElem?_map, Option.map_eq_some_iff] at h2
              obtain ⟨y, hy, rfl⟩ := h2
              exact .d _ _ _ (h i s y cs h1 hy h3)
            · rw [hsi] at h1; rw [hc] at h2; cases h1; cases h2; exact ⟨hp, hz, hle⟩
        · rw [setV_d hu' (fun xs e => hx ⟨xs, e⟩)] at hg; exact hg.elim
    | st shs xs css hl hs h =>
      rw [setV_s] at hg
      obtain ⟨x, hx, hg⟩ := onS_elim hg
      have hi : i < xs.length := (List.getElem?_eq_some_iff.1 hx).1
      have hc : css[i]? = some css[i] := List.getElem?_eq_getElem (by omega)
      have hsi : shs[i]? = some shs[i] := List.getElem?_eq_getElem (by omega)
      obtain ⟨z, o, hk, hp, hz, hle⟩ := setV_sound hu p (h i _ x _ hsi hx hc) hg
      refine setV_st (o := o) hl hs h hx hk (fun s c h1 h2 => ?_)
      rw [hsi] at h1; rw [hc] at h2; cases h1; cases h2; exact ⟨hp, hz, hle⟩
    | _ => exact False.elim (by cases u <;> exact hg)
end

end Go.Fw

/-
The relation between a state of the abstract machine and the program's own state, and how it lives through new blocks, stores and kills. No conditions.
-/
namespace Go.Fw
set_option linter.unusedVariables false
set_option linter.unusedSimpArgs false
open Go.RowKit

def Row (w : World) (k : Nat) (cur : Array Value) : Prop := ∃ t, w.heap[k]? = some (.cells cur t (0, 0))

theorem Row.lt {w : World} {k : Nat} {cur : Array Value} (h : Row w k cur) : k < w.heap.size := by
  obtain ⟨t, h⟩ := h
  exact (Array.getElem?_eq_some_iff.1 h).1

theorem Row.cell {w : World} {k : Nat} {cur : Array Value} (h : Row w k cur) (j : Nat) : w.cell? ⟨k, j, none⟩ = cur[j]? := by
  obtain ⟨t, h⟩ := h
  exact cell_of_row w k j cur t (0, 0) h

theorem Row.inj {w : World} {k : Nat} {a b : Array Value} (h : Row w k a) (h' : Row w k b) : a = b := by
  obtain ⟨t, h⟩ := h
  obtain ⟨t', h'⟩ := h'
  rw [h] at h'; cases h'; rfl

/-- An own block lies in memory as it should. -/
inductive BlkOK (w : World) (m : M) (H : Heap) (b : Nat) : Blk → Prop
  | fix (v : V) (k cap : Nat) (cur : Array Value) (hi : m.ι b = some (k, cap)) (hr : Row w k cur) (hv : RCV w m H v.sh v cur.toList) : BlkOK w m H b (.fix v)
  | none (ver : Nat) (e : Sh) (hi : m.ι b = none) : BlkOK w m H b (.grow ver e [])
  | grow (ver : Nat) (e : Sh) (xs : List D) (k cap : Nat) (cur : Array Value) (css : List (List Value)) (hi : m.ι b = some (k, cap)) (hr : Row w k cur) (hs : cur.size = cap * e.csz)
      (hc : xs.length ≤ cap) (hm : cap ≤ maxLen) (hl : css.length = xs.length) (h : ∀ (i : Nat) x cs, xs[i]? = some x → css[i]? = some cs → RC w (Own m H) e x cs)
      (ht : cur.toList.take (xs.length * e.csz) = css.flatten) : BlkOK w m H b (.grow ver e xs)

structure HeapOK (cx : Cx) (B : Nat) (w : World) (m : M) (H : Heap) : Prop where
  blk : ∀ b x, live H b x → BlkOK w m H b x
  inj : ∀ b b' x x' k c c', live H b x → live H b' x' → m.ι b = some (k, c) → m.ι b' = some (k, c') → b = b'
  lo : ∀ b x k c, live H b x → m.ι b = some (k, c) → B ≤ k
  lt : ∀ b, m.born b → b < H.length
  born : ∀ b x, live H b x → m.born b
  glob : GOK cx w (Own m H)
  far : ∀ k, m.far k → k < B
  size : B ≤ w.heap.size

/-- A value of the program's own stands for one of ours. -/
inductive RV (w : World) (m : M) (H : Heap) : V → Value → Prop
  | one (v : V) (cs : List Value) (h : RCV w m H v.sh v cs) : RV w m H v (pack v.sh cs)
  | tup (xs : List V) (cs : List Value) (hl : cs.length = xs.length) (h : ∀ (i : Nat) x c, xs[i]? = some x → cs[i]? = some c → RV w m H x c) : RV w m H (.tup xs) (.tuple cs.toArray)
  | dtup (xs : List D) (cs : List Value) (hl : cs.length = xs.length) (h : ∀ (i : Nat) x c, xs[i]? = some x → cs[i]? = some c → RD1 w (Own m H) x c) : RV w m H (.d (.tup xs)) (.tuple cs.toArray)
  | any (c : Value) : RV w m H .any c

theorem RD1.mono {w w' : World} {own own' : Nat → Prop} (hk : ∀ a c, w.cell? a = some c → ¬ own a.block → w'.cell? a = some c ∧ ¬ own' a.block)
    {x : D} {c : Value} (h : RD1 w own x c) : RD1 w' own' x c := by
  obtain ⟨cells, h1, h2⟩ := h
  exact ⟨cells, h1.mono hk, h2⟩

theorem RV.keep {w w' : World} {m m' : M} {H H' : Heap} (hk : Keep w m H w' m' H') {v : V} {c : Value} (h : RV w m H v c) : RV w' m' H' v c := by
  induction h with
  | one v cs h => exact .one v cs (h.keep hk)
  | tup xs cs hl h ih => exact .tup xs cs hl ih
  | dtup xs cs hl h => exact .dtup xs cs hl fun i x c h1 h2 => (h i x c h1 h2).mono hk.cell
  | any c => exact .any c

theorem live_set {H : Heap} {b : Nat} {x : Option Blk} {b' : Nat} {y : Blk} (h : live (H.set b x) b' y) : (b' = b ∧ x = some y) ∨ (b' ≠ b ∧ live H b' y) := by
  unfold live at h
  rw [List.getElem?_set] at h
  split at h
  · rename_i e
    split at h
    · cases h; exact .inl ⟨e.symm, rfl⟩
    · cases h
  · rename_i e
    exact .inr ⟨fun e' => e e'.symm, h⟩

theorem live_set_self {H : Heap} {b : Nat} {x : Blk} (hb : b < H.length) : live (H.set b (some x)) b x := by
  unfold live; simp [hb]

theorem live_set_ne {H : Heap} {b b' : Nat} {x : Option Blk} {y : Blk} (hne : b' ≠ b) (h : live H b' y) : live (H.set b x) b' y := by
  unfold live at *
  rw [List.getElem?_set, if_neg (fun e => hne e.symm)]; exact h

theorem live_lt {H : Heap} {b : Nat} {x : Blk} (h : live H b x) : b < H.length := (List.getElem?_eq_some_iff.1 h).1

theorem live_inj {H : Heap} {b : Nat} {x y : Blk} (h : live H b x) (h' : live H b y) : x = y := by
  unfold live at *; rw [h] at h'; cases h'; rfl

theorem cell_lt {w : World} {a : Addr} {c : Value} (h : w.cell? a = some c) : a.block < w.heap.size := by
  unfold World.cell? at h
  split at h
  · rename_i e; exact (Array.getElem?_eq_some_iff.1 e).1
  · cases h

theorem GOK.mono {cx : Cx} {w w' : World} {own own' : Nat → Prop} (h : GOK cx w own) (hk : ∀ a c, w.cell? a = some c → ¬ own a.block → w'.cell? a = some c ∧ ¬ own' a.block) (hg : ∀ g x, cx.G g = some x → ¬ own g → ¬ own' g) : GOK cx w' own' := by
  intro g x hgx
  obtain ⟨hB, hp, cells, h1, h2⟩ := h g x hgx
  exact ⟨hg g x hgx hB, hp, cells, h1.mono hk, fun j c hc => (hk _ _ (h2 j c hc) hB).1⟩

theorem GOK.keep {cx : Cx} {w w' : World} {m m' : M} {H H' : Heap} (h : GOK cx w (Own m H)) (hk : Keep w m H w' m' H') : GOK cx w' (Own m' H') := by
  refine h.mono hk.cell fun g x hg hn => ?_
  obtain ⟨_, hpos, cells, h1, h2⟩ := h g x hg
  have hl := h1.len
  have hc := h2 0 (cells[0]'(by omega)) (List.getElem?_eq_getElem (by omega))
  exact (hk.cell _ _ hc hn).2

section
variable {cx : Cx} {B : Nat} {w : World} {m : M} {H : Heap}

theorem BlkOK.keep {w' : World} {m' : M} {H' : Heap} (hk : Keep w m H w' m' H') {b : Nat} {x : Blk} (h : BlkOK w m H b x) (hi : m'.ι b = m.ι b)
    (hr : ∀ k cap cur, m.ι b = some (k, cap) → Row w k cur → Row w' k cur) : BlkOK w' m' H' b x := by
  cases h with
  | fix v k cap cur h1 h2 h3 => exact .fix v k cap cur (hi.trans h1) (hr k cap cur h1 h2) (h3.keep hk)
  | none ver e h1 => exact .none ver e (hi.trans h1)
  | grow ver e xs k cap cur css h1 h2 h3 h4 h5 h6 h7 h8 =>
    exact .grow ver e xs k cap cur css (hi.trans h1) (hr k cap cur h1 h2) h3 h4 h5 h6 (fun i x cs a b => (h7 i x cs a b).mono hk.cell) h8

theorem cell_alloc {a : Addr} {c : Value} {o : Obj} (h : w.cell? a = some c) : (w.alloc o).cell? a = some c := by
  rw [World.cell?_alloc_lt w o a (cell_lt h)]; exact h

/-- The map of own blocks with one more. -/
def M.add (m : M) (b k cap : Nat) : M := ⟨fun i => if i = b then some (k, cap) else m.ι i, fun i => i = b ∨ m.born i, m.far⟩

theorem keep_new {b : Nat} {x : Blk} {o : Obj} (hb : ¬ m.born b) (cap : Nat) : Keep w m H (w.alloc o) (m.add b w.heap.size cap) (H.set b (some x)) := by
  refine ⟨fun a c h1 h2 => ⟨cell_alloc h1, ?_⟩, fun i hi => .inr hi, fun i hi y hy => ?_, fun _ h => h⟩
  · rintro (hfar | ⟨i, y, cp, hl, hi⟩)
    · exact h2 (.inl hfar)
    have hne : i ≠ b := by
      rintro rfl
      simp only [M.add, if_true, Option.some.injEq, Prod.mk.injEq] at hi
      have := cell_lt h1
      omega
    rcases live_set hl with ⟨e, _⟩ | ⟨_, hl⟩
    · exact hne e
    · simp only [M.add, if_neg hne] at hi
      exact h2 (.inr ⟨i, y, cp, hl, hi⟩)
  · have hne : i ≠ b := by rintro rfl; exact hb hi
    rcases live_set hy with ⟨e, _⟩ | ⟨_, hl⟩
    · exact absurd e hne
    · refine ⟨y, hl, ?_⟩
      have hi : (m.add b w.heap.size cap).ι i = m.ι i := by simp [M.add, hne]
      cases y
      · exact .fix _ _ rfl hi
      · exact .grow _ _ _ _ rfl hi

theorem row_alloc {k : Nat} {cur : Array Value} {o : Obj} (h : Row w k cur) : Row (w.alloc o) k cur := by
  obtain ⟨t, ht⟩ := h
  exact ⟨t, by rw [Below.heap_alloc w o k (Array.getElem?_eq_some_iff.1 ht).1]; exact ht⟩

theorem heap_new (h : HeapOK cx B w m H) {b : Nat} {x : Blk} {o : Obj} {cap : Nat} (hb : ¬ m.born b) (hlt : b < H.length)
    (hx : BlkOK (w.alloc o) (m.add b w.heap.size cap) (H.set b (some x)) b x) : HeapOK cx B (w.alloc o) (m.add b w.heap.size cap) (H.set b (some x)) := by
  have hk : Keep w m H (w.alloc o) (m.add b w.heap.size cap) (H.set b (some x)) := keep_new hb cap
  have hlts : ∀ i y k c, live H i y → m.ι i = some (k, c) → k < w.heap.size := by
    intro i y k c hl hi
    cases h.blk i y hl with
    | fix v k' cap' cur h1 h2 h3 => rw [hi] at h1; cases h1; exact h2.lt
    | none ver e h1 => rw [hi] at h1; cases h1
    | grow ver e xs k' cap' cur css h1 h2 => rw [hi] at h1; cases h1; exact h2.lt
  refine ⟨fun i y hy => ?_, fun i i' y y' k c c' hy hy' hi hi' => ?_, fun i y k c hy hi => ?_, fun i hi => ?_, fun i y hy => ?_, h.glob.keep hk, h.far, ?_⟩
  · rcases live_set hy with ⟨rfl, e⟩ | ⟨hne, hl⟩
    · cases e; exact hx
    · exact (h.blk i y hl).keep hk (by simp [M.add, hne]) fun k cap cur _ hr => row_alloc hr
  · rcases live_set hy with ⟨e1, _⟩ | ⟨n1, l1⟩ <;> rcases live_set hy' with ⟨e2, _⟩ | ⟨n2, l2⟩
    · exact e1.trans e2.symm
    · simp only [M.add, e1, if_true, Option.some.injEq, Prod.mk.injEq, if_neg n2] at hi hi'
      have := hlts _ _ _ _ l2 hi'; omega
    · simp only [M.add, e2, if_true, Option.some.injEq, Prod.mk.injEq, if_neg n1] at hi hi'
      have := hlts _ _ _ _ l1 hi; omega
    · simp only [M.add, if_neg n1, if_neg n2] at hi hi'
      exact h.inj i i' y y' k c c' l1 l2 hi hi'
  · rcases live_set hy with ⟨e1, _⟩ | ⟨n1, l1⟩
    · simp only [M.add, e1, if_true, Option.some.injEq, Prod.mk.injEq] at hi
      have := h.size; omega
    · simp only [M.add, if_neg n1] at hi
      exact h.lo i y k c l1 hi
  · rw [List.length_set]
    rcases hi with rfl | hi
    · exact hlt
    · exact h.lt i hi
  · rcases live_set hy with ⟨e1, _⟩ | ⟨n1, l1⟩
    · exact .inl e1
    · exact .inr (h.born i y l1)
  · have := h.size; simp; omega

/-- A growing block moves to a new place. -/
theorem keep_re {b ver ver' : Nat} {e e' : Sh} {xs xs' : List D} {o : Obj} (hl : live H b (.grow ver e xs)) (hv : ver < ver') (cap : Nat) : Keep w m H (w.alloc o) (m.add b w.heap.size cap) (H.set b (some (.grow ver' e' xs'))) := by
  refine ⟨fun a c h1 h2 => ⟨cell_alloc h1, ?_⟩, fun i hi => .inr hi, fun i hi y hy => ?_, fun _ h => h⟩
  · rintro (hfar | ⟨i, y, cp, hl', hi⟩)
    · exact h2 (.inl hfar)
    have hne : i ≠ b := by
      rintro rfl
      simp only [M.add, if_true, Option.some.injEq, Prod.mk.injEq] at hi
      have := cell_lt h1
      omega
    rcases live_set hl' with ⟨e, _⟩ | ⟨_, hl'⟩
    · exact hne e
    · simp only [M.add, if_neg hne] at hi
      exact h2 (.inr ⟨i, y, cp, hl', hi⟩)
  · rcases live_set hy with ⟨rfl, e⟩ | ⟨hne, hl'⟩
    · cases e; exact ⟨_, hl, .later _ _ _ _ _ _ hv⟩
    · refine ⟨y, hl', ?_⟩
      have hi : (m.add b w.heap.size cap).ι i = m.ι i := by simp [M.add, hne]
      cases y
      · exact .fix _ _ rfl hi
      · exact .grow _ _ _ _ rfl hi

theorem heap_lts (h : HeapOK cx B w m H) : ∀ i y k c, live H i y → m.ι i = some (k, c) → k < w.heap.size := by
  intro i y k c hl hi
  cases h.blk i y hl with
  | fix v k' cap' cur h1 h2 h3 => rw [hi] at h1; cases h1; exact h2.lt
  | none ver e h1 => rw [hi] at h1; cases h1
  | grow ver e xs k' cap' cur css h1 h2 => rw [hi] at h1; cases h1; exact h2.lt

theorem heap_re (h : HeapOK cx B w m H) {b ver ver' : Nat} {e e' : Sh} {xs xs' : List D} {o : Obj} {cap : Nat} (hlb : live H b (.grow ver e xs)) (hv : ver < ver')
    (hx : BlkOK (w.alloc o) (m.add b w.heap.size cap) (H.set b (some (.grow ver' e' xs'))) b (.grow ver' e' xs')) : HeapOK cx B (w.alloc o) (m.add b w.heap.size cap) (H.set b (some (.grow ver' e' xs'))) := by
  have hk : Keep w m H (w.alloc o) (m.add b w.heap.size cap) (H.set b (some (.grow ver' e' xs'))) := keep_re hlb hv cap
  have hlts := heap_lts h
  refine ⟨fun i y hy => ?_, fun i i' y y' k c c' hy hy' hi hi' => ?_, fun i y k c hy hi => ?_, fun i hi => ?_, fun i y hy => ?_, h.glob.keep hk, h.far, ?_⟩
  · rcases live_set hy with ⟨rfl, e⟩ | ⟨hne, hl⟩
    · cases e; exact hx
    · exact (h.blk i y hl).keep hk (by simp [M.add, hne]) fun k cap cur _ hr => row_alloc hr
  · rcases live_set hy with ⟨e1, _⟩ | ⟨n1, l1⟩ <;> rcases live_set hy' with ⟨e2, _⟩ | ⟨n2, l2⟩
    · exact e1.trans e2.symm
    · simp only [M.add, e1, if_true, Option.some.injEq, Prod.mk.injEq, if_neg n2] at hi hi'
      have := hlts _ _ _ _ l2 hi'; omega
    · simp only [M.add, e2, if_true, Option.some.injEq, Prod.mk.injEq, if_neg n1] at hi hi'
      have := hlts _ _ _ _ l1 hi; omega
    · simp only [M.add, if_neg n1, if_neg n2] at hi hi'
      exact h.inj i i' y y' k c c' l1 l2 hi hi'
  · rcases live_set hy with ⟨e1, _⟩ | ⟨n1, l1⟩
    · simp only [M.add, e1, if_true, Option.some.injEq, Prod.mk.injEq] at hi
      have := h.size; omega
    · simp only [M.add, if_neg n1] at hi
      exact h.lo i y k c l1 hi
  · rw [List.length_set]
    rcases hi with rfl | hi
    · exact live_lt hlb
    · exact h.lt i hi
  · rcases live_set hy with ⟨e1, _⟩ | ⟨n1, l1⟩
    · exact .inl e1
    · exact .inr (h.born i y l1)
  · have := h.size; simp; omega

/-- A growing block that has no place yet keeps having none. -/
theorem keep_none {b ver ver' : Nat} {e e' : Sh} {xs xs' : List D} (hl : live H b (.grow ver e xs)) (hv : ver < ver') : Keep w m H w m (H.set b (some (.grow ver' e' xs'))) := by
  refine ⟨fun a c h1 h2 => ⟨h1, ?_⟩, fun i hi => hi, fun i hi y hy => ?_, fun _ h => h⟩
  · rintro (hfar | ⟨i, y, cp, hl', hi⟩)
    · exact h2 (.inl hfar)
    rcases live_set hl' with ⟨rfl, _⟩ | ⟨_, hl'⟩
    · exact h2 (.inr ⟨_, _, cp, hl, hi⟩)
    · exact h2 (.inr ⟨i, y, cp, hl', hi⟩)
  · rcases live_set hy with ⟨rfl, e⟩ | ⟨hne, hl'⟩
    · cases e; exact ⟨_, hl, .later _ _ _ _ _ _ hv⟩
    · exact ⟨y, hl', BK.refl m i y⟩

theorem heap_none (h : HeapOK cx B w m H) {b ver ver' : Nat} {e e' : Sh} {xs : List D} (hlb : live H b (.grow ver e xs)) (hv : ver < ver') (hi : m.ι b = none) : HeapOK cx B w m (H.set b (some (.grow ver' e' []))) := by
  have hk : Keep w m H w m (H.set b (some (.grow ver' e' []))) := keep_none hlb hv
  have back : ∀ {i y}, live (H.set b (some (.grow ver' e' []))) i y → ∃ y', live H i y' := fun hy => by
    rcases live_set hy with ⟨rfl, _⟩ | ⟨_, l⟩
    · exact ⟨_, hlb⟩
    · exact ⟨_, l⟩
  refine ⟨fun i y hy => ?_, fun i i' y y' k c c' a b' => ?_, fun i y k c a => ?_, fun i hi => by rw [List.length_set]; exact h.lt i hi, fun i y a => ?_, h.glob.keep hk, h.far, h.size⟩
  · rcases live_set hy with ⟨rfl, e⟩ | ⟨hne, hl⟩
    · cases e; exact .none _ _ hi
    · exact (h.blk i y hl).keep hk rfl fun _ _ _ _ hr => hr
  · obtain ⟨y1, l1⟩ := back a
    obtain ⟨y2, l2⟩ := back b'
    exact h.inj i i' y1 y2 k c c' l1 l2
  · obtain ⟨y1, l1⟩ := back a
    exact h.lo i y1 k c l1
  · obtain ⟨y1, l1⟩ := back a
    exact h.born i y1 l1

/-- A new slice that is nil still. -/
def M.addNone (m : M) (b : Nat) : M := ⟨fun i => if i = b then none else m.ι i, fun i => i = b ∨ m.born i, m.far⟩

theorem keep_newNone {b : Nat} {x : Blk} (hb : ¬ m.born b) : Keep w m H w (m.addNone b) (H.set b (some x)) := by
  refine ⟨fun a c h1 h2 => ⟨h1, ?_⟩, fun i hi => .inr hi, fun i hi y hy => ?_, fun _ h => h⟩
  · rintro (hfar | ⟨i, y, cp, hl, hi⟩)
    · exact h2 (.inl hfar)
    have hne : i ≠ b := by
      rintro rfl
      simp [M.addNone] at hi
    rcases live_set hl with ⟨e, _⟩ | ⟨_, hl⟩
    · exact hne e
    · simp only [M.addNone, if_neg hne] at hi
      exact h2 (.inr ⟨i, y, cp, hl, hi⟩)
  · have hne : i ≠ b := by rintro rfl; exact hb hi
    rcases live_set hy with ⟨e, _⟩ | ⟨_, hl⟩
    · exact absurd e hne
    · refine ⟨y, hl, ?_⟩
      have hi : (m.addNone b).ι i = m.ι i := by simp [M.addNone, hne]
      cases y
      · exact .fix _ _ rfl hi
      · exact .grow _ _ _ _ rfl hi

theorem heap_newNone (h : HeapOK cx B w m H) {b ver : Nat} {e : Sh} (hb : ¬ m.born b) (hlt : b < H.length) : HeapOK cx B w (m.addNone b) (H.set b (some (.grow ver e []))) := by
  have hk : Keep w m H w (m.addNone b) (H.set b (some (.grow ver e []))) := keep_newNone hb
  refine ⟨fun i y hy => ?_, fun i i' y y' k c c' hy hy' hi hi' => ?_, fun i y k c hy hi => ?_, fun i hi => ?_, fun i y hy => ?_, h.glob.keep hk, h.far, h.size⟩
  · rcases live_set hy with ⟨rfl, e⟩ | ⟨hne, hl⟩
    · cases e; exact .none _ _ (by simp [M.addNone])
    · exact (h.blk i y hl).keep hk (by simp [M.addNone, hne]) fun _ _ _ _ hr => hr
  · rcases live_set hy with ⟨e1, _⟩ | ⟨n1, l1⟩
    · simp [M.addNone, e1] at hi
    · rcases live_set hy' with ⟨e2, _⟩ | ⟨n2, l2⟩
      · simp [M.addNone, e2] at hi'
      · simp only [M.addNone, if_neg n1, if_neg n2] at hi hi'
        exact h.inj i i' y y' k c c' l1 l2 hi hi'
  · rcases live_set hy with ⟨e1, _⟩ | ⟨n1, l1⟩
    · simp [M.addNone, e1] at hi
    · simp only [M.addNone, if_neg n1] at hi
      exact h.lo i y k c l1 hi
  · rw [List.length_set]
    rcases hi with rfl | hi
    · exact hlt
    · exact h.lt i hi
  · rcases live_set hy with ⟨e1, _⟩ | ⟨n1, l1⟩
    · exact .inl e1
    · exact .inr (h.born i y l1)

/-- One live block gets another content, in the same place. -/
theorem keep_set {b k cap : Nat} {x x' : Blk} {cur' : Array Value} (hl : live H b x) (hi : m.ι b = some (k, cap)) (hbk : BK m m b x x') : Keep w m H (w.setRow k cur') m (H.set b (some x')) := by
  refine ⟨fun a c h1 h2 => ⟨?_, ?_⟩, fun i hi => hi, fun i hi' y hy => ?_, fun _ h => h⟩
  · rw [cell_setRow_other w k cur' a (fun e => h2 (.inr ⟨b, x, cap, hl, by rw [e]; exact hi⟩))]; exact h1
  · rintro (hfar | ⟨i, y, cp, hl', hi'⟩)
    · exact h2 (.inl hfar)
    rcases live_set hl' with ⟨e, _⟩ | ⟨_, hl'⟩
    · subst e; exact h2 (.inr ⟨i, x, cp, hl, hi'⟩)
    · exact h2 (.inr ⟨i, y, cp, hl', hi'⟩)
  · rcases live_set hy with ⟨e, e'⟩ | ⟨_, hl'⟩
    · subst e; cases e'; exact ⟨x, hl, hbk⟩
    · exact ⟨y, hl', BK.refl m i y⟩

theorem row_setRow {k k' : Nat} {cur cur' : Array Value} (hne : k' ≠ k) (h : Row w k' cur) : Row (w.setRow k cur') k' cur := by
  obtain ⟨t, h⟩ := h
  exact ⟨t, by rw [setRow_other w k k' cur' hne]; exact h⟩

theorem row_setRow_self {k : Nat} {cur cur' : Array Value} (h : Row w k cur) : Row (w.setRow k cur') k cur' := by
  obtain ⟨t, h⟩ := h
  exact ⟨t, setRow_heap w k cur cur' t (0, 0) h⟩

theorem heap_set (h : HeapOK cx B w m H) {b k cap : Nat} {x x' : Blk} {cur' : Array Value} (hl : live H b x) (hib : m.ι b = some (k, cap)) (hbk : BK m m b x x')
    (hx : BlkOK (w.setRow k cur') m (H.set b (some x')) b x') : HeapOK cx B (w.setRow k cur') m (H.set b (some x')) := by
  have hk : Keep w m H (w.setRow k cur') m (H.set b (some x')) := keep_set hl hib hbk
  have hB := h.lo b x k cap hl hib
  refine ⟨fun i y hy => ?_, fun i i' y y' k c c' hy hy' hi hi' => ?_, fun i y k c hy hi => ?_, fun i hi => ?_, fun i y hy => ?_, h.glob.keep hk, h.far, ?_⟩
  · rcases live_set hy with ⟨rfl, e⟩ | ⟨hne, hl'⟩
    · cases e; exact hx
    · refine (h.blk i y hl').keep hk rfl fun k' cap' cur hi' hr => row_setRow (fun e => hne ?_) hr
      subst e
      exact h.inj i b y x k' cap' cap hl' hl hi' hib
  · have l1 : ∃ y, live H i y := by
      rcases live_set hy with ⟨rfl, _⟩ | ⟨_, l⟩
      · exact ⟨x, hl⟩
      · exact ⟨y, l⟩
    have l2 : ∃ y, live H i' y := by
      rcases live_set hy' with ⟨rfl, _⟩ | ⟨_, l⟩
      · exact ⟨x, hl⟩
      · exact ⟨y', l⟩
    obtain ⟨y1, l1⟩ := l1
    obtain ⟨y2, l2⟩ := l2
    exact h.inj i i' y1 y2 k c c' l1 l2 hi hi'
  · rcases live_set hy with ⟨rfl, _⟩ | ⟨_, l⟩
    · exact h.lo _ x k c hl hi
    · exact h.lo i y k c l hi
  · rw [List.length_set]; exact h.lt i hi
  · rcases live_set hy with ⟨rfl, _⟩ | ⟨_, l⟩
    · exact h.born i x hl
    · exact h.born i y l
  · rw [size_setRow]; exact h.size

/-- A block is given up. -/
theorem keep_kill {b : Nat} : Keep w m H w m (H.set b none) := by
  refine ⟨fun a c h1 h2 => ⟨h1, ?_⟩, fun i hi => hi, fun i hi y hy => ?_, fun _ h => h⟩
  · rintro (hfar | ⟨i, y, cp, hl, hi⟩)
    · exact h2 (.inl hfar)
    rcases live_set hl with ⟨_, e⟩ | ⟨_, hl⟩
    · cases e
    · exact h2 (.inr ⟨i, y, cp, hl, hi⟩)
  · rcases live_set hy with ⟨_, e⟩ | ⟨_, hl⟩
    · cases e
    · exact ⟨y, hl, BK.refl m i y⟩

theorem heap_kill (h : HeapOK cx B w m H) {b : Nat} : HeapOK cx B w m (H.set b none) := by
  have hl : ∀ {i y}, live (H.set b none) i y → live H i y := fun hy => by
    rcases live_set hy with ⟨_, e⟩ | ⟨_, hl⟩
    · cases e
    · exact hl
  have hk : Keep w m H w m (H.set b none) := keep_kill
  exact ⟨fun i y hy => (h.blk i y (hl hy)).keep keep_kill rfl fun _ _ _ _ hr => hr, fun i i' y y' k c c' a b' => h.inj i i' y y' k c c' (hl a) (hl b'),
    fun i y k c a => h.lo i y k c (hl a), fun i hi => by rw [List.length_set]; exact h.lt i hi, fun i y a => h.born i y (hl a), h.glob.keep hk, h.far, h.size⟩

/-- An array's block becomes a growing one. -/
theorem keep_move {b slot kk cap n : Nat} {x x' : Blk} (hb : ¬ m.born slot) (hl : live H b x) (hi : m.ι b = some (kk, cap)) : Keep w m H w (m.add slot kk n) ((H.set slot (some x')).set b none) := by
  refine ⟨fun a c h1 h2 => ⟨h1, ?_⟩, fun i hi => .inr hi, fun i hib y hy => ?_, fun _ h => h⟩
  · rintro (hfar | ⟨i, y, cp, hl', hi'⟩)
    · exact h2 (.inl hfar)
    rcases live_set hl' with ⟨_, e⟩ | ⟨hne, hl'⟩
    · cases e
    · rcases live_set hl' with ⟨rfl, _⟩ | ⟨hne', hl'⟩
      · simp only [M.add, if_true, Option.some.injEq, Prod.mk.injEq] at hi'
        exact h2 (.inr ⟨b, x, cap, hl, by rw [← hi'.1]; exact hi⟩)
      · simp only [M.add, if_neg hne'] at hi'
        exact h2 (.inr ⟨i, y, cp, hl', hi'⟩)
  · have hne : i ≠ slot := by rintro rfl; exact hb hib
    rcases live_set hy with ⟨_, e⟩ | ⟨_, hl'⟩
    · cases e
    · rcases live_set hl' with ⟨e, _⟩ | ⟨_, hl'⟩
      · exact absurd e hne
      · refine ⟨y, hl', ?_⟩
        have hi' : (m.add slot kk n).ι i = m.ι i := by simp [M.add, hne]
        cases y
        · exact .fix _ _ rfl hi'
        · exact .grow _ _ _ _ rfl hi'

theorem heap_move (h : HeapOK cx B w m H) {b slot kk cap n : Nat} {x x' : Blk} (hb : ¬ m.born slot) (hlt : slot < H.length) (hl : live H b x) (hib : m.ι b = some (kk, cap))
    (hx : BlkOK w (m.add slot kk n) ((H.set slot (some x')).set b none) slot x') : HeapOK cx B w (m.add slot kk n) ((H.set slot (some x')).set b none) := by
  have hk : Keep w m H w (m.add slot kk n) ((H.set slot (some x')).set b none) := keep_move hb hl hib
  have hB := h.lo b x kk cap hl hib
  have back : ∀ {i y}, live ((H.set slot (some x')).set b none) i y → i ≠ b ∧ ((i = slot ∧ y = x') ∨ (i ≠ slot ∧ live H i y)) := fun hy => by
    rcases live_set hy with ⟨_, e⟩ | ⟨hne, hl⟩
    · cases e
    · refine ⟨hne, ?_⟩
      rcases live_set hl with ⟨e1, e2⟩ | ⟨n1, l1⟩
      · cases e2; exact .inl ⟨e1, rfl⟩
      · exact .inr ⟨n1, l1⟩
  refine ⟨fun i y hy => ?_, fun i i' y y' k c c' hy hy' hi hi' => ?_, fun i y k c hy hi => ?_, fun i hi => ?_, fun i y hy => ?_, h.glob.keep hk, h.far, h.size⟩
  · obtain ⟨hne, ⟨rfl, rfl⟩ | ⟨n1, l1⟩⟩ := back hy
    · exact hx
    · exact (h.blk i y l1).keep hk (by simp [M.add, n1]) fun _ _ _ _ hr => hr
  · obtain ⟨hne, o1⟩ := back hy
    obtain ⟨hne', o2⟩ := back hy'
    rcases o1 with ⟨e1, _⟩ | ⟨n1, l1⟩ <;> rcases o2 with ⟨e2, _⟩ | ⟨n2, l2⟩
    · exact e1.trans e2.symm
    · simp only [M.add, e1, if_true, Option.some.injEq, Prod.mk.injEq, if_neg n2] at hi hi'
      rw [← hi.1] at hi'
      exact absurd (h.inj i' b y' x kk c' cap l2 hl hi' hib) hne'
    · simp only [M.add, e2, if_true, Option.some.injEq, Prod.mk.injEq, if_neg n1] at hi hi'
      rw [← hi'.1] at hi
      exact absurd (h.inj i b y x kk c cap l1 hl hi hib) hne
    · simp only [M.add, if_neg n1, if_neg n2] at hi hi'
      exact h.inj i i' y y' k c c' l1 l2 hi hi'
  · obtain ⟨hne, ⟨rfl, rfl⟩ | ⟨n1, l1⟩⟩ := back hy
    · simp only [M.add, if_true, Option.some.injEq, Prod.mk.injEq] at hi
      omega
    · simp only [M.add, if_neg n1] at hi
      exact h.lo i y k c l1 hi
  · rw [List.length_set, List.length_set]
    rcases hi with rfl | hi
    · exact hlt
    · exact h.lt i hi
  · obtain ⟨hne, ⟨rfl, rfl⟩ | ⟨n1, l1⟩⟩ := back hy
    · exact .inl rfl
    · exact .inr (h.born i y l1)

/-- Dead places behind the heap. -/
theorem live_more {n b : Nat} {x : Blk} (h : live (H ++ List.replicate n none) b x) : live H b x := by
  unfold live at *
  rw [List.getElem?_append] at h
  split at h
  · exact h
  · rw [List.getElem?_replicate] at h
    split at h <;> cases h

theorem live_more' {n b : Nat} {x : Blk} (h : live H b x) : live (H ++ List.replicate n none) b x := by
  unfold live at *
  rw [List.getElem?_append_left (List.getElem?_eq_some_iff.1 h).1]; exact h

theorem own_more {n k : Nat} : Own m (H ++ List.replicate n none) k ↔ Own m H k :=
  ⟨fun h => h.imp id fun ⟨b, x, c, h1, h2⟩ => ⟨b, x, c, live_more h1, h2⟩, fun h => h.imp id fun ⟨b, x, c, h1, h2⟩ => ⟨b, x, c, live_more' h1, h2⟩⟩

theorem keep_more (n : Nat) : Keep w m H w m (H ++ List.replicate n none) :=
  ⟨fun _ _ h1 h2 => ⟨h1, fun h => h2 (own_more.1 h)⟩, fun _ h => h, fun b _ x hx => ⟨x, live_more hx, BK.refl m b x⟩, fun _ h => h⟩

theorem heap_more (h : HeapOK cx B w m H) (n : Nat) : HeapOK cx B w m (H ++ List.replicate n none) :=
  have hk : Keep w m H w m (H ++ List.replicate n none) := keep_more n
  ⟨fun i y hy => (h.blk i y (live_more hy)).keep (keep_more n) rfl fun _ _ _ _ hr => hr, fun i i' y y' k c c' a b' => h.inj i i' y y' k c c' (live_more a) (live_more b'),
    fun i y k c a => h.lo i y k c (live_more a), fun i hi => by rw [List.length_append]; have := h.lt i hi; omega, fun i y a => h.born i y (live_more a), h.glob.keep hk, h.far, h.size⟩

/-- A draw changes nothing. -/
theorem keep_world {w' : World} (hh : w'.heap = w.heap) : Keep w m H w' m H :=
  ⟨fun a c h1 h2 => ⟨by unfold World.cell? at *; rw [hh]; exact h1, h2⟩, fun _ h => h, fun b _ x hx => ⟨x, hx, BK.refl m b x⟩, fun _ h => h⟩

theorem heap_world (h : HeapOK cx B w m H) {w' : World} (hh : w'.heap = w.heap) : HeapOK cx B w' m H :=
  ⟨fun i y hy => (h.blk i y hy).keep (keep_world hh) rfl fun _ _ _ _ ⟨t, hr⟩ => ⟨t, by rw [hh]; exact hr⟩, h.inj, h.lo, h.lt, h.born,
    h.glob.keep (keep_world hh), h.far, by rw [hh]; exact h.size⟩
end

end Go.Fw

/-
The type table agrees with the program; loads and stores of variables, and what they do to the relation. No conditions.
-/
namespace Go.Fw
set_option linter.unusedVariables false
set_option linter.unusedSimpArgs false
open Go.RowKit

/-- What the table says of a type holds in the program. -/
structure TyP (cx : Cx) (t : TypeId) (te : TyE) : Prop where
  info : ∃ i, cx.P.info? t = some i ∧ i.size = te.sh.csz ∧ i.bytes = te.bytes ∧ te.zero.sh = te.sh ∧ ∃ z, i.zero = some z ∧ z = pack te.sh z.cells.toList ∧ ∀ w own, RC w own te.sh te.zero z.cells.toList
  under : match te.ty with
    | .int k => cx.P.underlying t = some (.int k) ∧ te.sh = .one
    | .bool => cx.P.underlying t = some .bool ∧ te.sh = .one
    | .str => cx.P.underlying t = some .string ∧ te.sh = .one
    | .sl e => cx.P.underlying t = some (.slice e) ∧ te.sh = .one
    | .ptr e => cx.P.underlying t = some (.pointer e) ∧ te.sh = .one
    | .fn => (∃ a b c, cx.P.underlying t = some (.func a b c)) ∧ te.sh = .one
    | .tup => False
    | .arr n e => cx.P.underlying t = some (.array n e) ∧ ∃ ee, cx.ty e = some ee ∧ te.sh = .arr n ee.sh
    | .st fs => ∃ fields shs, cx.P.underlying t = some (.struct fields) ∧ cx.P.stoodInHeld t = false ∧ fields.size = fs.length ∧ te.sh = .st shs ∧ shs.length = fs.length ∧
        ∀ (i : Nat) f, fields[i]? = some f → fs[i]? = some f.type ∧ f.offset = Sh.cszs (shs.take i) ∧ f.name ≠ "_" ∧ ∃ fe, cx.ty f.type = some fe ∧ shs[i]? = some fe.sh
  pos : 0 < te.sh.csz
  bpos : 0 < te.bytes

structure CxOK (cx : Cx) : Prop where
  ty : ∀ t te, cx.ty t = some te → TyP cx t te
  deep : 20 ≤ cx.P.depth
  mixed : cx.P.follows .mixedOrders = true

def Sh.agg : Sh → Bool
  | .one => false
  | _ => true

section
variable {cx : Cx} {t : TypeId} {te : TyE} (h : TyP cx t te) (w : World)
include h

theorem TyP.run_sizeOf : (sizeOf t).run cx.P w = .ok te.sh.csz w := by
  obtain ⟨i, hi, hs, _⟩ := h.info
  simp [sizeOf, typeInfo, hi, hs]

theorem TyP.run_info : ∃ i, (typeInfo t).run cx.P w = .ok i w ∧ i.size = te.sh.csz ∧ i.bytes = te.bytes := by
  obtain ⟨i, hi, hs, hb, _⟩ := h.info
  exact ⟨i, by simp [typeInfo, hi], hs, hb⟩

theorem TyP.run_isAgg : (isAgg t).run cx.P w = .ok te.sh.agg w := by
  have hu := h.under
  have hsz := h.pos
  unfold isAgg
  cases hty : te.ty <;> simp only [hty] at hu
  case int => simp [run_underlying hu.1, hu.2, Sh.agg]
  case bool => simp [run_underlying hu.1, hu.2, Sh.agg]
  case str => simp [run_underlying hu.1, hu.2, Sh.agg]
  case sl => simp [run_underlying hu.1, hu.2, Sh.agg]
  case ptr => simp [run_underlying hu.1, hu.2, Sh.agg]
  case fn => obtain ⟨⟨a, b, c, hu⟩, hs⟩ := hu; simp [run_underlying hu, hs, Sh.agg]
  case arr => obtain ⟨hu, ee, _, hs⟩ := hu; simp [run_underlying hu, hs, Sh.agg]
  case st => obtain ⟨f, s, hu, _, _, hs, _⟩ := hu; simp [run_underlying hu, hs, Sh.agg]

theorem TyP.run_zero : ∃ z, (zeroValue t).run cx.P w = .ok z w ∧ z = pack te.sh z.cells.toList ∧ ∀ w own, RC w own te.sh te.zero z.cells.toList := by
  obtain ⟨i, hi, _, _, _, z, hz, hp, hr⟩ := h.info
  exact ⟨z, by simp [zeroValue, typeInfo, hi, hz], hp, hr⟩

theorem TyP.zero_sh : te.zero.sh = te.sh := by
  obtain ⟨i, _, _, _, hz, _⟩ := h.info
  exact hz

theorem run_load_pack {a : Addr} {cs : List Value} (hl : cs.length = te.sh.csz) (hc : ∀ (j : Nat) c, cs[j]? = some c → w.cell? (a.add j) = some c) :
    (loadVar t a).run cx.P w = .ok (pack te.sh cs) w := by
  unfold loadVar
  simp only [Sem.run_bind, h.run_isAgg w, Result.andThen_ok]
  cases hsh : te.sh with
  | one =>
    rw [hsh] at hl
    match cs, hl with
    | [c], _ =>
      have := hc 0 c rfl
      have e : a.add 0 = a := rfl
      rw [e] at this
      simp [Sh.agg, pack, load, Sem.run, this]
  | arr n e => simp only [Sh.agg, if_true, Sem.run_bind, h.run_sizeOf w, Result.andThen_ok, pack]; rw [hsh] at hl; rw [hsh, ← hl, run_loadCells_list w a cs hc]; rfl
  | st l => simp only [Sh.agg, if_true, Sem.run_bind, h.run_sizeOf w, Result.andThen_ok, pack]; rw [hsh] at hl; rw [hsh, ← hl, run_loadCells_list w a cs hc]; rfl
end

theorem pack_cells {sh : Sh} {cs : List Value} (hl : cs.length = sh.csz) (h1 : ∀ c ∈ cs, c.oneCell' = true) : (pack sh cs).cells = cs.toArray := by
  cases sh with
  | one =>
    match cs, hl with
    | [c], _ =>
      have := h1 c (by simp)
      cases c <;> first | rfl | cases this
  | arr n e => cases cs <;> rfl
  | st l => cases cs <;> rfl

theorem addr_add (k o j : Nat) : (⟨k, o, none⟩ : Addr).add j = ⟨k, o + j, none⟩ := by
  unfold Addr.add; split
  · rename_i e; subst e; rfl
  · rfl

theorem row_slice {w : World} {k o n : Nat} {cur : Array Value} (hr : Row w k cur) (j : Nat) (c : Value) (hc : ((cur.toList.drop o).take n)[j]? = some c) : w.cell? ((⟨k, o, none⟩ : Addr).add j) = some c := by
  rw [addr_add, hr.cell]
  rw [List.getElem?_take] at hc
  split at hc
  · rw [List.getElem?_drop] at hc; simpa using hc
  · cases hc

section
variable {cx : Cx} {B : Nat} {w : World} {m : M} {H : Heap} {rd : Nat → Option Blk}

/-- What an operation may read is there. -/
def Rd (rd : Nat → Option Blk) (H : Heap) : Prop := ∀ b x, rd b = some x → live H b x

theorem RCV.one_of {v : V} {c : Value} {cs : List Value} (h : RCV w m H v.sh v cs) (hc : c = pack v.sh cs) : RV w m H v c := by subst hc; exact .one v cs h

theorem RV.elim {v : V} {c : Value} (h : RV w m H v c) (hv : cellV v = true) : ∃ cs, RCV w m H v.sh v cs ∧ c = pack v.sh cs := by
  cases h with
  | one v cs h => exact ⟨cs, h, rfl⟩
  | _ => cases hv

/-- The growing blocks' first cells, as an array's. -/
theorem grow_arr {b : Nat} {ver : Nat} {e : Sh} {xs : List D} {k cap : Nat} (h : BlkOK w m H b (.grow ver e xs)) (hi : m.ι b = some (k, cap)) :
    ∃ cur, Row w k cur ∧ cur.size = cap * e.csz ∧ xs.length ≤ cap ∧ cap ≤ maxLen ∧ RC w (Own m H) (.arr xs.length e) (.arr xs.length e xs) (cur.toList.take (xs.length * e.csz)) := by
  cases h with
  | none ver e h1 => rw [hi] at h1; cases h1
  | grow ver e xs k' cap' cur css h1 h2 h3 h4 h5 h6 h7 h8 =>
    rw [hi] at h1; cases h1
    refine ⟨cur, h2, h3, h4, h5, ?_⟩
    rw [h8]
    exact .arr _ e xs css h6 rfl h7

theorem loadV_sound (hx : CxOK cx) (hh : HeapOK cx B w m H) (hrd : Rd rd H) {t : TypeId} {p : V} {c : Value} {k : V → Prop} (hp : RV w m H p c) (hg : loadV cx rd t p k) :
    ∃ u c', k u ∧ (Instr.loadAt t c).run cx.P w = .ok c' w ∧ RV w m H u c' := by
  obtain ⟨te, hte, hg⟩ := onS_elim hg
  have ht := hx.ty t te hte
  have fin : ∀ (u : V) (a : Addr) (cs : List Value), te.sh.beq u.sh = true → RCV w m H u.sh u cs → c = .pointer (some a) → (∀ (j : Nat) x, cs[j]? = some x → w.cell? (a.add j) = some x) → k u →
      ∃ u c', k u ∧ (Instr.loadAt t c).run cx.P w = .ok c' w ∧ RV w m H u c' := by
    intro u a cs hb hr hc hcs hk
    have e := Sh.beq_eq _ _ hb
    refine ⟨u, pack u.sh cs, hk, ?_, .one u cs hr⟩
    subst hc
    simp only [Instr.loadAt, Instr.sureAddr, Sem.run_bind, Sem.run_pure, Result.andThen_ok]
    rw [run_load_pack ht w (a := a) (cs := cs) (by rw [hr.len, e]) hcs, e]
  cases p with
  | rop x =>
    obtain ⟨cs, h, hc⟩ := hp.elim rfl
    cases h with
    | rop _ a cs' h hm =>
      obtain ⟨hb, hk⟩ := onT_elim hg
      exact fin (.d x) a cs' hb (.d _ _ _ h) hc (fun j c hc => (hm j c hc).1) hk
  | ptr b ver path sh =>
    obtain ⟨cs, h, hc'⟩ := hp.elim rfl
    cases h with
    | ptr _ _ _ _ a' hb h =>
      obtain ⟨hb1, hg⟩ := onT_elim hg
      obtain ⟨blk, hblk, hg⟩ := onS_elim hg
      have hl := hrd b blk hblk
      obtain ⟨hver, h⟩ := h blk hl
      have hbo := hh.blk b blk hl
      cases blk with
      | fix v =>
        obtain ⟨kk, cap, o, hi, hpo, hc⟩ := h (by simp only [Blk.ver] at hver ⊢; omega)
        cases hbo with
        | fix v k' cap' cur h1 h2 h3 =>
          rw [hi] at h1; cases h1
          obtain ⟨u, o', s', hk, hp', hu, hle⟩ := getV_sound path h3 hg
          simp only [Blk.bsh] at hpo
          rw [hpo] at hp'; cases hp'
          have he := hu.sh_eq
          subst he
          exact fin u _ _ hb1 hu (hc'.trans (by rw [hc]; rfl)) (row_slice h2) hk
      | grow ver' e xs =>
        obtain ⟨hev, hg⟩ := onE_elim hg
        obtain ⟨kk, cap, o, hi, hpo, hc⟩ := h hev
        obtain ⟨cur, hr, hs, hcap, hm, hra⟩ := grow_arr hbo hi
        cases path with
        | nil => exact hg.elim
        | cons i p =>
          obtain ⟨y, o', s', hk, hp', hy, hle⟩ := getD_sound (k := fun y => k (.d y)) (i :: p) hra hg
          simp only [Blk.bsh] at hpo
          rw [hpo] at hp'; cases hp'
          have he := hy.sh_eq
          subst he
          rw [List.length_take] at hle
          refine fin (.d y) _ _ hb1 (.d _ _ _ hy) (hc'.trans (by rw [hc]; rfl)) (fun j x hx => ?_) hk
          rw [List.drop_take, List.take_take] at hx
          exact row_slice hr j x hx
  | parr b off n ver =>
    obtain ⟨cs, h, hc'⟩ := hp.elim rfl
    cases h with
    | parr _ _ _ _ c' ho hb h =>
      obtain ⟨blk, hblk, hg⟩ := onS_elim hg
      have hl := hrd b blk hblk
      cases blk with
      | fix v => exact hg.elim
      | grow ver' e xs =>
        obtain ⟨hev, hg⟩ := onE_elim hg
        obtain ⟨hb1, hk⟩ := onT_elim hg
        obtain ⟨hle, h⟩ := (h ver' e xs hl).2 hev
        have hbo := hh.blk b _ hl
        have hn : 0 < n := by
          rcases Nat.eq_zero_or_pos n with e0 | e0
          · have e1 := Sh.beq_eq _ _ hb1
            have := ht.pos
            rw [e1, e0] at this; simp [Sh.csz] at this
          · exact e0
        obtain ⟨kk, cap, hi, hc⟩ := h hn
        obtain ⟨cur, hr, hs, hcap, hm, hra⟩ := grow_arr hbo hi
        refine fin (.d (.arr n e ((xs.drop off).take n))) _ _ hb1 (.d _ _ _ (hra.sub hle)) (hc'.trans hc) (fun j x hx => ?_) hk
        rw [List.drop_take, List.take_take] at hx
        exact row_slice hr j x hx
  | _ => exact hg.elim

theorem below_row {k : Nat} {c : Array Value} (h : B ≤ k) : Below B w (w.setRow k c) :=
  ⟨rfl, rfl, rfl, by simp [World.setRow], fun i hi => setRow_other w k i c (by omega)⟩

theorem run_store_pack {t : TypeId} {te : TyE} (ht : TyP cx t te) {sh : Sh} (he : te.sh = sh) {kk o : Nat} {cur : Array Value} {ys : List Value} (hr : Row w kk cur) (hl : ys.length = sh.csz) (h1 : ∀ c ∈ ys, c.oneCell' = true) (hle : o + ys.length ≤ cur.size) :
    (Instr.storeAt t (.pointer (some ⟨kk, o, none⟩)) (pack sh ys)).run cx.P w = .ok () (w.setRow kk (cur.toList.take o ++ ys ++ cur.toList.drop (o + ys.length)).toArray) := by
  obtain ⟨tt, hr⟩ := hr
  have hs := run_storeCells_at cx.P kk o tt ys 0 cur w hr (by simpa using hle) h1
  simp only [Nat.add_zero] at hs
  simp only [Instr.storeAt, Instr.sureAddr, storeVar, Sem.run_bind, Sem.run_pure, Result.andThen_ok, ht.run_sizeOf w, pack_cells hl h1]
  rw [if_neg (by simp [hl, he])]
  simpa using hs

theorem storeV_sound (hx : CxOK cx) (hh : HeapOK cx B w m H) (hrd : Rd rd H) {t : TypeId} {p u : V} {c cu : Value} {k : Eff → Prop} (hp : RV w m H p c) (hu : RV w m H u cu) (hg : storeV cx rd t p u k) :
    ∃ b x' w', k [(b, some x')] ∧ (Instr.storeAt t c cu).run cx.P w = .ok () w' ∧ Keep w m H w' m (H.set b (some x')) ∧ HeapOK cx B w' m (H.set b (some x')) ∧ Below B w w' := by
  obtain ⟨te, hte, hg⟩ := onS_elim hg
  have ht := hx.ty t te hte
  obtain ⟨hcv, hg⟩ := onT_elim hg
  obtain ⟨hb1, hg⟩ := onT_elim hg
  have he := Sh.beq_eq _ _ hb1
  obtain ⟨ys, hys, hcu⟩ := hu.elim hcv
  cases p with
  | ptr b ver path sh =>
    obtain ⟨cs, h, hc'⟩ := hp.elim rfl
    cases h with
    | ptr _ _ _ _ a' hb h =>
      obtain ⟨blk, hblk, hg⟩ := onS_elim hg
      have hl := hrd b blk hblk
      obtain ⟨hver, h⟩ := h blk hl
      have hbo := hh.blk b blk hl
      cases blk with
      | fix v =>
        obtain ⟨kk, cap, o, hi, hpo, hc⟩ := h (by simp only [Blk.ver] at hver ⊢; omega)
        cases hbo with
        | fix v k' cap' cur h1 h2 h3 =>
          rw [hi] at h1; cases h1
          obtain ⟨z, o', hk, hp', hz, hle⟩ := setV_sound hys path h3 hg
          simp only [Blk.bsh] at hpo
          rw [hpo] at hp'; cases hp'
          have hsh : z.sh = v.sh := hz.sh_eq
          have hbk : BK m m b (.fix v) (.fix z) := .fix _ _ hsh rfl
          refine ⟨b, .fix z, w.setRow kk (cur.toList.take o ++ ys ++ cur.toList.drop (o + ys.length)).toArray, hk, ?_, keep_set hl hi hbk, heap_set hh hl hi hbk ?_, below_row (hh.lo b _ kk cap hl hi)⟩
          · rw [hc', hcu, hc]
            exact run_store_pack ht he h2 hys.len hys.one hle
          · refine .fix z kk cap _ hi (row_setRow_self h2) ?_
            rw [hsh]
            exact RCV.keep (keep_set hl hi hbk) (by simpa using hz)
      | grow ver' e xs =>
        obtain ⟨hev, hg⟩ := onE_elim hg
        obtain ⟨kk, cap, o, hi, hpo, hc⟩ := h hev
        obtain ⟨cur, hr, hs, hcap, hm, hra⟩ := grow_arr hbo hi
        cases path with
        | nil => exact hg.elim
        | cons i p =>
          cases u with
          | d y =>
            obtain ⟨z, o', hk, hp', hz, hle⟩ := setD_sound hys.of_d (i :: p) hra hg
            simp only [Blk.bsh] at hpo
            rw [show V.sh (.d y) = y.sh from rfl] at *
            rw [hpo] at hp'; cases hp'
            generalize hq : (cur.toList.take (xs.length * e.csz)).take o ++ ys ++ (cur.toList.take (xs.length * e.csz)).drop (o + ys.length) = q at hz
            cases hz with
            | arr _ _ xs' css hl2 hn2 h2 =>
              have hbk : BK m m b (.grow ver' e xs) (.grow ver' e xs') := .grow _ _ _ _ hn2 rfl
              have hcl : cur.toList.length = cur.size := by simp
              have hle' : o + ys.length ≤ cur.size := by rw [List.length_take] at hle; omega
              refine ⟨b, .grow ver' e xs', w.setRow kk (cur.toList.take o ++ ys ++ cur.toList.drop (o + ys.length)).toArray, hk, ?_, keep_set hl hi hbk, heap_set hh hl hi hbk ?_, below_row (hh.lo b _ kk cap hl hi)⟩
              · rw [hc', hcu, hc]
                exact run_store_pack ht he hr hys.len hys.one hle'
              · refine .grow ver' e xs' kk cap _ css hi (row_setRow_self hr) ?_ (by omega) hm hl2 (fun i x cs a b' => (h2 i x cs a b').mono (keep_set hl hi hbk).cell) ?_
                · rw [← hs]; simp; omega
                · have hxe : xs.length * e.csz ≤ cur.size := by rw [hs]; exact Nat.mul_le_mul_right _ hcap
                  rw [List.length_take, hcl] at hle
                  rw [hn2, ← hq]
                  rw [take_splice _ _ _ _ (by omega) (by omega)]
            | _ => exact hk.elim
          | _ => exact hg.elim
  | _ => exact hg.elim
end

end Go.Fw

/-
Slices of the call's own read as data; addresses, parts and slices of values. No conditions.
-/
namespace Go.Fw
set_option linter.unusedVariables false
set_option linter.unusedSimpArgs false
open Go.RowKit

section
variable {cx : Cx} {B : Nat} {w : World} {m : M} {H : Heap} {rd : Nat → Option Blk}

/-- These elements lie behind this slice value. -/
def SlAt (w : World) (m : M) (H : Heap) (e : Sh) (xs : List D) (c : Value) : Prop :=
  ∃ (a : Option Addr) (cap : Nat) (css : List (List Value)), c = .slice a xs.length cap ∧ xs.length ≤ cap ∧ css.length = xs.length ∧ (∀ (i : Nat) x cs, xs[i]? = some x → css[i]? = some cs → RC w (Own m H) e x cs) ∧
    (∀ (i : Nat) cs (j : Nat) cc, css[i]? = some cs → cs[j]? = some cc → ∃ ad, a = some ad ∧ w.cell? (ad.add (i * e.csz + j)) = some cc)

theorem RC.unown {own : Nat → Prop} {sh : Sh} {x : D} {cs : List Value} (h : RC w own sh x cs) : RC w noOwn sh x cs := h.mono fun _ _ h _ => ⟨h, fun h => h⟩

theorem SlAt.rd1 {e : Sh} {xs : List D} {c : Value} (h : SlAt w m H e xs c) : RD1 w noOwn (.ro e false xs) c := by
  obtain ⟨a, cap, css, rfl, hc, hl, h1, h2⟩ := h
  refine ⟨_, .ro e false xs a cap css hl hc (by intro h; cases h) (fun i x cs a b => (h1 i x cs a b).unown) (fun i cs j c a b => ?_), rfl⟩
  obtain ⟨ad, h3, h4⟩ := h2 i cs j c a b
  exact ⟨ad, h3, h4, fun h => h⟩

/-- A run of cells that reads as an array reads as the elements behind a slice. -/
theorem SlAt.of_arr {N : Nat} {e : Sh} {xs : List D} {cells : List Value} {a : Addr} {cap : Nat} {ao : Option Addr} (h : RC w (Own m H) (.arr N e) (.arr N e xs) cells)
    (hc : ∀ (j : Nat) c, cells[j]? = some c → w.cell? (a.add j) = some c) (hcap : xs.length ≤ cap) (ha : 0 < xs.length → ao = some a) : SlAt w m H e xs (.slice ao xs.length cap) := by
  cases h with
  | arr _ _ _ css hl hn h =>
    refine ⟨ao, cap, css, rfl, hcap, hl, h, fun i cs j cc h1 h2 => ⟨a, ha ?_, hc _ _ ?_⟩⟩
    · have := (List.getElem?_eq_some_iff.1 h1).1; omega
    · obtain ⟨f1, f2⟩ := flat_get h1
      have hi := (List.getElem?_eq_some_iff.1 h1).1
      rw [sum_take_const (arr_lens hl h) (by omega)] at f1 f2
      have hj := (List.getElem?_eq_some_iff.1 h2).1
      rw [← f1, List.getElem?_take, if_pos hj, List.getElem?_drop] at h2
      exact h2

theorem slAt_sl (hh : HeapOK cx B w m H) {b off ver : Nat} {ver' : Nat} {e : Sh} {xs : List D} {c : Value} (hl : live H b (.grow ver' e xs)) (hv : RV w m H (.sl b off ver) c) (he : ver = ver') :
    off ≤ xs.length ∧ SlAt w m H e (xs.drop off) c := by
  obtain ⟨cs, h, hc⟩ := hv.elim rfl
  cases h with
  | sl _ _ _ c' ho hb h =>
    obtain ⟨hle, h⟩ := (h ver' e xs hl).2 he
    rw [show pack (V.sl b off ver).sh [c'] = c' from rfl] at hc
    subst hc
    refine ⟨hle, ?_⟩
    rcases h with ⟨hn, rfl⟩ | ⟨k, cap, a, hi, hcap, rfl, ha⟩
    · have hx : xs = [] := by
        cases hh.blk b _ hl with
        | none => rfl
        | grow ver e xs k cap cur css h1 => rw [hn] at h1; cases h1
      subst hx
      refine ⟨none, 0, [], by simp, by simp, by simp, fun i x cs h1 => by simp at h1, fun i cs j cc h1 => by simp at h1⟩
    · obtain ⟨cur, hr, hs, hcap', hm, hra⟩ := grow_arr (hh.blk b _ hl) hi
      have hsub := hra.sub (off := off) (n := xs.length - off) (by omega)
      have hd : (xs.drop off).take (xs.length - off) = xs.drop off := List.take_of_length_le (by simp)
      rw [hd] at hsub
      have := SlAt.of_arr (a := ⟨k, off * e.csz, none⟩) (cap := cap - off) (ao := a) hsub (fun j c hc => ?_) (by simp; omega) (fun hp => ha (by simp at hp; omega))
      · simpa using this
      · rw [List.drop_take, List.take_take] at hc
        exact row_slice hr j c hc

theorem slAt_sub (hh : HeapOK cx B w m H) {b off len ver : Nat} {ver' : Nat} {e : Sh} {xs : List D} {c : Value} (hl : live H b (.grow ver' e xs)) (hv : RV w m H (.sub b off len ver) c) (he : ver = ver') :
    off + len ≤ xs.length ∧ SlAt w m H e ((xs.drop off).take len) c := by
  obtain ⟨cs, h, hc⟩ := hv.elim rfl
  cases h with
  | sub _ _ _ _ c' ho hb h =>
    obtain ⟨hle, cap, a, hc2, hcap, ha⟩ := (h ver' e xs hl).2 he
    rw [show pack (V.sub b off len ver).sh [c'] = c' from rfl] at hc
    subst hc; subst hc2
    refine ⟨hle, ?_⟩
    have hlen : ((xs.drop off).take len).length = len := by simp; omega
    rcases Nat.eq_zero_or_pos len with h0 | h0
    · subst h0
      exact ⟨a, cap, [], by simp, by simp, by simp, fun i x cs h1 => by simp at h1, fun i cs j cc h1 => by simp at h1⟩
    · obtain ⟨k, cap', hi, ha⟩ := ha h0
      obtain ⟨cur, hr, hs, hcap', hm, hra⟩ := grow_arr (hh.blk b _ hl) hi
      have hsub := hra.sub (off := off) (n := len) hle
      have := SlAt.of_arr (a := ⟨k, off * e.csz, none⟩) (cap := cap) (ao := a) hsub (fun j c hc => ?_) (by omega) (fun _ => ha)
      · rw [hlen] at this; exact this
      · rw [List.drop_take, List.take_take] at hc
        exact row_slice hr j c hc

theorem cutL_eq {α : Type} {off len n : Nat} {xs : List α} (hn : xs.length = n) : cutL off len n xs = (xs.drop off).take len := by
  unfold cutL
  split
  · rename_i h
    simp only [Bool.and_eq_true, beq_iff_eq] at h
    obtain ⟨rfl, rfl⟩ := h
    simp [← hn]
  · rfl

/-- The array behind an array's slice: where it lies. -/
theorem slAt_sa (hh : HeapOK cx B w m H) {b off len : Nat} {path : List Nat} {v : V} {c : Value} (hl : live H b (.fix v)) (hv : RV w m H (.sa b path off len) c) {n : Nat} {e : Sh} {xs : List D} {k : V → Prop}
    (hg : getV path v k) (hk : ∀ u, k u → u = .d (.arr n e xs)) :
    ∃ kk cap cur o a, m.ι b = some (kk, cap) ∧ Row w kk cur ∧ RCV w m H v.sh v cur.toList ∧ poff v.sh path = some (o, .arr n e) ∧ off + len ≤ n ∧ xs.length = n ∧ o + n * e.csz ≤ cur.size ∧
      RC w (Own m H) (.arr n e) (.arr n e xs) ((cur.toList.drop o).take (n * e.csz)) ∧ c = .slice a len (n - off) ∧ (off < n → a = some ⟨kk, o + off * e.csz, none⟩) ∧ SlAt w m H e (cutL off len n xs) c := by
  obtain ⟨cs, h, hc⟩ := hv.elim rfl
  cases h with
  | sa _ _ _ _ c' ho hb h =>
    obtain ⟨kk, cap, o, n', e', a, hi, hp, hle, hc2, ha⟩ := h v hl
    rw [show pack (V.sa b path off len).sh [c'] = c' from rfl] at hc
    subst hc; subst hc2
    cases hh.blk b _ hl with
    | fix v k' cap' cur h1 h2 h3 =>
      rw [hi] at h1; cases h1
      obtain ⟨u, o', s', hk', hp', hu, hle'⟩ := getV_sound path h3 hg
      have hue := hk u hk'
      subst hue
      rw [hp] at hp'; cases hp'
      have hra := hu.of_d
      have hn : n' = n ∧ e' = e := by have := hra.sh_eq; simp [D.sh] at this; exact ⟨this.1.symm, this.2.symm⟩
      obtain ⟨rfl, rfl⟩ := hn
      have hxl : xs.length = n' := hra.arr_inv.1
      have hcl : cur.toList.length = cur.size := by simp
      rw [hcl] at hle'
      refine ⟨kk, cap, cur, o, a, hi, h2, h3, hp, hle, hxl, hle', hra, rfl, ha, ?_⟩
      rw [cutL_eq hxl]
      have hsub := hra.sub (off := off) (n := len) hle
      have hlen : ((xs.drop off).take len).length = len := by simp; omega
      have := SlAt.of_arr (a := ⟨kk, o + off * e'.csz, none⟩) (cap := n' - off) (ao := a) hsub (fun j c hc => ?_) (by omega) (fun hp => ha (by omega))
      · rw [hlen] at this; exact this
      · rw [List.drop_take, List.take_take, List.drop_drop] at hc
        exact row_slice h2 j c hc

theorem RV.rd1 {x : D} {c : Value} (h : RV w m H (.d x) c) (hx : cellV (.d x) = true) : RD1 w (Own m H) x c := by
  obtain ⟨cs, h, hc⟩ := h.elim hx
  exact ⟨cs, h.of_d, hc⟩

theorem RD1.unown {own : Nat → Prop} {x : D} {c : Value} (h : RD1 w own x c) : RD1 w noOwn x c := h.mono fun _ _ h _ => ⟨h, fun h => h⟩

/-- What a value that is handed on as data reads as: as it stands, or what lies behind a slice of the call's own. -/
theorem vslice_sound (hh : HeapOK cx B w m H) (hrd : Rd rd H) {v : V} {c : Value} {k : Bool → D → Prop} (hv : RV w m H v c) (hg : vslice rd v k) :
    ∃ b x, k b x ∧ ((b = false ∧ v = .d x) ∨ (b = true ∧ ∃ e xs, x = .ro e false xs ∧ SlAt w m H e xs c)) := by
  cases v with
  | d x => exact ⟨false, x, hg, .inl ⟨rfl, rfl⟩⟩
  | sl b off ver =>
    obtain ⟨blk, hb, hg⟩ := onS_elim hg
    cases blk with
    | fix v => exact hg.elim
    | grow ver' e xs =>
      obtain ⟨he, hk⟩ := onE_elim hg
      exact ⟨true, _, hk, .inr ⟨rfl, e, _, rfl, (slAt_sl hh (hrd b _ hb) hv he).2⟩⟩
  | sub b off len ver =>
    obtain ⟨blk, hb, hg⟩ := onS_elim hg
    cases blk with
    | fix v => exact hg.elim
    | grow ver' e xs =>
      obtain ⟨he, hk⟩ := onE_elim hg
      exact ⟨true, _, hk, .inr ⟨rfl, e, _, rfl, (slAt_sub hh (hrd b _ hb) hv he).2⟩⟩
  | sa b path off len =>
    obtain ⟨blk, hb, hg⟩ := onS_elim hg
    cases blk with
    | grow ver' e xs => exact hg.elim
    | fix v =>
      have hl := hrd b _ hb
      obtain ⟨u, hk', hg2⟩ := getV_lin path v hg
      cases u with
      | d y =>
        cases y with
        | arr n e xs =>
          obtain ⟨kk, cap, cur, o, a, _, _, _, _, _, _, _, _, _, _, hs⟩ := slAt_sa hh hl hv hg2 (fun u hu => hu)
          exact ⟨true, _, hk', .inr ⟨rfl, e, _, rfl, hs⟩⟩
        | _ => exact hk'.elim
      | _ => exact hk'.elim
  | _ => exact hg.elim
end

end Go.Fw

/-
Operations that compute a value and change nothing: addresses, parts, slices, lengths, arithmetic. No conditions.
-/
namespace Go.Fw
set_option linter.unusedVariables false
set_option linter.unusedSimpArgs false
open Go.RowKit

/-- The operation yields a value that our predicate lets in, and leaves the world alone. -/
def POK (cx : Cx) (w : World) (m : M) (H : Heap) (k : V → Prop) (S : Sem Value) : Prop := ∃ v c, k v ∧ S.run cx.P w = .ok c w ∧ RV w m H v c

section
variable {cx : Cx} {B : Nat} {w : World} {m : M} {H : Heap} {rd : Nat → Option Blk}

theorem RV.d1 {x : D} {c : Value} (h : RC w (Own m H) .one x [c]) (hs : x.sh = .one) : RV w m H (.d x) c := by
  have := RV.one (m := m) (H := H) (.d x) [c] (by rw [show V.sh (.d x) = x.sh from rfl, hs]; exact .d _ _ _ h)
  rw [show V.sh (.d x) = x.sh from rfl, hs] at this
  exact this

theorem RV.int (k : IntKind) (n : Int) : RV w m H (.d (.int k n)) (.int k n) := .d1 (.int k n) rfl
theorem RV.bool (b : Bool) : RV w m H (.d (.bool b)) (.bool b) := .d1 (.bool b) rfl
theorem RV.str (l : List UInt8) : RV w m H (.d (.str l)) (.string ⟨l.toArray⟩) := .d1 (.str l) rfl

theorem RV.int_inv {k : IntKind} {n : Int} {c : Value} (h : RV w m H (.d (.int k n)) c) : c = .int k n := by
  obtain ⟨cs, h, hc⟩ := h.elim rfl
  have h := h.of_d
  cases h; exact hc
theorem RV.bool_inv {b : Bool} {c : Value} (h : RV w m H (.d (.bool b)) c) : c = .bool b := by
  obtain ⟨cs, h, hc⟩ := h.elim rfl
  have h := h.of_d
  cases h; exact hc
theorem RV.str_inv {l : List UInt8} {c : Value} (h : RV w m H (.d (.str l)) c) : c = .string ⟨l.toArray⟩ := by
  obtain ⟨cs, h, hc⟩ := h.elim rfl
  have h := h.of_d
  cases h; exact hc
theorem RV.nils_inv {c : Value} (h : RV w m H (.d .nils) c) : c = .slice none 0 0 := by
  obtain ⟨cs, h, hc⟩ := h.elim rfl
  have h := h.of_d
  cases h; exact hc

theorem asI_elim {v : V} {c : Value} {k : IntKind → Int → Prop} (hv : RV w m H v c) (h : asI v k) : ∃ a n, v = .d (.int a n) ∧ c = .int a n ∧ k a n := by
  unfold asI at h
  split at h
  · rename_i a n; exact ⟨a, n, rfl, hv.int_inv, h⟩
  · exact h.elim

theorem asB_elim {v : V} {c : Value} {k : Bool → Prop} (hv : RV w m H v c) (h : asB v k) : ∃ b, v = .d (.bool b) ∧ c = .bool b ∧ k b := by
  unfold asB at h
  split at h
  · rename_i b; exact ⟨b, rfl, hv.bool_inv, h⟩
  · exact h.elim

theorem RV.rop_of {x : D} {a : Addr} {cs : List Value} (h : RC w (Own m H) x.sh x cs) (hm : ∀ (j : Nat) c, cs[j]? = some c → w.cell? (a.add j) = some c ∧ ¬ Own m H a.block) : RV w m H (.rop x) (.pointer (some a)) :=
  .one (.rop x) [.pointer (some a)] (.rop x a cs h hm)

theorem poff_append : ∀ (p q : List Nat) (s : Sh) {o : Nat} {s1 : Sh} {o2 : Nat} {s2 : Sh}, poff s p = some (o, s1) → poff s1 q = some (o2, s2) → poff s (p ++ q) = some (o + o2, s2)
  | [], q, s, o, s1, o2, s2, h, h2 => by simp [poff] at h; obtain ⟨rfl, rfl⟩ := h; simpa using h2
  | i :: p, q, .one, o, s1, o2, s2, h, h2 => by simp [poff] at h
  | i :: p, q, .arr n e, o, s1, o2, s2, h, h2 => by
    simp only [poff] at h
    split at h
    · rename_i hi
      simp only [Option.map_eq_some_iff, Prod.mk.injEq] at h
      obtain ⟨⟨o', s'⟩, hp, rfl, rfl⟩ := h
      simp only [List.cons_append, poff, if_pos hi, poff_append p q e hp h2, Option.map_some, Option.some.injEq, Prod.mk.injEq, and_true]
      omega
    · cases h
  | i :: p, q, .st l, o, s1, o2, s2, h, h2 => by
    simp only [poff] at h
    split at h
    · rename_i s hs
      simp only [Option.map_eq_some_iff, Prod.mk.injEq] at h
      obtain ⟨⟨o', s'⟩, hp, rfl, rfl⟩ := h
      simp only [List.cons_append, poff, hs, poff_append p q s hp h2, Option.map_some, Option.some.injEq, Prod.mk.injEq, and_true]
      omega
    · cases h

/-- The address of a part of what a pointer points at. -/
theorem RV.ptr_part {b ver : Nat} {path : List Nat} {s : Sh} {a : Addr} (hv : RV w m H (.ptr b ver path s) (.pointer (some a))) {q : List Nat} {o2 : Nat} {s2 : Sh} (h : poff s q = some (o2, s2)) :
    RV w m H (.ptr b ver (path ++ q) s2) (.pointer (some (a.add o2))) := by
  obtain ⟨cs, hr, hc⟩ := hv.elim rfl
  cases hr with
  | ptr _ _ _ _ a1 hb h1 =>
    have hc2 : Value.pointer (some a) = .pointer (some a1) := hc
    cases hc2
    refine .one (.ptr b ver (path ++ q) s2) [.pointer (some (a.add o2))] (.ptr b ver _ _ _ hb fun x hx => ⟨(h1 x hx).1, fun e => ?_⟩)
    obtain ⟨k, cap, o, hi, hp, rfl⟩ := (h1 x hx).2 e
    exact ⟨k, cap, o + o2, hi, poff_append _ _ _ hp h, by rw [addr_add]⟩

theorem RV.ptr_inv {b ver : Nat} {path : List Nat} {s : Sh} {c : Value} (hv : RV w m H (.ptr b ver path s) c) : ∃ a, c = .pointer (some a) := by
  obtain ⟨cs, hr, hc⟩ := hv.elim rfl
  cases hr with
  | ptr _ _ _ _ a1 hb h1 => exact ⟨a1, hc⟩

theorem RV.rop_inv {x : D} {c : Value} (hv : RV w m H (.rop x) c) : ∃ a cs, c = .pointer (some a) ∧ RC w (Own m H) x.sh x cs ∧ ∀ (j : Nat) c, cs[j]? = some c → w.cell? (a.add j) = some c ∧ ¬ Own m H a.block := by
  obtain ⟨cs, hr, hc⟩ := hv.elim rfl
  cases hr with
  | rop _ a cs h hm => exact ⟨a, cs, hc, h, hm⟩

theorem ty_arr (hx : CxOK cx) {t : TypeId} {te : TyE} {n : Nat} {e : TypeId} (h : cx.ty t = some te) (hty : te.ty = .arr n e) :
    cx.P.underlying t = some (.array n e) ∧ ∃ ee, cx.ty e = some ee ∧ te.sh = .arr n ee.sh := by
  have := (hx.ty t te h).under; rw [hty] at this; exact this
theorem ty_sl (hx : CxOK cx) {t : TypeId} {te : TyE} {e : TypeId} (h : cx.ty t = some te) (hty : te.ty = .sl e) : cx.P.underlying t = some (.slice e) := by
  have := (hx.ty t te h).under; rw [hty] at this; exact this.1

theorem rop_part {x y : D} {p : List Nat} {a : Addr} (hv : RV w m H (.rop x) (.pointer (some a))) (hg : getD p x fun z => z = y) :
    ∃ o s, poff x.sh p = some (o, s) ∧ RV w m H (.rop y) (.pointer (some (a.add o))) := by
  obtain ⟨a', cs, hc, h, hm⟩ := hv.rop_inv
  cases hc
  obtain ⟨z, o, s, rfl, hp, hy, hle⟩ := getD_sound p h hg
  have e := hy.sh_eq
  subst e
  refine ⟨o, _, hp, .rop_of hy fun j c hj => ?_⟩
  rw [List.getElem?_take] at hj
  split at hj
  · rw [List.getElem?_drop] at hj
    obtain ⟨h1, h2⟩ := hm (o + j) c hj
    have e : (a.add o).add j = a.add (o + j) := by
      unfold Addr.add
      by_cases h0 : o = 0 <;> by_cases h1 : j = 0 <;> simp [h0, h1]
      omega
    rw [e]
    exact ⟨h1, by unfold Addr.add; split <;> exact h2⟩
  · cases hj

theorem add_add (ad : Addr) (o j : Nat) : (ad.add o).add j = ad.add (o + j) := by
  unfold Addr.add
  by_cases h0 : o = 0 <;> by_cases h1 : j = 0 <;> simp [h0, h1]
  omega

theorem add_block (ad : Addr) (o : Nat) : (ad.add o).block = ad.block := by unfold Addr.add; split <;> rfl

/-- An element behind a slice that is data. -/
theorem ro_elem {e : Sh} {t : Bool} {xs : List D} {c : Value} (hv : RV w m H (.d (.ro e t xs)) c) (hpos : 0 < e.csz) :
    ∃ a cap, c = .slice a xs.length cap ∧ xs.length ≤ cap ∧ (t = true → cap = xs.length) ∧ ∀ (i : Nat) y, xs[i]? = some y → ∃ ad, a = some ad ∧ RV w m H (.rop y) (.pointer (some (ad.add (i * e.csz)))) := by
  obtain ⟨cs, h, hc⟩ := hv.elim rfl
  have h := h.of_d
  cases h with
  | ro _ _ _ a cap css hl hcap ht h0 hm =>
    refine ⟨a, cap, hc, hcap, ht, fun i y hy => ?_⟩
    have hi := (List.getElem?_eq_some_iff.1 hy).1
    have hci : css[i]? = some css[i] := List.getElem?_eq_getElem (by omega)
    have hr := h0 i y _ hy hci
    have e1 := hr.sh_eq
    subst e1
    have h0 : 0 < css[i].length := by rw [hr.len]; exact hpos
    obtain ⟨ad, ha, _, _⟩ := hm i _ 0 css[i][0] hci (List.getElem?_eq_getElem h0)
    refine ⟨ad, ha, .rop_of hr fun j c hj => ?_⟩
    obtain ⟨ad', ha', h1, h2⟩ := hm i _ j c hci hj
    rw [ha] at ha'; cases ha'
    rw [add_add, add_block]
    exact ⟨h1, h2⟩

theorem run_indexAt_slice {t e : TypeId} {ee : TyE} (hu : cx.P.underlying t = some (.slice e)) (hee : TyP cx e ee) {ad : Addr} {len cap : Nat} {kd : IntKind} {i : Int} (h0 : 0 ≤ i) (h1 : i < len) :
    (Instr.indexAt t (.slice (some ad) len cap) (.int kd i)).run cx.P w = .ok (.pointer (some (ad.add (i.toNat * ee.sh.csz)))) w := by
  simp [Instr.indexAt, asIntOf, run_underlying hu, h0, h1, hee.run_sizeOf w]

theorem run_indexAt_arr {t e : TypeId} {n : Nat} {ee : TyE} (hu : cx.P.underlying t = some (.array n e)) (hee : TyP cx e ee) {ad : Addr} {kd : IntKind} {i : Int} (h0 : 0 ≤ i) (h1 : i < n) :
    (Instr.indexAt t (.pointer (some ad)) (.int kd i)).run cx.P w = .ok (.pointer (some (ad.add (i.toNat * ee.sh.csz)))) w := by
  simp [Instr.indexAt, Instr.sureAddr, asIntOf, run_underlying hu, h0, h1, hee.run_sizeOf w]

theorem idxV_sound (hx : CxOK cx) (hh : HeapOK cx B w m H) (hrd : Rd rd H) {t : TypeId} {x : V} {c : Value} {kd : IntKind} {i : Int} {k : V → Prop} (hv : RV w m H x c) (hg : idxV cx rd t x i k) :
    POK cx w m H k (Instr.indexAt t c (.int kd i)) := by
  obtain ⟨te, hte, hg⟩ := onS_elim hg
  have ht := hx.ty t te hte
  cases hty : te.ty with
  | arr n0 e0 =>
    rw [hty] at hg
    obtain ⟨hu, ee, hee, hsh⟩ := ty_arr hx hte hty
    cases x with
    | ptr b ver path s =>
      cases s with
      | arr n e =>
        obtain ⟨hb, hg⟩ := onT_elim hg
        obtain ⟨hi, hk⟩ := onT_elim hg
        have he := Sh.beq_eq _ _ hb
        rw [hsh] at he
        cases he
        have hi : 0 ≤ i ∧ i < n0 := by simpa using hi
        obtain ⟨a, rfl⟩ := hv.ptr_inv
        exact ⟨_, _, hk, run_indexAt_arr hu (hx.ty _ _ hee) hi.1 hi.2, hv.ptr_part (q := [i.toNat]) (by simp [poff]; omega)⟩
      | _ => exact hg.elim
    | rop y =>
      cases y with
      | arr n e xs =>
        obtain ⟨hb, hg⟩ := onT_elim hg
        obtain ⟨hi, hg⟩ := onT_elim hg
        obtain ⟨y, hy, hk⟩ := onS_elim hg
        have he := Sh.beq_eq _ _ hb
        rw [hsh] at he
        cases he
        have hi : 0 ≤ i ∧ i < n0 := by simpa using hi
        obtain ⟨a, cs, rfl, hr, hm⟩ := hv.rop_inv
        obtain ⟨o, s, hp, hrv⟩ := rop_part (p := [i.toNat]) (y := y) hv (onS_intro hy rfl)
        simp only [D.sh, poff] at hp
        rw [if_pos (by omega)] at hp
        simp at hp
        obtain ⟨rfl, rfl⟩ := hp
        exact ⟨_, _, hk, run_indexAt_arr hu (hx.ty _ _ hee) hi.1 hi.2, hrv⟩
      | _ => exact hg.elim
    | _ => exact hg.elim
  | sl e0 =>
    rw [hty] at hg
    obtain ⟨ee, hee, hg⟩ := onS_elim hg
    have hu := ty_sl hx hte hty
    have hte' := hx.ty _ _ hee
    cases x with
    | d y =>
      cases y with
      | ro e tt xs =>
        obtain ⟨hb, hg⟩ := onT_elim hg
        obtain ⟨hi, hg⟩ := onT_elim hg
        obtain ⟨y, hy, hk⟩ := onS_elim hg
        have hi : 0 ≤ i ∧ i < xs.length := by simpa using hi
        have he := Sh.beq_eq _ _ hb
        subst he
        obtain ⟨a, cap, rfl, hcap, _, hel⟩ := ro_elem hv hte'.pos
        obtain ⟨ad, rfl, hrv⟩ := hel i.toNat y hy
        exact ⟨_, _, hk, run_indexAt_slice hu hte' hi.1 hi.2, hrv⟩
      | _ => exact hg.elim
    | sl b off ver =>
      obtain ⟨blk, hb, hg⟩ := onS_elim hg
      cases blk with
      | fix v => exact hg.elim
      | grow ver' e xs =>
        obtain ⟨hev, hg⟩ := onE_elim hg
        obtain ⟨hbe, hg⟩ := onT_elim hg
        obtain ⟨hi, hk⟩ := onT_elim hg
        have hi : 0 ≤ i ∧ i < (xs.length - off : Nat) := by simpa using hi
        have he := Sh.beq_eq _ _ hbe
        subst he
        have hl := hrd b _ hb
        obtain ⟨cs, h, hc⟩ := hv.elim rfl
        cases h with
        | sl _ _ _ c' ho hbb h =>
          obtain ⟨hle, h⟩ := h ver' _ xs hl
          obtain ⟨hof, h⟩ := h hev
          rcases h with ⟨hn, _⟩ | ⟨kk, cap, a, hi2, hcap, hc2, ha⟩
          · have hx0 : xs = [] := by
              cases hh.blk b _ hl with
              | none => rfl
              | grow ver e xs k cap cur css h1 => rw [hn] at h1; cases h1
            subst hx0; simp at hi; omega
          · have ha := ha (by omega)
            subst ha
            rw [hc, show pack (V.sl b off ver).sh [c'] = c' from rfl, hc2]
            refine ⟨_, _, hk, run_indexAt_slice hu hte' hi.1 hi.2, .one (.ptr b ver [off + i.toNat] ee.sh) [_] (.ptr _ _ _ _ _ hbb fun x hx => ?_)⟩
            have := live_inj hl hx
            subst this
            refine ⟨hle, fun _ => ⟨kk, cap, (off + i.toNat) * ee.sh.csz, hi2, ?_, ?_⟩⟩
            · simp [Blk.bsh, poff]; omega
            · rw [addr_add, Nat.add_mul]
    | sub b off len ver =>
      obtain ⟨blk, hb, hg⟩ := onS_elim hg
      cases blk with
      | fix v => exact hg.elim
      | grow ver' e xs =>
        obtain ⟨hev, hg⟩ := onE_elim hg
        obtain ⟨hbe, hg⟩ := onT_elim hg
        obtain ⟨hi, hk⟩ := onT_elim hg
        have hi : 0 ≤ i ∧ i < (len : Nat) := by simpa using hi
        have he := Sh.beq_eq _ _ hbe
        subst he
        have hl := hrd b _ hb
        obtain ⟨cs, h, hc⟩ := hv.elim rfl
        cases h with
        | sub _ _ _ _ c' ho hbb h =>
          obtain ⟨hle, h⟩ := h ver' _ xs hl
          obtain ⟨hof, cap, a, hc2, hcap, h⟩ := h hev
          obtain ⟨kk, cap', hi2, ha⟩ := h (by omega)
          subst ha
          rw [hc, show pack (V.sub b off len ver).sh [c'] = c' from rfl, hc2]
          refine ⟨_, _, hk, run_indexAt_slice hu hte' hi.1 hi.2, .one (.ptr b ver [off + i.toNat] ee.sh) [_] (.ptr _ _ _ _ _ hbb fun x hx => ?_)⟩
          have := live_inj hl hx
          subst this
          refine ⟨hle, fun _ => ⟨kk, cap', (off + i.toNat) * ee.sh.csz, hi2, ?_, ?_⟩⟩
          · simp [Blk.bsh, poff]; omega
          · rw [addr_add, Nat.add_mul]
    | _ => exact hg.elim
  | _ => rw [hty] at hg; exact hg.elim

end

end Go.Fw

/-
Slice expressions, fields, elements of values, lengths. No conditions.
-/
namespace Go.Fw
set_option linter.unusedVariables false
set_option linter.unusedSimpArgs false
open Go.RowKit

section
variable {cx : Cx} {B : Nat} {w : World} {m : M} {H : Heap} {rd : Nat → Option Blk}

/-- Operands of ours and of the program's. -/
def RO (w : World) (m : M) (H : Heap) (ρ : Operand → V) (ρc : Operand → Value) : Prop := ∀ x, RV w m H (ρ x) (ρc x)

/-- An optional bound: what it comes to. -/
def OB (o : Option Value) (d hi n : Nat) : Prop := (o = none ∧ n = d) ∨ ∃ kd, o = some (.int kd n) ∧ n ≤ hi

theorem optI_elim {ρ : Operand → V} {ρc : Operand → Value} (hρ : RO w m H ρ ρc) {o : Option Operand} {d hi : Nat} {k : Nat → Prop} (h : optI ρ o d hi k) : ∃ n, k n ∧ OB (o.map ρc) d hi n := by
  cases o with
  | none => exact ⟨d, h, .inl ⟨rfl, rfl⟩⟩
  | some x =>
    obtain ⟨a, n, _, hc, h⟩ := asI_elim (hρ x) h
    obtain ⟨h1, h2⟩ := onT_elim h
    have h1 : 0 ≤ n ∧ n ≤ hi := by simpa using h1
    refine ⟨n.toNat, h2, .inr ⟨a, ?_, by omega⟩⟩
    simp only [Option.map_some, hc]
    congr 2
    omega

theorem run_sliceBounds {isS : Bool} {len cap : Nat} {low high : Option Value} {l h : Nat} (hh : OB high len cap h) (hl : OB low 0 h l) :
    (Instr.sliceBounds isS len cap low high none).run cx.P w = .ok (l, h, cap) w := by
  unfold Instr.sliceBounds
  rcases hh with ⟨rfl, rfl⟩ | ⟨k1, rfl, h1⟩ <;> rcases hl with ⟨rfl, rfl⟩ | ⟨k2, rfl, h2⟩ <;>
    simp [Instr.sliceBound, asIntOf, *]

theorem run_sliceBounds3 {isS : Bool} {len cap : Nat} {low high : Option Value} {v : Value} {l h mm : Nat} (hm : OB (some v) 0 cap mm) (hh : OB high 0 mm h) (hne : high ≠ none) (hl : OB low 0 h l) :
    (Instr.sliceBounds isS len cap low high (some v)).run cx.P w = .ok (l, h, mm) w := by
  unfold Instr.sliceBounds
  rcases hm with ⟨e, _⟩ | ⟨k0, e, h0⟩
  · cases e
  · cases e
    rcases hh with ⟨rfl, rfl⟩ | ⟨k1, rfl, h1⟩
    · exact absurd rfl hne
    · rcases hl with ⟨rfl, rfl⟩ | ⟨k2, rfl, h2⟩ <;> simp [Instr.sliceBound, asIntOf, *]

theorem OB.le {o : Option Value} {d hi n : Nat} (h : OB o d hi n) (hd : d ≤ hi) : n ≤ hi := by
  rcases h with ⟨_, rfl⟩ | ⟨_, _, h⟩ <;> omega

theorem OB.mono {o : Option Value} {d hi hi' n : Nat} (h : OB o d hi n) (hd : hi ≤ hi') : OB o d hi' n := by
  rcases h with h | ⟨k, e, h⟩
  · exact .inl h
  · exact .inr ⟨k, e, by omega⟩

theorem run_sliceAt_slice {t e : TypeId} {ee : TyE} (hu : cx.P.underlying t = some (.slice e)) (hee : TyP cx e ee) {a : Option Addr} {len cap : Nat} {lo hi mx : Option Value} {l h mm : Nat}
    (hb : (Instr.sliceBounds true len cap lo hi mx).run cx.P w = .ok (l, h, mm) w) :
    (Instr.sliceAt t (.slice a len cap) lo hi mx).run cx.P w = .ok (.slice (if mm = l then a else a.map (·.add (l * ee.sh.csz))) (h - l) (mm - l)) w := by
  simp [Instr.sliceAt, Instr.slice, run_underlying hu, hb, hee.run_sizeOf w]

theorem run_sliceAt_arr {t e : TypeId} {n : Nat} {ee : TyE} (hu : cx.P.underlying t = some (.array n e)) (hee : TyP cx e ee) {a : Addr} {lo hi : Option Value} {l h : Nat}
    (hb : (Instr.sliceBounds false n n lo hi none).run cx.P w = .ok (l, h, n) w) :
    (Instr.sliceAt t (.pointer (some a)) lo hi none).run cx.P w = .ok (.slice (some (if n = l then a else a.add (l * ee.sh.csz))) (h - l) (n - l)) w := by
  simp [Instr.sliceAt, Instr.sureAddr, run_underlying hu, hb, hee.run_sizeOf w]

theorem run_sliceAt_str {t : TypeId} (hu : cx.P.underlying t = some .string) {s : ByteArray} {lo hi : Option Value} {l h : Nat}
    (hb : (Instr.sliceBounds false s.size s.size lo hi none).run cx.P w = .ok (l, h, s.size) w) :
    (Instr.sliceAt t (.string s) lo hi none).run cx.P w = .ok (.string (s.extract l h)) w := by
  simp [Instr.sliceAt, Instr.slice, run_underlying hu, hb]

theorem bytes_extract (l : List UInt8) (a b : Nat) : (⟨l.toArray⟩ : ByteArray).extract a b = ⟨((l.take b).drop a).toArray⟩ := by
  apply ByteArray.ext
  rw [ByteArray.data_extract]
  simp [List.extract, List.drop_take]

/-- Data behind part of a slice of data. -/
theorem ro_cut {e : Sh} {t : Bool} {xs : List D} {a : Option Addr} {cap : Nat} (hv : RV w m H (.d (.ro e t xs)) (.slice a xs.length cap)) {l h mm : Nat} {tt : Bool} (hl : l ≤ h) (hh : h ≤ xs.length) (hm : h ≤ mm)
    (ht : tt = true → mm = h) : RV w m H (.d (.ro e tt ((xs.take h).drop l))) (.slice (if mm = l then a else a.map (·.add (l * e.csz))) (h - l) (mm - l)) := by
  obtain ⟨cs, h0, hc⟩ := hv.elim rfl
  have h0 := h0.of_d
  cases h0 with
  | ro _ _ _ a' cap' css hl' hcap ht' h1 hm' =>
    cases hc
    have hlen : ((xs.take h).drop l).length = h - l := by simp; omega
    have key : RC w (Own m H) .one (.ro e tt ((xs.take h).drop l)) [.slice (if mm = l then a else a.map (·.add (l * e.csz))) ((xs.take h).drop l).length (mm - l)] := by
      refine .ro e tt _ _ _ ((css.take h).drop l) (by simp [hl']) (by omega) (fun e => by have := ht e; omega) (fun i x cs h2 h3 => ?_) (fun i cs j c h2 h3 => ?_)
      · rw [List.getElem?_drop, List.getElem?_take] at h2 h3
        split at h2
        · rename_i hi
          rw [if_pos hi] at h3
          exact h1 _ x cs h2 h3
        · cases h2
      · rw [List.getElem?_drop, List.getElem?_take] at h2
        split at h2
        · rename_i hi
          obtain ⟨ad, ha, h4, h5⟩ := hm' _ cs j c h2 h3
          rw [if_neg (by omega)]
          refine ⟨ad.add (l * e.csz), by rw [ha]; rfl, ?_, by rw [add_block]; exact h5⟩
          rw [add_add, ← Nat.add_assoc, ← Nat.add_mul]; exact h4
        · cases h2
    rw [hlen] at key
    exact .d1 key rfl

theorem RV.one_cell {v : V} {c : Value} (h : RCV w m H .one v [c]) (hv : v.sh = .one) : RV w m H v c := by
  have := RV.one v [c] (by rw [hv]; exact h)
  rw [hv] at this; exact this

theorem sliceV_sound (hx : CxOK cx) (hh : HeapOK cx B w m H) (hrd : Rd rd H) {ρ : Operand → V} {ρc : Operand → Value} (hρ : RO w m H ρ ρc) {t : TypeId} {x : V} {c : Value} {lo hi mx : Option Operand} {k : V → Prop}
    (hv : RV w m H x c) (hg : sliceV cx ρ rd t x lo hi mx k) : POK cx w m H k (Instr.sliceAt t c (lo.map ρc) (hi.map ρc) (mx.map ρc)) := by
  obtain ⟨te, hte, hg'⟩ := onS_elim hg; clear hg; have hg := hg'; clear hg'
  have ht := hx.ty t te hte
  cases hty : te.ty with
  | arr n0 e0 =>
    rw [hty] at hg
    obtain ⟨hu, ee, hee, hsh⟩ := ty_arr hx hte hty
    cases x with
    | ptr b ver path s =>
      cases s with
      | arr n e =>
        obtain ⟨hb, hg'⟩ := onT_elim hg; clear hg; have hg := hg'; clear hg'
        have he := Sh.beq_eq _ _ hb
        rw [hsh] at he
        cases he
        cases mx with
        | some _ => exact hg.elim
        | none =>
          obtain ⟨h, hg, o1⟩ := optI_elim hρ hg
          obtain ⟨l, hk, o2⟩ := optI_elim hρ hg
          obtain ⟨cs, hr, hc⟩ := hv.elim rfl
          cases hr with
          | ptr _ _ _ _ a hbb h1 =>
            have hc : c = .pointer (some a) := hc
            subst hc
            have l1 := o1.le (Nat.le_refl _)
            have l2 := o2.le (Nat.zero_le _)
            refine ⟨_, _, hk, run_sliceAt_arr hu (hx.ty _ _ hee) (run_sliceBounds o1 o2), .one_cell (.sa b path l (h - l) _ rfl hbb fun v hl => ?_) rfl⟩
            obtain ⟨hver, h1⟩ := h1 _ hl
            obtain ⟨kk, cap, o, hi2, hp, rfl⟩ := h1 (by simp only [Blk.ver] at hver ⊢; omega)
            refine ⟨kk, cap, o, n0, ee.sh, _, hi2, hp, by omega, rfl, fun hlt => ?_⟩
            rw [if_neg (by omega), addr_add]
      | _ => exact hg.elim
    | _ => exact hg.elim
  | str =>
    rw [hty] at hg
    have hu : cx.P.underlying t = some .string := by have := ht.under; rw [hty] at this; exact this.1
    cases x with
    | d y =>
      cases y with
      | str s =>
        cases mx with
        | some _ => exact hg.elim
        | none =>
          obtain ⟨h, hg, o1⟩ := optI_elim hρ hg
          obtain ⟨l, hk, o2⟩ := optI_elim hρ hg
          have hc := hv.str_inv
          subst hc
          have e : (⟨s.toArray⟩ : ByteArray).size = s.length := by simp [ByteArray.size]
          have hb := run_sliceBounds (cx := cx) (w := w) (isS := false) (len := s.length) (cap := s.length) o1 o2
          rw [← e] at hb
          refine ⟨_, _, hk, run_sliceAt_str hu hb, ?_⟩
          rw [bytes_extract]
          exact .str _
      | _ => exact hg.elim
    | _ => exact hg.elim
  | sl e0 =>
    rw [hty] at hg
    obtain ⟨ee, hee, hg'⟩ := onS_elim hg; clear hg; have hg := hg'; clear hg'
    have hu := ty_sl hx hte hty
    have hte' := hx.ty _ _ hee
    cases x with
    | d y =>
      cases y with
      | ro e tt xs =>
        obtain ⟨hb, hg'⟩ := onT_elim hg; clear hg; have hg := hg'; clear hg'
        have he := Sh.beq_eq _ _ hb
        subst he
        obtain ⟨a, cap, rfl, hcap, htt, _⟩ := ro_elem hv hte'.pos
        cases mx with
        | none =>
          cases hi with
          | none =>
            obtain ⟨l, hk, o2⟩ := optI_elim hρ hg
            have l2 := o2.le (Nat.zero_le _)
            refine ⟨_, _, hk, run_sliceAt_slice hu hte' (run_sliceBounds (.inl ⟨rfl, rfl⟩) o2), ?_⟩
            have := ro_cut (mm := cap) (tt := tt) hv l2 (Nat.le_refl _) hcap htt
            rw [List.take_length] at this; exact this
          | some hi =>
            obtain ⟨h, hg, o1⟩ := optI_elim hρ hg
            obtain ⟨l, hk, o2⟩ := optI_elim hρ hg
            have l1 := o1.le (Nat.zero_le _)
            have l2 := o2.le (Nat.zero_le _)
            have o1' : OB ((some hi).map ρc) xs.length cap h := by
              rcases o1 with ⟨e, _⟩ | ⟨kd, e, hle⟩
              · cases e
              · exact .inr ⟨kd, e, by omega⟩
            exact ⟨_, _, hk, run_sliceAt_slice hu hte' (run_sliceBounds o1' o2), ro_cut (mm := cap) hv l2 l1 (by omega) (fun e => by cases e)⟩
        | some mx =>
          cases hi with
          | none => exact hg.elim
          | some hi =>
            obtain ⟨mm, hg, o0⟩ := optI_elim hρ hg
            obtain ⟨h, hg, o1⟩ := optI_elim hρ hg
            obtain ⟨l, hk, o2⟩ := optI_elim hρ hg
            have l0 := o0.le (Nat.zero_le _)
            have l1 := o1.le (Nat.zero_le _)
            have l2 := o2.le (Nat.zero_le _)
            exact ⟨_, _, hk, run_sliceAt_slice hu hte' (run_sliceBounds3 (o0.mono hcap) o1 (by simp) o2), ro_cut (mm := mm) hv l2 (by omega) l1 (fun e => Nat.eq_of_beq_eq_true e)⟩
      | nils =>
        cases mx with
        | some _ => exact hg.elim
        | none =>
          obtain ⟨h, hg, o1⟩ := optI_elim hρ hg
          obtain ⟨l, hk, o2⟩ := optI_elim hρ hg
          have hc := hv.nils_inv
          subst hc
          have l1 := o1.le (Nat.le_refl _)
          have l2 := o2.le (Nat.zero_le _)
          have : h = 0 ∧ l = 0 := by omega
          obtain ⟨rfl, rfl⟩ := this
          exact ⟨_, _, hk, run_sliceAt_slice hu hte' (run_sliceBounds o1 o2), by simpa using hv⟩
      | _ => exact hg.elim
    | sl b off ver =>
      obtain ⟨blk, hb, hg'⟩ := onS_elim hg; clear hg; have hg := hg'; clear hg'
      cases blk with
      | fix v => exact hg.elim
      | grow ver' e xs =>
        obtain ⟨hev, hg'⟩ := onE_elim hg; clear hg; have hg := hg'; clear hg'
        obtain ⟨hbe, hg'⟩ := onT_elim hg; clear hg; have hg := hg'; clear hg'
        have he := Sh.beq_eq _ _ hbe
        subst he
        have hl := hrd b _ hb
        cases mx with
        | some _ => cases hi <;> exact hg.elim
        | none =>
          obtain ⟨cs, h, hc⟩ := hv.elim rfl
          cases h with
          | sl _ _ _ c' ho hbb h =>
            have hc : c = c' := hc
            subst hc
            obtain ⟨hle, h⟩ := h ver' _ xs hl
            obtain ⟨hof, h⟩ := h hev
            cases hi with
            | none =>
              obtain ⟨l, hk, o2⟩ := optI_elim hρ hg
              have l2 := o2.le (Nat.zero_le _)
              rcases h with ⟨hn, rfl⟩ | ⟨kk, cap, a, hi2, hcap, rfl, ha⟩
              · have hx0 : xs = [] := by
                  cases hh.blk b _ hl with
                  | none => rfl
                  | grow ver e xs k cap cur css h1 => rw [hn] at h1; cases h1
                subst hx0
                simp at l2
                subst l2
                refine ⟨_, _, hk, run_sliceAt_slice hu hte' (run_sliceBounds (.inl ⟨rfl, rfl⟩) (by rcases o2 with ⟨a, b⟩ | ⟨kd, a, b⟩; exact .inl ⟨a, b⟩; exact .inr ⟨kd, a, by omega⟩)), .one_cell (.sl b _ ver _ rfl hbb fun v2 e2 xs2 hl2 => ?_) rfl⟩
                have := live_inj hl hl2
                cases this
                exact ⟨hle, fun _ => ⟨by simpa using hof, .inl ⟨hn, by simp⟩⟩⟩
              · refine ⟨_, _, hk, run_sliceAt_slice hu hte' (run_sliceBounds (.inl ⟨rfl, rfl⟩) o2), .one_cell (.sl b _ ver _ rfl hbb fun v2 e2 xs2 hl2 => ?_) rfl⟩
                have := live_inj hl hl2
                cases this
                refine ⟨hle, fun _ => ⟨by omega, .inr ⟨kk, cap, _, hi2, hcap, by rw [Nat.sub_sub, Nat.sub_sub], fun hlt => ?_⟩⟩⟩
                rw [if_neg (by omega), ha (by omega)]
                simp [addr_add, Nat.add_mul]
            | some hi =>
              obtain ⟨h', hg, o1⟩ := optI_elim hρ hg
              obtain ⟨l, hk, o2⟩ := optI_elim hρ hg
              have l1 := o1.le (Nat.zero_le _)
              have l2 := o2.le (Nat.zero_le _)
              rcases h with ⟨hn, rfl⟩ | ⟨kk, cap, a, hi2, hcap, rfl, ha⟩
              · have hx0 : xs = [] := by
                  cases hh.blk b _ hl with
                  | none => rfl
                  | grow ver e xs k cap cur css h1 => rw [hn] at h1; cases h1
                subst hx0
                simp at l1
                subst l1
                simp at l2
                subst l2
                have o1' : OB ((some hi).map ρc) 0 0 0 := by rcases o1 with ⟨a, b⟩ | ⟨kd, a, b⟩; exact .inl ⟨a, b⟩; exact .inr ⟨kd, a, by omega⟩
                refine ⟨_, _, hk, run_sliceAt_slice hu hte' (run_sliceBounds o1' o2), .one_cell (.sub b _ _ ver _ rfl hbb fun v2 e2 xs2 hl2 => ?_) rfl⟩
                have := live_inj hl hl2
                cases this
                exact ⟨hle, fun _ => ⟨by simpa using hof, 0, none, by simp, by simp, by simp⟩⟩
              · have o1' : OB ((some hi).map ρc) (xs.length - off) (cap - off) h' := by
                  rcases o1 with ⟨e, _⟩ | ⟨kd, e, hle⟩
                  · cases e
                  · exact .inr ⟨kd, e, by omega⟩
                refine ⟨_, _, hk, run_sliceAt_slice hu hte' (run_sliceBounds o1' o2), .one_cell (.sub b _ _ ver _ rfl hbb fun v2 e2 xs2 hl2 => ?_) rfl⟩
                have := live_inj hl hl2
                cases this
                refine ⟨hle, fun _ => ⟨by omega, _, _, rfl, by omega, fun hp => ⟨kk, cap, hi2, ?_⟩⟩⟩
                rw [if_neg (by omega), ha (by omega)]
                simp [addr_add, Nat.add_mul]
    | sub b off len ver =>
      obtain ⟨blk, hb, hg'⟩ := onS_elim hg; clear hg; have hg := hg'; clear hg'
      cases blk with
      | fix v => exact hg.elim
      | grow ver' e xs =>
        obtain ⟨hev, hg'⟩ := onE_elim hg; clear hg; have hg := hg'; clear hg'
        obtain ⟨hbe, hg'⟩ := onT_elim hg; clear hg; have hg := hg'; clear hg'
        have he := Sh.beq_eq _ _ hbe
        subst he
        have hl := hrd b _ hb
        cases mx with
        | some _ => exact hg.elim
        | none =>
          obtain ⟨cs, h, hc⟩ := hv.elim rfl
          cases h with
          | sub _ _ _ _ c' ho hbb h =>
            have hc : c = c' := hc
            subst hc
            obtain ⟨hle, h⟩ := h ver' _ xs hl
            obtain ⟨hof, cap, a, rfl, hcap, ha⟩ := h hev
            obtain ⟨h', hg, o1⟩ := optI_elim hρ hg
            obtain ⟨l, hk, o2⟩ := optI_elim hρ hg
            have l1 := o1.le (Nat.le_refl _)
            have l2 := o2.le (Nat.zero_le _)
            refine ⟨_, _, hk, run_sliceAt_slice hu hte' (run_sliceBounds (o1.mono hcap) o2), .one_cell (.sub b _ _ ver _ rfl hbb fun v2 e2 xs2 hl2 => ?_) rfl⟩
            have := live_inj hl hl2
            cases this
            have hlc : h' - l ≤ cap - l := by omega
            refine ⟨hle, fun _ => ⟨by omega, _, _, rfl, hlc, fun hp => ?_⟩⟩
            have hp0 : 0 < len := by omega
            obtain ⟨kk, cap', hi2, hae⟩ := ha hp0
            refine ⟨kk, cap', hi2, ?_⟩
            rw [if_neg (by omega), hae]
            simp [addr_add, Nat.add_mul]
    | sa b path off len =>
      obtain ⟨blk, hb, hg'⟩ := onS_elim hg; clear hg; have hg := hg'; clear hg'
      cases blk with
      | grow ver' e xs => exact hg.elim
      | fix v =>
        have hl := hrd b _ hb
        obtain ⟨⟨o0, s0⟩, hp0, hg2⟩ := onS_elim hg
        clear hg
        obtain ⟨cs, h, hc⟩ := hv.elim rfl
        cases h with
        | sa _ _ _ _ c' ho hbb h =>
          obtain ⟨kk, cap, o, n, e, a, hi2, hp, hle, rfl, ha⟩ := h v hl
          rw [hp] at hp0
          cases hp0
          obtain ⟨hbe, hg3⟩ := onT_elim hg2
          clear hg2
          have he := Sh.beq_eq _ _ hbe
          subst he
          have hc : c = .slice a len (n - off) := hc
          subst hc
          cases mx with
          | some _ => exact hg3.elim
          | none =>
            obtain ⟨h', hg4, o1⟩ := optI_elim hρ hg3
            obtain ⟨l, hk, o2⟩ := optI_elim hρ hg4
            have l1 := o1.le (Nat.le_refl _)
            have l2 := o2.le (Nat.zero_le _)
            have hln : len ≤ n - off := by omega
            refine ⟨_, _, hk, run_sliceAt_slice hu hte' (run_sliceBounds (o1.mono hln) o2), .one_cell (.sa b path _ _ _ rfl hbb fun v2 hl2 => ?_) rfl⟩
            have := live_inj hl hl2
            cases this
            refine ⟨kk, cap, o0, n, ee.sh, _, hi2, hp, by omega, by rw [Nat.sub_sub], fun hlt => ?_⟩
            rw [if_neg (by omega), ha (by omega)]
            simp [addr_add, Nat.add_mul, Nat.add_assoc]
    | _ => exact hg.elim
  | _ => rw [hty] at hg; exact hg.elim
end

end Go.Fw

/-
Fields and elements of values, lengths, arithmetic, comparisons, conversions. No conditions.
-/
namespace Go.Fw
set_option linter.unusedVariables false
set_option linter.unusedSimpArgs false
open Go.RowKit

section
variable {cx : Cx} {B : Nat} {w : World} {m : M} {H : Heap} {rd : Nat → Option Blk}

theorem ty_st (hx : CxOK cx) {t : TypeId} {te : TyE} {fs : List TypeId} (h : cx.ty t = some te) (hty : te.ty = .st fs) :
    ∃ fields shs, cx.P.underlying t = some (.struct fields) ∧ cx.P.stoodInHeld t = false ∧ fields.size = fs.length ∧ te.sh = .st shs ∧ shs.length = fs.length ∧
        ∀ (i : Nat) f, fields[i]? = some f → fs[i]? = some f.type ∧ f.offset = Sh.cszs (shs.take i) ∧ f.name ≠ "_" ∧ ∃ fe, cx.ty f.type = some fe ∧ shs[i]? = some fe.sh := by
  have := (hx.ty t te h).under; rw [hty] at this; exact this

theorem run_part {t : TypeId} {te : TyE} (ht : TyP cx t te) {cs : List Value} {off : Nat} (hle : off + te.sh.csz ≤ cs.length) :
    (part t cs.toArray off).run cx.P w = .ok (pack te.sh ((cs.drop off).take te.sh.csz)) w := by
  unfold part
  simp only [Sem.run_bind, ht.run_isAgg w, Result.andThen_ok]
  cases hsh : te.sh with
  | one =>
    rw [hsh] at hle
    simp only [Sh.csz] at hle ⊢
    simp only [Sh.agg, Bool.false_eq_true, if_false]
    have h1 : cs[off]? = some (cs[off]'(by omega)) := List.getElem?_eq_getElem (by omega)
    rw [List.drop_eq_getElem_cons (by omega), List.getElem?_toArray, h1]
    rfl
  | arr n e => simp only [Sh.agg, if_true, Sem.run_bind, ht.run_sizeOf w, Result.andThen_ok, pack, hsh]; simp
  | st l => simp only [Sh.agg, if_true, Sem.run_bind, ht.run_sizeOf w, Result.andThen_ok, pack, hsh]; simp

theorem pack_agg {sh : Sh} {cs : List Value} (h : sh.agg = true) : pack sh cs = .agg cs.toArray := by
  cases sh with
  | one => cases h
  | arr n e => cases cs <;> rfl
  | st l => cases cs <;> rfl

/-- The type of a field, by its place. -/
theorem field_at (hx : CxOK cx) {t : TypeId} {te : TyE} {fs : List TypeId} (h : cx.ty t = some te) (hty : te.ty = .st fs) {l : List Sh} (hsh : te.sh = .st l) {f : Nat} {s : Sh} (hf : l[f]? = some s) :
    ∃ fields fd fe, cx.P.underlying t = some (.struct fields) ∧ fields[f]? = some fd ∧ fd.offset = Sh.cszs (l.take f) ∧ cx.ty fd.type = some fe ∧ fe.sh = s := by
  obtain ⟨fields, shs, hu, _, hsz, hs, hl, hfd⟩ := ty_st hx h hty
  rw [hsh] at hs
  cases hs
  have hlt : f < l.length := (List.getElem?_eq_some_iff.1 hf).1
  have h1 : fields[f]? = some (fields[f]'(by omega)) := Array.getElem?_eq_getElem (by omega)
  obtain ⟨_, ho, _, fe, hfe, hs⟩ := hfd f _ h1
  rw [hf] at hs
  cases hs
  exact ⟨fields, _, fe, hu, h1, ho, hfe, rfl⟩

theorem run_fieldAt {t : TypeId} {fields : Array Field} (hu : cx.P.underlying t = some (.struct fields)) {f : Nat} {fd : Field} (hf : fields[f]? = some fd) {fe : TyE} (hfe : TyP cx fd.type fe) {a : Addr} :
    (Instr.fieldAt t (.pointer (some a)) f).run cx.P w = .ok (.pointer (some (a.add fd.offset))) w := by
  have := hfe.pos
  have h0 : fe.sh.csz ≠ 0 := by omega
  simp [Instr.fieldAt, Instr.sureAddr, run_underlying hu, hf, fieldPlace, hfe.run_sizeOf w, h0]

/-- A part of a struct's value. -/
theorem run_field {t : TypeId} {fields : Array Field} (hu : cx.P.underlying t = some (.struct fields)) {f : Nat} {fd : Field} (hf : fields[f]? = some fd) {fe : TyE} (hfe : TyP cx fd.type fe) {cs : List Value}
    (hle : fd.offset + fe.sh.csz ≤ cs.length) : (Instr.field t (.agg cs.toArray) f).run cx.P w = .ok (pack fe.sh ((cs.drop fd.offset).take fe.sh.csz)) w := by
  simp [Instr.field, asAgg, run_underlying hu, hf, run_part hfe hle]

theorem run_len_slice {t ty e : TypeId} (hu : cx.P.underlying t = some (.slice e)) (a : Option Addr) (n cap : Nat) : (Builtin.len_ #[t] ty #[.slice a n cap]).run cx.P w = .ok (.int .i64 n) w := by
  show _ = Result.ok (goInt n) w
  simp [Builtin.len_, run_underlying hu]

theorem run_len_array {t ty e : TypeId} {n : Nat} (hu : cx.P.underlying t = some (.array n e)) (c : Value) : (Builtin.len_ #[t] ty #[c]).run cx.P w = .ok (.int .i64 n) w := by
  show _ = Result.ok (goInt n) w
  simp [Builtin.len_, run_underlying hu]

theorem lenV_sound (hx : CxOK cx) (hh : HeapOK cx B w m H) (hrd : Rd rd H) {t : TypeId} {x : V} {c : Value} {k : Nat → Prop} {ty : TypeId} (hv : RV w m H x c) (hg : lenV cx rd t x k) :
    ∃ n : Nat, k n ∧ (Builtin.len_ #[t] ty #[c]).run cx.P w = .ok (.int .i64 n) w := by
  obtain ⟨te, hte, hg⟩ := onS_elim hg
  have ht := hx.ty t te hte
  cases hty : te.ty with
  | str =>
    rw [hty] at hg
    have hu : cx.P.underlying t = some .string := by have := ht.under; rw [hty] at this; exact this.1
    cases x with
    | d y =>
      cases y with
      | str l =>
        have := hv.str_inv
        subst this
        refine ⟨l.length, hg, ?_⟩
        have e : (⟨l.toArray⟩ : ByteArray).size = l.length := by simp [ByteArray.size]
        rw [← e]
        exact run_len_string w t ty _ hu
      | _ => exact hg.elim
    | _ => exact hg.elim
  | arr n e =>
    rw [hty] at hg
    obtain ⟨hu, _⟩ := ty_arr hx hte hty
    cases x with
    | d y =>
      cases y with
      | arr n' e' xs =>
        exact ⟨n, hg, run_len_array hu _⟩
      | _ => exact hg.elim
    | _ => exact hg.elim
  | sl e =>
    rw [hty] at hg
    have hu := ty_sl hx hte hty
    cases x with
    | d y =>
      cases y with
      | nils => have := hv.nils_inv; subst this; exact ⟨0, hg, run_len_slice hu _ _ _⟩
      | ro e' t' xs =>
        obtain ⟨cs, h, hc⟩ := hv.elim rfl
        have h := h.of_d
        cases h with
        | ro _ _ _ a cap css hl hcap ht h0 hm =>
          have hc : c = .slice a xs.length cap := hc
          subst hc
          exact ⟨xs.length, hg, run_len_slice hu _ _ _⟩
      | _ => exact hg.elim
    | sl b off ver =>
      obtain ⟨blk, hb, hg⟩ := onS_elim hg
      cases blk with
      | fix v => exact hg.elim
      | grow ver' e xs =>
        obtain ⟨he, hk⟩ := onE_elim hg
        obtain ⟨_, a, cap, css, hc, _, hl, _⟩ := slAt_sl hh (hrd b _ hb) hv he
        subst hc
        exact ⟨_, hk, by rw [List.length_drop]; exact run_len_slice hu _ _ _⟩
    | sub b off len ver =>
      obtain ⟨blk, hb, hg⟩ := onS_elim hg
      cases blk with
      | fix v => exact hg.elim
      | grow ver' e xs =>
        obtain ⟨he, hk⟩ := onE_elim hg
        obtain ⟨hle, a, cap, css, hc, _, hl, _⟩ := slAt_sub hh (hrd b _ hb) hv he
        subst hc
        have : ((xs.drop off).take len).length = len := by simp; omega
        exact ⟨_, hk, by rw [this]; exact run_len_slice hu _ _ _⟩
    | sa b path off len =>
      obtain ⟨blk, hb, hg⟩ := onS_elim hg
      cases blk with
      | grow ver' e xs => exact hg.elim
      | fix v =>
        obtain ⟨cs, h, hc⟩ := hv.elim rfl
        cases h with
        | sa _ _ _ _ c' ho hbb h =>
          obtain ⟨kk, cap, o, n, e, a, _, _, _, hc2, _⟩ := h v (hrd b _ hb)
          have hc : c = c' := hc
          rw [hc, hc2]
          exact ⟨_, hg, run_len_slice hu _ _ _⟩
    | _ => exact hg.elim
  | _ => rw [hty] at hg; cases x <;> exact hg.elim

theorem minI_sound {op : Builtin} {l : List V} {cl : List Value} {k : V → Prop} {tt : Array TypeId} {ty : TypeId} (hl : cl.length = l.length) (hv : ∀ (i : Nat) x c, l[i]? = some x → cl[i]? = some c → RV w m H x c) (hg : minI op l k) :
    ∃ v c, k v ∧ RV w m H v c ∧ ((op = .min ∧ (Builtin.min_ tt ty cl.toArray).run cx.P w = .ok c w) ∨ (op = .max ∧ (Builtin.max_ tt ty cl.toArray).run cx.P w = .ok c w)) := by
  unfold minI at hg
  split at hg
  · rename_i a x b y
    obtain ⟨he, hk⟩ := onT_elim hg
    have he : a = b := by simpa using he
    subst he
    match cl, hl with
    | [c1, c2], _ =>
      have h1 := (hv 0 _ c1 rfl rfl).int_inv
      have h2 := (hv 1 _ c2 rfl rfl).int_inv
      subst h1; subst h2
      exact ⟨_, _, hk, .int a _, .inl ⟨rfl, by simp [Builtin.min_, Builtin.min2, List.foldlM]⟩⟩
  · rename_i a x b y
    obtain ⟨he, hk⟩ := onT_elim hg
    have he : a = b := by simpa using he
    subst he
    match cl, hl with
    | [c1, c2], _ =>
      have h1 := (hv 0 _ c1 rfl rfl).int_inv
      have h2 := (hv 1 _ c2 rfl rfl).int_inv
      subst h1; subst h2
      exact ⟨_, _, hk, .int a _, .inr ⟨rfl, by simp [Builtin.max_, Builtin.max2, List.foldlM]⟩⟩
  · exact hg.elim

theorem unV_sound {op : UnOp} {x : V} {c : Value} {k : V → Prop} (hv : RV w m H x c) (hg : unV op x k) : POK cx w m H k (Op.unary op c) := by
  unfold unV at hg
  split at hg
  · have := hv.int_inv; subst this; exact ⟨_, _, hg, by simp [Op.unary, Op.intArith], .int _ _⟩
  · have := hv.int_inv; subst this; exact ⟨_, _, hg, by simp [Op.unary, Op.intBits], .int _ _⟩
  · have := hv.bool_inv; subst this; exact ⟨_, _, hg, by simp [Op.unary], .bool _⟩
  · exact hg.elim

theorem eqGuard_int (op : BinOp) (t : TypeId) (x y : Operand) (ka kb : IntKind) (a b : Int) : (eqGuard op t x y (.int ka a) (.int kb b)).run cx.P w = .ok () w := by
  cases op <;> simp [eqGuard]
theorem eqGuard_str (op : BinOp) (t : TypeId) (x y : Operand) (a b : ByteArray) : (eqGuard op t x y (.string a) (.string b)).run cx.P w = .ok () w := by
  cases op <;> simp [eqGuard]
theorem eqGuard_bool (op : BinOp) (t : TypeId) (x y : Operand) (a b : Bool) : (eqGuard op t x y (.bool a) (.bool b)).run cx.P w = .ok () w := by
  cases op <;> simp [eqGuard]

theorem bytes_toList (l : List UInt8) : (⟨l.toArray⟩ : ByteArray).toList = l := by rw [ByteArray.toList_eq]

/-! Equality of plain data -/

theorem plain_guard (hx : CxOK cx) : ∀ (n : Nat) (t : TypeId), plainT cx n t = true → ∀ d, n ≤ d → cx.P.eqGuardType d t = false
  | 0, t, h, _, _ => by simp [plainT] at h
  | n + 1, t, h, d, hd => by
    obtain ⟨d, rfl⟩ : ∃ e, d = e + 1 := ⟨d - 1, by omega⟩
    simp only [plainT] at h
    cases hte : cx.ty t with
    | none => rw [hte] at h; cases h
    | some te =>
      rw [hte] at h
      have ht := (hx.ty t te hte).under
      cases hty : te.ty <;> simp only [hty] at h ht
      case int => simp [Program.eqGuardType, ht.1]
      case bool => simp [Program.eqGuardType, ht.1]
      case str => simp [Program.eqGuardType, ht.1]
      case arr k e =>
        simp only [Program.eqGuardType, ht.1]
        exact plain_guard hx n e h d (by omega)
      case st fs =>
        obtain ⟨fields, shs, hu, _, hsz, hs, hl, hfd⟩ := ht
        simp only [Program.eqGuardType, hu]
        rw [Array.any_eq_false]
        intro i hi
        obtain ⟨h1, _, _, fe, _, _⟩ := hfd i _ (Array.getElem?_eq_getElem hi)
        have hm : fields[i].type ∈ fs := List.mem_of_getElem? h1
        rw [List.all_eq_true] at h
        simp [plain_guard hx n _ (h _ hm) d (by omega)]
      all_goals cases h

theorem eqL_cons {f : D → D → Option Bool} {x y : D} {xs ys : List D} {b : Bool} (h : eqL f (x :: xs) (y :: ys) = some b) : ∃ p q, f x y = some p ∧ eqL f xs ys = some q ∧ b = (p && q) := by
  simp only [eqL] at h
  split at h
  · rename_i p q h1 h2; cases h; exact ⟨p, q, h1, h2, rfl⟩
  · cases h

theorem eqF_cons {f : TypeId → D → D → Option Bool} {t : TypeId} {ts : List TypeId} {x y : D} {xs ys : List D} {b : Bool} (h : eqF f (t :: ts) (x :: xs) (y :: ys) = some b) :
    ∃ p q, f t x y = some p ∧ eqF f ts xs ys = some q ∧ b = (p && q) := by
  simp only [eqF] at h
  split at h
  · rename_i p q h1 h2; cases h; exact ⟨p, q, h1, h2, rfl⟩
  · cases h

theorem cellsOf_eq {t : TypeId} {te : TyE} (ht : TyP cx t te) : cx.P.cellsOf t = te.sh.csz := by
  obtain ⟨i, hi, hs, _⟩ := ht.info
  simp [Program.cellsOf, hi, hs]

/-- Elements of two arrays, one after the other. -/
theorem run_items {own : Nat → Prop} {e : TypeId} {ee : TyE} (hee : TyP cx e ee) {d : Nat} {f : D → D → Option Bool} {css dss : List (List Value)}
    (hf : ∀ x y p q b, f x y = some b → RC w own ee.sh x p → RC w own ee.sh y q → (Op.equalIn d e (pack ee.sh p) (pack ee.sh q)).run cx.P w = .ok b w)
    (hc : ∀ cs ∈ css, cs.length = ee.sh.csz) (hd : ∀ cs ∈ dss, cs.length = ee.sh.csz) : ∀ (xs ys : List D) (i : Nat) (b : Bool), eqL f xs ys = some b → i + xs.length = css.length → i + ys.length = dss.length →
    (∀ (j : Nat) x cs, xs[j]? = some x → css[i + j]? = some cs → RC w own ee.sh x cs) → (∀ (j : Nat) x cs, ys[j]? = some x → dss[i + j]? = some cs → RC w own ee.sh x cs) →
    (Op.eqItems d e (cx.P.cellsOf e) css.flatten.toArray dss.flatten.toArray (List.range' i xs.length)).run cx.P w = .ok b w
  | [], [], i, b, h, _, _, _, _ => by simp [eqL] at h; subst h; simp [Op.eqItems]
  | x :: xs, y :: ys, i, b, h, h1, h2, h3, h4 => by
    obtain ⟨p, q, hp, hq, rfl⟩ := eqL_cons h
    simp only [List.length_cons] at h1 h2
    have c1 : css[i]? = some (css[i]'(by omega)) := List.getElem?_eq_getElem (by omega)
    have c2 : dss[i]? = some (dss[i]'(by omega)) := List.getElem?_eq_getElem (by omega)
    have r1 := h3 0 x _ rfl c1
    have r2 := h4 0 y _ rfl c2
    obtain ⟨f1, f2⟩ := flat_get c1
    obtain ⟨g1, g2⟩ := flat_get c2
    rw [sum_take_const hc (by omega)] at f1 f2
    rw [sum_take_const hd (by omega)] at g1 g2
    rw [r1.len] at f1 f2
    rw [r2.len] at g1 g2
    have p1 := run_part (w := w) hee (cs := css.flatten) (off := i * ee.sh.csz) f2
    have p2 := run_part (w := w) hee (cs := dss.flatten) (off := i * ee.sh.csz) g2
    rw [f1] at p1
    rw [g1] at p2
    have ih := run_items hee hf hc hd xs ys (i + 1) q hq (by omega) (by omega) (fun j z cs a b => h3 (j + 1) z cs (by simpa using a) (by rw [← b]; congr 1; omega)) (fun j z cs a b => h4 (j + 1) z cs (by simpa using a) (by rw [← b]; congr 1; omega))
    simp only [List.length_cons, List.range'_succ, Op.eqItems, Sem.run_bind, cellsOf_eq hee, p1, p2, Result.andThen_ok, hf x y _ _ p hp r1 r2]
    cases p
    · simp
    · simpa [cellsOf_eq hee] using ih
  | [], y :: ys, i, b, h, _, _, _, _ => by simp [eqL] at h
  | x :: xs, [], i, b, h, _, _, _, _ => by simp [eqL] at h

/-- Fields of two structs, one after the other. -/
theorem run_fields {own : Nat → Prop} {d : Nat} {f : TypeId → D → D → Option Bool} {shs : List Sh} {css dss : List (List Value)} (hx : CxOK cx)
    (hf : ∀ t te x y p q b, cx.ty t = some te → f t x y = some b → RC w own te.sh x p → RC w own te.sh y q → (Op.equalIn d t (pack te.sh p) (pack te.sh q)).run cx.P w = .ok b w)
    (hc : ∀ (j : Nat) s cs, shs[j]? = some s → css[j]? = some cs → cs.length = s.csz) (hd : ∀ (j : Nat) s cs, shs[j]? = some s → dss[j]? = some cs → cs.length = s.csz) (hcl : css.length = shs.length) (hdl : dss.length = shs.length) :
    ∀ (fl : List Field) (fs : List TypeId) (xs ys : List D) (i : Nat) (b : Bool), eqF f fs xs ys = some b → fl.length = fs.length → i + fl.length = shs.length →
    (∀ (j : Nat) g, fl[j]? = some g → fs[j]? = some g.type ∧ g.offset = Sh.cszs (shs.take (i + j)) ∧ g.name ≠ "_" ∧ ∃ fe, cx.ty g.type = some fe ∧ shs[i + j]? = some fe.sh) →
    (∀ (j : Nat) s x cs, shs[i + j]? = some s → xs[j]? = some x → css[i + j]? = some cs → RC w own s x cs) → (∀ (j : Nat) s x cs, shs[i + j]? = some s → ys[j]? = some x → dss[i + j]? = some cs → RC w own s x cs) →
    (Op.eqFields d css.flatten.toArray dss.flatten.toArray fl).run cx.P w = .ok b w
  | [], [], [], [], i, b, h, _, _, _, _, _ => by simp [eqF] at h; subst h; simp [Op.eqFields]
  | g :: fl, t :: fs, x :: xs, y :: ys, i, b, h, h1, h2, h3, h4, h5 => by
    obtain ⟨p, q, hp, hq, rfl⟩ := eqF_cons h
    simp only [List.length_cons] at h1 h2
    obtain ⟨k1, k2, k3, fe, k4, k5⟩ := h3 0 g rfl
    simp at k1
    subst k1
    simp only [Nat.add_zero] at k2 k5
    have hfe := hx.ty _ _ k4
    have c1 : css[i]? = some (css[i]'(by omega)) := List.getElem?_eq_getElem (by omega)
    have c2 : dss[i]? = some (dss[i]'(by omega)) := List.getElem?_eq_getElem (by omega)
    have r1 := h4 0 _ x _ k5 rfl c1
    have r2 := h5 0 _ y _ k5 rfl c2
    obtain ⟨f1, f2⟩ := flat_get c1
    obtain ⟨g1, g2⟩ := flat_get c2
    rw [st_sum hcl hc] at f1 f2
    rw [st_sum hdl hd] at g1 g2
    rw [r1.len] at f1 f2
    rw [r2.len] at g1 g2
    have p1 := run_part (w := w) hfe (cs := css.flatten) (off := g.offset) (by rw [k2]; exact f2)
    have p2 := run_part (w := w) hfe (cs := dss.flatten) (off := g.offset) (by rw [k2]; exact g2)
    rw [k2, f1] at p1
    rw [k2, g1] at p2
    have ih := run_fields hx hf hc hd hcl hdl fl fs xs ys (i + 1) q hq (by omega) (by omega)
      (fun j z a => by have := h3 (j + 1) z (by simpa using a); rw [show i + 1 + j = i + (j + 1) from by omega]; simpa using this)
      (fun j s z cs a b c => h4 (j + 1) s z cs (by rw [← a]; congr 1; omega) (by simpa using b) (by rw [← c]; congr 1; omega))
      (fun j s z cs a b c => h5 (j + 1) s z cs (by rw [← a]; congr 1; omega) (by simpa using b) (by rw [← c]; congr 1; omega))
    simp only [Op.eqFields, k3, ne_eq, not_false_eq_true, if_true, Sem.run_bind, k2, p1, p2, Result.andThen_ok, hf _ fe x y _ _ p k4 hp r1 r2]
    cases p
    · simp
    · simpa using ih
  | [], [], [], _ :: _, i, b, h, _, _, _, _, _ => by simp [eqF] at h
  | [], [], _ :: _, _, i, b, h, _, _, _, _, _ => by simp [eqF] at h
  | [], _ :: _, _, _, i, b, h, h1, _, _, _, _ => by simp at h1
  | _ :: _, [], _, _, i, b, h, h1, _, _, _, _ => by simp at h1
  | _ :: _, _ :: _, [], _, i, b, h, _, _, _, _, _ => by simp [eqF] at h
  | _ :: _, _ :: _, _ :: _, [], i, b, h, _, _, _, _, _ => by simp [eqF] at h

theorem eqT_sound (hx : CxOK cx) {own : Nat → Prop} : ∀ (n : Nat) (t : TypeId) (te : TyE) (x y : D) (p q : List Value) (b : Bool) (d : Nat), cx.ty t = some te → eqT cx n t x y = some b →
    RC w own te.sh x p → RC w own te.sh y q → n ≤ d → (Op.equalIn d t (pack te.sh p) (pack te.sh q)).run cx.P w = .ok b w
  | 0, t, te, x, y, p, q, b, d, _, h, _, _, _ => by simp [eqT] at h
  | n + 1, t, te, x, y, p, q, b, d, hte, h, r1, r2, hd => by
    obtain ⟨d, rfl⟩ : ∃ e, d = e + 1 := ⟨d - 1, by omega⟩
    simp only [eqT, hte] at h
    have ht := (hx.ty t te hte).under
    cases hty : te.ty <;> simp only [hty] at h ht
    case int k =>
      obtain ⟨hu, hs⟩ := ht
      rw [hs] at r1 r2 ⊢
      cases x <;> cases y <;> simp at h
      rename_i a u a' u'
      split at h
      · rename_i he
        have he : a = a' := by simpa using he
        cases h
        cases r1; cases r2
        subst he
        exact run_equalIn_int w d t a k u u' hu
      · cases h
    case bool =>
      obtain ⟨hu, hs⟩ := ht
      rw [hs] at r1 r2 ⊢
      cases x <;> cases y <;> simp at h
      cases r1; cases r2
      rw [← h]
      exact run_equalIn_bool' w d t _ _ hu
    case str =>
      obtain ⟨hu, hs⟩ := ht
      rw [hs] at r1 r2 ⊢
      cases x <;> cases y <;> simp at h
      rename_i l l'
      cases r1; cases r2
      rw [← h]
      have := run_equalIn_string w d t ⟨l.toArray⟩ ⟨l'.toArray⟩ hu
      rw [bytes_toList, bytes_toList] at this
      exact this
    case arr N e =>
      obtain ⟨hu, ee, hee, hs⟩ := ht
      rw [hs] at r1 r2 ⊢
      cases x <;> cases y <;> simp at h
      rename_i n1 e1 xl n2 e2 yl
      cases r1 with
      | arr _ _ _ css hl hn h1 =>
        cases r2 with
        | arr _ _ _ dss hl2 hn2 h2 =>
          have hte' := hx.ty _ _ hee
          obtain ⟨i0, hi0, _⟩ := hte'.info
          rw [pack_agg rfl, pack_agg rfl, run_equalIn_array w d _ _ hu hi0, List.range_eq_range']
          have := run_items (w := w) (own := own) hte' (d := d) (f := eqT cx n e) (css := css) (dss := dss) (fun x y p q b hb a1 a2 => eqT_sound hx n e ee x y p q b d hee hb a1 a2 (by omega)) (arr_lens hl h1) (arr_lens hl2 h2) xl yl 0 b h (by omega) (by omega)
            (fun j x cs a b => h1 j x cs a (by simpa using b)) (fun j x cs a b => h2 j x cs a (by simpa using b))
          rw [hn] at this
          exact this
    case st fs =>
      obtain ⟨fields, shs, hu, hso, hsz, hs, hsl, hfd⟩ := ht
      rw [hs] at r1 r2 ⊢
      cases x <;> cases y <;> simp at h
      rename_i xl yl
      cases r1 with
      | st _ _ css hl hl' h1 =>
        cases r2 with
        | st _ _ dss hl2 hl2' h2 =>
          have hfo : cx.P.fieldsOf t = fields := by simp [Program.fieldsOf, hu]
          rw [pack_agg rfl, pack_agg rfl, run_equalIn_struct w d t _ _ (by rw [hfo]; exact hu) hso, hfo]
          refine run_fields (w := w) (own := own) hx (d := d) (f := eqT cx n) (shs := shs) (css := css) (dss := dss) (fun t te x y p q b a1 a2 a3 a4 => eqT_sound hx n t te x y p q b d a1 a2 a3 a4 (by omega)) (st_lens hl h1) (st_lens hl2 h2) (by omega) (by omega)
            fields.toList fs xl yl 0 b h (by simp; omega) (by simp; omega) (fun j g hg => ?_) (fun j s x cs a b c => h1 j s x cs (by simpa using a) b (by simpa using c)) (fun j s x cs a b c => h2 j s x cs (by simpa using a) b (by simpa using c))
          have := hfd j g (by simpa using hg)
          simpa using this
    all_goals cases h

theorem eqV_sound (hx : CxOK cx) {t : TypeId} {op : BinOp} {ox oy : Operand} {x y : D} {c1 c2 : Value} {k : V → Prop} (ha : x.sh.agg = true) (h1 : RV w m H (.d x) c1) (h2 : RV w m H (.d y) c2) (hg : eqV cx t op x y k) :
    POK cx w m H k (do eqGuard op t ox oy c1 c2; binOp op t c1 c2) := by
  obtain ⟨te, hte, hg⟩ := onS_elim hg
  obtain ⟨hb1, hg⟩ := onT_elim hg
  obtain ⟨hb2, hg⟩ := onT_elim hg
  obtain ⟨hp, hg⟩ := onT_elim hg
  obtain ⟨b, hb, hg⟩ := onS_elim hg
  have e1 := Sh.beq_eq _ _ hb1
  have e2 := Sh.beq_eq _ _ hb2
  have hc1 : cellV (.d x) = true := by cases x <;> first | rfl | cases ha
  have ha2 : y.sh.agg = true := by rw [← e2, e1]; exact ha
  have hc2 : cellV (.d y) = true := by cases y <;> first | rfl | cases ha2
  obtain ⟨p, hp1, rfl⟩ := h1.elim hc1
  obtain ⟨q, hp2, rfl⟩ := h2.elim hc2
  have r1 := hp1.of_d
  have r2 := hp2.of_d
  rw [show V.sh (.d x) = x.sh from rfl, ← e1] at *
  rw [show V.sh (.d y) = y.sh from rfl, ← e2] at *
  have hrun := eqT_sound hx 20 t te x y p q b 10000 hte hb r1 r2 (by omega)
  rw [pack_agg ha2, pack_agg ha2] at hrun ⊢
  have hgd := run_eqGuard_agg (P := cx.P) w op t ox oy p.toArray q.toArray (plain_guard hx 20 t hp _ hx.deep)
  split at hg
  · exact ⟨_, .bool b, hg, by simp only [Sem.run_bind, hgd, Result.andThen_ok, run_eql_struct, hrun], .bool b⟩
  · exact ⟨_, .bool (!b), hg, by simp only [Sem.run_bind, hgd, Result.andThen_ok, run_neq_struct, hrun], .bool _⟩
  · exact hg.elim

theorem byteArray_beq (a b : List UInt8) : ((⟨a.toArray⟩ : ByteArray).toList == (⟨b.toArray⟩ : ByteArray).toList) = (a == b) := by rw [bytes_toList, bytes_toList]

theorem bytes_append (a b : List UInt8) : (⟨a.toArray⟩ : ByteArray) ++ ⟨b.toArray⟩ = ⟨(a ++ b).toArray⟩ := by
  apply ByteArray.ext
  simp [ByteArray.data_append]

theorem binV_sound (hx : CxOK cx) {t : TypeId} {op : BinOp} {ox oy : Operand} {x y : V} {c1 c2 : Value} {k : V → Prop} (h1 : RV w m H x c1) (h2 : RV w m H y c2) (hg : binV cx t op x y k) :
    POK cx w m H k (do eqGuard op t ox oy c1 c2; binOp op t c1 c2) := by
  unfold binV at hg
  split at hg
  · rename_i ka a kb b
    have e1 := h1.int_inv
    have e2 := h2.int_inv
    subst e1; subst e2
    have hgd := eqGuard_int (cx := cx) (w := w) op t ox oy ka kb a b
    cases op <;> simp only at hg
    case shl =>
      obtain ⟨h, hk⟩ := onT_elim hg
      have h : 0 ≤ b := by simpa using h
      exact ⟨_, _, hk, by simp only [Sem.run_bind, hgd, Result.andThen_ok, binOp, Op.shift]; rw [if_neg (by omega)]; rfl, .int _ _⟩
    case shr =>
      obtain ⟨h, hk⟩ := onT_elim hg
      have h : 0 ≤ b := by simpa using h
      exact ⟨_, _, hk, by simp only [Sem.run_bind, hgd, Result.andThen_ok, binOp, Op.shift]; rw [if_neg (by omega)]; rfl, .int _ _⟩
    case quo =>
      obtain ⟨h, hg⟩ := onT_elim hg
      obtain ⟨h0, hk⟩ := onT_elim hg
      have h : ka = kb := by simpa using h
      have h0 : b ≠ 0 := by simpa using h0
      subst h
      exact ⟨_, _, hk, by simp only [Sem.run_bind, hgd, Result.andThen_ok, binOp, Op.intDiv]; simp [h0], .int _ _⟩
    case rem =>
      obtain ⟨h, hg⟩ := onT_elim hg
      obtain ⟨h0, hk⟩ := onT_elim hg
      have h : ka = kb := by simpa using h
      have h0 : b ≠ 0 := by simpa using h0
      subst h
      exact ⟨_, _, hk, by simp only [Sem.run_bind, hgd, Result.andThen_ok, binOp, Op.intDiv]; simp [h0], .int _ _⟩
    all_goals
      obtain ⟨h, hk⟩ := onT_elim hg
      have h : ka = kb := by simpa using h
      subst h
      first
        | exact ⟨_, _, hk, by simp only [Sem.run_bind, hgd, Result.andThen_ok, binOp]; simp [Op.intArith, Op.intBits, Op.intCmp], .int _ _⟩
        | exact ⟨_, _, hk, by simp only [Sem.run_bind, hgd, Result.andThen_ok, binOp]; simp [Op.intCmp], .bool _⟩
  · rename_i a b
    have e1 := h1.str_inv
    have e2 := h2.str_inv
    subst e1; subst e2
    have hgd := eqGuard_str (cx := cx) (w := w) op t ox oy ⟨a.toArray⟩ ⟨b.toArray⟩
    cases op <;> simp only at hg
    case eql => exact ⟨_, _, hg, by simp only [Sem.run_bind, hgd, Result.andThen_ok, binOp, Op.stringOp, byteArray_beq]; rfl, .bool _⟩
    case neq => exact ⟨_, _, hg, by simp only [Sem.run_bind, hgd, Result.andThen_ok, binOp, Op.stringOp, byteArray_beq]; rfl, .bool _⟩
    case add =>
      obtain ⟨h, hk⟩ := onT_elim hg
      have h : a.length + b.length ≤ 9223372036854775807 := by simpa using h
      refine ⟨_, _, hk, ?_, .str _⟩
      simp only [Sem.run_bind, hgd, Result.andThen_ok, binOp, Op.stringOp]
      rw [if_neg (by simp [ByteArray.size, IntKind.max, IntKind.signed, IntKind.bits]; omega), bytes_append]
      rfl
  · rename_i a b
    have e1 := h1.bool_inv
    have e2 := h2.bool_inv
    subst e1; subst e2
    have hgd := eqGuard_bool (cx := cx) (w := w) op t ox oy a b
    obtain ⟨te, hte, hg⟩ := onS_elim hg
    have ht := (hx.ty t te hte).under
    cases hty : te.ty <;> simp only [hty] at hg ht <;> first | exact hg.elim | skip
    have hr := run_equalIn_bool' (P := cx.P) w 9999 t a b ht.1
    cases op <;> simp only at hg
    case eql => exact ⟨_, _, hg, by simp only [Sem.run_bind, hgd, Result.andThen_ok, binOp]; simp [Op.equal, Op.maxDepth, hr], .bool _⟩
    case neq => exact ⟨_, _, hg, by simp only [Sem.run_bind, hgd, Result.andThen_ok, binOp]; simp [Op.equal, Op.maxDepth, hr], .bool _⟩
  · exact eqV_sound hx rfl h1 h2 hg
  · exact eqV_sound hx rfl h1 h2 hg
  · exact hg.elim

end

end Go.Fw

/-
Conversions, parts put together, slices as arrays. No conditions.
-/
namespace Go.Fw
set_option linter.unusedVariables false
set_option linter.unusedSimpArgs false
open Go.RowKit

section
variable {cx : Cx} {B : Nat} {w : World} {m : M} {H : Heap} {rd : Nat → Option Blk}

theorem ro_slAt {e : Sh} {t : Bool} {xs : List D} {c : Value} (hv : RV w m H (.d (.ro e t xs)) c) : SlAt w m H e xs c := by
  obtain ⟨cs, h, hc⟩ := hv.elim rfl
  have h := h.of_d
  cases h with
  | ro _ _ _ a cap css hl hcap ht h0 hm =>
    refine ⟨a, cap, css, hc, hcap, hl, h0, fun i cs j cc a b => ?_⟩
    obtain ⟨ad, h1, h2, _⟩ := hm i cs j cc a b
    exact ⟨ad, h1, h2⟩

theorem slAt_nil (e : Sh) (cap : Nat) : SlAt w m H e [] (.slice none 0 cap) :=
  ⟨none, cap, [], rfl, by simp, by simp, fun i x cs h1 => by simp at h1, fun i cs j cc h1 => by simp at h1⟩

theorem elems_sound (hh : HeapOK cx B w m H) (hrd : Rd rd H) {e : Sh} {v : V} {c : Value} {k : List D → Prop} (hv : RV w m H v c) (hg : elems rd e v k) : ∃ ys, k ys ∧ SlAt w m H e ys c := by
  unfold elems at hg
  split at hg
  · have := hv.nils_inv
    subst this
    exact ⟨[], hg, slAt_nil e 0⟩
  · obtain ⟨b, x, hk, hor⟩ := vslice_sound hh hrd hv hg
    rcases hor with ⟨_, rfl⟩ | ⟨_, e', xs, rfl, hs⟩
    · cases x with
      | ro e' t xs =>
        obtain ⟨hb, hk2⟩ := onT_elim hk
        clear hk
        have := Sh.beq_eq _ _ hb
        subst this
        exact ⟨xs, hk2, ro_slAt hv⟩
      | _ => exact hk.elim
    · obtain ⟨hb, hk2⟩ := onT_elim hk
      clear hk
      have := Sh.beq_eq _ _ hb
      subst this
      exact ⟨xs, hk2, hs⟩

theorem bytes_cells {xs : List D} {l : List UInt8} {css : List (List Value)} {e : Sh} {own : Nat → Prop} (hl : css.length = xs.length)
    (h1 : ∀ (i : Nat) x cs, xs[i]? = some x → css[i]? = some cs → RC w own e x cs)
    (hm : xs.mapM asByte = some l) :
    ∃ ns : List Int, css.flatten = ns.map (Value.int .u8) ∧ l = ns.map (fun n => UInt8.ofNat n.toNat) := by
  induction xs generalizing css l with
  | nil =>
    cases css with
    | nil => simp at hm; subst hm; exact ⟨[], rfl, rfl⟩
    | cons c r => simp at hl
  | cons x xs ih =>
    cases css with
    | nil => simp at hl
    | cons c r =>
      rw [List.mapM_cons] at hm
      cases x with
      | int k n =>
        cases k <;> simp only [asByte, Option.bind_eq_bind, Option.bind_none, Option.bind_some, reduceCtorEq, Option.pure_def, Option.bind_eq_some_iff, Option.some.injEq] at hm
        obtain ⟨l', hl', rfl⟩ := hm
        have r1 := h1 0 _ c rfl rfl
        cases r1
        obtain ⟨ns, e1, e2⟩ := ih (by simpa using hl) (fun i x cs a b => h1 (i + 1) x cs (by simpa using a) (by simpa using b)) hl'
        exact ⟨n :: ns, by simp [e1], by simp [e2]⟩
      | _ => simp [asByte] at hm

theorem foldl_push : ∀ (ns : List Int) (s : List UInt8), ns.foldl (fun r n => r.push (UInt8.ofNat n.toNat)) (⟨s.toArray⟩ : ByteArray) = ⟨(s ++ ns.map fun n => UInt8.ofNat n.toNat).toArray⟩
  | [], s => by simp
  | n :: r, s => by
    have e : (⟨s.toArray⟩ : ByteArray).push (UInt8.ofNat n.toNat) = ⟨(s ++ [UInt8.ofNat n.toNat]).toArray⟩ := by
      apply ByteArray.ext; simp [ByteArray.push]
    rw [List.foldl_cons, e, foldl_push r]
    simp

theorem str_of_bytes {xs : List D} {l : List UInt8} {e : Sh} {c : Value} (hs : SlAt w m H e xs c)
    (hm : xs.mapM asByte = some l) :
    (Conv.bytesToString c).run cx.P w = .ok (.string ⟨l.toArray⟩) w := by
  obtain ⟨a, cap, css, rfl, hcap, hl, h1, h2⟩ := hs
  obtain ⟨ns, e1, e2⟩ := bytes_cells hl h1 hm
  cases xs with
  | nil =>
    simp at hm
    subst hm
    cases a with
    | none => rfl
    | some a =>
      have := run_bytesToString (P := cx.P) w a 0 cap [] (by simpa using run_loadCells_list (P := cx.P) w a [] (by simp))
      exact this
  | cons x xs =>
    have he : e.csz = 1 := by
      cases css with
      | nil => simp at hl
      | cons c0 cr =>
        have r0 := (h1 0 x c0 rfl rfl).sh_eq
        cases x with
        | int k n => rw [← r0]; rfl
        | _ => rw [List.mapM_cons] at hm; simp [asByte] at hm
    have hlen := arr_lens hl h1
    cases css with
    | nil => simp at hl
    | cons c0 cr =>
      have h0 : c0.length = 1 := by rw [hlen c0 (by simp), he]
      obtain ⟨ad, rfl, _⟩ := h2 0 c0 0 (c0[0]'(by omega)) rfl (List.getElem?_eq_getElem (by omega))
      have hcells : ∀ (j : Nat) c, (ns.map (Value.int .u8))[j]? = some c → w.cell? (ad.add j) = some c := by
        intro j c hj
        rw [← e1] at hj
        have hjl : j < ((c0 :: cr).flatten).length := (List.getElem?_eq_some_iff.1 hj).1
        rw [len_flat, sum_const hlen, he, Nat.mul_one] at hjl
        have hc : (c0 :: cr)[j]? = some ((c0 :: cr)[j]) := List.getElem?_eq_getElem hjl
        obtain ⟨f1, f2⟩ := flat_get hc
        rw [sum_take_const hlen (by omega), he, Nat.mul_one] at f1 f2
        have hl1 : ((c0 :: cr)[j]).length = 1 := by rw [hlen _ (List.getElem_mem hjl), he]
        have h3 : ((c0 :: cr)[j])[0]? = some c := by
          rw [← f1, List.getElem?_take, if_pos (by omega), List.getElem?_drop]; exact hj
        obtain ⟨ad', ha', h4⟩ := h2 j _ 0 c hc h3
        cases ha'
        rw [he] at h4
        simpa using h4
      have hlc := run_loadCells_list (P := cx.P) w ad (ns.map (Value.int .u8)) hcells
      have hnl : (ns.map (Value.int .u8)).length = (x :: xs).length := by
        rw [← e1, len_flat, sum_const hlen, he, hl, Nat.mul_one]
      rw [hnl] at hlc
      have := run_bytesToString (P := cx.P) w ad (x :: xs).length cap ns hlc
      rw [this, e2]
      have := foldl_push ns []
      simp only [List.nil_append] at this
      congr 2

/-- What an operation does: its value, and what becomes of the own blocks. -/
def OpRes (cx : Cx) (B : Nat) (w : World) (m : M) (H : Heap) (slot : Nat) (k : V → Eff → Prop) (S : Sem Value) : Prop :=
  ∃ v e c w' m', k v e ∧ S.run cx.P w = .ok c w' ∧ Keep w m H w' m' (happ H e) ∧ HeapOK cx B w' m' (happ H e) ∧ RV w' m' (happ H e) v c ∧ Below B w w' ∧ (∀ b, m'.born b → m.born b ∨ b = slot)

theorem POK.res (hh : HeapOK cx B w m H) {slot : Nat} {k : V → Eff → Prop} {S : Sem Value} (h : POK cx w m H (fun v => k v []) S) : OpRes cx B w m H slot k S := by
  obtain ⟨v, c, h1, h2, h3⟩ := h
  exact ⟨v, [], c, w, m, h1, h2, Keep.refl w m H, hh, h3, Below.refl B w, fun b hb => .inl hb⟩

theorem convV_sound (hx : CxOK cx) (hh : HeapOK cx B w m H) (hrd : Rd rd H) {src dst : TypeId} {slot : Nat} {x : V} {c : Value} {k : V → Eff → Prop} (hv : RV w m H x c) (hg : convV cx rd src dst x fun v => k v []) :
    OpRes cx B w m H slot k (convert src dst c) := by
  obtain ⟨ts, hts, hg⟩ := onS_elim hg
  obtain ⟨te, hte, hg⟩ := onS_elim hg
  have hs := (hx.ty _ _ hts).under
  have hd := (hx.ty _ _ hte).under
  have hsu : ∃ d, cx.P.underlying src = some d := by
    cases hty : ts.ty <;> simp only [hty] at hs
    case fn => obtain ⟨⟨a, b, c, h⟩, _⟩ := hs; exact ⟨_, h⟩
    case st => obtain ⟨f, s, h, _⟩ := hs; exact ⟨_, h⟩
    all_goals exact ⟨_, hs.1⟩
  obtain ⟨d, hsu⟩ := hsu
  cases hty : te.ty <;> simp only [hty] at hg hd <;> first | exact hg.elim | skip
  case int kd =>
    split at hg
    · have := hv.int_inv
      subst this
      exact POK.res hh ⟨_, _, hg, by simp [convert, run_underlying hsu, run_underlying hd.1, Conv.intToInt], .int _ _⟩
    · exact hg.elim
  case str =>
    cases hty3 : ts.ty <;> simp only [hty3] at hg hs <;> first | exact hg.elim | skip
    case str =>
      split at hg
      · have := hv.str_inv
        subst this
        exact POK.res hh ⟨_, _, hg, by simp [convert, run_underlying hsu, run_underlying hd.1], .str _⟩
      · exact hg.elim
    case sl e =>
      obtain ⟨ee, hee, hg⟩ := onS_elim hg
      have he := (hx.ty _ _ hee).under
      split at hg
      · rename_i hty2
        rw [hty2] at he
        unfold bytesV at hg
        split at hg
        · have := hv.nils_inv
          subst this
          exact POK.res hh ⟨_, _, hg, by rw [run_convert_bytes_string w src dst e none 0 0 hs.1 he.1 hd.1]; rfl, .str _⟩
        · obtain ⟨b, y, hk, hor⟩ := vslice_sound hh hrd hv hg
          have fin : ∀ e' xs, SlAt w m H e' xs c → y = .ro e' false xs ∨ (∃ t, y = .ro e' t xs) → OpRes cx B w m H slot k (convert src dst c) := by
            intro e' xs hsl hy
            have hk : onS (xs.mapM asByte) fun l => k (.d (.str l)) [] := by
              rcases hy with rfl | ⟨t, rfl⟩ <;> exact hk
            obtain ⟨l, hl, hk⟩ := onS_elim hk
            have hr := str_of_bytes (cx := cx) hsl hl
            obtain ⟨a, cap, css, rfl, _⟩ := hsl
            refine POK.res hh ⟨_, _, hk, ?_, .str _⟩
            rw [run_convert_bytes_string w src dst e a _ cap hs.1 he.1 hd.1]
            exact hr
          rcases hor with ⟨_, rfl⟩ | ⟨_, e', xs, rfl, hsl⟩
          · cases y with
            | ro e' t xs => exact fin e' xs (ro_slAt hv) (.inr ⟨t, rfl⟩)
            | _ => exact hk.elim
          · exact fin e' xs hsl (.inl rfl)
      · exact hg.elim
  case sl e =>
    obtain ⟨s, rfl⟩ : ∃ s, x = .d (.str s) := by
      split at hg
      · exact ⟨_, rfl⟩
      · exact hg.elim
    obtain ⟨ee, hee, hg⟩ := onS_elim hg
    have he := (hx.ty _ _ hee).under
    split at hg
    · rename_i hty2
      rw [hty2] at he
      have := hv.str_inv
      subst this
      have hr := Lib.run_convert_string_bytes (P := cx.P) w src dst e ⟨s.toArray⟩ hsu hd.1 he.1
      have hold : ∀ a c, w.cell? a = some c → (Lib.bytesWorld w e ⟨s.toArray⟩).cell? a = some c := fun a c hc => by rw [Lib.bytesWorld_old w e _ a (cell_lt hc)]; exact hc
      have hk : Keep w m H (Lib.bytesWorld w e ⟨s.toArray⟩) m H := ⟨fun a c h1 h2 => ⟨hold a c h1, h2⟩, fun _ h => h, fun b _ x hx => ⟨x, hx, BK.refl m b x⟩, fun _ h => h⟩
      have hhe : ∀ j, j < w.heap.size → (Lib.bytesWorld w e ⟨s.toArray⟩).heap[j]? = w.heap[j]? := fun j hj => Lib.bytesWorld_at_old w e _ j hj
      have hno : ¬ Own m H w.heap.size := by
        rintro (hfar | ⟨b, x, cap, hl, hi⟩)
        · have := hh.far _ hfar; have := hh.size; omega
        cases hh.blk b x hl with
        | fix v k' cap' cur h1 h2 h3 => rw [hi] at h1; cases h1; exact absurd h2.lt (by omega)
        | none ver e h1 => rw [hi] at h1; cases h1
        | grow ver e xs k' cap' cur css h1 h2 => rw [hi] at h1; cases h1; exact absurd h2.lt (by omega)
      refine ⟨_, [], _, _, m, hg, hr, hk, ?_, ?_, ?_, fun b hb => .inl hb⟩
      · refine ⟨fun i y hy => (hh.blk i y hy).keep hk rfl fun kk cap cur _ ⟨t, hr⟩ => ⟨t, by rw [hhe kk (Array.getElem?_eq_some_iff.1 hr).1]; exact hr⟩, hh.inj, hh.lo, hh.lt, hh.born, hh.glob.keep hk, hh.far, ?_⟩
        rw [Lib.bytesWorld_size]; have := hh.size; omega
      · have hsz : (⟨s.toArray⟩ : ByteArray).size = s.length := by simp [ByteArray.size]
        have hlen : (s.map fun c => D.int .u8 c.toNat).length = s.length := by simp
        have key : RC (Lib.bytesWorld w e ⟨s.toArray⟩) (Own m H) .one (.ro .one false (s.map fun c => .int .u8 c.toNat)) [.slice (some ⟨w.heap.size, 0, none⟩) (s.map fun c => D.int .u8 c.toNat).length (grownCap w s.length 0 e)] := by
          refine .ro .one false _ _ _ (s.map fun c => [Value.int .u8 c.toNat]) (by simp) (by rw [hlen]; exact grownCap_ge w _ _ _) (by intro h; cases h) (fun i x cs h1 h2 => ?_) (fun i cs j c h1 h2 => ?_)
          · rw [List.getElem?_map, Option.map_eq_some_iff] at h1 h2
            obtain ⟨a, ha, rfl⟩ := h1
            obtain ⟨b, hb, rfl⟩ := h2
            rw [ha] at hb; cases hb
            exact .int _ _
          · rw [List.getElem?_map, Option.map_eq_some_iff] at h1
            obtain ⟨a, ha, rfl⟩ := h1
            cases j with
            | succ j => simp at h2
            | zero =>
              simp at h2
              subst h2
              have hi := (List.getElem?_eq_some_iff.1 ha).1
              refine ⟨_, rfl, ?_, hno⟩
              rw [addr_add]
              have := Lib.bytesWorld_cell w e ⟨s.toArray⟩ i (by rw [hsz]; exact hi)
              simp only [Sh.csz, Nat.mul_one, Nat.add_zero, Nat.zero_add]
              rw [this]
              simp [List.getD, ha]
        rw [hlen] at key
        rw [hsz]
        exact .d1 key rfl
      · refine ⟨rfl, rfl, rfl, by rw [Lib.bytesWorld_size]; omega, fun j hj => hhe j (by have := hh.size; omega)⟩
    · exact hg.elim

theorem freeze_heap (w : World) (a : Addr) (n j : Nat) (h : j ≠ a.block) : (w.freeze a n).heap[j]? = w.heap[j]? := by
  unfold World.freeze
  split
  · rfl
  · simp only [Array.getElem?_modify]
    rw [if_neg (fun e => h e.symm)]

theorem freeze_cell (w : World) (a : Addr) (n : Nat) (p : Addr) : (w.freeze a n).cell? p = w.cell? p := by
  by_cases hp : p.block = a.block
  · unfold World.freeze
    split
    · rfl
    · unfold World.cell?
      simp only [Array.getElem?_modify, hp, if_true]
      cases w.heap[a.block]? with
      | none => rfl
      | some o => cases o <;> rfl
  · unfold World.cell?
    rw [freeze_heap w a n _ hp]

theorem convS_sound (hx : CxOK cx) (hh : HeapOK cx B w m H) (hrd : Rd rd H) {src dst : TypeId} (hsd : src = dst) {slot : Nat} {x : V} {c : Value} {k : V → Eff → Prop} (hv : RV w m H x c) (hg : convS cx rd dst x k) :
    OpRes cx B w m H slot k (convert src dst c) := by
  subst hsd
  obtain ⟨te, hte, hg⟩ := onS_elim hg
  have hd := (hx.ty _ _ hte).under
  cases hty : te.ty <;> simp only [hty] at hg hd <;> first | exact hg.elim | skip
  case int kd =>
    cases x with
    | d y => cases y with
      | int k1 n =>
        have := hv.int_inv
        subst this
        exact POK.res hh (k := k) ⟨_, _, hg, by simp [convert, run_underlying hd.1, Conv.intToInt], .int _ _⟩
      | _ => exact hg.elim
    | _ => exact hg.elim
  case str =>
    cases x with
    | d y => cases y with
      | str s =>
        have := hv.str_inv
        subst this
        exact POK.res hh (k := k) ⟨_, _, hg, by simp [convert, run_underlying hd.1], .str _⟩
      | _ => exact hg.elim
    | _ => exact hg.elim
  case sl e =>
    cases x with
    | sl b off ver =>
      obtain ⟨ee, hee, hg⟩ := onS_elim hg
      have he := (hx.ty _ _ hee).under
      split at hg
      · rename_i hty2
        rw [hty2] at he
        obtain ⟨blk, hb, hg⟩ := onS_elim hg
        cases blk with
        | fix v => exact hg.elim
        | grow ver' e' xs =>
          obtain ⟨hver, hg⟩ := onE_elim hg
          obtain ⟨hoff, hk⟩ := onT_elim hg
          have hoff : off < xs.length := of_decide_eq_true hoff
          have hl := hrd b _ hb
          obtain ⟨hle, ao, cap, css, hc, hcap, hcl, hrc, hm⟩ := slAt_sl hh hl hv hver
          obtain ⟨cs', hq, hc'⟩ := hv.elim rfl
          cases hq with
          | sl _ _ _ c' ho hb' hq =>
            have hc' : c = c' := hc'
            subst hc'
            obtain ⟨_, hor⟩ := (hq ver' e' xs hl).2 hver
            rcases hor with ⟨hn, hcn⟩ | ⟨kk, cap', a', hi, hcap', hcs, ha'⟩
            · rw [hcn] at hc
              simp only [Value.slice.injEq, List.length_drop] at hc
              omega
            · have ha2 := ha' (by omega)
              rw [hc] at hcs
              simp only [Value.slice.injEq] at hcs
              rw [hcs.1] at hc hm
              subst ha2
              rw [hc]
              have hrow : ∃ cur, Row w kk cur := by
                cases hh.blk b _ hl with
                | none _ _ h1 => rw [hi] at h1; cases h1
                | grow _ _ _ k2 cap2 cur _ h1 h2 => rw [hi] at h1; cases h1; exact ⟨cur, h2⟩
              obtain ⟨cur, t, hcur⟩ := hrow
              have hBk := hh.lo b _ kk cap' hl hi
              have hkk : kk < w.heap.size := (Array.getElem?_eq_some_iff.1 hcur).1
              have hrun : ∀ (l cp o : Nat), (convert src src (.slice (some ⟨kk, o, none⟩) l cp)).run cx.P w = .ok (.slice (some ⟨kk, o, none⟩) l cp) (w.freeze ⟨kk, cur.size, none⟩ 1) := fun l cp o => by
                simp [convert, run_underlying hd.1, run_underlying he.1, markStringish, World.shape?, hcur]
              refine ⟨_, _, _, w.freeze ⟨kk, cur.size, none⟩ 1, m, hk, hrun _ _ _, ?_, ?_, ?_, ?_, fun b h => .inl h⟩
              · have hkw : Keep w m H (w.freeze ⟨kk, cur.size, none⟩ 1) m H := ⟨fun a c h1 h2 => ⟨by rw [freeze_cell]; exact h1, h2⟩, fun _ h => h, fun b _ x hx => ⟨x, hx, BK.refl m b x⟩, fun _ h => h⟩
                exact hkw.trans keep_kill
              · have hkill := heap_kill (b := b) hh
                have hkw : Keep w m (H.set b none) (w.freeze ⟨kk, cur.size, none⟩ 1) m (H.set b none) := ⟨fun a c h1 h2 => ⟨by rw [freeze_cell]; exact h1, h2⟩, fun _ h => h, fun b _ x hx => ⟨x, hx, BK.refl m b x⟩, fun _ h => h⟩
                refine ⟨fun i y hy => (hkill.blk i y hy).keep hkw rfl fun k2 cap2 cur2 hi2 ⟨t2, hr2⟩ => ⟨t2, ?_⟩, hkill.inj, hkill.lo, hkill.lt, hkill.born, hkill.glob.keep hkw, hkill.far, ?_⟩
                · rw [freeze_heap]
                  · exact hr2
                  · show k2 ≠ kk
                    rintro rfl
                    rcases live_set hy with ⟨_, he⟩ | ⟨hne, hly⟩
                    · cases he
                    · exact hne (hh.inj i b y _ k2 cap2 cap' hly hl hi2 hi)
                · have := hh.size
                  simp [World.freeze]; omega
              · have hkm : ∀ {sh x cs}, RC w (Own m H) sh x cs → RC (w.freeze ⟨kk, cur.size, none⟩ 1) (Own m (H.set b none)) sh x cs := fun h => h.mono fun a c h1 h2 => ⟨by rw [freeze_cell]; exact h1, fun h => by
                  rcases h with hfar | ⟨b2, x2, c2, hl2, hi2⟩
                  · exact h2 (.inl hfar)
                  · rcases live_set hl2 with ⟨_, he⟩ | ⟨hne, hl2⟩
                    · cases he
                    · exact h2 (.inr ⟨b2, x2, c2, hl2, hi2⟩)⟩
                refine RV.d1 (.ro e' false (xs.drop off) _ cap css hcl hcap (fun h => by cases h) (fun i x cs h1 h2 => hkm (hrc i x cs h1 h2)) fun i cs j cc h1 h2 => ?_) rfl
                obtain ⟨ad, ha, hcell⟩ := hm i cs j cc h1 h2
                cases ha
                refine ⟨_, rfl, by rw [freeze_cell]; exact hcell, ?_⟩
                rintro (hfar | ⟨b2, x2, c2, hl2, hi2⟩)
                · have h1 := hh.far _ hfar
                  have h1 : kk < B := h1
                  omega
                · rcases live_set hl2 with ⟨_, he⟩ | ⟨hne, hl2⟩
                  · cases he
                  · exact hne (hh.inj b2 b x2 _ kk c2 cap' hl2 hl hi2 hi)
              · refine ⟨rfl, rfl, rfl, by simp [World.freeze], fun j hj => freeze_heap _ _ _ _ ?_⟩
                show j ≠ kk
                omega
      · exact hg.elim
    | _ => exact hg.elim

end

end Go.Fw

/-
New blocks: variables, boxes, built structs, arrays and slices, made slices. No conditions.
-/
namespace Go.Fw
set_option linter.unusedVariables false
set_option linter.unusedSimpArgs false
open Go.RowKit

section
variable {cx : Cx} {B : Nat} {w : World} {m : M} {H : Heap} {rd : Nat → Option Blk}

theorem below_alloc (hB : B ≤ w.heap.size) (o : Obj) : Below B w (w.alloc o) := (Below.refl B w).alloc hB o

/-- A new variable. -/
theorem newfix (hh : HeapOK cx B w m H) {slot : Nat} (hb : ¬ m.born slot) (hlt : slot < H.length) {v : V} {cs : List Value} (hv : RCV w m H v.sh v cs) (t : TypeId) :
    Keep w m H (w.alloc (.cells cs.toArray t)) (m.add slot w.heap.size 0) (H.set slot (some (.fix v))) ∧ HeapOK cx B (w.alloc (.cells cs.toArray t)) (m.add slot w.heap.size 0) (H.set slot (some (.fix v))) ∧
      RV (w.alloc (.cells cs.toArray t)) (m.add slot w.heap.size 0) (H.set slot (some (.fix v))) (.ptr slot 0 [] v.sh) (.pointer (some ⟨w.heap.size, 0, none⟩)) ∧ Below B w (w.alloc (.cells cs.toArray t)) ∧
      (∀ b, (m.add slot w.heap.size 0).born b → m.born b ∨ b = slot) := by
  have hk : Keep w m H (w.alloc (.cells cs.toArray t)) (m.add slot w.heap.size 0) (H.set slot (some (.fix v))) := keep_new hb 0
  have hrow : Row (w.alloc (.cells cs.toArray t)) w.heap.size cs.toArray := ⟨t, heap_alloc_new w _⟩
  refine ⟨hk, heap_new hh hb hlt (.fix v w.heap.size 0 cs.toArray (by simp [M.add]) hrow (by simpa using hv.keep hk)), ?_, below_alloc hh.size _, fun b h => h.symm⟩
  refine .one_cell (.ptr slot 0 [] v.sh _ (.inl rfl) fun x hx => ?_) rfl
  have := live_inj (live_set_self hlt) hx
  subst this
  exact ⟨Nat.le_refl _, fun _ => ⟨w.heap.size, 0, 0, by simp [M.add], by simp [poff, Blk.bsh], rfl⟩⟩

/-- A new slice, its cells in a block of its own. -/
theorem newgrow (hh : HeapOK cx B w m H) {slot : Nat} (hb : ¬ m.born slot) (hlt : slot < H.length) {e : Sh} {xs : List D} {css : List (List Value)} {cur : Array Value} {cap : Nat} (hl : css.length = xs.length)
    (h : ∀ (i : Nat) x cs, xs[i]? = some x → css[i]? = some cs → RC w (Own m H) e x cs) (hs : cur.size = cap * e.csz) (hc : xs.length ≤ cap) (hm : cap ≤ maxLen) (ht : cur.toList.take (xs.length * e.csz) = css.flatten)
    {wd : World} (hw : wd.heap = w.heap) (hbw : Below B w wd) (t : TypeId) :
    Keep w m H (wd.alloc (.cells cur t)) (m.add slot w.heap.size cap) (H.set slot (some (.grow 0 e xs))) ∧ HeapOK cx B (wd.alloc (.cells cur t)) (m.add slot w.heap.size cap) (H.set slot (some (.grow 0 e xs))) ∧
      RV (wd.alloc (.cells cur t)) (m.add slot w.heap.size cap) (H.set slot (some (.grow 0 e xs))) (.sl slot 0 0) (.slice (some ⟨w.heap.size, 0, none⟩) xs.length cap) ∧ Below B w (wd.alloc (.cells cur t)) ∧
      (∀ b, (m.add slot w.heap.size cap).born b → m.born b ∨ b = slot) := by
  have hkd : Keep w m H wd m H := keep_world hw
  have hhd := heap_world hh hw
  have hsz : wd.heap.size = w.heap.size := by rw [hw]
  have hk0 : Keep wd m H (wd.alloc (.cells cur t)) (m.add slot wd.heap.size cap) (H.set slot (some (.grow 0 e xs))) := keep_new hb cap
  have hrow : Row (wd.alloc (.cells cur t)) wd.heap.size cur := ⟨t, heap_alloc_new wd _⟩
  have hk := hkd.trans hk0
  have hn := heap_new (o := .cells cur t) (x := .grow 0 e xs) (cap := cap) hhd hb hlt (.grow 0 e xs wd.heap.size cap cur css (by simp [M.add]) hrow hs hc hm hl (fun i x cs a b => (h i x cs a b).mono hk.cell) ht)
  rw [hsz] at hk hn
  refine ⟨hk, hn, ?_, hbw.trans (below_alloc hhd.size _), fun b h => h.symm⟩
  refine .one_cell (.sl slot 0 0 _ rfl (.inl rfl) fun ver' e' xs' hx => ?_) rfl
  have := live_inj (live_set_self hlt) hx
  cases this
  exact ⟨Nat.le_refl _, fun _ => ⟨Nat.zero_le _, .inr ⟨w.heap.size, cap, _, by simp [M.add], hc, rfl, fun _ => by simp⟩⟩⟩

theorem run_newVar {t : TypeId} {sh : Sh} {cs : List Value} (hl : cs.length = sh.csz) (h1 : ∀ c ∈ cs, c.oneCell' = true) :
    (newVar t (pack sh cs)).run cx.P w = .ok ⟨w.heap.size, 0, none⟩ (w.alloc (.cells cs.toArray t)) := by
  unfold newVar newRow newObj
  rw [pack_cells hl h1]
  rfl

theorem alloc_sound (hx : CxOK cx) (hh : HeapOK cx B w m H) {slot : Nat} (hb : ¬ m.born slot) (hlt : slot < H.length) {t : TypeId} {te : TyE} (hte : cx.ty t = some te) {k : V → Eff → Prop}
    (hk : k (.ptr slot 0 [] te.sh) [(slot, some (.fix (.d te.zero)))]) : OpRes cx B w m H slot k (Instr.alloc t true (.tuple #[])) := by
  have ht := hx.ty t te hte
  obtain ⟨z, hz, hzp, hzr⟩ := ht.run_zero w
  have hzs := ht.zero_sh
  have hv : RCV w m H (V.sh (.d te.zero)) (.d te.zero) z.cells.toList := by
    rw [show V.sh (.d te.zero) = te.zero.sh from rfl, hzs]; exact .d _ _ _ (hzr _ _)
  obtain ⟨n1, n2, n3, n4, n5⟩ := newfix hh hb hlt hv t
  rw [show V.sh (.d te.zero) = te.zero.sh from rfl, hzs] at n3
  refine ⟨_, _, _, _, _, hk, ?_, n1, n2, n3, n4, n5⟩
  have hnv := run_newVar (cx := cx) (w := w) (t := t) (sh := te.sh) (cs := z.cells.toList) (by have := hv.len; rw [show V.sh (.d te.zero) = te.zero.sh from rfl, hzs] at this; exact this) hv.one
  rw [← hzp] at hnv
  simp [Instr.alloc, hz, hnv]

theorem box_sound (hh : HeapOK cx B w m H) {slot : Nat} (hb : ¬ m.born slot) (hlt : slot < H.length) {t : TypeId} {v : V} {c : Value} {k : V → Eff → Prop} (hv : RV w m H v c) (hcv : cellV v = true)
    (hk : k (.ptr slot 0 [] v.sh) [(slot, some (.fix v))]) : OpRes cx B w m H slot k (Instr.box t c) := by
  obtain ⟨cs, hr, rfl⟩ := hv.elim hcv
  obtain ⟨n1, n2, n3, n4, n5⟩ := newfix hh hb hlt hr t
  refine ⟨_, _, _, _, _, hk, ?_, n1, n2, n3, n4, n5⟩
  simp [Instr.box, run_newVar (cx := cx) (w := w) (t := t) hr.len hr.one]

/-! Parts put together -/

theorem foldl_set : ∀ (vs : List Value) (cells : Array Value) (off k : Nat), off + k + vs.length ≤ cells.size →
    (vs.zipIdx k).foldl (fun (cs : Array Value) (p : Value × Nat) => cs.setIfInBounds (off + p.2) p.1) cells = (cells.toList.take (off + k) ++ vs ++ cells.toList.drop (off + k + vs.length)).toArray
  | [], cells, off, k, _ => by simp
  | v :: r, cells, off, k, h => by
    simp only [List.zipIdx_cons, List.foldl_cons, List.length_cons] at h ⊢
    rw [foldl_set r (cells.setIfInBounds (off + k) v) off (k + 1) (by simp; omega)]
    congr 1
    have e := list_seg_step cells.toList (off + k) v r (by simp; omega)
    simpa [Array.toList_setIfInBounds, Nat.add_assoc] using e

theorem fill_sound {ρ : Operand → V} {ρc : Operand → Value} (hρ : RO w m H ρ ρc) {place : Nat → Option (Nat × Nat)} {shs : List Sh} (hpl : ∀ (i : Nat) s, shs[i]? = some s → place i = some (Sh.cszs (shs.take i), s.csz)) {k : List V → Prop} :
    ∀ (parts : List (Nat × Operand)) (l : List V) (css : List (List Value)), css.length = l.length → shs.length = l.length → (∀ (i : Nat) s x cs, shs[i]? = some s → l[i]? = some x → css[i]? = some cs → RCV w m H s x cs) → fillV ρ parts l k →
    ∃ (l' : List V) (css' : List (List Value)), k l' ∧ Instr.fill place css.flatten.toArray (parts.map fun p => (p.1, ρc p.2)) = some css'.flatten.toArray ∧ css'.length = l'.length ∧ shs.length = l'.length ∧
      (∀ (i : Nat) s x cs, shs[i]? = some s → l'[i]? = some x → css'[i]? = some cs → RCV w m H s x cs)
  | [], l, css, h1, h2, h3, hg => ⟨l, css, hg, rfl, h1, h2, h3⟩
  | (i, x) :: r, l, css, h1, h2, h3, hg => by
    obtain ⟨z, hz, hg⟩ := onS_elim hg
    obtain ⟨hcv, hg⟩ := onT_elim hg
    obtain ⟨hb, hg⟩ := onT_elim hg
    have he := Sh.beq_eq _ _ hb
    have hi := (List.getElem?_eq_some_iff.1 hz).1
    have hs : shs[i]? = some (shs[i]'(by omega)) := List.getElem?_eq_getElem (by omega)
    have hc : css[i]? = some (css[i]'(by omega)) := List.getElem?_eq_getElem (by omega)
    obtain ⟨cs, hr, hcx⟩ := (hρ x).elim hcv
    have hzr := h3 i _ z _ hs hz hc
    have hsh : (ρ x).sh = shs[i]'(by omega) := by rw [he]; exact hzr.sh_eq
    have hlen : (css[i]'(by omega)).length = cs.length := by rw [hzr.len, hr.len, hsh]
    obtain ⟨l', css', q1, q2, q3, q4, q5⟩ := fill_sound hρ hpl r (l.set i (ρ x)) (css.set i cs) (by simp [h1]) (by simp [h2]) (fun j s y c a b d => by
      by_cases hij : i = j
      · subst hij
        rw [List.getElem?_set_self (by omega)] at b d
        cases b; cases d
        rw [hs] at a; cases a
        rw [← hsh]; exact hr
      · rw [List.getElem?_set_ne hij] at b d
        exact h3 j s y c a b d) hg
    refine ⟨l', css', q1, ?_, q3, q4, q5⟩
    have f := flat_set (ds := cs) hc
    have g := (flat_get hc).2
    rw [st_sum (shs := shs) (by omega) (RCV.st_lens h1 h3), hlen] at f g
    have hcells : (ρc x).cells = cs.toArray := by rw [hcx]; exact pack_cells hr.len hr.one
    rw [List.map_cons, Instr.fill, hpl i _ hs]
    simp only [hcells]
    have hno : ¬ ((cs.toArray.size ≠ (shs[i]'(by omega)).csz || Sh.cszs (List.take i shs) + cs.toArray.size > css.flatten.toArray.size) = true) := by
      rw [List.size_toArray, List.size_toArray]
      have h1 := hr.len
      rw [hsh] at h1
      simp only [Bool.or_eq_true, decide_eq_true_eq, not_or]
      omega
    rw [if_neg hno]
    have e : cs.toArray.zipIdx.foldl (fun cs (x : Value × Nat) => cs.setIfInBounds (Sh.cszs (List.take i shs) + x.2) x.1) css.flatten.toArray = (css.set i cs).flatten.toArray := by
      rw [← Array.foldl_toList, Array.toList_zipIdx]
      have := foldl_set cs css.flatten.toArray (Sh.cszs (List.take i shs)) 0 (by rw [List.size_toArray]; omega)
      simp only [Nat.add_zero] at this
      rw [f]
      simpa using this
    rw [← e] at q2
    exact q2

theorem mapM_places (hx : CxOK cx) : ∀ (fl : List Field), (∀ f ∈ fl, ∃ fe, cx.ty f.type = some fe) →
    fl.mapM (fun f => (cx.P.info? f.type).map fun i => (f.offset, i.size)) = some (fl.map fun f => (f.offset, cx.P.cellsOf f.type))
  | [], _ => by simp
  | f :: r, h => by
    obtain ⟨fe, hfe⟩ := h f (by simp)
    obtain ⟨i, hi, _⟩ := (hx.ty _ _ hfe).info
    rw [List.mapM_cons, mapM_places hx r (fun g hg => h g (by simp [hg]))]
    simp [hi, Program.cellsOf]

theorem buildV_sound (hx : CxOK cx) {ρ : Operand → V} {ρc : Operand → Value} (hρ : RO w m H ρ ρc) {t : TypeId} {parts : List (Nat × Operand)} {k : V → Prop} (hg : buildV cx ρ t parts k) :
    POK cx w m H k (Instr.build t (parts.map fun p => (p.1, ρc p.2)).toArray) := by
  obtain ⟨te, hte, hg⟩ := onS_elim hg
  have ht := hx.ty t te hte
  obtain ⟨it, hit, _, _, hzs, z, hz, hzp, hzr⟩ := ht.info
  have hzr := hzr w (Own m H)
  have hrun := fun cells h => run_build (P := cx.P) w t (parts.map fun p => (p.1, ρc p.2)).toArray cells h
  split at hg
  · rename_i zs hzero
    rw [hzero] at hzr hzs
    have hcl : ∃ cl, z.cells.toList = cl := ⟨_, rfl⟩
    obtain ⟨cl, hcl⟩ := hcl
    rw [hcl] at hzr
    obtain ⟨sh0, hsh0⟩ : ∃ s, te.sh = s := ⟨_, rfl⟩
    rw [hsh0] at hzr
    cases hzr with
    | st shs _ css hl hs h =>
      have hu' := ht.under
      cases hty : te.ty <;> simp only [hty] at hu'
      case st fs =>
        obtain ⟨fields, shs', hu, _, hsz, hs', hsl, hfd⟩ := hu'
        rw [hsh0] at hs'
        cases hs'
        have hpl2 : ∀ (i : Nat) s, shs[i]? = some s → ((fields.toList.map fun f => (f.offset, cx.P.cellsOf f.type)).toArray)[i]? = some (Sh.cszs (shs.take i), s.csz) := by
          intro i s hs
          have hi := (List.getElem?_eq_some_iff.1 hs).1
          have hf : fields[i]? = some (fields[i]'(by omega)) := Array.getElem?_eq_getElem (by omega)
          obtain ⟨_, h2, _, fe, h4, h5⟩ := hfd i _ hf
          rw [hs] at h5; cases h5
          rw [List.getElem?_toArray, List.getElem?_map, Array.getElem?_toList, hf]
          simp [h2, cellsOf_eq (hx.ty _ _ h4)]
        obtain ⟨l', css', q1, q2, q3, q4, q5⟩ := fill_sound hρ (place := fun i => ((fields.toList.map fun f => (f.offset, cx.P.cellsOf f.type)).toArray)[i]?) hpl2 parts (zs.map V.d) css (by simpa using hl) (by simpa using hs) (fun i s x cs a b c => by
          rw [List.getElem?_map, Option.map_eq_some_iff] at b
          obtain ⟨y, hy, rfl⟩ := b
          exact .d _ _ _ (h i s y cs a hy c)) hg
        have hcz : z.cells = css.flatten.toArray := by rw [← hcl]
        have hb : cx.P.built t (parts.map fun p => (p.1, ρc p.2)) = some css'.flatten.toArray := by
          unfold Program.built
          have hmp := mapM_places hx fields.toList (fun f hf => by
            obtain ⟨i, hi, he⟩ := List.getElem_of_mem hf
            obtain ⟨_, _, _, fe, h4, _⟩ := hfd i f (by rw [← he]; simp)
            exact ⟨fe, h4⟩)
          simp only [hit, hu, hz, hmp, hcz]
          exact q2
        refine ⟨_, .agg css'.flatten.toArray, q1, hrun _ (by simpa using hb), ?_⟩
        have hr := (RCV.st shs l' css' q3 q4 q5).mkSt
        have e := hr.sh_eq
        have := RV.one (mkSt l') css'.flatten (by rw [e]; exact hr)
        rw [e] at this
        exact this
      case arr => obtain ⟨_, ee, _, hs'⟩ := hu'; rw [hsh0] at hs'; cases hs'
      all_goals (have hs' := hu'.2; rw [hsh0] at hs'; cases hs')
  · rename_i n e zs hzero
    rw [hzero] at hzr hzs
    obtain ⟨cl, hcl⟩ : ∃ cl, z.cells.toList = cl := ⟨_, rfl⟩
    rw [hcl] at hzr
    obtain ⟨sh0, hsh0⟩ : ∃ s, te.sh = s := ⟨_, rfl⟩
    rw [hsh0] at hzr
    cases hzr with
    | arr _ _ _ css hl hn h =>
      have hu' := ht.under
      cases hty : te.ty <;> simp only [hty] at hu'
      case arr n' e' =>
        obtain ⟨hu, ee, hee, hs'⟩ := hu'
        rw [hsh0] at hs'
        cases hs'
        have hte' := hx.ty _ _ hee
        obtain ⟨ie, hie, hies, _⟩ := hte'.info
        have hpl2 : ∀ (i : Nat) s, (List.replicate n ee.sh)[i]? = some s → some (i * ie.size, ie.size) = some (Sh.cszs ((List.replicate n ee.sh).take i), s.csz) := by
          intro i s hs
          rw [List.getElem?_replicate] at hs
          split at hs <;> cases hs
          rename_i hi
          rw [hies, Sh.cszs_eq, List.take_replicate, List.map_replicate, Nat.min_eq_left (by omega)]
          simp
        obtain ⟨l', css', q1, q2, q3, q4, q5⟩ := fill_sound hρ (place := fun i => some (i * ie.size, ie.size)) hpl2 parts (zs.map V.d) css (by simpa using hl) (by simp [hn]) (fun i s x cs a b c => by
          rw [List.getElem?_map, Option.map_eq_some_iff] at b
          obtain ⟨y, hy, rfl⟩ := b
          rw [List.getElem?_replicate] at a
          split at a <;> cases a
          exact .d _ _ _ (h i y cs hy c)) hg
        obtain ⟨ds, hds, hk⟩ := onS_elim q1
        have hld := allD_some hds
        subst hld
        have hcz : z.cells = css.flatten.toArray := by rw [← hcl]
        have hb : cx.P.built t (parts.map fun p => (p.1, ρc p.2)) = some css'.flatten.toArray := by
          unfold Program.built
          simp only [hit, hu, hz, hie, hcz]
          exact q2
        refine ⟨_, .agg css'.flatten.toArray, hk, hrun _ (by simpa using hb), ?_⟩
        have hlen : ds.length = n := by simpa using q4.symm
        have hr : RC w (Own m H) (.arr n ee.sh) (.arr n ee.sh ds) css'.flatten := by
          refine .arr n ee.sh ds css' (by simpa using q3) hlen fun i x cs a b => ?_
          have hi := (List.getElem?_eq_some_iff.1 a).1
          exact (q5 i ee.sh (.d x) cs (by rw [List.getElem?_replicate, if_pos (by omega)]) (by rw [List.getElem?_map, a]; rfl) b).of_d
        exact RV.one (.d (.arr n ee.sh ds)) css'.flatten (.d _ _ _ hr)
      case st => obtain ⟨_, _, _, _, _, hs', _⟩ := hu'; rw [hsh0] at hs'; cases hs'
      all_goals (have hs' := hu'.2; rw [hsh0] at hs'; cases hs')
  · exact hg.elim

end

end Go.Fw
