/-
How data reads in memory, what a call of a function returns on data, and the predicate transformer W over the program's code. No conditions.
-/
import Derived.Test.YtcoooinjnkeokaaDoorFwA
namespace Go.Fw
set_option linter.unusedVariables false
set_option linter.unusedSimpArgs false
open Go.RowKit

/-- The value of a variable out of its cells. -/
def pack : Sh → List Value → Value
  | .one, c :: _ => c
  | .one, [] => undef
  | _, cs => .agg cs.toArray

/-- 'd', of shape 'sh', stands in these cells; the memory that it refers to lies outside 'own'. -/
inductive RC (w : World) (own : Nat → Prop) : Sh → D → List Value → Prop
  | int (k : IntKind) (n : Int) : RC w own .one (.int k n) [.int k n]
  | bool (b : Bool) : RC w own .one (.bool b) [.bool b]
  | str (l : List UInt8) : RC w own .one (.str l) [.string ⟨l.toArray⟩]
  | nils : RC w own .one .nils [.slice none 0 0]
  | nilp : RC w own .one .nilp [.pointer none]
  | fn (f : FuncId) (caps : List D) (css : List (List Value)) (hl : css.length = caps.length)
      (h : ∀ (i : Nat) x cs, caps[i]? = some x → css[i]? = some cs → RC w own x.sh x cs) :
      RC w own .one (.fn f caps) [.func (.func f) #[] (List.zipWith (fun x cs => pack x.sh cs) caps css).toArray]
  | ro (e : Sh) (t : Bool) (xs : List D) (a : Option Addr) (cap : Nat) (css : List (List Value)) (hl : css.length = xs.length) (hc : xs.length ≤ cap) (ht : t = true → cap = xs.length)
      (h : ∀ (i : Nat) x cs, xs[i]? = some x → css[i]? = some cs → RC w own e x cs)
      (hm : ∀ (i : Nat) cs (j : Nat) c, css[i]? = some cs → cs[j]? = some c → ∃ ad, a = some ad ∧ w.cell? (ad.add (i * e.csz + j)) = some c ∧ ¬ own ad.block) :
      RC w own .one (.ro e t xs) [.slice a xs.length cap]
  | arr (n : Nat) (e : Sh) (xs : List D) (css : List (List Value)) (hl : css.length = xs.length) (hn : xs.length = n)
      (h : ∀ (i : Nat) x cs, xs[i]? = some x → css[i]? = some cs → RC w own e x cs) : RC w own (.arr n e) (.arr n e xs) css.flatten
  | st (shs : List Sh) (xs : List D) (css : List (List Value)) (hl : css.length = xs.length) (hs : shs.length = xs.length)
      (h : ∀ (i : Nat) s x cs, shs[i]? = some s → xs[i]? = some x → css[i]? = some cs → RC w own s x cs) : RC w own (.st shs) (.st xs) css.flatten

/-- Data of one variable. -/
def RD1 (w : World) (own : Nat → Prop) (d : D) (c : Value) : Prop := ∃ cells, RC w own d.sh d cells ∧ c = pack d.sh cells

/-- Data, or several results. -/
def RD (w : World) (own : Nat → Prop) (d : D) (c : Value) : Prop :=
  match d with
  | .tup xs => ∃ cs : List Value, c = .tuple cs.toArray ∧ cs.length = xs.length ∧ ∀ (i : Nat) x c, xs[i]? = some x → cs[i]? = some c → RD1 w own x c
  | d => RD1 w own d c

def noOwn : Nat → Prop := fun _ => False

/-- The listed package variables hold what they are said to hold, away from 'own'. -/
def GOK (cx : Cx) (w : World) (own : Nat → Prop) : Prop := ∀ g x, cx.G g = some x → ¬ own g ∧ 0 < x.sh.csz ∧ ∃ cells, RC w own x.sh x cells ∧ ∀ (j : Nat) c, cells[j]? = some c → w.cell? ⟨g, j, none⟩ = some c

/-- Function f can be called: it has a body. -/
def Callable (P : Program) (f : FuncId) : Prop := ∃ fn, P.funcs[f]? = some fn ∧ (fn.name == "runtime.NumGoroutine") = false ∧ fn.body.isSome = true

/-- Function f, called on this data, returns this data; nothing that was there changes. What lies away from 'far' before the call (far: what the callers may still change) is all that the result refers to. -/
def Returns (cx : Cx) (f : FuncId) (args : List D) (v : D) : Prop :=
  Callable cx.P f ∧ ∀ (w : World) (cargs : List Value) (far : Nat → Prop), (∀ k, far k → k < w.heap.size) → GOK cx w far → cargs.length = args.length → (∀ (i : Nat) x c, args[i]? = some x → cargs[i]? = some c → RD1 w far x c) →
    Calls cx.P f cargs.toArray w fun e w' => ∃ c, e = .returned c ∧ RD w' far v c ∧ Below w.heap.size w w'

/-- No slice, function or several results inside: nothing of it lies elsewhere. -/
inductive D.flat : D → Prop
  | int (k : IntKind) (n : Int) : D.flat (.int k n)
  | bool (b : Bool) : D.flat (.bool b)
  | str (l : List UInt8) : D.flat (.str l)
  | nils : D.flat .nils
  | nilp : D.flat .nilp
  | arr (n : Nat) (e : Sh) (xs : List D) (h : ∀ x ∈ xs, D.flat x) : D.flat (.arr n e xs)
  | st (xs : List D) (h : ∀ x ∈ xs, D.flat x) : D.flat (.st xs)
  | tup (xs : List D) (h : ∀ x ∈ xs, D.flat x) : D.flat (.tup xs)

def onB (b : Bool) (v : D) (k : Prop) : Prop :=
  match b with
  | true => D.flat v ∧ k
  | false => k

/-- Data that reads as other data: a nil slice as an empty one, a full one as one whose room is not known. -/
inductive D.le : D → D → Prop
  | refl (x : D) : D.le x x
  | nils (e : Sh) : D.le .nils (.ro e false [])
  | loose (e : Sh) (xs : List D) : D.le (.ro e true xs) (.ro e false xs)
  | st (xs ys : List D) (hl : xs.length = ys.length) (h : ∀ (i : Nat) x y, xs[i]? = some x → ys[i]? = some y → D.le x y) (hs : D.shs xs = D.shs ys) : D.le (.st xs) (.st ys)

def D.les : List D → List D → Prop
  | [], [] => True
  | x :: xs, y :: ys => D.le x y ∧ D.les xs ys
  | _, _ => False

/-! The operations -/

def eqV (cx : Cx) (t : TypeId) (op : BinOp) (x y : D) (k : V → Prop) : Prop :=
  onS (cx.ty t) fun te => onT (te.sh.beq x.sh) (onT (te.sh.beq y.sh) (onT (plainT cx 20 t) (onS (eqT cx 20 t x y) fun b =>
    match op with
    | .eql => k (.d (.bool b))
    | .neq => k (.d (.bool (!b)))
    | _ => False)))

def binV (cx : Cx) (t : TypeId) (op : BinOp) (x y : V) (k : V → Prop) : Prop :=
  match x, y with
  | .d (.int kx a), .d (.int ky b) =>
    match op with
    | .shl => onT (decide (0 ≤ b)) (k (.d (.int kx (kx.wrap (a * 2 ^ (min b.toNat kx.bits))))))
    | .shr => onT (decide (0 ≤ b)) (k (.d (.int kx (a.fdiv (2 ^ (min b.toNat kx.bits))))))
    | .add => onT (decide (kx = ky)) (k (.d (.int kx (kx.wrap (a + b)))))
    | .sub => onT (decide (kx = ky)) (k (.d (.int kx (kx.wrap (a - b)))))
    | .mul => onT (decide (kx = ky)) (k (.d (.int kx (kx.wrap (a * b)))))
    | .quo => onT (decide (kx = ky)) (onT (decide (b ≠ 0)) (k (.d (.int kx (kx.wrap (a.tdiv b))))))
    | .rem => onT (decide (kx = ky)) (onT (decide (b ≠ 0)) (k (.d (.int kx (a.tmod b)))))
    | .and => onT (decide (kx = ky)) (k (.d (.int kx (kx.wrap (BitVec.ofInt kx.bits a &&& BitVec.ofInt kx.bits b).toNat))))
    | .or => onT (decide (kx = ky)) (k (.d (.int kx (kx.wrap (BitVec.ofInt kx.bits a ||| BitVec.ofInt kx.bits b).toNat))))
    | .xor => onT (decide (kx = ky)) (k (.d (.int kx (kx.wrap (BitVec.ofInt kx.bits a ^^^ BitVec.ofInt kx.bits b).toNat))))
    | .andNot => onT (decide (kx = ky)) (k (.d (.int kx (kx.wrap (BitVec.ofInt kx.bits a &&& ~~~ BitVec.ofInt kx.bits b).toNat))))
    | .eql => onT (decide (kx = ky)) (k (.d (.bool (a == b))))
    | .neq => onT (decide (kx = ky)) (k (.d (.bool (a != b))))
    | .lss => onT (decide (kx = ky)) (k (.d (.bool (decide (a < b)))))
    | .leq => onT (decide (kx = ky)) (k (.d (.bool (decide (a ≤ b)))))
    | .gtr => onT (decide (kx = ky)) (k (.d (.bool (decide (a > b)))))
    | .geq => onT (decide (kx = ky)) (k (.d (.bool (decide (a ≥ b)))))
  | .d (.str a), .d (.str b) =>
    match op with
    | .eql => k (.d (.bool (a == b)))
    | .neq => k (.d (.bool (!(a == b))))
    | .add => onT (decide (a.length + b.length ≤ 9223372036854775807)) (k (.d (.str (a ++ b))))
    | _ => False
  | .d (.bool a), .d (.bool b) => onS (cx.ty t) fun te => match te.ty, op with
    | .bool, .eql => k (.d (.bool (a == b)))
    | .bool, .neq => k (.d (.bool (!(a == b))))
    | _, _ => False
  | .d (.arr n e xs), .d (.arr m f ys) => eqV cx t op (.arr n e xs) (.arr m f ys) k
  | .d (.st xs), .d (.st ys) => eqV cx t op (.st xs) (.st ys) k
  | _, _ => False

def unV (op : UnOp) (x : V) (k : V → Prop) : Prop :=
  match op, x with
  | .neg, .d (.int a n) => k (.d (.int a (a.wrap (0 - n))))
  | .xor, .d (.int a n) => k (.d (.int a (a.wrap (BitVec.ofInt a.bits (if a.signed then -1 else a.max) ^^^ BitVec.ofInt a.bits n).toNat)))
  | .not, .d (.bool b) => k (.d (.bool (!b)))
  | _, _ => False

/-- The type of an address's element, for an index. -/
def idxV (cx : Cx) (rd : Nat → Option Blk) (t : TypeId) (x : V) (i : Int) (k : V → Prop) : Prop :=
  onS (cx.ty t) fun te => match te.ty, x with
  | .arr _ _, .ptr b ver path (.arr n e) => onT (te.sh.beq (.arr n e)) (onT (decide (0 ≤ i ∧ i < n)) (k (.ptr b ver (path ++ [i.toNat]) e)))
  | .arr _ _, .rop (.arr n e xs) => onT (te.sh.beq (.arr n e)) (onT (decide (0 ≤ i ∧ i < n)) (onS xs[i.toNat]? fun y => k (.rop y)))
  | .sl e, x => onS (cx.ty e) fun ee => match x with
    | .d (.ro e _ xs) => onT (ee.sh.beq e) (onT (decide (0 ≤ i ∧ i < xs.length)) (onS xs[i.toNat]? fun y => k (.rop y)))
    | .sl b off ver => onS (rd b) fun
      | .grow ver' e xs => onE ver ver' (onT (ee.sh.beq e) (onT (decide (0 ≤ i ∧ i < (xs.length - off : Nat))) (k (.ptr b ver [off + i.toNat] e))))
      | _ => False
    | .sub b off len ver => onS (rd b) fun
      | .grow ver' e _ => onE ver ver' (onT (ee.sh.beq e) (onT (decide (0 ≤ i ∧ i < len)) (k (.ptr b ver [off + i.toNat] e))))
      | _ => False
    | _ => False
  | _, _ => False

def sliceV (cx : Cx) (ρ : Operand → V) (rd : Nat → Option Blk) (t : TypeId) (x : V) (lo hi mx : Option Operand) (k : V → Prop) : Prop :=
  onS (cx.ty t) fun te => match te.ty, x with
  | .arr _ _, .ptr b _ path (.arr n e) => onT (te.sh.beq (.arr n e)) (match mx with
      | none => optI ρ hi n n fun h => optI ρ lo 0 h fun l => k (.sa b path l (h - l))
      | some _ => False)
  | .str, .d (.str s) => match mx with
    | none => optI ρ hi s.length s.length fun h => optI ρ lo 0 h fun l => k (.d (.str ((s.take h).drop l)))
    | some _ => False
  | .sl e, x => onS (cx.ty e) fun ee => match x with
    | .d (.ro e t xs) => onT (ee.sh.beq e) (match mx with
      | none => match hi with
        | none => optI ρ lo 0 xs.length fun l => k (.d (.ro e t (xs.drop l)))
        | some h => optI ρ (some h) 0 xs.length fun h => optI ρ lo 0 h fun l => k (.d (.ro e false ((xs.take h).drop l)))
      | some m => match hi with
        | none => False
        | some hi => optI ρ (some m) 0 xs.length fun m => optI ρ (some hi) 0 m fun h => optI ρ lo 0 h fun l => k (.d (.ro e (Nat.beq m h) ((xs.take h).drop l))))
    | .d .nils => match mx with
      | none => optI ρ hi 0 0 fun h => optI ρ lo 0 h fun _ => k (.d .nils)
      | some _ => False
    | .sl b off ver => onS (rd b) fun
      | .grow ver' e xs => onE ver ver' (onT (ee.sh.beq e) (match mx with
        | none => match hi with
          | none => optI ρ lo 0 (xs.length - off) fun l => k (.sl b (off + l) ver)
          | some h => optI ρ (some h) 0 (xs.length - off) fun h => optI ρ lo 0 h fun l => k (.sub b (off + l) (h - l) ver)
        | some _ => False))
      | _ => False
    | .sub b off len ver => onS (rd b) fun
      | .grow ver' e _ => onE ver ver' (onT (ee.sh.beq e) (match mx with
        | none => optI ρ hi len len fun h => optI ρ lo 0 h fun l => k (.sub b (off + l) (h - l) ver)
        | some _ => False))
      | _ => False
    | .sa b path off len => onS (rd b) fun
      | .fix v => onS (poff v.sh path) fun p => match p.2 with
        | .arr _ e => onT (ee.sh.beq e) (match mx with
          | none => optI ρ hi len len fun h => optI ρ lo 0 h fun l => k (.sa b path (off + l) (h - l))
          | some _ => False)
        | _ => False
      | _ => False
    | _ => False
  | _, _ => False

def bytesV (rd : Nat → Option Blk) (x : V) (k : V → Prop) : Prop :=
  match x with
  | .d .nils => k (.d (.str []))
  | v => vslice rd v fun _ => fun
    | .ro _ _ xs => onS (xs.mapM asByte) fun l => k (.d (.str l))
    | _ => False

def convV (cx : Cx) (rd : Nat → Option Blk) (src dst : TypeId) (x : V) (k : V → Prop) : Prop :=
  onS (cx.ty src) fun ts => onS (cx.ty dst) fun te => match te.ty with
  | .int kd => match x with
    | .d (.int _ n) => k (.d (.int kd (kd.wrap n)))
    | _ => False
  | .str => match ts.ty with
    | .str => match x with
      | .d (.str s) => k (.d (.str s))
      | _ => False
    | .sl e => onS (cx.ty e) fun ee => match ee.ty with
      | .int .u8 => bytesV rd x k
      | _ => False
    | _ => False
  | .sl e => match x with
    | .d (.str s) => onS (cx.ty e) fun ee => match ee.ty with
      | .int .u8 => k (.d (.ro .one false (s.map fun c => .int .u8 c.toNat)))
      | _ => False
    | _ => False
  | _ => False

/-- A conversion of a type to itself: of bytes, what was an own slice is only read from then on. -/
def convS (cx : Cx) (rd : Nat → Option Blk) (t : TypeId) (x : V) (k : V → Eff → Prop) : Prop :=
  onS (cx.ty t) fun te => match te.ty, x with
  | .int kd, .d (.int _ n) => k (.d (.int kd (kd.wrap n))) []
  | .str, .d (.str s) => k (.d (.str s)) []
  | .sl e, .sl b off ver => onS (cx.ty e) fun ee => match ee.ty with
    | .int .u8 => onS (rd b) fun
      | .grow ver' e' xs => onE ver ver' (onT (decide (off < xs.length)) (k (.d (.ro e' false (xs.drop off))) [(b, none)]))
      | _ => False
    | _ => False
  | _, _ => False

def litV (v : Value) : V :=
  match v with
  | .int k n => .d (.int k n)
  | .bool b => .d (.bool b)
  | .string s => .d (.str s.data.toList)
  | .slice none 0 0 => .d .nils
  | .pointer none => .d .nilp
  | _ => .any

def evO (cx : Cx) (e : Env) : Operand → V
  | .tmp t => e t
  | .const v => litV v
  | .global g => match cx.G g with
    | some x => .rop x
    | none => .any
  | .func f => .d (.fn f [])

def minI (op : Builtin) (l : List V) (k : V → Prop) : Prop :=
  match op, l with
  | .min, [.d (.int a x), .d (.int b y)] => onT (decide (a = b)) (k (.d (.int a (if y < x then y else x))))
  | .max, [.d (.int a x), .d (.int b y)] => onT (decide (a = b)) (k (.d (.int a (if x < y then y else x))))
  | _, _ => False

def loadV (cx : Cx) (rd : Nat → Option Blk) (t : TypeId) (p : V) (k : V → Prop) : Prop :=
  onS (cx.ty t) fun te => match p with
  | .rop x => onT (te.sh.beq x.sh) (k (.d x))
  | .ptr b ver path s => onT (te.sh.beq s) (onS (rd b) fun
    | .fix v => getV path v k
    | .grow ver' _ xs => onE ver ver' (match path with
      | i :: p => onS xs[i]? fun x => getD p x fun y => k (.d y)
      | [] => False))
  | .parr b off n ver => onS (rd b) fun
    | .grow ver' e xs => onE ver ver' (onT (te.sh.beq (.arr n e)) (k (.d (.arr n e ((xs.drop off).take n)))))
    | _ => False
  | _ => False

def storeV (cx : Cx) (rd : Nat → Option Blk) (t : TypeId) (p u : V) (k : Eff → Prop) : Prop :=
  onS (cx.ty t) fun te => onT (cellV u) (onT (te.sh.beq u.sh) (match p with
  | .ptr b ver path _ => onS (rd b) fun
    | .fix v => setV path u v fun v' => k [(b, some (.fix v'))]
    | .grow ver' e xs => onE ver ver' (match path, u with
      | i :: p, .d y => setD (i :: p) y (.arr xs.length e xs) fun
        | .arr _ _ xs' => k [(b, some (.grow ver' e xs'))]
        | _ => False
      | _, _ => False)
  | _ => False))

def buildV (cx : Cx) (ρ : Operand → V) (t : TypeId) (parts : List (Nat × Operand)) (k : V → Prop) : Prop :=
  onS (cx.ty t) fun te => match te.zero with
  | .st zs => fillV ρ parts (zs.map V.d) fun l => k (mkSt l)
  | .arr n e zs => fillV ρ parts (zs.map V.d) fun l => onS (allD l) fun ds => k (.d (.arr n e ds))
  | _ => False

/-- A slice as a pointer at an array. -/
def arrV (cx : Cx) (rd : Nat → Option Blk) (arr : TypeId) (x : V) (k : V → Prop) : Prop :=
  onS (cx.ty arr) fun te => match te.ty with
    | .arr n _ => match x with
      | .d (.ro e _ xs) => onT (te.sh.beq (.arr n e)) (onT (decide (0 < n ∧ n ≤ xs.length)) (k (.rop (.arr n e (xs.take n)))))
      | .sl b off ver => onS (rd b) fun
        | .grow ver' _ xs => onE ver ver' (onT (decide (n ≤ xs.length - off)) (k (.parr b off n ver)))
        | _ => False
      | .sub b off len ver => onS (rd b) fun
        | .grow ver' _ _ => onE ver ver' (onT (decide (n ≤ len)) (k (.parr b off n ver)))
        | _ => False
      | _ => False
    | _ => False

def fieldAtV (cx : Cx) (t : TypeId) (x : V) (f : Nat) (k : V → Prop) : Prop :=
  onS (cx.ty t) fun te => match te.ty with
    | .st _ => match x with
      | .ptr b ver path (.st l) => onT (te.sh.beq (.st l)) (onS l[f]? fun s => k (.ptr b ver (path ++ [f]) s))
      | .rop (.st xs) => onT (te.sh.beq (.st (D.shs xs))) (onS xs[f]? fun y => k (.rop y))
      | _ => False
    | _ => False

def fieldV (cx : Cx) (t : TypeId) (x : V) (f : Nat) (k : V → Prop) : Prop :=
  onS (cx.ty t) fun te => match te.ty with
    | .st _ => match x with
      | .d (.st xs) => onT (te.sh.beq (.st (D.shs xs))) (onS xs[f]? fun y => k (.d y))
      | .st xs => onT (te.sh.beq (.st (V.shs xs))) (onS xs[f]? fun y => k y)
      | _ => False
    | _ => False

def indexV (cx : Cx) (t : TypeId) (x : V) (i : Int) (k : V → Prop) : Prop :=
  onS (cx.ty t) fun te => match te.ty with
    | .arr _ _ => match x with
      | .d (.arr n e xs) => onT (te.sh.beq (.arr n e)) (onT (decide (0 ≤ i ∧ i < n)) (onS xs[i.toNat]? fun y => k (.d y)))
      | _ => False
    | .str => match x with
      | .d (.str s) => onT (decide (0 ≤ i ∧ i < s.length)) (onS s[i.toNat]? fun c => k (.d (.int .u8 c.toNat)))
      | _ => False
    | _ => False

/-- One operation: its value, and what it does to the call's own blocks. -/
def Wop (cx : Cx) (ρ : Operand → V) (rd : Nat → Option Blk) (slot : Nat) (o : Oper) (k : V → Eff → Prop) : Prop :=
  match o.op with
  | .move x | .assign x => k (ρ x) []
  | .pick c a b => asB (ρ c) fun t => br t (k (ρ a) []) (k (ρ b) [])
  | .alloc elem => onS (cx.ty elem) fun te => k (.ptr slot 0 [] te.sh) [(slot, some (.fix (.d te.zero)))]
  | .box _ x => onT (cellV (ρ x)) (k (.ptr slot 0 [] (ρ x).sh) [(slot, some (.fix (ρ x)))])
  | .build t parts => buildV cx ρ t parts.toList fun v => k v []
  | .buildSlice t len parts => onS (cx.ty t) fun te => match te.ty with
    | .sl e => onS (cx.ty e) fun ee => onT (decide (len * ee.sh.csz ≤ 16777216)) (fillV ρ parts.toList ((List.replicate len ee.zero).map V.d) fun l => onS (allD l) fun ds => k (.sl slot 0 0) [(slot, some (.grow 0 ee.sh ds))])
    | _ => False
  | .load t a => loadV cx rd t (ρ a) fun v => k v []
  | .store t a x => storeV cx rd t (ρ a) (ρ x) fun e => k .any e
  | .nilCheck x => match ρ x with
    | .ptr b v p s => k (.ptr b v p s) []
    | .rop x => k (.rop x) []
    | _ => False
  | .binOp op t x y _ => binV cx t op (ρ x) (ρ y) fun v => k v []
  | .unOp op _ x => unV op (ρ x) fun v => k v []
  | .convert src dst x => match Nat.beq src dst with
    | true => convS cx rd dst (ρ x) k
    | false => convV cx rd src dst (ρ x) fun v => k v []
  | .sliceToArrayPointer arr x => arrV cx rd arr (ρ x) fun v => k v []
  | .makeSlice t l c => onS (cx.ty t) fun te => match te.ty with
    | .sl e => onS (cx.ty e) fun ee => asI (ρ l) fun _ n => asI (ρ c) fun _ m =>
        onT (decide (0 ≤ n ∧ n ≤ m ∧ ee.bytes * m ≤ 281474976710656 ∧ m ≤ 9223372036854775807)) (k (.sl slot 0 0) [(slot, some (.grow 0 ee.sh (List.replicate n.toNat ee.zero)))])
    | _ => False
  | .slice t x lo hi mx => sliceV cx ρ rd t (ρ x) lo hi mx fun v => k v []
  | .fieldAddr t x f => fieldAtV cx t (ρ x) f fun v => k v []
  | .field t x f => fieldV cx t (ρ x) f fun v => k v []
  | .indexAddr t x i => asI (ρ i) fun _ i => idxV cx rd t (ρ x) i fun v => k v []
  | .index t x i => asI (ρ i) fun _ i => indexV cx t (ρ x) i fun v => k v []
  | .extract x i => match ρ x with
    | .d (.tup xs) => onS xs[i]? fun y => k (.d y) []
    | .tup xs => onS xs[i]? fun y => k y []
    | _ => False
  | .makeFunc (.func f) first captured => match first.toList with
    | [] => onS (allD (captured.toList.map ρ)) fun ds => onT (ds.all fun x => cellV (.d x)) (k (.d (.fn f ds)) [])
    | _ => False
  | .call c => match c.callee with
    | .builtin b => match b with
      | .len => match c.args.toList, c.argTypes.toList with
        | [x], [t] => lenV cx rd t (ρ x) fun n => k (.d (.int .i64 n)) []
        | _, _ => False
      | .append => match c.args.toList, c.argTypes.toList with
        | [x, y], [t, t'] => br (t == t') (onS (cx.ty t) fun te => match te.ty with
          | .sl e => onS (cx.ty e) fun ee => appendV rd slot ee.sh ee.bytes (ρ x) (ρ y) k
          | _ => False) (onS (cx.ty t) fun te => match te.ty with
          | .sl e => onS (cx.ty e) fun ee => onS (cx.ty t') fun te' => match te'.ty with
            | .int .i64 => appendZ rd ee.sh ee.bytes ee.zero (ρ x) (ρ y) k
            | _ => False
          | _ => False)
        | _, _ => False
      | .copy => match c.args.toList, c.argTypes.toList with
        | [x, y], [t, _] => onS (cx.ty t) fun te => match te.ty with
          | .sl e => onS (cx.ty e) fun ee => copyV rd ee.sh (ρ x) (ρ y) k
          | _ => False
        | _, _ => False
      | b => minI b (c.args.toList.map ρ) fun v => k v []
    | .value f => match ρ f with
      | .d (.fn f caps) => argsV rd (c.args.toList.map ρ) fun bor ds => ∃ ds' v, D.les ds ds' ∧ Returns cx f (ds' ++ caps) v ∧ onB bor v (k (.d v) [])
      | _ => False
    | _ => False
  | _ => False

/-- Which operations take a block's number for themselves. -/
def newOp (o : Oper) : Bool :=
  match o.op with
  | .alloc _ | .box .. | .buildSlice .. | .makeSlice .. => true
  | .call { callee := .builtin .append, .. } => true
  | _ => false

/-- Operation i comes by its edges (three at most) before operation j. -/
def before3 (ops : List Oper) (i j : Nat) : Nat → Bool
  | 0 => false
  | n + 1 => match ops[j]? with
    | some o => o.after.toList.any fun e => Region.binds .any e && (e.on == i || before3 ops i e.on n)
    | none => false

/-- The place in the region of the operation that has taken number base + n. -/
def newAt : List Oper → Nat → Nat → Option Nat
  | [], _, _ => none
  | o :: r, i, n => match newOp o, n with
    | true, 0 => some i
    | true, n + 1 => newAt r (i + 1) n
    | false, n => newAt r (i + 1) n

/-- What operation j of a region may read of the own blocks: what was there when the region began, and what operations made that come before it by their edges. -/
def rdAt (vis : Vis) (ops : List Oper) (base : Nat) (H : Heap) (j : Nat) (b : Nat) : Option Blk :=
  match seen (vis j) b with
  | false => none
  | true => match Nat.blt b base with
  | true => H.getD b none
  | false => match newAt ops 0 (b - base) with
    | some i => match before3 ops i j 4 with
      | true => H.getD b none
      | false => none
    | none => none

/-- A guard's value; an operation that was left out has none. -/
def asG (v : V) (u : Prop) (k : Bool → Prop) : Prop :=
  match v with
  | .d (.bool b) => k b
  | .tup [] => u
  | _ => False

def Wops (cx : Cx) (vis : Vis) (ops : List Oper) (base : Nat) (K : Env → Heap → Prop) : List Oper → Nat → Nat → Env → Heap → Prop
  | [], _, _, a, H => K a H
  | o :: rest, j, slot, a, H =>
    match o.guard with
    | none => Wop cx (evO cx a) (rdAt vis ops base H j) slot o fun v e => appK H e fun H' => Wops cx vis ops base K rest (j + 1) (bif newOp o then slot + 1 else slot) (put a o.dst v) H'
    | some (i, want) => match (ops[i]?).bind (·.dst) with
      | some t => asG (a t) (Wops cx vis ops base K rest (j + 1) (bif newOp o then slot + 1 else slot) (put a o.dst (.tup [])) H) fun g => br g
          (match want with
            | true => Wop cx (evO cx (upd a t (.d (.bool true)))) (rdAt vis ops base H j) slot o fun v e => appK H e fun H' => Wops cx vis ops base K rest (j + 1) (bif newOp o then slot + 1 else slot) (put (upd a t (.d (.bool true))) o.dst v) H'
            | false => Wops cx vis ops base K rest (j + 1) (bif newOp o then slot + 1 else slot) (put (upd a t (.d (.bool true))) o.dst (.tup [])) H)
          (match want with
            | true => Wops cx vis ops base K rest (j + 1) (bif newOp o then slot + 1 else slot) (put (upd a t (.d (.bool false))) o.dst (.tup [])) H
            | false => Wop cx (evO cx (upd a t (.d (.bool false)))) (rdAt vis ops base H j) slot o fun v e => appK H e fun H' => Wops cx vis ops base K rest (j + 1) (bif newOp o then slot + 1 else slot) (put (upd a t (.d (.bool false))) o.dst v) H')
      | none => False

def news : List Oper → Nat
  | [] => 0
  | o :: r => bif newOp o then news r + 1 else news r

def Wregion (cx : Cx) (vis : Vis) (ops : List Oper) (a : Env) (H : Heap) (K : Env → Heap → Prop) : Prop :=
  moreK H (news ops) fun H' => Wops cx vis ops H.length K ops 0 H.length a H'

end Go.Fw
