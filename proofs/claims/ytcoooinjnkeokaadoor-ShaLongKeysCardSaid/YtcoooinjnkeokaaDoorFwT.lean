/-
Each operation has one outcome: what W asks of it is asked of that outcome. No conditions.
-/
import Derived.Test.YtcoooinjnkeokaaDoorFwS
namespace Go.Fw
set_option linter.unusedVariables false
set_option linter.unusedSimpArgs false
open Go.RowKit

/-- One outcome. -/
def Lin {α : Type} (T : (α → Prop) → Prop) : Prop := ∀ k, T k → ∃ x, k x ∧ ∀ k' : α → Prop, k' x → T k'
def Lin2 {α β : Type} (T : (α → β → Prop) → Prop) : Prop := Lin fun k : α × β → Prop => T fun a b => k (a, b)

section
variable {α β γ : Type}
theorem Lin.ret (x : α) : Lin fun k => k x := fun _ h => ⟨x, h, fun _ h => h⟩
theorem Lin.fals : Lin fun _ : α → Prop => False := fun _ h => h.elim
theorem Lin.bind {S : (α → Prop) → Prop} {T : α → (β → Prop) → Prop} (hS : Lin S) (hT : ∀ a, Lin (T a)) : Lin fun k => S fun a => T a k := by
  intro k h
  obtain ⟨x, hx, h1⟩ := hS _ h
  obtain ⟨y, hy, h2⟩ := hT x _ hx
  exact ⟨y, hy, fun k' hk => h1 _ (h2 _ hk)⟩
theorem Lin.bind2 {S : (α → β → Prop) → Prop} {T : α → β → (γ → Prop) → Prop} (hS : Lin2 S) (hT : ∀ a b, Lin (T a b)) : Lin fun k => S fun a b => T a b k := by
  intro k h
  obtain ⟨x, hx, h1⟩ := hS (fun p => T p.1 p.2 k) h
  obtain ⟨y, hy, h2⟩ := hT x.1 x.2 _ hx
  exact ⟨y, hy, fun k' hk => h1 (fun p => T p.1 p.2 k') (h2 _ hk)⟩
theorem Lin.onS {o : Option α} {T : α → (β → Prop) → Prop} (h : ∀ a, Lin (T a)) : Lin fun k => Fw.onS o fun a => T a k := by
  cases o with
  | none => exact Lin.fals
  | some a => exact h a
theorem Lin.onT {b : Bool} {T : (β → Prop) → Prop} (h : Lin T) : Lin fun k => Fw.onT b (T k) := by
  cases b with
  | true => exact h
  | false => exact Lin.fals
theorem Lin.onE {a b : Nat} {T : (β → Prop) → Prop} (h : Lin T) : Lin fun k => Fw.onE a b (T k) := by
  unfold Fw.onE
  cases Nat.beq a b with
  | true => exact h
  | false => exact Lin.fals
theorem Lin.br {b : Bool} {T U : (β → Prop) → Prop} (h : Lin T) (h' : Lin U) : Lin fun k => Fw.br b (T k) (U k) := by
  cases b with
  | true => exact h
  | false => exact h'
theorem Lin.asI {v : V} {T : IntKind → Int → (β → Prop) → Prop} (h : ∀ a n, Lin (T a n)) : Lin fun k => Fw.asI v fun a n => T a n k := by
  cases v with
  | d x => cases x with
    | int a n => exact h a n
    | _ => exact Lin.fals
  | _ => exact Lin.fals
theorem Lin.asB {v : V} {T : Bool → (β → Prop) → Prop} (h : ∀ a, Lin (T a)) : Lin fun k => Fw.asB v fun a => T a k := by
  cases v with
  | d x => cases x with
    | bool a => exact h a
    | _ => exact Lin.fals
  | _ => exact Lin.fals
end

theorem getD_one : ∀ (p : List Nat) (x : D), Lin (getD p x)
  | [], x => Lin.ret x
  | i :: p, x => by
    cases x with
    | arr n e xs => exact Lin.onS fun x => getD_one p x
    | st xs => exact Lin.onS fun x => getD_one p x
    | _ => exact Lin.fals

theorem setD_one : ∀ (p : List Nat) (y x : D), Lin (setD p y x)
  | [], y, x => Lin.onT (Lin.ret y)
  | [i], y, x => by
    cases x with
    | arr n e xs => exact Lin.onT (Lin.onT (Lin.ret _))
    | st xs => exact Lin.onS fun x => Lin.bind (setD_one [] y x) fun z => Lin.ret _
    | _ => exact Lin.fals
  | i :: j :: p, y, x => by
    cases x with
    | arr n e xs => exact Lin.onS fun x => Lin.bind (setD_one (j :: p) y x) fun z => Lin.ret _
    | st xs => exact Lin.onS fun x => Lin.bind (setD_one (j :: p) y x) fun z => Lin.ret _
    | _ => exact Lin.fals

theorem getV_one : ∀ (p : List Nat) (v : V), Lin (getV p v)
  | [], v => Lin.ret v
  | i :: p, v => by
    cases v with
    | d x =>
      show Lin fun k => getD (i :: p) x fun y => k (V.d y)
      exact Lin.bind (getD_one (i :: p) x) fun y => Lin.ret _
    | st xs => exact Lin.onS fun v => getV_one p v
    | _ => exact Lin.fals

theorem setV_one : ∀ (p : List Nat) (u v : V), Lin (setV p u v)
  | [], u, v => Lin.onT (Lin.ret u)
  | i :: p, u, v => by
    cases v with
    | d x =>
      cases u with
      | d y =>
        show Lin fun k => setD (i :: p) y x fun y => k (V.d y)
        exact Lin.bind (setD_one (i :: p) y x) fun z => Lin.ret _
      | _ =>
        cases x with
        | st xs => exact Lin.onS fun x => Lin.bind (setV_one p _ (.d x)) fun z => Lin.ret _
        | _ => exact Lin.fals
    | st xs => cases u <;> exact Lin.onS fun x => Lin.bind (setV_one p _ x) fun z => Lin.ret _
    | _ => cases u <;> exact Lin.fals

theorem vslice_lin (rd : Nat → Option Blk) (v : V) : Lin2 (vslice rd v) := by
  cases v with
  | d x => exact Lin.ret (false, x)
  | sl b off ver =>
    refine Lin.onS fun bk => ?_
    cases bk with
    | fix v => exact Lin.fals
    | grow ver' e xs => exact Lin.onE (Lin.ret (true, _))
  | sub b off len ver =>
    refine Lin.onS fun bk => ?_
    cases bk with
    | fix v => exact Lin.fals
    | grow ver' e xs => exact Lin.onE (Lin.ret (true, _))
  | sa b path off len =>
    refine Lin.onS fun bk => ?_
    cases bk with
    | fix v =>
      refine Lin.bind (getV_one path v) fun u => ?_
      cases u with
      | d x =>
        cases x with
        | arr n e xs => exact Lin.ret (true, _)
        | _ => exact Lin.fals
      | _ => exact Lin.fals
    | grow ver' e xs => exact Lin.fals
  | _ => exact Lin.fals

mutual
theorem view_one (rd : Nat → Option Blk) : ∀ (v : V), Lin2 (view rd v)
  | .st xs => by
    show Lin fun k : Bool × D → Prop => view rd (.st xs) fun a b => k (a, b)
    simp only [view]
    exact Lin.bind2 (views_one rd xs) fun b l => Lin.ret (b, D.st l)
  | .d x => by
    show Lin fun k : Bool × D → Prop => view rd (.d x) fun a b => k (a, b)
    simp only [view]
    exact vslice_lin rd _
  | .tup xs => by
    show Lin fun k : Bool × D → Prop => view rd (.tup xs) fun a b => k (a, b)
    simp only [view]
    exact vslice_lin rd _
  | .sl a b c => by
    show Lin fun k : Bool × D → Prop => view rd (.sl a b c) fun a b => k (a, b)
    simp only [view]
    exact vslice_lin rd _
  | .sub a b c d => by
    show Lin fun k : Bool × D → Prop => view rd (.sub a b c d) fun a b => k (a, b)
    simp only [view]
    exact vslice_lin rd _
  | .sa a b c d => by
    show Lin fun k : Bool × D → Prop => view rd (.sa a b c d) fun a b => k (a, b)
    simp only [view]
    exact vslice_lin rd _
  | .ptr a b c d => by
    show Lin fun k : Bool × D → Prop => view rd (.ptr a b c d) fun a b => k (a, b)
    simp only [view]
    exact vslice_lin rd _
  | .parr a b c d => by
    show Lin fun k : Bool × D → Prop => view rd (.parr a b c d) fun a b => k (a, b)
    simp only [view]
    exact vslice_lin rd _
  | .rop x => by
    show Lin fun k : Bool × D → Prop => view rd (.rop x) fun a b => k (a, b)
    simp only [view]
    exact vslice_lin rd _
  | .any => by
    show Lin fun k : Bool × D → Prop => view rd (.any) fun a b => k (a, b)
    simp only [view]
    exact vslice_lin rd _
theorem views_one (rd : Nat → Option Blk) : ∀ (l : List V), Lin2 (views rd l)
  | [] => by
    show Lin fun k : Bool × List D → Prop => views rd [] fun a b => k (a, b)
    simp only [views]
    exact Lin.ret (false, [])
  | v :: vs => by
    show Lin fun k : Bool × List D → Prop => views rd (v :: vs) fun a b => k (a, b)
    simp only [views]
    exact Lin.bind2 (view_one rd v) fun b x => Lin.bind2 (views_one rd vs) fun c l => Lin.ret (b || c, x :: l)
end

theorem elems_lin (rd : Nat → Option Blk) (e : Sh) (v : V) : Lin (elems rd e v) := by
  have main : Lin fun k => vslice rd v fun _ x => match x with
    | .ro e' _ xs => onT (e'.beq e) (k xs)
    | _ => False := Lin.bind2 (vslice_lin rd v) fun b x => by
      cases x with
      | ro e' t xs => exact Lin.onT (Lin.ret _)
      | _ => exact Lin.fals
  cases v with
  | d x =>
    cases x with
    | nils => exact Lin.ret _
    | _ => exact main
  | _ => exact main

theorem argsV_lin (rd : Nat → Option Blk) : ∀ (l : List V), Lin2 (argsV rd l)
  | [] => Lin.ret (false, [])
  | v :: vs => Lin.onT (Lin.bind2 (view_one rd v) fun b x => Lin.bind2 (argsV_lin rd vs) fun c l => Lin.ret (b || c, x :: l))

theorem fillV_lin (ρ : Operand → V) : ∀ (parts : List (Nat × Operand)) (l : List V), Lin (fillV ρ parts l)
  | [], l => Lin.ret l
  | (i, x) :: r, l => Lin.onS fun z => Lin.onT (Lin.onT (fillV_lin ρ r _))

theorem optI_lin (ρ : Operand → V) (o : Option Operand) (d hi : Nat) : Lin (optI ρ o d hi) := by
  cases o with
  | none => exact Lin.ret _
  | some x => exact Lin.asI fun _ i => Lin.onT (Lin.ret _)

theorem appendZ_lin (rd : Nat → Option Blk) (e : Sh) (bytes : Nat) (zero : D) (dst src : V) : Lin2 (appendZ rd e bytes zero dst src) := by
  cases dst with
  | sl b off ver =>
    cases src with
    | d x =>
      cases x with
      | int kk n =>
        cases kk with
        | i64 =>
          refine Lin.onS fun bk => ?_
          cases bk with
          | fix v => exact Lin.fals
          | grow ver' e' xs => exact Lin.onE (Lin.onT (Lin.onE (Lin.onT (Lin.ret (_, _)))))
        | _ => exact Lin.fals
      | _ => exact Lin.fals
    | _ => exact Lin.fals
  | _ => exact Lin.fals

theorem appendV_lin (rd : Nat → Option Blk) (slot : Nat) (e : Sh) (bytes : Nat) (dst src : V) : Lin2 (appendV rd slot e bytes dst src) := by
  cases dst with
  | d x =>
    cases x with
    | nils =>
      show Lin fun k : V × Eff → Prop => elems rd e src fun ys => onT (decide (ys.length * bytes ≤ room)) (k (.sl slot 0 0, [(slot, some (.grow 0 e ys))]))
      exact Lin.bind (elems_lin rd e src) fun ys => Lin.onT (Lin.ret (_, _))
    | ro e' t xs =>
      cases t with
      | false => exact Lin.fals
      | true =>
        refine Lin.onT (Lin.bind (elems_lin rd e src) fun ys => Lin.onT ?_)
        cases ys with
        | nil => exact Lin.ret (_, _)
        | cons y ys' => exact Lin.ret (_, _)
    | _ => exact Lin.fals
  | sl b off ver =>
    refine Lin.onS fun bk => ?_
    cases bk with
    | fix v => exact Lin.fals
    | grow ver' e' xs => exact Lin.onE (Lin.onT (Lin.onE (Lin.bind (elems_lin rd e src) fun ys => Lin.onT (Lin.ret (_, _)))))
  | sa b path off len =>
    refine Lin.onS fun bk => ?_
    cases bk with
    | fix v =>
      refine Lin.bind (getV_one path v) fun u => ?_
      cases u with
      | d x =>
        cases x with
        | arr n e' xs =>
          refine Lin.onE (Lin.onT (Lin.bind (elems_lin rd e src) fun ys => Lin.onT ?_))
          have main : Lin fun k : V × Eff → Prop => (match path, off with
              | [], 0 => k (.sl slot 0 0, [(slot, some (.grow 0 e (xs ++ ys))), (b, none)])
              | _, _ => False) := by
            cases path with
            | nil => cases off with
              | zero => exact Lin.ret (_, _)
              | succ n => exact Lin.fals
            | cons i p => exact Lin.fals
          cases src with
          | sa b' p' off' len' =>
            cases len' with
            | zero => exact main
            | succ n => exact Lin.ret (_, _)
          | _ => exact main
        | _ => exact Lin.fals
      | _ => exact Lin.fals
    | grow ver' e xs => exact Lin.fals
  | _ => exact Lin.fals

theorem copyV_lin (rd : Nat → Option Blk) (e : Sh) (dst src : V) : Lin2 (copyV rd e dst src) := by
  cases dst with
  | sl b off ver =>
    refine Lin.onS fun bk => ?_
    cases bk with
    | fix v => exact Lin.fals
    | grow ver' e' xs => exact Lin.onE (Lin.onT (Lin.bind (elems_lin rd e src) fun ys => Lin.ret (_, _)))
  | sub b off len ver =>
    refine Lin.onS fun bk => ?_
    cases bk with
    | fix v => exact Lin.fals
    | grow ver' e' xs => exact Lin.onE (Lin.onT (Lin.bind (elems_lin rd e src) fun ys => Lin.ret (_, _)))
  | sa b path off len =>
    refine Lin.onS fun bk => ?_
    cases bk with
    | fix v =>
      refine Lin.bind (getV_one path v) fun u => ?_
      cases u with
      | d x =>
        cases x with
        | arr n e' xs => exact Lin.onT (Lin.bind (elems_lin rd e src) fun ys => Lin.bind (setV_one _ _ _) fun v' => Lin.ret (_, _))
        | _ => exact Lin.fals
      | _ => exact Lin.fals
    | grow ver' e xs => exact Lin.fals
  | _ => exact Lin.fals

theorem lenV_lin (cx : Cx) (rd : Nat → Option Blk) (t : TypeId) (v : V) : Lin (lenV cx rd t v) := by
  refine Lin.onS fun te => ?_
  cases te.ty with
  | str => cases v with
    | d x => cases x with
      | str l => exact Lin.ret _
      | _ => exact Lin.fals
    | _ => exact Lin.fals
  | arr n e => cases v with
    | d x => cases x with
      | arr n e xs => exact Lin.ret _
      | _ => exact Lin.fals
    | _ => exact Lin.fals
  | sl e => cases v with
    | d x => cases x with
      | nils => exact Lin.ret _
      | ro e t xs => exact Lin.ret _
      | _ => exact Lin.fals
    | sl b off ver =>
      refine Lin.onS fun bk => ?_
      cases bk with
      | fix v => exact Lin.fals
      | grow ver' e' xs => exact Lin.onE (Lin.ret _)
    | sub b off len ver =>
      refine Lin.onS fun bk => ?_
      cases bk with
      | fix v => exact Lin.fals
      | grow ver' e' xs => exact Lin.onE (Lin.ret _)
    | sa b path off len =>
      refine Lin.onS fun bk => ?_
      cases bk with
      | fix v => exact Lin.ret _
      | grow ver' e' xs => exact Lin.fals
    | _ => exact Lin.fals
  | _ => exact Lin.fals

theorem eqV_lin (cx : Cx) (t : TypeId) (op : BinOp) (x y : D) : Lin (eqV cx t op x y) := by
  refine Lin.onS fun te => Lin.onT (Lin.onT (Lin.onT (Lin.onS fun b => ?_)))
  cases op <;> first | exact Lin.ret _ | exact Lin.fals

theorem binV_lin (cx : Cx) (t : TypeId) (op : BinOp) (x y : V) : Lin (binV cx t op x y) := by
  cases x with
  | d x =>
    cases y with
    | d y =>
      cases x with
      | int kx a => cases y with
        | int ky b => cases op <;> first | exact Lin.onT (Lin.ret _) | exact Lin.onT (Lin.onT (Lin.ret _)) | exact Lin.ret _ | exact Lin.fals
        | _ => exact Lin.fals
      | str a => cases y with
        | str b => cases op <;> first | exact Lin.onT (Lin.ret _) | exact Lin.ret _ | exact Lin.fals
        | _ => exact Lin.fals
      | bool a => cases y with
        | bool b =>
          refine Lin.onS fun te => ?_
          cases te.ty with
          | bool => cases op <;> first | exact Lin.ret _ | exact Lin.fals
          | _ => exact Lin.fals
        | _ => exact Lin.fals
      | arr n e xs => cases y with
        | arr m f ys => exact eqV_lin _ _ _ _ _
        | _ => exact Lin.fals
      | st xs => cases y with
        | st ys => exact eqV_lin _ _ _ _ _
        | _ => exact Lin.fals
      | _ => exact Lin.fals
    | _ => cases x <;> exact Lin.fals
  | _ => exact Lin.fals

theorem unV_lin (op : UnOp) (x : V) : Lin (unV op x) := by
  cases x with
  | d x => cases x <;> cases op <;> first | exact Lin.ret _ | exact Lin.fals
  | _ => cases op <;> exact Lin.fals

theorem idxV_lin (cx : Cx) (rd : Nat → Option Blk) (t : TypeId) (x : V) (i : Int) : Lin (idxV cx rd t x i) := by
  refine Lin.onS fun te => ?_
  cases te.ty with
  | arr n e => cases x with
    | ptr b ver path s => cases s with
      | arr n e => exact Lin.onT (Lin.onT (Lin.ret _))
      | _ => exact Lin.fals
    | rop y => cases y with
      | arr n e xs => exact Lin.onT (Lin.onT (Lin.onS fun _ => Lin.ret _))
      | _ => exact Lin.fals
    | _ => exact Lin.fals
  | sl e =>
    refine Lin.onS fun ee => ?_
    cases x with
    | d y => cases y with
      | ro e t xs => exact Lin.onT (Lin.onT (Lin.onS fun _ => Lin.ret _))
      | _ => exact Lin.fals
    | sl b off ver =>
      refine Lin.onS fun bk => ?_
      cases bk with
      | fix v => exact Lin.fals
      | grow ver' e' xs => exact Lin.onE (Lin.onT (Lin.onT (Lin.ret _)))
    | sub b off len ver =>
      refine Lin.onS fun bk => ?_
      cases bk with
      | fix v => exact Lin.fals
      | grow ver' e' xs => exact Lin.onE (Lin.onT (Lin.onT (Lin.ret _)))
    | _ => exact Lin.fals
  | _ => exact Lin.fals

theorem sliceV_lin (cx : Cx) (ρ : Operand → V) (rd : Nat → Option Blk) (t : TypeId) (x : V) (lo hi mx : Option Operand) : Lin (sliceV cx ρ rd t x lo hi mx) := by
  refine Lin.onS fun te => ?_
  cases te.ty with
  | arr n e => cases x with
    | ptr b ver path s => cases s with
      | arr n e =>
        cases mx with
        | none => exact Lin.onT (Lin.bind (optI_lin _ _ _ _) fun h => Lin.bind (optI_lin _ _ _ _) fun l => Lin.ret _)
        | some m => exact Lin.onT Lin.fals
      | _ => exact Lin.fals
    | _ => exact Lin.fals
  | str => cases x with
    | d y => cases y with
      | str s => cases mx with
        | none => exact Lin.bind (optI_lin _ _ _ _) fun h => Lin.bind (optI_lin _ _ _ _) fun l => Lin.ret _
        | some m => exact Lin.fals
      | _ => exact Lin.fals
    | _ => exact Lin.fals
  | sl e =>
    refine Lin.onS fun ee => ?_
    cases x with
    | d y => cases y with
      | ro e t xs =>
        refine Lin.onT ?_
        cases mx with
        | none => cases hi with
          | none => exact Lin.bind (optI_lin _ _ _ _) fun l => Lin.ret _
          | some h => exact Lin.bind (optI_lin _ _ _ _) fun h => Lin.bind (optI_lin _ _ _ _) fun l => Lin.ret _
        | some m => cases hi with
          | none => exact Lin.fals
          | some h => exact Lin.bind (optI_lin _ _ _ _) fun m => Lin.bind (optI_lin _ _ _ _) fun h => Lin.bind (optI_lin _ _ _ _) fun l => Lin.ret _
      | nils => cases mx with
        | none => exact Lin.bind (optI_lin _ _ _ _) fun h => Lin.bind (optI_lin _ _ _ _) fun l => Lin.ret _
        | some m => exact Lin.fals
      | _ => exact Lin.fals
    | sl b off ver =>
      refine Lin.onS fun bk => ?_
      cases bk with
      | fix v => exact Lin.fals
      | grow ver' e' xs =>
        refine Lin.onE (Lin.onT ?_)
        cases mx with
        | none => cases hi with
          | none => exact Lin.bind (optI_lin _ _ _ _) fun l => Lin.ret _
          | some h => exact Lin.bind (optI_lin _ _ _ _) fun h => Lin.bind (optI_lin _ _ _ _) fun l => Lin.ret _
        | some m => exact Lin.fals
    | sub b off len ver =>
      refine Lin.onS fun bk => ?_
      cases bk with
      | fix v => exact Lin.fals
      | grow ver' e' xs =>
        refine Lin.onE (Lin.onT ?_)
        cases mx with
        | none => exact Lin.bind (optI_lin _ _ _ _) fun h => Lin.bind (optI_lin _ _ _ _) fun l => Lin.ret _
        | some m => exact Lin.fals
    | sa b path off len =>
      refine Lin.onS fun bk => ?_
      cases bk with
      | fix v =>
        refine Lin.onS fun p => ?_
        obtain ⟨o, s⟩ := p
        cases s with
        | arr n e =>
          refine Lin.onT ?_
          cases mx with
          | none => exact Lin.bind (optI_lin _ _ _ _) fun h => Lin.bind (optI_lin _ _ _ _) fun l => Lin.ret _
          | some m => exact Lin.fals
        | _ => exact Lin.fals
      | grow ver' e xs => exact Lin.fals
    | _ => exact Lin.fals
  | _ => exact Lin.fals

theorem bytesV_lin (rd : Nat → Option Blk) (x : V) : Lin (bytesV rd x) := by
  have main : Lin fun k : V → Prop => vslice rd x fun _ y => match y with
    | .ro _ _ xs => onS (xs.mapM asByte) fun l => k (.d (.str l))
    | _ => False := Lin.bind2 (vslice_lin rd x) fun b y => by
      cases y with
      | ro e' t xs => exact Lin.onS fun l => Lin.ret _
      | _ => exact Lin.fals
  cases x with
  | d y => cases y with
    | nils => exact Lin.ret _
    | _ => exact main
  | _ => exact main

theorem convS_lin (cx : Cx) (rd : Nat → Option Blk) (t : TypeId) (x : V) : Lin2 (convS cx rd t x) := by
  refine Lin.onS fun te => ?_
  cases te.ty with
  | int kd => cases x with
    | d y => cases y with
      | int k n => exact Lin.ret (_, _)
      | _ => exact Lin.fals
    | _ => exact Lin.fals
  | str => cases x with
    | d y => cases y with
      | str s => exact Lin.ret (_, _)
      | _ => exact Lin.fals
    | _ => exact Lin.fals
  | sl e => cases x with
    | sl b off ver =>
      refine Lin.onS fun ee => ?_
      cases ee.ty with
      | int k =>
        cases k with
        | u8 =>
          refine Lin.onS fun blk => ?_
          cases blk with
          | grow ver' e' xs => exact Lin.onE (Lin.onT (Lin.ret (_, _)))
          | fix v => exact Lin.fals
        | _ => exact Lin.fals
      | _ => exact Lin.fals
    | _ => exact Lin.fals
  | _ => exact Lin.fals

theorem convV_lin (cx : Cx) (rd : Nat → Option Blk) (src dst : TypeId) (x : V) : Lin (convV cx rd src dst x) := by
  refine Lin.onS fun ts => Lin.onS fun te => ?_
  cases te.ty with
  | int kd => cases x with
    | d y => cases y with
      | int k n => exact Lin.ret _
      | _ => exact Lin.fals
    | _ => exact Lin.fals
  | str =>
    cases ts.ty with
    | str => cases x with
      | d y => cases y with
        | str s => exact Lin.ret _
        | _ => exact Lin.fals
      | _ => exact Lin.fals
    | sl e =>
      refine Lin.onS fun ee => ?_
      cases ee.ty with
      | int k => cases k <;> first | exact bytesV_lin rd x | exact Lin.fals
      | _ => exact Lin.fals
    | _ => exact Lin.fals
  | sl e => cases x with
    | d y => cases y with
      | str s =>
        refine Lin.onS fun ee => ?_
        cases ee.ty with
        | int k => cases k <;> first | exact Lin.ret _ | exact Lin.fals
        | _ => exact Lin.fals
      | _ => exact Lin.fals
    | _ => exact Lin.fals
  | _ => exact Lin.fals

theorem minI_lin (op : Builtin) (l : List V) : Lin (minI op l) := by
  match l with
  | [] => cases op <;> exact Lin.fals
  | [x] => cases op <;> cases x <;> first | exact Lin.fals | (rename_i d; cases d <;> exact Lin.fals)
  | x :: y :: z :: r =>
    cases x with
    | d a => cases a with
      | int k n => cases y with
        | d b => cases b <;> cases op <;> exact Lin.fals
        | _ => cases op <;> exact Lin.fals
      | _ => cases op <;> exact Lin.fals
    | _ => cases op <;> exact Lin.fals
  | [x, y] =>
    cases x with
    | d a => cases a with
      | int k n => cases y with
        | d b => cases b <;> cases op <;> first | exact Lin.fals | exact Lin.onT (Lin.ret _)
        | _ => cases op <;> exact Lin.fals
      | _ => cases op <;> exact Lin.fals
    | _ => cases op <;> exact Lin.fals

theorem loadV_lin (cx : Cx) (rd : Nat → Option Blk) (t : TypeId) (p : V) : Lin (loadV cx rd t p) := by
  refine Lin.onS fun te => ?_
  cases p with
  | rop x => exact Lin.onT (Lin.ret _)
  | ptr b ver path s =>
    refine Lin.onT (Lin.onS fun bk => ?_)
    cases bk with
    | fix v => exact getV_one path v
    | grow ver' e xs =>
      refine Lin.onE ?_
      cases path with
      | nil => exact Lin.fals
      | cons i p => exact Lin.onS fun x => Lin.bind (getD_one p x) fun y => Lin.ret _
  | parr b off n ver =>
    refine Lin.onS fun bk => ?_
    cases bk with
    | fix v => exact Lin.fals
    | grow ver' e xs => exact Lin.onE (Lin.onT (Lin.ret _))
  | _ => exact Lin.fals

theorem storeV_lin (cx : Cx) (rd : Nat → Option Blk) (t : TypeId) (p u : V) : Lin (storeV cx rd t p u) := by
  refine Lin.onS fun te => Lin.onT (Lin.onT ?_)
  cases p with
  | ptr b ver path s =>
    refine Lin.onS fun bk => ?_
    cases bk with
    | fix v => exact Lin.bind (setV_one path u v) fun v' => Lin.ret _
    | grow ver' e xs =>
      refine Lin.onE ?_
      cases path with
      | nil => exact Lin.fals
      | cons i p =>
        cases u with
        | d y =>
          refine Lin.bind (setD_one (i :: p) y _) fun z => ?_
          cases z with
          | arr n e xs' => exact Lin.ret _
          | _ => exact Lin.fals
        | _ => exact Lin.fals
  | _ => exact Lin.fals

theorem buildV_lin (cx : Cx) (ρ : Operand → V) (t : TypeId) (parts : List (Nat × Operand)) : Lin (buildV cx ρ t parts) := by
  refine Lin.onS fun te => ?_
  cases te.zero with
  | st zs => exact Lin.bind (fillV_lin ρ parts _) fun l => Lin.ret _
  | arr n e zs => exact Lin.bind (fillV_lin ρ parts _) fun l => Lin.onS fun ds => Lin.ret _
  | _ => exact Lin.fals

theorem arrV_lin (cx : Cx) (rd : Nat → Option Blk) (t : TypeId) (x : V) : Lin (arrV cx rd t x) := by
  refine Lin.onS fun te => ?_
  cases te.ty with
  | arr n e => cases x with
    | d y => cases y with
      | ro e t xs => exact Lin.onT (Lin.onT (Lin.ret _))
      | _ => exact Lin.fals
    | sl b off ver =>
      refine Lin.onS fun bk => ?_
      cases bk with
      | fix v => exact Lin.fals
      | grow ver' e' xs => exact Lin.onE (Lin.onT (Lin.ret _))
    | sub b off len ver =>
      refine Lin.onS fun bk => ?_
      cases bk with
      | fix v => exact Lin.fals
      | grow ver' e' xs => exact Lin.onE (Lin.onT (Lin.ret _))
    | _ => exact Lin.fals
  | _ => exact Lin.fals

theorem fieldAtV_lin (cx : Cx) (t : TypeId) (x : V) (f : Nat) : Lin (fieldAtV cx t x f) := by
  refine Lin.onS fun te => ?_
  cases te.ty with
  | st fs => cases x with
    | ptr b ver path s => cases s with
      | st l => exact Lin.onT (Lin.onS fun _ => Lin.ret _)
      | _ => exact Lin.fals
    | rop y => cases y with
      | st xs => exact Lin.onT (Lin.onS fun _ => Lin.ret _)
      | _ => exact Lin.fals
    | _ => exact Lin.fals
  | _ => exact Lin.fals

theorem fieldV_lin (cx : Cx) (t : TypeId) (x : V) (f : Nat) : Lin (fieldV cx t x f) := by
  refine Lin.onS fun te => ?_
  cases te.ty with
  | st fs => cases x with
    | d y => cases y with
      | st l => exact Lin.onT (Lin.onS fun _ => Lin.ret _)
      | _ => exact Lin.fals
    | st l => exact Lin.onT (Lin.onS fun _ => Lin.ret _)
    | _ => exact Lin.fals
  | _ => exact Lin.fals

theorem indexV_lin (cx : Cx) (t : TypeId) (x : V) (i : Int) : Lin (indexV cx t x i) := by
  refine Lin.onS fun te => ?_
  cases te.ty with
  | arr n e => cases x with
    | d y => cases y with
      | arr n e xs => exact Lin.onT (Lin.onT (Lin.onS fun _ => Lin.ret _))
      | _ => exact Lin.fals
    | _ => exact Lin.fals
  | str => cases x with
    | d y => cases y with
      | str s => exact Lin.onT (Lin.onS fun _ => Lin.ret _)
      | _ => exact Lin.fals
    | _ => exact Lin.fals
  | _ => exact Lin.fals
end Go.Fw
