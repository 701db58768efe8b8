/-
The predicate transformer W over code, weakenings of a state, and the rule for loops. No conditions.
-/
import Derived.Test.YtcoooinjnkeokaaDoorFwB
namespace Go.Fw
set_option linter.unusedVariables false
set_option linter.unusedSimpArgs false
open Go.RowKit

inductive Ex where
  | normal
  | exit (id : Nat)
  | ret

abbrev Post := Ex → Env → Heap → Prop

def thenK (K : Env → Heap → Prop) (Q : Post) : Post
  | .normal, a, H => K a H
  | e, a, H => Q e a H

def inBlockK (id : Nat) (Q : Post) : Post
  | .exit i, a, H => br (Nat.beq i id) (Q .normal a H) (Q (.exit i) a H)
  | e, a, H => Q e a H

/-- No reference to a block from n on. -/
inductive V.lowV (n : Nat) : V → Prop
  | d (x : D) : V.lowV n (.d x)
  | st (xs : List V) (h : ∀ x ∈ xs, V.lowV n x) : V.lowV n (.st xs)
  | sl (b off ver : Nat) (h : b < n) : V.lowV n (.sl b off ver)
  | sub (b off len ver : Nat) (h : b < n) : V.lowV n (.sub b off len ver)
  | sa (b : Nat) (p : List Nat) (off len : Nat) (h : b < n) : V.lowV n (.sa b p off len)
  | ptr (b ver : Nat) (p : List Nat) (s : Sh) (h : b < n) : V.lowV n (.ptr b ver p s)
  | parr (b off m ver : Nat) (h : b < n) : V.lowV n (.parr b off m ver)
  | rop (x : D) : V.lowV n (.rop x)
  | any : V.lowV n .any

def Blk.lowB (n : Nat) : Blk → Prop
  | .fix v => V.lowV n v
  | .grow .. => True

/-- The state reads as the second one too, which says less. -/
inductive Wk : Env → Heap → Env → Heap → Prop
  | env (e e' : Env) (H : Heap) (h : ∀ t, e' t = .any ∨ e' t = e t) : Wk e H e' H
  | le (e e' : Env) (H : Heap) (h : ∀ t, e' t = e t ∨ ∃ x y, e t = .d x ∧ e' t = .d y ∧ D.le x y) : Wk e H e' H
  | kill (e : Env) (H : Heap) (b : Nat) : Wk e H e (H.set b none)
  | freeze (e e' : Env) (H : Heap) (b ver : Nat) (sh : Sh) (xs : List D) (hb : H[b]? = some (some (.grow ver sh xs)))
      (h : ∀ t, e' t = e t ∨ ∃ off, e t = .sl b off ver ∧ e' t = .d (.ro sh false (xs.drop off))) : Wk e H e' (H.set b none)
  | freezeA (e e' : Env) (H : Heap) (b n : Nat) (sh : Sh) (xs : List D) (hb : H[b]? = some (some (.fix (.d (.arr n sh xs)))))
      (h : ∀ t, e' t = e t ∨ ∃ off len, e t = .sa b [] off len ∧ e' t = .d (.ro sh false (cutL off len n xs))) : Wk e H e' (H.set b none)
  | born (e e' : Env) (H : Heap) (sh : Sh) (h : ∀ t, e' t = e t ∨ (e t = .d .nils ∧ e' t = .sl H.length 0 0)) : Wk e H e' (H ++ [some (.grow 0 sh [])])
  | trunc (e : Env) (H : Heap) (n : Nat) (h : ∀ t, V.lowV n (e t)) (hH : ∀ b x, H[b]? = some (some x) → b < n → Blk.lowB n x) : Wk e H e (H.take n)
  | trans (a : Env) (A : Heap) (b : Env) (B : Heap) (c : Env) (C : Heap) (h1 : Wk a A b B) (h2 : Wk b B c C) : Wk a A c C

theorem Wk.refl (a : Env) (H : Heap) : Wk a H a H := .env a a H fun _ => .inr rfl

abbrev Tr := Env → Heap → (Env → Heap → Prop) → Prop

def iterW (F : Tr) : Nat → Env → Heap → Prop
  | 0, _, _ => False
  | n + 1, a, H => ∃ a' H', Wk a H a' H' ∧ F a' H' (iterW F n)

@[irreducible] def LoopW (F : Tr) (a : Env) (H : Heap) : Prop := ∃ n, iterW F n a H

def cutK (b : Bool) (a : Env) (H : Heap) (k : Env → Heap → Prop) : Prop :=
  match b with
  | true => ∃ a' H', Wk a H a' H' ∧ k a' H'
  | false => k a H

/-- What the proof says of a body's regions: where to weaken first, and who looks at what. -/
structure Hints where
  cuts : List Nat := []
  vis : List (Nat × List (Nat × Bool × List Nat)) := []
  flip : List (Nat × List Nat) := []

def lookN {α : Type} (n : Nat) : List (Nat × α) → Option α
  | [] => none
  | (m, a) :: r => match Nat.beq n m with
    | true => some a
    | false => lookN n r

def visOf (hs : Hints) (id : Nat) : Vis := fun j =>
  match lookN id hs.vis with
  | some l => lookN j l
  | none => none

def W (cx : Cx) (hs : Hints) : Code → Env → Heap → Post → Prop
  | .skip, a, H, Q => Q .normal a H
  | .region id ops _, a, H, Q => cutK (elemN id hs.cuts) a H fun a H => Wregion cx (visOf hs id) ops.toList a H (Q .normal)
  | .seq x y, a, H, Q => W cx hs x a H (thenK (fun a H => W cx hs y a H Q) Q)
  | .cond c x y, a, H, Q =>
    match c with
    | .tmp t => asB (a t) fun g => br g (W cx hs x (upd a t (.d (.bool true))) H Q) (W cx hs y (upd a t (.d (.bool false))) H Q)
    | c => asB (evO cx a c) fun g => br g (W cx hs x a H Q) (W cx hs y a H Q)
  | .block id b, a, H, Q => W cx hs b a H (inBlockK id Q)
  | .loop b, a, H, Q => LoopW (fun a H K => W cx hs b a H (thenK K Q)) a H
  | .exit id, a, H, Q => Q (.exit id) a H
  | .ret, a, H, Q => Q .ret a H
  | _, _, _, _ => False

/-! Intro rules -/

theorem onS_intro {α : Type} {o : Option α} {a : α} {k : α → Prop} (h : o = some a) (hk : k a) : onS o k := by subst h; exact hk
theorem onT_intro {b : Bool} {k : Prop} (h : b = true) (hk : k) : onT b k := by subst h; exact hk
theorem onT_dec {p : Prop} [Decidable p] {k : Prop} (h : p) (hk : k) : onT (decide p) k := onT_intro (decide_eq_true h) hk
theorem onE_rfl {a : Nat} {k : Prop} (hk : k) : onE a a k := by unfold onE; rw [show Nat.beq a a = true from Nat.beq_refl a]; exact hk
theorem onE_intro {a b : Nat} {k : Prop} (h : a = b) (hk : k) : onE a b k := by subst h; exact onE_rfl hk
theorem br_intro {b : Bool} {x y : Prop} (h1 : b = true → x) (h2 : b = false → y) : br b x y := by cases b; exact h2 rfl; exact h1 rfl
theorem br_true {b : Bool} {x y : Prop} (h : b = true) (hx : x) : br b x y := by subst h; exact hx
theorem br_false {b : Bool} {x y : Prop} (h : b = false) (hy : y) : br b x y := by subst h; exact hy

def envOf : List (Nat × V) → Nat → V
  | [], _ => .any
  | (t, v) :: r, i => if i = t then v else envOf r i

def has (e : Nat → V) : List (Nat × V) → Prop
  | [] => True
  | (t, v) :: r => e t = v ∧ has e r

theorem has_envOf {e : Nat → V} : ∀ {l : List (Nat × V)}, has e l → ∀ t, envOf l t = .any ∨ envOf l t = e t
  | [], _, _ => .inl rfl
  | (u, v) :: r, h, t => by
    unfold envOf
    by_cases e : t = u
    · subst e; rw [if_pos rfl]; exact .inr h.1.symm
    · rw [if_neg e]; exact has_envOf h.2 t

theorem Wk.mk {e : Env} {H : Heap} {l : List (Nat × V)} (h : has e l) : Wk e H (envOf l) H := .env _ _ _ (has_envOf h)

def belowL (n : Nat) : List (Nat × V) → Prop
  | [] => True
  | (_, v) :: r => V.lowV n v ∧ belowL n r

theorem belowL_envOf {n : Nat} : ∀ {l : List (Nat × V)}, belowL n l → ∀ t, V.lowV n (envOf l t)
  | [], _, _ => .any
  | (u, v) :: r, h, t => by
    unfold envOf
    by_cases e : t = u
    · rw [if_pos e]; exact h.1
    · rw [if_neg e]; exact belowL_envOf h.2 t

def belowH (n : Nat) : Heap → Prop
  | [] => True
  | none :: r => belowH n r
  | some x :: r => Blk.lowB n x ∧ belowH n r

theorem belowH_get {n : Nat} : ∀ {H : Heap}, belowH n H → ∀ (b : Nat) x, H[b]? = some (some x) → Blk.lowB n x
  | some y :: r, h, 0, x, hx => by simp at hx; subst hx; exact h.1
  | none :: r, h, 0, x, hx => by simp at hx
  | some y :: r, h, b + 1, x, hx => belowH_get h.2 b x (by simpa using hx)
  | none :: r, h, b + 1, x, hx => belowH_get (H := r) h b x (by simpa using hx)

/-- What a loop's head or a cut keeps: the listed slots, and the first n blocks. -/
theorem Wk.keep {e : Env} {H : Heap} {l : List (Nat × V)} (n : Nat) {H' : Heap} (h : has e l) (hb : belowL n l) (hH : H.take n = H') (hB : belowH n H') : Wk e H (envOf l) H' := by
  subst hH
  refine .trans _ _ _ _ _ _ (Wk.mk h) (.trunc _ _ n (belowL_envOf hb) fun b x hx hn => belowH_get hB b x ?_)
  rw [List.getElem?_take, if_pos hn]; exact hx

/-- THE RULE FOR A LOOP: the states mk p, p of a type of our own; each round leads back to one of them, with a smaller measure. -/
theorem LoopW_rule {α : Type} (mk : α → Env) (mh : α → Heap) (I : α → Prop) (μ : α → Nat) {F : Tr} {a : Env} {H : Heap}
    (hmono : ∀ a H K K', (∀ a H, K a H → K' a H) → F a H K → F a H K')
    (p0 : α) (h0 : Wk a H (mk p0) (mh p0)) (hI0 : I p0)
    (round : ∀ p, I p → F (mk p) (mh p) fun a' H' => ∃ p', Wk a' H' (mk p') (mh p') ∧ I p' ∧ μ p' < μ p) : LoopW F a H := by
  have key : ∀ n p, μ p < n → I p → ∀ a H, Wk a H (mk p) (mh p) → iterW F n a H := by
    intro n
    induction n with
    | zero => intro p h; omega
    | succ n ih =>
      intro p hp hI a H hs
      refine ⟨mk p, mh p, hs, hmono _ _ _ _ ?_ (round p hI)⟩
      rintro a' H' ⟨p', hw, hI', hlt⟩
      exact ih p' (by omega) hI' a' H' hw
  unfold LoopW
  exact ⟨μ p0 + 1, key _ p0 (by omega) hI0 a H h0⟩

def envArgs : List D → Nat → V
  | [], _ => .any
  | x :: _, 0 => .d x
  | _ :: r, n + 1 => envArgs r n

def rdH (H : Heap) (b : Nat) : Option Blk := H.getD b none

def resV (cx : Cx) (a : Env) (H : Heap) (r : ResultVar) (k : D → Prop) : Prop :=
  match r with
  | .tmp t => onT (cellV (a t)) (view (rdH H) (a t) fun _ d => k d)
  | .cell c t => loadV cx (rdH H) t (a c) fun v => onT (cellV v) (view (rdH H) v fun _ d => k d)

def resVs (cx : Cx) (a : Env) (H : Heap) : List ResultVar → (List D → Prop) → Prop
  | [], k => k []
  | r :: rs, k => resV cx a H r fun x => resVs cx a H rs fun l => k (x :: l)

def resK (cx : Cx) (a : Env) (H : Heap) (rs : List ResultVar) (k : D → Prop) : Prop :=
  match rs with
  | [r] => resV cx a H r k
  | rs => resVs cx a H rs fun l => k (.tup l)

def postK (cx : Cx) (rs : List ResultVar) (k : D → Prop) : Post
  | .exit _, _, _ => False
  | _, a, H => resK cx a H rs k

end Go.Fw
