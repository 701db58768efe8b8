/-
A stricter form of W: the temporaries stand in a list, operands are looked up at once, and whole numbers are claimed not to overflow where the hints do not say otherwise. No conditions.
-/
import Derived.Test.YtcoooinjnkeokaaDoorFwZd
namespace Go.Fw
set_option linter.unusedVariables false
set_option linter.unusedSimpArgs false
open Go.RowKit

def nthV : List V → Nat → V
  | [], _ => .any
  | v :: _, 0 => v
  | _ :: r, n + 1 => nthV r n

def getL : List V → Nat → (V → Prop) → Prop
  | [], _, _ => False
  | v :: _, 0, k => k v
  | _ :: r, n + 1, k => getL r n k

def setL : List V → Nat → V → (List V → Prop) → Prop
  | [], _, _, _ => False
  | _ :: r, 0, v, k => k (v :: r)
  | x :: r, n + 1, v, k => setL r n v fun r' => k (x :: r')

def setDL : List D → Nat → D → (List D → Prop) → Prop
  | [], _, _, _ => False
  | _ :: r, 0, v, k => k (v :: r)
  | x :: r, n + 1, v, k => setDL r n v fun r' => k (x :: r')

theorem getL_imp : ∀ {l : List V} {t : Nat} {k : V → Prop}, getL l t k → t < l.length ∧ k (nthV l t)
  | [], _, _, h => h.elim
  | v :: _, 0, k, h => ⟨by simp, h⟩
  | _ :: r, n + 1, k, h => by
    have := getL_imp (l := r) (t := n) (k := k) h
    exact ⟨by simp; exact this.1, this.2⟩

theorem setL_imp : ∀ {l : List V} {t : Nat} {v : V} {k : List V → Prop}, setL l t v k → t < l.length ∧ k (l.set t v)
  | [], _, _, _, h => h.elim
  | _ :: _, 0, v, k, h => ⟨by simp, h⟩
  | x :: r, n + 1, v, k, h => by
    have := setL_imp (l := r) (t := n) (k := fun r' => k (x :: r')) h
    exact ⟨by simp; exact this.1, this.2⟩

theorem setDL_imp : ∀ {l : List D} {t : Nat} {v : D} {k : List D → Prop}, setDL l t v k → t < l.length ∧ k (l.set t v)
  | [], _, _, _, h => h.elim
  | _ :: _, 0, v, k, h => ⟨by simp, h⟩
  | x :: r, n + 1, v, k, h => by
    have := setDL_imp (l := r) (t := n) (k := fun r' => k (x :: r')) h
    exact ⟨by simp; exact this.1, this.2⟩

theorem nthV_set : ∀ (l : List V) (d : Nat) (v : V), d < l.length → ∀ i, nthV (l.set d v) i = upd (nthV l) d v i
  | [], d, v, h, i => by simp at h
  | x :: r, 0, v, _, i => by
    cases i with
    | zero => rfl
    | succ i => rfl
  | x :: r, d + 1, v, h, i => by
    cases i with
    | zero => rfl
    | succ i => exact nthV_set r d v (by simpa using h) i

theorem nthV_upd {l : List V} {d : Nat} (v : V) (h : d < l.length) : nthV (l.set d v) = upd (nthV l) d v := funext fun i => nthV_set l d v h i

def putL (l : List V) (t : Option Tmp) (v : V) (k : List V → Prop) : Prop :=
  match t with
  | some d => setL l d v k
  | none => k l

theorem putL_imp {l : List V} {t : Option Tmp} {v : V} {k : List V → Prop} (h : putL l t v k) : ∃ l', l'.length = l.length ∧ nthV l' = put (nthV l) t v ∧ k l' := by
  cases t with
  | none => exact ⟨l, rfl, rfl, h⟩
  | some d =>
    obtain ⟨h1, h2⟩ := setL_imp h
    exact ⟨_, by simp, nthV_upd v h1, h2⟩

/-- A number, spelled out. -/
def numK (n : Nat) (k : Nat → Prop) : Prop :=
  match n with
  | 0 => k 0 | 1 => k 1 | 2 => k 2 | 3 => k 3 | 4 => k 4 | 5 => k 5 | 6 => k 6 | 7 => k 7 | 8 => k 8 | 9 => k 9 | 10 => k 10 | 11 => k 11 | 12 => k 12 | 13 => k 13 | 14 => k 14 | 15 => k 15
  | 16 => k 16 | 17 => k 17 | 18 => k 18 | 19 => k 19 | 20 => k 20 | 21 => k 21 | 22 => k 22 | 23 => k 23 | 24 => k 24 | 25 => k 25 | 26 => k 26 | 27 => k 27 | 28 => k 28 | 29 => k 29 | 30 => k 30
  | n => k n

theorem numK_imp {n : Nat} {k : Nat → Prop} (h : numK n k) : k n := by
  unfold numK at h
  split at h <;> exact h

def litK (v : Value) (k : V → Prop) : Prop :=
  match v with
  | .int a n => k (.d (.int a n))
  | .bool b => k (.d (.bool b))
  | .string s => k (.d (.str s.data.toList))
  | .slice none 0 0 => k (.d .nils)
  | .pointer none => k (.d .nilp)
  | _ => k .any

theorem litK_imp {v : Value} {k : V → Prop} (h : litK v k) : k (litV v) := by
  unfold litK at h
  unfold litV
  split at h
  · exact h
  · exact h
  · exact h
  · exact h
  · exact h
  · rename_i h1 h2 h3 h4 h5
    split
    · rename_i a b; exact (h1 a b rfl).elim
    · rename_i a; exact (h2 a rfl).elim
    · rename_i a; exact (h3 a rfl).elim
    · exact (h4 rfl).elim
    · exact (h5 rfl).elim
    · exact h

def evK (cx : Cx) (l : List V) (o : Operand) (k : V → Prop) : Prop :=
  match o with
  | .tmp t => getL l t k
  | .const v => litK v k
  | .global g => match cx.G g with
    | some x => k (.rop x)
    | none => k .any
  | .func f => k (.d (.fn f []))

theorem evK_imp {cx : Cx} {l : List V} {o : Operand} {k : V → Prop} (h : evK cx l o k) : k (evO cx (nthV l) o) := by
  cases o with
  | tmp t => exact (getL_imp h).2
  | const v => exact litK_imp h
  | global g =>
    simp only [evK] at h
    simp only [evO]
    cases hg : cx.G g with
    | some x => rw [hg] at h; exact h
    | none => rw [hg] at h; exact h
  | func f => exact h

def evKs (cx : Cx) (l : List V) : List Operand → (List V → Prop) → Prop
  | [], k => k []
  | o :: r, k => evK cx l o fun v => evKs cx l r fun vs => k (v :: vs)

theorem evKs_imp {cx : Cx} {l : List V} : ∀ {os : List Operand} {k : List V → Prop}, evKs cx l os k → k (os.map (evO cx (nthV l)))
  | [], _, h => h
  | o :: r, k, h => evKs_imp (os := r) (k := fun vs => k (_ :: vs)) (evK_imp h)

def onTy (o : Option TyE) (k : Ty → Sh → Nat → D → Prop) : Prop :=
  match o with
  | some ⟨a, b, c, d⟩ => k a b c d
  | none => False

theorem onTy_imp {o : Option TyE} {k : Ty → Sh → Nat → D → Prop} (h : onTy o k) : ∃ te, o = some te ∧ k te.ty te.sh te.bytes te.zero := by
  unfold onTy at h
  split at h
  · rename_i a b c d; exact ⟨⟨a, b, c, d⟩, rfl, h⟩
  · exact h.elim

def mapDK : List D → (List V → Prop) → Prop
  | [], k => k []
  | x :: r, k => mapDK r fun vs => k (.d x :: vs)

theorem mapDK_imp : ∀ {l : List D} {k : List V → Prop}, mapDK l k → k (l.map V.d)
  | [], _, h => h
  | x :: r, k, h => mapDK_imp (l := r) (k := fun vs => k (.d x :: vs)) h

def fillK (cx : Cx) (l : List V) : List (Nat × Operand) → List V → (List V → Prop) → Prop
  | [], vs, k => k vs
  | (i, x) :: r, vs, k => evK cx l x fun v => onS vs[i]? fun z => onT (cellV v) (onT (v.sh.beq z.sh) (setL vs i v fun vs' => fillK cx l r vs' k))

theorem onS_inv {α : Type} {o : Option α} {k : α → Prop} (h : onS o k) : ∃ a, o = some a ∧ k a := by
  cases o with
  | none => exact h.elim
  | some a => exact ⟨a, rfl, h⟩
theorem onT_inv {b : Bool} {k : Prop} (h : onT b k) : b = true ∧ k := by
  cases b with
  | false => exact h.elim
  | true => exact ⟨rfl, h⟩

theorem fillK_imp {cx : Cx} {l : List V} : ∀ {ps : List (Nat × Operand)} {vs : List V} {k : List V → Prop}, fillK cx l ps vs k → fillV (evO cx (nthV l)) ps vs k
  | [], _, _, h => h
  | (i, x) :: r, vs, k, h => by
    have h := evK_imp h
    obtain ⟨z, hz, h⟩ := onS_inv h
    obtain ⟨h1, h⟩ := onT_inv h
    obtain ⟨h2, h⟩ := onT_inv h
    exact onS_intro hz (onT_intro h1 (onT_intro h2 (fillK_imp (setL_imp h).2)))

def allK : List V → (List D → Prop) → Prop
  | [], k => k []
  | .d x :: r, k => allK r fun ds => k (x :: ds)
  | _ :: _, _ => False

theorem allK_imp : ∀ {l : List V} {k : List D → Prop}, allK l k → ∃ ds, allD l = some ds ∧ k ds
  | [], _, h => ⟨[], rfl, h⟩
  | .d x :: r, k, h => by
    obtain ⟨ds, h1, h2⟩ := allK_imp (l := r) (k := fun ds => k (x :: ds)) h
    exact ⟨x :: ds, by simp [allD, h1], h2⟩
  | .st _ :: _, _, h => h.elim
  | .tup _ :: _, _, h => h.elim
  | .sl .. :: _, _, h => h.elim
  | .sub .. :: _, _, h => h.elim
  | .sa .. :: _, _, h => h.elim
  | .ptr .. :: _, _, h => h.elim
  | .parr .. :: _, _, h => h.elim
  | .rop _ :: _, _, h => h.elim
  | .any :: _, _, h => h.elim

def allE : List V → (List D → Prop) → Prop → Prop
  | [], k, _ => k []
  | .d x :: r, k, n => allE r (fun ds => k (x :: ds)) n
  | _ :: _, _, n => n

theorem allE_imp : ∀ {l : List V} {k : List D → Prop} {n : Prop}, allE l k n → (∃ ds, allD l = some ds ∧ k ds) ∨ (allD l = none ∧ n)
  | [], _, _, h => .inl ⟨[], rfl, h⟩
  | .d x :: r, k, n, h => by
    rcases allE_imp (l := r) (k := fun ds => k (x :: ds)) h with ⟨ds, h1, h2⟩ | ⟨h1, h2⟩
    · exact .inl ⟨x :: ds, by simp [allD, h1], h2⟩
    · exact .inr ⟨by simp [allD, h1], h2⟩
  | .st _ :: _, _, _, h => .inr ⟨rfl, h⟩
  | .tup _ :: _, _, _, h => .inr ⟨rfl, h⟩
  | .sl .. :: _, _, _, h => .inr ⟨rfl, h⟩
  | .sub .. :: _, _, _, h => .inr ⟨rfl, h⟩
  | .sa .. :: _, _, _, h => .inr ⟨rfl, h⟩
  | .ptr .. :: _, _, _, h => .inr ⟨rfl, h⟩
  | .parr .. :: _, _, _, h => .inr ⟨rfl, h⟩
  | .rop _ :: _, _, _, h => .inr ⟨rfl, h⟩
  | .any :: _, _, _, h => .inr ⟨rfl, h⟩

def mkStK (l : List V) (k : V → Prop) : Prop := allE l (fun ds => k (.d (.st ds))) (k (.st l))

theorem mkStK_imp {l : List V} {k : V → Prop} (h : mkStK l k) : k (mkSt l) := by
  unfold mkSt
  rcases allE_imp h with ⟨ds, h1, h2⟩ | ⟨h1, h2⟩
  · rw [h1]; exact h2
  · rw [h1]; exact h2

/-- A test that is never run by itself. -/
@[irreducible] noncomputable def chk (p : Prop) : Bool := @decide p (Classical.propDecidable p)
theorem chk_true {p : Prop} (h : p) : chk p = true := by unfold chk; exact @decide_eq_true p (Classical.propDecidable p) h
theorem chk_false {p : Prop} (h : ¬ p) : chk p = false := by unfold chk; exact @decide_eq_false p (Classical.propDecidable p) h
theorem of_chk {p : Prop} (h : chk p = true) : p := by unfold chk at h; exact @of_decide_eq_true p (Classical.propDecidable p) h
theorem of_nchk {p : Prop} (h : chk p = false) : ¬ p := by unfold chk at h; exact @of_decide_eq_false p (Classical.propDecidable p) h
theorem chk_eq (p : Prop) [Decidable p] : chk p = decide p := by
  by_cases h : p
  · rw [decide_eq_true h]; exact chk_true h
  · rw [decide_eq_false h]; exact chk_false h

theorem mapB_ex : ∃ f : List D → Option (List UInt8), f = fun xs => xs.mapM asByte := ⟨_, rfl⟩
/-- The bytes of a list, not run by itself. -/
noncomputable def mapB : List D → Option (List UInt8) := Classical.choose mapB_ex
theorem mapB_eq (xs : List D) : mapB xs = xs.mapM asByte := by rw [show mapB = _ from Classical.choose_spec mapB_ex]

def cutLK {α : Type} (off len n : Nat) (xs : List α) (k : List α → Prop) : Prop :=
  match (Nat.beq off 0), Nat.beq len n with
  | true, true => k xs
  | _, _ => k ((xs.drop off).take len)
theorem cutLK_eq {α : Type} (off len n : Nat) (xs : List α) (k : List α → Prop) : cutLK off len n xs k = k (cutL off len n xs) := by
  unfold cutLK cutL
  cases h1 : Nat.beq off 0 <;> cases h2 : Nat.beq len n
  all_goals
    have e1 : (off == 0) = Nat.beq off 0 := by rw [Bool.eq_iff_iff, beq_iff_eq, Nat.beq_eq]
    have e2 : (len == n) = Nat.beq len n := by rw [Bool.eq_iff_iff, beq_iff_eq, Nat.beq_eq]
    rw [e1, e2, h1, h2]
    rfl
def vsliceC (rd : Nat → Option Blk) (v : V) (k : Bool → D → Prop) : Prop :=
  match v with
  | .d x => k false x
  | .sl b off ver => onS (rd b) fun
    | .grow ver' e xs => onE ver ver' (k true (.ro e false (xs.drop off)))
    | _ => False
  | .sub b off len ver => onS (rd b) fun
    | .grow ver' e xs => onE ver ver' (k true (.ro e false ((xs.drop off).take len)))
    | _ => False
  | .sa b path off len => onS (rd b) fun
    | .fix v => getV path v fun
      | .d (.arr n e xs) => cutLK off len n xs fun ys => k true (.ro e false ys)
      | _ => False
    | _ => False
  | _ => False

def elemsC (rd : Nat → Option Blk) (e : Sh) (v : V) (k : List D → Prop) : Prop :=
  match v with
  | .d .nils => k []
  | v => vsliceC rd v fun _ => fun
    | .ro e' _ xs => onT (e'.beq e) (k xs)
    | _ => False

mutual
def viewC (rd : Nat → Option Blk) : V → (Bool → D → Prop) → Prop
  | .st xs, k => viewsC rd xs fun b l => k b (.st l)
  | v, k => vsliceC rd v k
def viewsC (rd : Nat → Option Blk) : List V → (Bool → List D → Prop) → Prop
  | [], k => k false []
  | v :: vs, k => viewC rd v fun b x => viewsC rd vs fun c l => k (b || c) (x :: l)
end

def argsVC (rd : Nat → Option Blk) : List V → (Bool → List D → Prop) → Prop
  | [], k => k false []
  | v :: vs, k => onT (cellV v) (viewC rd v fun b x => argsVC rd vs fun c l => k (b || c) (x :: l))

def copyVC (rd : Nat → Option Blk) (e : Sh) (dst src : V) (k : V → Eff → Prop) : Prop :=
  match dst with
  | .sa b path off len => onS (rd b) fun
    | .fix v => getV path v fun
      | .d (.arr n e' xs) => onT (e'.beq e) (elemsC rd e src fun ys =>
          setV path (.d (.arr n e (xs.take off ++ (copyL ((xs.drop off).take len) ys ++ xs.drop (off + len))))) v fun v' =>
            k (.d (.int .i64 (Nat.min ys.length len))) [(b, some (.fix v'))])
      | _ => False
    | _ => False
  | .sl b off ver => onS (rd b) fun
    | .grow ver' e' xs => onE ver ver' (onT (e'.beq e) (elemsC rd e src fun ys =>
        k (.d (.int .i64 (Nat.min ys.length (xs.length - off)))) [(b, some (.grow ver e (xs.take off ++ copyL (xs.drop off) ys)))]))
    | _ => False
  | .sub b off len ver => onS (rd b) fun
    | .grow ver' e' xs => onE ver ver' (onT (e'.beq e) (elemsC rd e src fun ys =>
        k (.d (.int .i64 (Nat.min ys.length len))) [(b, some (.grow ver e (xs.take off ++ (copyL ((xs.drop off).take len) ys ++ xs.drop (off + len)))))]))
    | _ => False
  | _ => False

noncomputable def bytesVC (rd : Nat → Option Blk) (x : V) (k : V → Prop) : Prop :=
  match x with
  | .d .nils => k (.d (.str []))
  | v => vsliceC rd v fun _ => fun
    | .ro _ _ xs => onS (mapB xs) fun l => k (.d (.str l))
    | _ => False

noncomputable def convVC (cx : Cx) (rd : Nat → Option Blk) (src dst : TypeId) (x : V) (k : V → Prop) : Prop :=
  onS (cx.ty src) fun ts => onS (cx.ty dst) fun te => match te.ty with
  | .int kd => match x with
    | .d (.int _ n) => k (.d (.int kd (kd.wrap n)))
    | _ => False
  | .str => match ts.ty with
    | .str => match x with
      | .d (.str s) => k (.d (.str s))
      | _ => False
    | .sl e => onS (cx.ty e) fun ee => match ee.ty with
      | .int .u8 => bytesVC rd x k
      | _ => False
    | _ => False
  | .sl e => match x with
    | .d (.str s) => onS (cx.ty e) fun ee => match ee.ty with
      | .int .u8 => k (.d (.ro .one false (s.map fun c => .int .u8 c.toNat)))
      | _ => False
    | _ => False
  | _ => False

theorem vsliceC_eq : @vsliceC = @vslice := by funext rd v k; unfold vsliceC vslice; simp only [cutLK_eq]; rfl
theorem elemsC_eq : @elemsC = @elems := by funext rd e v k; unfold elemsC elems; simp only [vsliceC_eq]; rfl
mutual
theorem viewC_eq (rd : Nat → Option Blk) : ∀ (v : V) (k : Bool → D → Prop), viewC rd v k = view rd v k
  | .st xs, k => by unfold viewC view; exact viewsC_eq rd xs _
  | .d _, k => by unfold viewC view; rw [vsliceC_eq]
  | .tup _, k => by unfold viewC view; rw [vsliceC_eq]
  | .sl .., k => by unfold viewC view; rw [vsliceC_eq]
  | .sub .., k => by unfold viewC view; rw [vsliceC_eq]
  | .sa .., k => by unfold viewC view; rw [vsliceC_eq]
  | .ptr .., k => by unfold viewC view; rw [vsliceC_eq]
  | .parr .., k => by unfold viewC view; rw [vsliceC_eq]
  | .rop _, k => by unfold viewC view; rw [vsliceC_eq]
  | .any, k => by unfold viewC view; rw [vsliceC_eq]
theorem viewsC_eq (rd : Nat → Option Blk) : ∀ (vs : List V) (k : Bool → List D → Prop), viewsC rd vs k = views rd vs k
  | [], k => by unfold viewsC views; rfl
  | v :: vs, k => by
    unfold viewsC views
    rw [viewC_eq rd v]
    congr 1
    funext b x
    exact viewsC_eq rd vs _
end
theorem argsVC_eq (rd : Nat → Option Blk) : ∀ (vs : List V) (k : Bool → List D → Prop), argsVC rd vs k = argsV rd vs k
  | [], k => rfl
  | v :: vs, k => by
    unfold argsVC argsV
    rw [viewC_eq rd v]
    congr 2
    funext b x
    exact argsVC_eq rd vs _
theorem copyVC_eq : @copyVC = @copyV := by funext rd e dst src k; unfold copyVC copyV; simp only [elemsC_eq]; rfl
theorem bytesVC_eq : @bytesVC = @bytesV := by funext rd x k; unfold bytesVC bytesV; simp only [vsliceC_eq, mapB_eq]; rfl
theorem convVC_eq : @convVC = @convV := by funext cx rd src dst x k; unfold convVC convV; simp only [bytesVC_eq]; rfl

def optIC (ρ : Operand → V) (o : Option Operand) (d : Nat) (hi : Nat) (k : Nat → Prop) : Prop :=
  match o with
  | none => k d
  | some x => asI (ρ x) fun _ i => onT (chk (0 ≤ i ∧ i ≤ hi)) (k i.toNat)
def appendZC (rd : Nat → Option Blk) (e : Sh) (bytes : Nat) (zero : D) (dst src : V) (k : V → Eff → Prop) : Prop :=
  match dst with
  | .sl b off ver => match src with
    | .d (.int .i64 n) => onS (rd b) fun
      | .grow ver' e' xs => onE ver ver' (onT (e'.beq e) (onE off 0 (onT (chk (0 ≤ n ∧ (xs.length + n.toNat) * bytes ≤ room))
          (k (.sl b 0 (ver + 1)) [(b, some (.grow (ver + 1) e (xs ++ List.replicate n.toNat zero)))]))))
      | _ => False
    | _ => False
  | _ => False
def appendVC (rd : Nat → Option Blk) (slot : Nat) (e : Sh) (bytes : Nat) (dst src : V) (k : V → Eff → Prop) : Prop :=
  match dst with
  | .d .nils => elemsC rd e src fun ys => onT (chk (ys.length * bytes ≤ room)) (k (.sl slot 0 0) [(slot, some (.grow 0 e ys))])
  | .sl b off ver => onS (rd b) fun
    | .grow ver' e' xs => onE ver ver' (onT (e'.beq e) (onE off 0 (elemsC rd e src fun ys =>
        onT (chk ((xs.length + ys.length) * bytes ≤ room)) (k (.sl b 0 (ver + 1)) [(b, some (.grow (ver + 1) e (xs ++ ys)))]))))
    | _ => False
  | .sa b path off len => onS (rd b) fun
    | .fix v => getV path v fun
      | .d (.arr n e' xs) => onE (off + len) n (onT (e'.beq e) (elemsC rd e src fun ys =>
          onT (chk ((len + ys.length) * bytes ≤ room)) (
            match src with
            | .sa _ _ _ (_ + 1) => k (.sl slot 0 0) [(slot, some (.grow 0 e (cutL off len n xs ++ ys)))]
            | _ => match path, off with
              | [], 0 => k (.sl slot 0 0) [(slot, some (.grow 0 e (xs ++ ys))), (b, none)]
              | _, _ => False)))
      | _ => False
    | _ => False
  | .d (.ro e' true xs) => onT (e'.beq e) (elemsC rd e src fun ys =>
      onT (chk ((xs.length + ys.length) * bytes ≤ room)) (
        match ys with
        | y :: ys' => k (.sl slot 0 0) [(slot, some (.grow 0 e (xs ++ (y :: ys'))))]
        | [] => k (.d (.ro e' true xs)) []))
  | _ => False
def idxVC (cx : Cx) (rd : Nat → Option Blk) (t : TypeId) (x : V) (i : Int) (k : V → Prop) : Prop :=
  onS (cx.ty t) fun te => match te.ty, x with
  | .arr _ _, .ptr b ver path (.arr n e) => onT (te.sh.beq (.arr n e)) (onT (chk (0 ≤ i ∧ i < n)) (k (.ptr b ver (path ++ [i.toNat]) e)))
  | .arr _ _, .rop (.arr n e xs) => onT (te.sh.beq (.arr n e)) (onT (chk (0 ≤ i ∧ i < n)) (onS xs[i.toNat]? fun y => k (.rop y)))
  | .sl e, x => onS (cx.ty e) fun ee => match x with
    | .d (.ro e _ xs) => onT (ee.sh.beq e) (onT (chk (0 ≤ i ∧ i < xs.length)) (onS xs[i.toNat]? fun y => k (.rop y)))
    | .sl b off ver => onS (rd b) fun
      | .grow ver' e xs => onE ver ver' (onT (ee.sh.beq e) (onT (chk (0 ≤ i ∧ i < (xs.length - off : Nat))) (k (.ptr b ver [off + i.toNat] e))))
      | _ => False
    | .sub b off len ver => onS (rd b) fun
      | .grow ver' e _ => onE ver ver' (onT (ee.sh.beq e) (onT (chk (0 ≤ i ∧ i < len)) (k (.ptr b ver [off + i.toNat] e))))
      | _ => False
    | _ => False
  | _, _ => False
def sliceVC (cx : Cx) (ρ : Operand → V) (rd : Nat → Option Blk) (t : TypeId) (x : V) (lo hi mx : Option Operand) (k : V → Prop) : Prop :=
  onS (cx.ty t) fun te => match te.ty, x with
  | .arr _ _, .ptr b _ path (.arr n e) => onT (te.sh.beq (.arr n e)) (match mx with
      | none => optIC ρ hi n n fun h => optIC ρ lo 0 h fun l => k (.sa b path l (h - l))
      | some _ => False)
  | .str, .d (.str s) => match mx with
    | none => optIC ρ hi s.length s.length fun h => optIC ρ lo 0 h fun l => k (.d (.str ((s.take h).drop l)))
    | some _ => False
  | .sl e, x => onS (cx.ty e) fun ee => match x with
    | .d (.ro e t xs) => onT (ee.sh.beq e) (match mx with
      | none => match hi with
        | none => optIC ρ lo 0 xs.length fun l => k (.d (.ro e t (xs.drop l)))
        | some h => optIC ρ (some h) 0 xs.length fun h => optIC ρ lo 0 h fun l => k (.d (.ro e false ((xs.take h).drop l)))
      | some m => match hi with
        | none => False
        | some hi => optIC ρ (some m) 0 xs.length fun m => optIC ρ (some hi) 0 m fun h => optIC ρ lo 0 h fun l => k (.d (.ro e (Nat.beq m h) ((xs.take h).drop l))))
    | .d .nils => match mx with
      | none => optIC ρ hi 0 0 fun h => optIC ρ lo 0 h fun _ => k (.d .nils)
      | some _ => False
    | .sl b off ver => onS (rd b) fun
      | .grow ver' e xs => onE ver ver' (onT (ee.sh.beq e) (match mx with
        | none => match hi with
          | none => optIC ρ lo 0 (xs.length - off) fun l => k (.sl b (off + l) ver)
          | some h => optIC ρ (some h) 0 (xs.length - off) fun h => optIC ρ lo 0 h fun l => k (.sub b (off + l) (h - l) ver)
        | some _ => False))
      | _ => False
    | .sub b off len ver => onS (rd b) fun
      | .grow ver' e _ => onE ver ver' (onT (ee.sh.beq e) (match mx with
        | none => optIC ρ hi len len fun h => optIC ρ lo 0 h fun l => k (.sub b (off + l) (h - l) ver)
        | some _ => False))
      | _ => False
    | .sa b path off len => onS (rd b) fun
      | .fix v => onS (poff v.sh path) fun p => match p.2 with
        | .arr _ e => onT (ee.sh.beq e) (match mx with
          | none => optIC ρ hi len len fun h => optIC ρ lo 0 h fun l => k (.sa b path (off + l) (h - l))
          | some _ => False)
        | _ => False
      | _ => False
    | _ => False
  | _, _ => False
def arrVC (cx : Cx) (rd : Nat → Option Blk) (arr : TypeId) (x : V) (k : V → Prop) : Prop :=
  onS (cx.ty arr) fun te => match te.ty with
    | .arr n _ => match x with
      | .d (.ro e _ xs) => onT (te.sh.beq (.arr n e)) (onT (chk (0 < n ∧ n ≤ xs.length)) (k (.rop (.arr n e (xs.take n)))))
      | .sl b off ver => onS (rd b) fun
        | .grow ver' _ xs => onE ver ver' (onT (chk (n ≤ xs.length - off)) (k (.parr b off n ver)))
        | _ => False
      | .sub b off len ver => onS (rd b) fun
        | .grow ver' _ _ => onE ver ver' (onT (chk (n ≤ len)) (k (.parr b off n ver)))
        | _ => False
      | _ => False
    | _ => False
def indexVC (cx : Cx) (t : TypeId) (x : V) (i : Int) (k : V → Prop) : Prop :=
  onS (cx.ty t) fun te => match te.ty with
    | .arr _ _ => match x with
      | .d (.arr n e xs) => onT (te.sh.beq (.arr n e)) (onT (chk (0 ≤ i ∧ i < n)) (onS xs[i.toNat]? fun y => k (.d y)))
      | _ => False
    | .str => match x with
      | .d (.str s) => onT (chk (0 ≤ i ∧ i < s.length)) (onS s[i.toNat]? fun c => k (.d (.int .u8 c.toNat)))
      | _ => False
    | _ => False

theorem optIC_eq : @optIC = @optI := by funext ρ o d hi k; unfold optIC optI; simp only [chk_eq]; rfl
theorem appendZC_eq : @appendZC = @appendZ := by funext rd e bytes zero dst src k; unfold appendZC appendZ; simp only [chk_eq]; rfl
theorem appendVC_eq : @appendVC = @appendV := by funext rd slot e bytes dst src k; unfold appendVC appendV; simp only [chk_eq, elemsC_eq]; rfl
theorem idxVC_eq : @idxVC = @idxV := by funext cx rd t x i k; unfold idxVC idxV; simp only [chk_eq]; rfl
theorem sliceVC_eq : @sliceVC = @sliceV := by funext cx ρ rd t x lo hi mx k; unfold sliceVC sliceV; simp only [optIC_eq]; rfl
theorem arrVC_eq : @arrVC = @arrV := by funext cx rd arr x k; unfold arrVC arrV; simp only [chk_eq]; rfl
theorem indexVC_eq : @indexVC = @indexV := by funext cx t x i k; unfold indexVC indexV; simp only [chk_eq]; rfl

def setDK : List Nat → D → D → (D → Prop) → Prop
  | [], y, x, k => onT (y.sh.beq x.sh) (k y)
  | [i], y, .arr n e xs, k => onT (chk (i < n)) (onT (y.sh.beq e) (k (.arr n e (xs.set i y))))
  | i :: p, y, .arr n e xs, k => onS xs[i]? fun x => setDK p y x fun z => k (.arr n e (xs.set i z))
  | i :: p, y, .st xs, k => onS xs[i]? fun x => setDK p y x fun z => setDL xs i z fun xs' => k (.st xs')
  | _ :: _, _, _, _ => False

theorem setDK_imp : ∀ {p : List Nat} {y x : D} {k : D → Prop}, setDK p y x k → setD p y x k := by
  intro p
  induction p with
  | nil => intro y x k h; exact h
  | cons i p ih =>
    intro y x k h
    cases x with
    | arr n e xs =>
      cases p with
      | nil =>
        have h : onT (chk (i < n)) (onT (y.sh.beq e) (k (.arr n e (xs.set i y)))) := h
        rw [chk_eq] at h
        exact h
      | cons j p =>
        have h : onS xs[i]? fun x => setDK (j :: p) y x fun z => k (.arr n e (xs.set i z)) := h
        obtain ⟨x, hx, h⟩ := onS_inv h
        exact onS_intro hx (ih h)
    | st xs =>
      have h : onS xs[i]? fun x => setDK p y x fun z => setDL xs i z fun xs' => k (.st xs') := by
        cases p <;> exact h
      obtain ⟨x, hx, h⟩ := onS_inv h
      have h := ih h
      have hm : setD p y x fun z => k (.st (xs.set i z)) := by
        obtain ⟨z, hz, hm⟩ := setD_one p y x _ h
        exact hm _ (setDL_imp hz).2
      show setD (i :: p) y (.st xs) k
      have : onS xs[i]? fun x => setD p y x fun z => k (.st (xs.set i z)) := onS_intro hx hm
      cases p <;> exact this
    | _ => cases p <;> exact h.elim

def setVK : List Nat → V → V → (V → Prop) → Prop
  | [], u, v, k => onT (u.sh.beq v.sh) (k u)
  | i :: p, .d y, .d x, k => setDK (i :: p) y x fun z => k (.d z)
  | i :: p, u, .d (.st xs), k => onS xs[i]? fun x => setVK p u (.d x) fun z => mapDK xs fun vs => setL vs i z fun vs' => mkStK vs' k
  | i :: p, u, .st xs, k => onS xs[i]? fun x => setVK p u x fun z => setL xs i z fun vs => mkStK vs k
  | _ :: _, _, _, _ => False

theorem setVK_imp : ∀ {p : List Nat} {u v : V} {k : V → Prop}, setVK p u v k → setV p u v k := by
  intro p
  induction p with
  | nil => intro u v k h; exact h
  | cons i p ih =>
    intro u v k h
    have dst : ∀ {xs : List D} {u : V}, (onS xs[i]? fun x => setVK p u (.d x) fun z => mapDK xs fun vs => setL vs i z fun vs' => mkStK vs' k) → (onS xs[i]? fun x => setV p u (.d x) fun z => k (mkSt ((xs.map V.d).set i z))) := fun {xs u} h => by
      obtain ⟨x, hx, h⟩ := onS_inv h
      have h := ih h
      obtain ⟨z, hz, hm⟩ := setV_one p u (.d x) _ h
      exact onS_intro hx (hm _ (mkStK_imp (setL_imp (mapDK_imp hz)).2))
    have stt : ∀ {xs : List V} {u : V}, (onS xs[i]? fun x => setVK p u x fun z => setL xs i z fun vs => mkStK vs k) → (onS xs[i]? fun x => setV p u x fun z => k (mkSt (xs.set i z))) := fun {xs u} h => by
      obtain ⟨x, hx, h⟩ := onS_inv h
      have h := ih h
      obtain ⟨z, hz, hm⟩ := setV_one p u x _ h
      exact onS_intro hx (hm _ (mkStK_imp (setL_imp hz).2))
    cases v with
    | d x =>
      cases u with
      | d y => exact setDK_imp h
      | _ => cases x with
        | st xs => exact dst h
        | _ => exact h.elim
    | st xs => cases u <;> exact stt h
    | _ => cases u <;> exact h.elim

def storeV2 (cx : Cx) (rd : Nat → Option Blk) (t : TypeId) (p u : V) (k : Eff → Prop) : Prop :=
  onS (cx.ty t) fun te => onT (cellV u) (onT (te.sh.beq u.sh) (match p with
  | .ptr b ver path _ => onS (rd b) fun
    | .fix v => setVK path u v fun v' => k [(b, some (.fix v'))]
    | .grow ver' e xs => onE ver ver' (match path, u with
      | i :: p, .d y => setDK (i :: p) y (.arr xs.length e xs) fun
        | .arr _ _ xs' => k [(b, some (.grow ver' e xs'))]
        | _ => False
      | _, _ => False)
  | _ => False))

theorem storeV2_imp {cx : Cx} {rd : Nat → Option Blk} {t : TypeId} {p u : V} {k : Eff → Prop} (h : storeV2 cx rd t p u k) : storeV cx rd t p u k := by
  obtain ⟨te, ht, h⟩ := onS_inv h
  obtain ⟨h1, h⟩ := onT_inv h
  obtain ⟨h2, h⟩ := onT_inv h
  refine onS_intro ht (onT_intro h1 (onT_intro h2 ?_))
  cases p with
  | ptr b ver path s =>
    obtain ⟨blk, hb, h⟩ := onS_inv h
    refine onS_intro hb ?_
    cases blk with
    | fix v => exact setVK_imp h
    | grow ver' e xs =>
      obtain ⟨he, h⟩ := onE_elim h
      refine onE_intro he ?_
      cases path with
      | nil => exact h.elim
      | cons i p =>
        cases u with
        | d y => exact setDK_imp h
        | _ => exact h.elim
  | _ => exact h.elim

/-! Numbers -/

def loK : IntKind → Int
  | .i8 => -128 | .i16 => -32768 | .i32 => -2147483648 | .i64 => -9223372036854775808 | _ => 0
def hiK : IntKind → Int
  | .i8 => 127 | .i16 => 32767 | .i32 => 2147483647 | .i64 => 9223372036854775807 | .u8 => 255 | .u16 => 65535 | .u32 => 4294967295 | .u64 => 18446744073709551615
def inK (k : IntKind) (n : Int) : Prop := loK k ≤ n ∧ n ≤ hiK k
instance (k : IntKind) (n : Int) : Decidable (inK k n) := inferInstanceAs (Decidable (_ ∧ _))

theorem wrap_in {k : IntKind} {n : Int} (h : inK k n) : k.wrap n = n := by
  obtain ⟨h1, h2⟩ := h
  cases k <;> simp only [loK, hiK] at h1 h2 <;> simp [IntKind.wrap, IntKind.signed, IntKind.bits] <;> omega

def addW (k : IntKind) (a b : Int) : Int := k.wrap (a + b)
def subW (k : IntKind) (a b : Int) : Int := k.wrap (a - b)
def mulW (k : IntKind) (a b : Int) : Int := k.wrap (a * b)
def shlW (k : IntKind) (a : Int) (n : Nat) : Int := k.wrap (a * 2 ^ min n k.bits)
def shrW (k : IntKind) (a : Int) (n : Nat) : Int := a.fdiv (2 ^ min n k.bits)
def andW (k : IntKind) (a b : Int) : Int := k.wrap (BitVec.ofInt k.bits a &&& BitVec.ofInt k.bits b).toNat
def orW (k : IntKind) (a b : Int) : Int := k.wrap (BitVec.ofInt k.bits a ||| BitVec.ofInt k.bits b).toNat
def xorW (k : IntKind) (a b : Int) : Int := k.wrap (BitVec.ofInt k.bits a ^^^ BitVec.ofInt k.bits b).toNat
def andNotW (k : IntKind) (a b : Int) : Int := k.wrap (BitVec.ofInt k.bits a &&& ~~~ BitVec.ofInt k.bits b).toNat
def notW (k : IntKind) (n : Int) : Int := k.wrap (BitVec.ofInt k.bits (if k.signed then -1 else k.max) ^^^ BitVec.ofInt k.bits n).toNat

/-- Is the sum as it stands (and to be in its kind's range), or wrapped? -/
def bare (k : IntKind) (fl : Bool) : Bool :=
  match k, fl with
  | .i64, false => true
  | .i64, true => false
  | _, f => f

def addK (k : IntKind) (fl : Bool) (a b : Int) (K : Int → Prop) : Prop :=
  match bare k fl with
  | true => onT (chk (inK k (a + b))) (K (a + b))
  | false => K (addW k a b)
def subK (k : IntKind) (fl : Bool) (a b : Int) (K : Int → Prop) : Prop :=
  match bare k fl with
  | true => onT (chk (inK k (a - b))) (K (a - b))
  | false => K (subW k a b)
def mulK (k : IntKind) (fl : Bool) (a b : Int) (K : Int → Prop) : Prop :=
  match bare k fl with
  | true => onT (chk (inK k (a * b))) (K (a * b))
  | false => K (mulW k a b)
def divK (k : IntKind) (fl : Bool) (a b : Int) (K : Int → Prop) : Prop :=
  match fl with
  | false => onT (chk (0 ≤ a ∧ a ≤ hiK k ∧ 0 < b)) (K (a / b))
  | true => onT (chk (b ≠ 0)) (K (k.wrap (a.tdiv b)))
def remK (fl : Bool) (a b : Int) (K : Int → Prop) : Prop :=
  match fl with
  | false => onT (chk (0 ≤ a ∧ 0 < b)) (K (a % b))
  | true => onT (chk (b ≠ 0)) (K (a.tmod b))
def shrK (k : IntKind) (fl : Bool) (a b : Int) (K : Int → Prop) : Prop :=
  match fl with
  | false => onT (chk (0 ≤ b ∧ b < k.bits)) (K (a / 2 ^ b.toNat))
  | true => onT (chk (0 ≤ b)) (K (shrW k a b.toNat))
def shlK (k : IntKind) (fl : Bool) (a b : Int) (K : Int → Prop) : Prop :=
  match bare k fl with
  | true => onT (chk (0 ≤ b ∧ b < k.bits)) (onT (chk (inK k (a * 2 ^ b.toNat))) (K (a * 2 ^ b.toNat)))
  | false => onT (chk (0 ≤ b)) (K (shlW k a b.toNat))

theorem addK_imp {k : IntKind} {fl : Bool} {a b : Int} {K : Int → Prop} (h : addK k fl a b K) : K (k.wrap (a + b)) := by
  unfold addK at h
  split at h
  · obtain ⟨h1, h⟩ := onT_inv h; rw [wrap_in (of_chk h1)]; exact h
  · exact h
theorem subK_imp {k : IntKind} {fl : Bool} {a b : Int} {K : Int → Prop} (h : subK k fl a b K) : K (k.wrap (a - b)) := by
  unfold subK at h
  split at h
  · obtain ⟨h1, h⟩ := onT_inv h; rw [wrap_in (of_chk h1)]; exact h
  · exact h
theorem mulK_imp {k : IntKind} {fl : Bool} {a b : Int} {K : Int → Prop} (h : mulK k fl a b K) : K (k.wrap (a * b)) := by
  unfold mulK at h
  split at h
  · obtain ⟨h1, h⟩ := onT_inv h; rw [wrap_in (of_chk h1)]; exact h
  · exact h
theorem loK_le (k : IntKind) : loK k ≤ 0 := by cases k <;> decide
theorem divK_imp {k : IntKind} {fl : Bool} {a b : Int} {K : Int → Prop} (h : divK k fl a b K) : onT (decide (b ≠ 0)) (K (k.wrap (a.tdiv b))) := by
  unfold divK at h
  split at h
  · obtain ⟨h1, h⟩ := onT_inv h
    obtain ⟨h0, h2, h3⟩ := of_chk h1
    refine onT_intro (decide_eq_true (by omega)) ?_
    have e : a.tdiv b = a / b := Int.tdiv_eq_ediv_of_nonneg h0
    have hq : 0 ≤ a / b := Int.ediv_nonneg h0 (by omega)
    have hq2 : a / b ≤ a := Int.ediv_le_self b h0
    rw [e, wrap_in ⟨by have := loK_le k; omega, by omega⟩]
    exact h
  · rw [chk_eq] at h; exact h
theorem remK_imp {fl : Bool} {a b : Int} {K : Int → Prop} (h : remK fl a b K) : onT (decide (b ≠ 0)) (K (a.tmod b)) := by
  unfold remK at h
  split at h
  · obtain ⟨h1, h⟩ := onT_inv h
    obtain ⟨h0, h3⟩ := of_chk h1
    refine onT_intro (decide_eq_true (by omega)) ?_
    rw [Int.tmod_eq_emod_of_nonneg h0]
    exact h
  · rw [chk_eq] at h; exact h
theorem shrK_imp {k : IntKind} {fl : Bool} {a b : Int} {K : Int → Prop} (h : shrK k fl a b K) : onT (decide (0 ≤ b)) (K (a.fdiv (2 ^ (min b.toNat k.bits)))) := by
  unfold shrK at h
  split at h
  · obtain ⟨h1, h⟩ := onT_inv h
    obtain ⟨h0, h3⟩ := of_chk h1
    refine onT_intro (decide_eq_true h0) ?_
    rw [show min b.toNat k.bits = b.toNat by omega, Int.fdiv_eq_ediv_of_nonneg _ (by exact_mod_cast Nat.zero_le (2 ^ b.toNat))]
    exact h
  · rw [chk_eq] at h; exact h
theorem shlK_imp {k : IntKind} {fl : Bool} {a b : Int} {K : Int → Prop} (h : shlK k fl a b K) : onT (decide (0 ≤ b)) (K (k.wrap (a * 2 ^ (min b.toNat k.bits)))) := by
  unfold shlK at h
  split at h
  · obtain ⟨h1, h⟩ := onT_inv h
    obtain ⟨h2, h⟩ := onT_inv h
    obtain ⟨h0, h3⟩ := of_chk h1
    refine onT_intro (decide_eq_true h0) ?_
    rw [show min b.toNat k.bits = b.toNat by omega, wrap_in (of_chk h2)]
    exact h
  · rw [chk_eq] at h; exact h

theorem eqTC_ex : ∃ f : Cx → TypeId → D → D → Option Bool, f = fun cx t x y => eqT cx 20 t x y := ⟨_, rfl⟩
/-- Equality of data, not run by itself. -/
noncomputable def eqTC : Cx → TypeId → D → D → Option Bool := Classical.choose eqTC_ex
theorem eqTC_eq (cx : Cx) (t : TypeId) (x y : D) : eqTC cx t x y = eqT cx 20 t x y := by rw [show eqTC = _ from Classical.choose_spec eqTC_ex]

noncomputable def eqV2 (cx : Cx) (t : TypeId) (op : BinOp) (x y : D) (k : V → Prop) : Prop :=
  onS (cx.ty t) fun te => onT (te.sh.beq x.sh) (onT (te.sh.beq y.sh) (onT (plainT cx 20 t) (onS (eqTC cx t x y) fun b =>
    match op with
    | .eql => k (.d (.bool b))
    | .neq => k (.d (.bool (!b)))
    | _ => False)))
theorem eqV2_imp {cx : Cx} {t : TypeId} {op : BinOp} {x y : D} {k : V → Prop} (h : eqV2 cx t op x y k) : eqV cx t op x y k := by
  unfold eqV2 at h
  rw [eqTC_eq] at h
  exact h

noncomputable def binV2 (fl : Bool) (cx : Cx) (t : TypeId) (op : BinOp) (x y : V) (k : V → Prop) : Prop :=
  match x, y with
  | .d (.int kx a), .d (.int ky b) =>
    match op with
    | .shl => shlK kx fl a b fun n => k (.d (.int kx n))
    | .shr => shrK kx fl a b fun n => k (.d (.int kx n))
    | .add => onT (decide (kx = ky)) (addK kx fl a b fun n => k (.d (.int kx n)))
    | .sub => onT (decide (kx = ky)) (subK kx fl a b fun n => k (.d (.int kx n)))
    | .mul => onT (decide (kx = ky)) (mulK kx fl a b fun n => k (.d (.int kx n)))
    | .quo => onT (decide (kx = ky)) (divK kx fl a b fun n => k (.d (.int kx n)))
    | .rem => onT (decide (kx = ky)) (remK fl a b fun n => k (.d (.int kx n)))
    | .and => onT (decide (kx = ky)) (k (.d (.int kx (andW kx a b))))
    | .or => onT (decide (kx = ky)) (k (.d (.int kx (orW kx a b))))
    | .xor => onT (decide (kx = ky)) (k (.d (.int kx (xorW kx a b))))
    | .andNot => onT (decide (kx = ky)) (k (.d (.int kx (andNotW kx a b))))
    | .eql => onT (decide (kx = ky)) (k (.d (.bool (chk (a = b)))))
    | .neq => onT (decide (kx = ky)) (k (.d (.bool (chk (a ≠ b)))))
    | .lss => onT (decide (kx = ky)) (k (.d (.bool (chk (a < b)))))
    | .leq => onT (decide (kx = ky)) (k (.d (.bool (chk (a ≤ b)))))
    | .gtr => onT (decide (kx = ky)) (k (.d (.bool (chk (a > b)))))
    | .geq => onT (decide (kx = ky)) (k (.d (.bool (chk (a ≥ b)))))
  | .d (.str a), .d (.str b) =>
    match op with
    | .eql => k (.d (.bool (chk (a = b))))
    | .neq => k (.d (.bool (!chk (a = b))))
    | .add => onT (chk (a.length + b.length ≤ 9223372036854775807)) (k (.d (.str (a ++ b))))
    | _ => False
  | .d (.arr n e xs), .d (.arr m f ys) => eqV2 cx t op (.arr n e xs) (.arr m f ys) k
  | .d (.st xs), .d (.st ys) => eqV2 cx t op (.st xs) (.st ys) k
  | x, y => binV cx t op x y k

theorem binV2_imp {fl : Bool} {cx : Cx} {t : TypeId} {op : BinOp} {x y : V} {k : V → Prop} (h : binV2 fl cx t op x y k) : binV cx t op x y k := by
  unfold binV2 at h
  split at h
  · rename_i kx a ky b
    cases op with
    | shl => exact shlK_imp h
    | shr => exact shrK_imp h
    | add => obtain ⟨h1, h⟩ := onT_inv h; exact onT_intro h1 (addK_imp h)
    | sub => obtain ⟨h1, h⟩ := onT_inv h; exact onT_intro h1 (subK_imp h)
    | mul => obtain ⟨h1, h⟩ := onT_inv h; exact onT_intro h1 (mulK_imp h)
    | quo => obtain ⟨h1, h⟩ := onT_inv h; exact onT_intro h1 (divK_imp h)
    | rem => obtain ⟨h1, h⟩ := onT_inv h; exact onT_intro h1 (remK_imp h)
    | eql => obtain ⟨h1, h⟩ := onT_inv h; rw [chk_eq] at h; exact onT_intro h1 h
    | neq =>
      obtain ⟨h1, h⟩ := onT_inv h
      rw [chk_eq] at h
      refine onT_intro h1 ?_
      have e : decide (a ≠ b) = (a != b) := by rw [Bool.eq_iff_iff]; simp
      rw [e] at h
      exact h
    | lss => obtain ⟨h1, h⟩ := onT_inv h; rw [chk_eq] at h; exact onT_intro h1 h
    | leq => obtain ⟨h1, h⟩ := onT_inv h; rw [chk_eq] at h; exact onT_intro h1 h
    | gtr => obtain ⟨h1, h⟩ := onT_inv h; rw [chk_eq] at h; exact onT_intro h1 h
    | geq => obtain ⟨h1, h⟩ := onT_inv h; rw [chk_eq] at h; exact onT_intro h1 h
    | _ => exact h
  · cases op with
    | add =>
      have h : onT (chk _) _ := h
      rw [chk_eq] at h
      exact h
    | eql =>
      rename_i a b
      have h : k (.d (.bool (chk (a = b)))) := h
      have e : chk (a = b) = (a == b) := by rw [chk_eq, Bool.eq_iff_iff]; simp
      rw [e] at h
      exact h
    | neq =>
      rename_i a b
      have h : k (.d (.bool (!chk (a = b)))) := h
      have e : chk (a = b) = (a == b) := by rw [chk_eq, Bool.eq_iff_iff]; simp
      rw [e] at h
      exact h
    | _ => exact h
  · exact eqV2_imp h
  · exact eqV2_imp h
  · exact h

def unV2 (fl : Bool) (op : UnOp) (x : V) (k : V → Prop) : Prop :=
  match op, x with
  | .neg, .d (.int a n) => subK a fl 0 n fun m => k (.d (.int a m))
  | .xor, .d (.int a n) => k (.d (.int a (notW a n)))
  | .not, .d (.bool b) => k (.d (.bool (!b)))
  | _, _ => False

theorem unV2_imp {fl : Bool} {op : UnOp} {x : V} {k : V → Prop} (h : unV2 fl op x k) : unV op x k := by
  unfold unV2 at h
  split at h
  · exact subK_imp h
  · exact h
  · exact h
  · exact h.elim

def convK (k : IntKind) (fl : Bool) (n : Int) (K : Int → Prop) : Prop :=
  match k, fl with
  | .i64, false | .u64, false => onT (chk (inK k n)) (K n)
  | .i64, true | .u64, true | _, false => K (k.wrap n)
  | _, true => onT (chk (inK k n)) (K n)

theorem convK_imp {k : IntKind} {fl : Bool} {n : Int} {K : Int → Prop} (h : convK k fl n K) : K (k.wrap n) := by
  unfold convK at h
  split at h
  all_goals first
    | exact h
    | (obtain ⟨h1, h⟩ := onT_inv h; rw [wrap_in (of_chk h1)]; exact h)

noncomputable def convV2 (fl : Bool) (cx : Cx) (rd : Nat → Option Blk) (src dst : TypeId) (x : V) (k : V → Prop) : Prop :=
  onTy (cx.ty dst) fun ty _ _ _ => match ty with
  | .int kd => match x with
    | .d (.int _ n) => onTy (cx.ty src) fun _ _ _ _ => convK kd fl n fun m => k (.d (.int kd m))
    | _ => False
  | _ => convVC cx rd src dst x k

theorem convV2_imp {fl : Bool} {cx : Cx} {rd : Nat → Option Blk} {src dst : TypeId} {x : V} {k : V → Prop} (h : convV2 fl cx rd src dst x k) : convV cx rd src dst x k := by
  obtain ⟨te, ht, h⟩ := onTy_imp h
  cases hty : te.ty with
  | int kd =>
    simp only [hty] at h
    cases x with
    | d x =>
      cases x with
      | int ks n =>
        obtain ⟨ts, hs, h⟩ := onTy_imp h
        refine onS_intro hs (onS_intro ht ?_)
        simp only [hty]
        exact convK_imp h
      | _ => exact h.elim
    | _ => exact h.elim
  | _ => simp only [hty, convVC_eq] at h; exact h
end Go.Fw
