/-
Digests, plain: the words' functions. No conditions.
-/
import Derived.Test.YtcoooinjnkeokaaDoorFwZg
namespace Go.Fw
set_option linter.unusedVariables false
set_option linter.unusedSimpArgs false

def rotlS (n : Int) : Int := andW .u64 (IntKind.u64.wrap n) 31
def rotlI (x n : Int) : Int := orW .u32 (shlW .u32 x (rotlS n).toNat) (shrW .u32 x (subW .u64 32 (rotlS n)).toNat)
def rotrI (x n : Int) : Int := rotlI x (0 - n)
def blockD (b : List Int) : D := .arr 64 .one (u8s b)
def wordsD (w : List Int) : D := .arr 64 .one (u32s w)

def up8 (x c : Int) : Int := orW .u32 (shlW .u32 x 8) (IntKind.u32.wrap c)
def sch1 (b : List Int) : Nat → List Int
  | 0 => List.replicate 64 0
  | i + 1 => (sch1 b i).set (i / 4) (up8 ((sch1 b i).getD (i / 4) 0) (b.getD i 0))
theorem sch1_len (b : List Int) : ∀ i, (sch1 b i).length = 64
  | 0 => by simp [sch1]
  | i + 1 => by simp [sch1, sch1_len b i]
def wnext (w : List Int) (i : Nat) : Int :=
  addW .u32 (addW .u32 (addW .u32 (w.getD (i - 16) 0) (xorW .u32 (xorW .u32 (rotrI (w.getD (i - 15) 0) 7) (rotrI (w.getD (i - 15) 0) 18)) (w.getD (i - 15) 0 / 2 ^ 3))) (w.getD (i - 7) 0))
    (xorW .u32 (xorW .u32 (rotrI (w.getD (i - 2) 0) 17) (rotrI (w.getD (i - 2) 0) 19)) (w.getD (i - 2) 0 / 2 ^ 10))
def sch2 (w : List Int) : Nat → List Int
  | 0 => w
  | j + 1 => (sch2 w j).set (16 + j) (wnext (sch2 w j) (16 + j))
theorem sch2_len (w : List Int) (h : w.length = 64) : ∀ j, (sch2 w j).length = 64
  | 0 => h
  | j + 1 => by simp [sch2, sch2_len w h j]
def word4 (b : List Int) (i : Nat) : Int := orW .u32 (orW .u32 (orW .u32 (shlW .u32 (IntKind.u32.wrap (b.getD (4 * i) 0)) 24) (shlW .u32 (IntKind.u32.wrap (b.getD (4 * i + 1) 0)) 16)) (shlW .u32 (IntKind.u32.wrap (b.getD (4 * i + 2) 0)) 8)) (IntKind.u32.wrap (b.getD (4 * i + 3) 0))
def sch1r (b : List Int) : Nat → List Int
  | 0 => List.replicate 64 0
  | i + 1 => (sch1r b i).set i (word4 b i)
theorem sch1r_len (b : List Int) : ∀ i, (sch1r b i).length = 64
  | 0 => by simp [sch1r]
  | i + 1 => by simp [sch1r, sch1r_len b i]
theorem set_words {l : List Int} {n i : Nat} {x y : Int} (hn : n = i) (hx : x = y) : D.arr 64 .one ((u32s l).set n (.int .u32 x)) = wordsD (l.set i y) := by
  subst hn; subst hx; simp [wordsD, u32s, List.map_set]
def stD (s : List Int) : D := .arr 8 .one (u32s s)
def t1 (s : List Int) (k w : Int) : Int := addW .u32 (addW .u32 (addW .u32 (addW .u32 (s.getD 7 0) (xorW .u32 (xorW .u32 (rotrI (s.getD 4 0) 6) (rotrI (s.getD 4 0) 11)) (rotrI (s.getD 4 0) 25))) (xorW .u32 (andW .u32 (s.getD 4 0) (s.getD 5 0)) (andW .u32 (notW .u32 (s.getD 4 0)) (s.getD 6 0)))) k) w
def t2 (s : List Int) : Int := addW .u32 (xorW .u32 (xorW .u32 (rotrI (s.getD 0 0) 2) (rotrI (s.getD 0 0) 13)) (rotrI (s.getD 0 0) 22)) (xorW .u32 (xorW .u32 (andW .u32 (s.getD 0 0) (s.getD 1 0)) (andW .u32 (s.getD 0 0) (s.getD 2 0))) (andW .u32 (s.getD 1 0) (s.getD 2 0)))
def rnd (s : List Int) (k w : Int) : List Int := [addW .u32 (t1 s k w) (t2 s), s.getD 0 0, s.getD 1 0, s.getD 2 0, addW .u32 (s.getD 3 0) (t1 s k w), s.getD 4 0, s.getD 5 0, s.getD 6 0]
def rnds (s : List Int) (ws : List Int) : Nat → List Int
  | 0 => s
  | i + 1 => rnd (rnds s ws i) (Kc.getD i 0) (ws.getD i 0)
theorem rnds_len (s ws : List Int) (h : s.length = 8) : ∀ i, (rnds s ws i).length = 8
  | 0 => h
  | i + 1 => rfl
def addN (s st : List Int) : Nat → List Int
  | 0 => s
  | i + 1 => (addN s st i).set i (addW .u32 ((addN s st i).getD i 0) (st.getD i 0))
theorem addN_len (s st : List Int) (h : s.length = 8) : ∀ i, (addN s st i).length = 8
  | 0 => h
  | i + 1 => by simp [addN, addN_len s st h i]
def addR (x s : List Int) : List Int := [addW .u32 (s.getD 0 0) (x.getD 0 0), addW .u32 (s.getD 1 0) (x.getD 1 0), addW .u32 (s.getD 2 0) (x.getD 2 0), addW .u32 (s.getD 3 0) (x.getD 3 0), addW .u32 (s.getD 4 0) (x.getD 4 0), addW .u32 (s.getD 5 0) (x.getD 5 0), addW .u32 (s.getD 6 0) (x.getD 6 0), addW .u32 (s.getD 7 0) (x.getD 7 0)]
def sched (b : List Int) : List Int := sch2 (sch1 b 64) 48
theorem sched_len (b : List Int) : (sched b).length = 64 := sch2_len _ (sch1_len _ _) _
def schedR (b : List Int) : List Int := sch2 (sch1r b 16) 48
theorem schedR_len (b : List Int) : (schedR b).length = 64 := sch2_len _ (sch1r_len _ _) _
def compressR (s b : List Int) : List Int := addR (rnds s (schedR b) 64) s
def compress (s b : List Int) : List Int := addN (rnds s (sched b) 64) s 8
theorem compress_len (s b : List Int) (h : s.length = 8) : (compress s b).length = 8 := addN_len _ _ (rnds_len s _ h 64) 8
theorem andW_nonneg (a b : Int) : 0 ≤ andW .u64 a b := by
  unfold andW IntKind.wrap
  simp only [IntKind.signed, IntKind.bits]
  exact Int.emod_nonneg _ (by decide)
theorem subW_nonneg (a b : Int) : 0 ≤ subW .u64 a b := by
  unfold subW IntKind.wrap
  simp only [IntKind.signed, IntKind.bits]
  exact Int.emod_nonneg _ (by decide)

def be (n : Nat) (i : Nat) : Int := IntKind.u8.wrap (mulW .u64 8 n / 2 ^ i)
def padZ (n : Nat) : Nat := (64 - (n + 9) % 64) % 64
def padL (n : Nat) : Nat → List Int
  | 0 => 128 :: List.replicate (padZ n) 0
  | j + 1 => padL n j ++ [be n (56 - 8 * j)]
theorem padL_len (n : Nat) : ∀ j, (padL n j).length = padZ n + 1 + j
  | 0 => by simp [padL]
  | j + 1 => by simp [padL, padL_len n j]; omega
theorem padZ_lt (n : Nat) : padZ n < 64 := Nat.mod_lt _ (by decide)
theorem padZ_eq (n : Nat) : (addW .u64 1 (subW .u64 64 (addW .u64 (n : Int) 9 % 64) % 64)).toNat = padZ n + 1 := by
  unfold padZ
  rw [addW_u64, addW_u64, subW_u64]
  omega
/-- The reference's padding: k zeros so far. -/
def refL (k : Nat) : List Int := 128 :: List.replicate k 0
def refR (n : Nat) : Nat → List Int
  | 0 => refL (padZ n)
  | j + 1 => refR n j ++ [be n (8 * (7 - j))]
theorem refR_len (n : Nat) : ∀ j, (refR n j).length = padZ n + 1 + j
  | 0 => by simp [refR, refL]
  | j + 1 => by simp [refR, refR_len n j]; omega
def hashD (l : List Int) : D := .arr 32 .one (u8s l)
def stN (s : List Int) (m : List Int) : Nat → List Int
  | 0 => s
  | k + 1 => compress (stN s m k) ((m.drop (64 * k)).take 64)
theorem stN_len (s m : List Int) (h : s.length = 8) : ∀ k, (stN s m k).length = 8
  | 0 => h
  | k + 1 => compress_len _ _ (stN_len s m h k)
def hbyte (s : List Int) (i : Nat) : Int := IntKind.u8.wrap (s.getD (i / 4) 0 / 2 ^ (24 - 8 * (i % 4)))
def hL (s : List Int) : Nat → List Int
  | 0 => List.replicate 32 0
  | i + 1 => (hL s i).set i (hbyte s i)
theorem hL_len (s : List Int) : ∀ i, (hL s i).length = 32
  | 0 => by simp [hL]
  | i + 1 => by simp [hL, hL_len s i]
def msg (b : List Int) : List Int := b ++ padL b.length 8
theorem msg_len (b : List Int) : (msg b).length % 64 = 0 := by
  simp only [msg, List.length_append, padL_len, padZ]
  omega
theorem msg_le (b : List Int) : (msg b).length ≤ b.length + 72 := by
  simp only [msg, List.length_append, padL_len]
  have := padZ_lt b.length
  omega
theorem sum_ex : ∃ f : List Int → List Int, f = fun b => hL (stN H0 (msg b) ((msg b).length / 64)) 32 := ⟨_, rfl⟩
/-- The digest, not run by itself. -/
noncomputable def sum : List Int → List Int := Classical.choose sum_ex
theorem sum_eq (b : List Int) : sum b = hL (stN H0 (msg b) ((msg b).length / 64)) 32 := by rw [show sum = _ from Classical.choose_spec sum_ex]
theorem sum_len (b : List Int) : (sum b).length = 32 := by rw [sum_eq]; exact hL_len _ _
/-- The reference's. -/
def stR (s : List Int) (m : List Int) : Nat → List Int
  | 0 => s
  | k + 1 => compressR (stR s m k) ((m.drop (64 * k)).take 64)
theorem stR_len (s m : List Int) (h : s.length = 8) : ∀ k, (stR s m k).length = 8
  | 0 => h
  | k + 1 => rfl
def hR (s : List Int) : Nat → List Int
  | 0 => List.replicate 32 0
  | i + 1 => ((((hR s i).set (4 * i) (IntKind.u8.wrap (s.getD i 0 / 2 ^ 24))).set (4 * i + 1) (IntKind.u8.wrap (s.getD i 0 / 2 ^ 16))).set (4 * i + 2) (IntKind.u8.wrap (s.getD i 0 / 2 ^ 8))).set (4 * i + 3) (IntKind.u8.wrap (s.getD i 0))
theorem hR_len (s : List Int) : ∀ i, (hR s i).length = 32
  | 0 => by simp [hR]
  | i + 1 => by simp [hR, hR_len s i]
def msgR (b : List Int) : List Int := b ++ refR b.length 8
theorem msgR_len (b : List Int) : (msgR b).length % 64 = 0 := by
  simp only [msgR, List.length_append, refR_len, padZ]
  omega
theorem msgR_le (b : List Int) : (msgR b).length ≤ b.length + 72 := by
  simp only [msgR, List.length_append, refR_len]
  have := padZ_lt b.length
  omega
theorem sumR_ex : ∃ f : List Int → List Int, f = fun b => hR (stR H0 (msgR b) ((msgR b).length / 64)) 8 := ⟨_, rfl⟩
noncomputable def sumR : List Int → List Int := Classical.choose sumR_ex
theorem sumR_eq (b : List Int) : sumR b = hR (stR H0 (msgR b) ((msgR b).length / 64)) 8 := by rw [show sumR = _ from Classical.choose_spec sumR_ex]
theorem sumR_len (b : List Int) : (sumR b).length = 32 := by rw [sumR_eq]; exact hR_len _ _
def keyPad (key : List Int) : List Int := key ++ List.replicate (64 - key.length) 0
def xorL (k : Int) (l : List Int) : List Int := l.map fun x => xorW .u8 x k
noncomputable def hmac (key b : List Int) : List Int := sum (xorL 92 (keyPad key) ++ sum (xorL 54 (keyPad key) ++ b))
noncomputable def hmacR (key b : List Int) : List Int := sumR (xorL 92 (keyPad key) ++ sumR (xorL 54 (keyPad key) ++ b))
def xorN (k : Int) (l : List Int) (i : Nat) : List Int := (l.take i).map (fun x => xorW .u8 x k) ++ l.drop i
def xorZ (k : Int) (l : List Int) (i : Nat) : List Int := (l.take i).map (fun x => xorW .u8 x k) ++ List.replicate (l.length - i) 0
theorem xorN_len (k : Int) (l : List Int) (i : Nat) : (xorN k l i).length = l.length := by simp [xorN]; omega
theorem xorZ_len (k : Int) (l : List Int) (i : Nat) (h : i ≤ l.length) : (xorZ k l i).length = l.length := by simp [xorZ]; omega
theorem xorN_set (k : Int) (l : List Int) (i : Nat) (h : i < l.length) : (xorN k l i).set i (xorW .u8 (l.getD i 0) k) = xorN k l (i + 1) := by
  unfold xorN
  rw [set_append_right _ _ _ _ (by simp; omega), List.drop_eq_getElem_cons h, List.set_cons_zero, List.take_succ_eq_append_getElem h, List.map_append, List.append_assoc, getD_get _ _ _ h]
  rfl
theorem xorZ_set (k : Int) (l : List Int) (i : Nat) (h : i < l.length) : (xorZ k l i).set i (xorW .u8 (l.getD i 0) k) = xorZ k l (i + 1) := by
  unfold xorZ
  rw [set_append_right _ _ _ _ (by simp; omega), show l.length - i = (l.length - (i + 1)) + 1 by omega, List.replicate_succ, List.set_cons_zero, List.take_succ_eq_append_getElem h, List.map_append, List.append_assoc, getD_get _ _ _ h]
  rfl
theorem xorN_zero (k : Int) (l : List Int) : xorN k l 0 = l := by simp [xorN]
theorem xorZ_zero (k : Int) (l : List Int) : xorZ k l 0 = List.replicate l.length 0 := by simp [xorZ]
theorem xorN_all (k : Int) (l : List Int) (n : Nat) (h : l.length = n) : xorN k l n = xorL k l := by subst h; simp [xorN, xorL]
theorem xorZ_all (k : Int) (l : List Int) (n : Nat) (h : l.length = n) : xorZ k l n = xorL k l := by subst h; simp [xorZ, xorL]
theorem xorL_len (k : Int) (l : List Int) : (xorL k l).length = l.length := by simp [xorL]
theorem keyPad_len (key : List Int) (h : key.length ≤ 64) : (keyPad key).length = 64 := by simp [keyPad]; omega
end Go.Fw
