/-
Products of numbers of 256 bits, plain: word by word. No conditions.
-/
import Derived.Test.YtlcigfcffmfckaaKa
import Derived.KernelRfl
namespace Go.Fw
set_option linter.unusedVariables false
set_option linter.unusedSimpArgs false
set_option maxRecDepth 10000
set_option maxHeartbeats 1000000
/-- A fact kept away from the steps. -/
structure Kept (p : Prop) : Prop where
  h : p
theorem mul_fin0 {y0 y1 y2 y3 l00 l01 l02 l03 h03 l10 l11 l12 l13 h13 l20 l21 l22 l23 h23 l30 l31 l32 l33 h33 : Nat}
    (r0 : l00 + l01 * 18446744073709551616 + l02 * 340282366920938463463374607431768211456 + l03 * 6277101735386680763835789423207666416102355444464034512896 + h03 * 115792089237316195423570985008687907853269984665640564039457584007913129639936 = y0 + (0 + 0 * 18446744073709551616 + 0 * 340282366920938463463374607431768211456 + 0 * 6277101735386680763835789423207666416102355444464034512896))
    (r1 : l10 + l11 * 18446744073709551616 + l12 * 340282366920938463463374607431768211456 + l13 * 6277101735386680763835789423207666416102355444464034512896 + h13 * 115792089237316195423570985008687907853269984665640564039457584007913129639936 = y1 + (l01 + l02 * 18446744073709551616 + l03 * 340282366920938463463374607431768211456 + h03 * 6277101735386680763835789423207666416102355444464034512896))
    (r2 : l20 + l21 * 18446744073709551616 + l22 * 340282366920938463463374607431768211456 + l23 * 6277101735386680763835789423207666416102355444464034512896 + h23 * 115792089237316195423570985008687907853269984665640564039457584007913129639936 = y2 + (l11 + l12 * 18446744073709551616 + l13 * 340282366920938463463374607431768211456 + h13 * 6277101735386680763835789423207666416102355444464034512896))
    (r3 : l30 + l31 * 18446744073709551616 + l32 * 340282366920938463463374607431768211456 + l33 * 6277101735386680763835789423207666416102355444464034512896 + h33 * 115792089237316195423570985008687907853269984665640564039457584007913129639936 = y3 + (l21 + l22 * 18446744073709551616 + l23 * 340282366920938463463374607431768211456 + h23 * 6277101735386680763835789423207666416102355444464034512896))
    : y0 + y1 * 18446744073709551616 + y2 * 340282366920938463463374607431768211456 + y3 * 6277101735386680763835789423207666416102355444464034512896 = (l00 + l10 * 18446744073709551616 + l20 * 340282366920938463463374607431768211456 + l30 * 6277101735386680763835789423207666416102355444464034512896) + (l31 + l32 * 18446744073709551616 + l33 * 340282366920938463463374607431768211456 + h33 * 6277101735386680763835789423207666416102355444464034512896) * 115792089237316195423570985008687907853269984665640564039457584007913129639936 := by omega
theorem mul_fin1 {z l00 l10 l20 l30 : Nat} (b0 : l00 < 18446744073709551616) (b1 : l10 < 18446744073709551616) (b2 : l20 < 18446744073709551616) (b3 : l30 < 18446744073709551616) :
    (l00 + l10 * 18446744073709551616 + l20 * 340282366920938463463374607431768211456 + l30 * 6277101735386680763835789423207666416102355444464034512896 + z * 115792089237316195423570985008687907853269984665640564039457584007913129639936) / 115792089237316195423570985008687907853269984665640564039457584007913129639936 = z ∧ (l00 + l10 * 18446744073709551616 + l20 * 340282366920938463463374607431768211456 + l30 * 6277101735386680763835789423207666416102355444464034512896 + z * 115792089237316195423570985008687907853269984665640564039457584007913129639936) % 115792089237316195423570985008687907853269984665640564039457584007913129639936 = l00 + l10 * 18446744073709551616 + l20 * 340282366920938463463374607431768211456 + l30 * 6277101735386680763835789423207666416102355444464034512896 := by omega
theorem mul_final {a b a0 a1 a2 a3 l00 l01 l02 l03 h03 l10 l11 l12 l13 h13 l20 l21 l22 l23 h23 l30 l31 l32 l33 h33 : Nat} (ea : a = a0 + a1 * 18446744073709551616 + a2 * 340282366920938463463374607431768211456 + a3 * 6277101735386680763835789423207666416102355444464034512896)
    (r0 : l00 + l01 * 18446744073709551616 + l02 * 340282366920938463463374607431768211456 + l03 * 6277101735386680763835789423207666416102355444464034512896 + h03 * 115792089237316195423570985008687907853269984665640564039457584007913129639936 = a0 * b + (0 + 0 * 18446744073709551616 + 0 * 340282366920938463463374607431768211456 + 0 * 6277101735386680763835789423207666416102355444464034512896))
    (r1 : l10 + l11 * 18446744073709551616 + l12 * 340282366920938463463374607431768211456 + l13 * 6277101735386680763835789423207666416102355444464034512896 + h13 * 115792089237316195423570985008687907853269984665640564039457584007913129639936 = a1 * b + (l01 + l02 * 18446744073709551616 + l03 * 340282366920938463463374607431768211456 + h03 * 6277101735386680763835789423207666416102355444464034512896))
    (r2 : l20 + l21 * 18446744073709551616 + l22 * 340282366920938463463374607431768211456 + l23 * 6277101735386680763835789423207666416102355444464034512896 + h23 * 115792089237316195423570985008687907853269984665640564039457584007913129639936 = a2 * b + (l11 + l12 * 18446744073709551616 + l13 * 340282366920938463463374607431768211456 + h13 * 6277101735386680763835789423207666416102355444464034512896))
    (r3 : l30 + l31 * 18446744073709551616 + l32 * 340282366920938463463374607431768211456 + l33 * 6277101735386680763835789423207666416102355444464034512896 + h33 * 115792089237316195423570985008687907853269984665640564039457584007913129639936 = a3 * b + (l21 + l22 * 18446744073709551616 + l23 * 340282366920938463463374607431768211456 + h23 * 6277101735386680763835789423207666416102355444464034512896))
    (b0 : l00 < 18446744073709551616) (b1 : l10 < 18446744073709551616) (b2 : l20 < 18446744073709551616) (b3 : l30 < 18446744073709551616) :
    a * b / 115792089237316195423570985008687907853269984665640564039457584007913129639936 = l31 + l32 * 18446744073709551616 + l33 * 340282366920938463463374607431768211456 + h33 * 6277101735386680763835789423207666416102355444464034512896 ∧ a * b % 115792089237316195423570985008687907853269984665640564039457584007913129639936 = l00 + l10 * 18446744073709551616 + l20 * 340282366920938463463374607431768211456 + l30 * 6277101735386680763835789423207666416102355444464034512896 := by
  have e : a * b = a0 * b + a1 * b * 18446744073709551616 + a2 * b * 340282366920938463463374607431768211456 + a3 * b * 6277101735386680763835789423207666416102355444464034512896 := by
    rw [ea, Nat.add_mul, Nat.add_mul, Nat.add_mul, Nat.mul_right_comm, Nat.mul_right_comm a2, Nat.mul_right_comm a3]
  rw [e, mul_fin0 r0 r1 r2 r3]
  exact mul_fin1 b0 b1 b2 b3
theorem mac1' {z p c s1 s2 r A B C : Nat} (e1 : s1 + B = r + p + 0) (e2 : s2 + C = s1 + c + 0) (hq : A + r = z) : s2 + (A + B + C) = z + p + c := by omega
theorem mac1 {z p c s1 c1 s2 c2 q r w : Nat} (e1 : s1 + c1 * w = r + p + 0) (e2 : s2 + c2 * w = s1 + c + 0) (hq : q * w + r = z) : s2 + (q + c1 + c2) * w = z + p + c := by
  rw [Nat.add_mul, Nat.add_mul]
  exact mac1' e1 e2 hq
theorem mac2' {z p c s2 t : Nat} (h1 : s2 + t * 18446744073709551616 = z + p + c) (hz : z + p + c < 340282366920938463463374607431768211456) : t < 18446744073709551616 := by omega
theorem mac3' {q c1 c2 : Nat} (h : q + c1 + c2 < 18446744073709551616) : addW .u64 (addW .u64 (q : Int) (c1 : Int)) (c2 : Int) = ((q + c1 + c2 : Nat) : Int) := by
  rw [addW_u64, addW_u64]; omega
theorem mac0 {z p c s1 c1 s2 c2 : Nat} (e1 : s1 + c1 * 18446744073709551616 = z % 18446744073709551616 + p + 0) (e2 : s2 + c2 * 18446744073709551616 = s1 + c + 0) (l2 : s2 < 18446744073709551616) (hz : z + p + c < 340282366920938463463374607431768211456) :
    addW .u64 (addW .u64 ((z / 18446744073709551616 : Nat) : Int) (c1 : Int)) (c2 : Int) = ((z / 18446744073709551616 + c1 + c2 : Nat) : Int) ∧ Kept (s2 + (z / 18446744073709551616 + c1 + c2) * 18446744073709551616 = z + p + c) ∧ s2 < 18446744073709551616 ∧ z / 18446744073709551616 + c1 + c2 < 18446744073709551616 :=
  have h1 := mac1 e1 e2 (show z / 18446744073709551616 * 18446744073709551616 + z % 18446744073709551616 = z by omega)
  have h2 := mac2' h1 hz
  ⟨mac3' h2, ⟨h1⟩, l2, h2⟩
theorem mac {x y p c : Nat} (hx : x < 18446744073709551616) (hy : y < 18446744073709551616) (hp : p < 18446744073709551616) (hc : c < 18446744073709551616) :
    ∃ L H : Nat, sm (sm (x * y % 18446744073709551616) p 0) c 0 = L ∧ addW .u64 (addW .u64 ((x * y / 18446744073709551616 : Nat) : Int) ((cr (x * y % 18446744073709551616) p 0 : Nat) : Int)) ((cr (sm (x * y % 18446744073709551616) p 0) c 0 : Nat) : Int) = (H : Nat) ∧ Kept (L + H * 18446744073709551616 = x * y + p + c) ∧ L < 18446744073709551616 ∧ H < 18446744073709551616 :=
  ⟨_, _, Eq.refl (sm (sm (x * y % 18446744073709551616) p 0) c 0), mac0 (sm_eq (x * y % 18446744073709551616) p 0) (sm_eq (sm (x * y % 18446744073709551616) p 0) c 0) (sm_lt (sm (x * y % 18446744073709551616) p 0) c 0) (mac_lt hx hy hp hc)⟩


/-- The low and the high word of a product with two words added. -/
def macl (x y p c : Nat) : Nat := sm (sm (x * y % 18446744073709551616) p 0) c 0
def mach (x y p c : Nat) : Nat := x * y / 18446744073709551616 + cr (x * y % 18446744073709551616) p 0 + cr (sm (x * y % 18446744073709551616) p 0) c 0
theorem mac_all {x y p c : Nat} (hx : x < 18446744073709551616) (hy : y < 18446744073709551616) (hp : p < 18446744073709551616) (hc : c < 18446744073709551616) :
    addW .u64 (addW .u64 ((x * y / 18446744073709551616 : Nat) : Int) ((cr (x * y % 18446744073709551616) p 0 : Nat) : Int)) ((cr (sm (x * y % 18446744073709551616) p 0) c 0 : Nat) : Int) = (mach x y p c : Nat) ∧ macl x y p c + mach x y p c * 18446744073709551616 = x * y + p + c ∧ macl x y p c < 18446744073709551616 ∧ mach x y p c < 18446744073709551616 := by
  obtain ⟨h1, ⟨h2⟩, h3, h4⟩ := mac0 (sm_eq (x * y % 18446744073709551616) p 0) (sm_eq (sm (x * y % 18446744073709551616) p 0) c 0) (sm_lt (sm (x * y % 18446744073709551616) p 0) c 0) (mac_lt hx hy hp hc)
  exact ⟨h1, h2, h3, h4⟩
/-- A row: j words done. -/
def inN (x b i : Nat) (ps : List Nat) : Nat → List Nat × Nat
  | 0 => (ps, 0)
  | j + 1 => ((inN x b i ps j).1.set (i + j) (macl x (wd b j) ((inN x b i ps j).1.getD (i + j) default) (inN x b i ps j).2), mach x (wd b j) ((inN x b i ps j).1.getD (i + j) default) (inN x b i ps j).2)
/-- i rows done. -/
def outN (a b : Nat) : Nat → List Nat
  | 0 => [0, 0, 0, 0, 0, 0, 0, 0]
  | i + 1 => (inN (wd a i) b i (outN a b i) 4).1.set (i + 4) (inN (wd a i) b i (outN a b i) 4).2
def Words (ps : List Nat) : Prop := ps.length = 8 ∧ ∀ v ∈ ps, v < 18446744073709551616
theorem Words.get {ps : List Nat} (h : Words ps) (k : Nat) : ps.getD k default < 18446744073709551616 := by
  by_cases hk : k < ps.length
  · rw [List.getD_eq_getElem?_getD, List.getElem?_eq_getElem hk]
    exact h.2 _ (List.getElem_mem hk)
  · rw [List.getD_eq_getElem?_getD, List.getElem?_eq_none (by omega)]
    decide
theorem Words.set {ps : List Nat} (h : Words ps) (k v : Nat) (hv : v < 18446744073709551616) : Words (ps.set k v) := by
  refine ⟨by rw [List.length_set]; exact h.1, fun x hx => ?_⟩
  rcases List.mem_or_eq_of_mem_set hx with hx | rfl
  · exact h.2 x hx
  · exact hv
theorem inN_ok {x b i : Nat} {ps : List Nat} (hx : x < 18446744073709551616) (h : Words ps) : ∀ j, Words (inN x b i ps j).1 ∧ (inN x b i ps j).2 < 18446744073709551616
  | 0 => ⟨h, show (0 : Nat) < 18446744073709551616 by decide⟩
  | j + 1 => by
    obtain ⟨h1, h2⟩ := inN_ok (b := b) (i := i) hx h j
    obtain ⟨_, _, h3, h4⟩ := mac_all hx (wd_lt b j) (h1.get (i + j)) h2
    exact ⟨h1.set _ _ h3, h4⟩
theorem outN_ok (a b : Nat) : ∀ i, Words (outN a b i)
  | 0 => ⟨rfl, by unfold outN; intro v hv; simp at hv; omega⟩
  | i + 1 => by
    obtain ⟨h1, h2⟩ := inN_ok (b := b) (i := i) (wd_lt a i) (outN_ok a b i) 4
    exact h1.set _ _ h2
theorem inN_four (x b i : Nat) (ps : List Nat) (l0 l1 l2 l3 h0 h1 h2 h3 : Nat)
    (e0 : l0 = macl x (wd b 0) (ps.getD (i + 0) default) 0) (f0 : h0 = mach x (wd b 0) (ps.getD (i + 0) default) 0)
    (e1 : l1 = macl x (wd b 1) ((ps.set (i + 0) l0).getD (i + 1) default) h0) (f1 : h1 = mach x (wd b 1) ((ps.set (i + 0) l0).getD (i + 1) default) h0)
    (e2 : l2 = macl x (wd b 2) (((ps.set (i + 0) l0).set (i + 1) l1).getD (i + 2) default) h1) (f2 : h2 = mach x (wd b 2) (((ps.set (i + 0) l0).set (i + 1) l1).getD (i + 2) default) h1)
    (e3 : l3 = macl x (wd b 3) ((((ps.set (i + 0) l0).set (i + 1) l1).set (i + 2) l2).getD (i + 3) default) h2) (f3 : h3 = mach x (wd b 3) ((((ps.set (i + 0) l0).set (i + 1) l1).set (i + 2) l2).getD (i + 3) default) h2) :
    inN x b i ps 4 = ((((ps.set (i + 0) l0).set (i + 1) l1).set (i + 2) l2).set (i + 3) l3, h3) := by
  have s1 : inN x b i ps 1 = (ps.set (i + 0) l0, h0) := by rw [e0, f0]; rfl
  have s2 : inN x b i ps 2 = ((ps.set (i + 0) l0).set (i + 1) l1, h1) := by rw [e1, f1]; unfold inN; rw [s1]
  have s3 : inN x b i ps 3 = (((ps.set (i + 0) l0).set (i + 1) l1).set (i + 2) l2, h2) := by rw [e2, f2]; unfold inN; rw [s2]
  rw [e3, f3]; unfold inN; rw [s3]
theorem outN_four {a b : Nat} (ha : a < 115792089237316195423570985008687907853269984665640564039457584007913129639936) (hb : b < 115792089237316195423570985008687907853269984665640564039457584007913129639936) : ∃ l0 l1 l2 l3 l4 l5 l6 l7 : Nat, outN a b 4 = [l0, l1, l2, l3, l4, l5, l6, l7] ∧ l0 < 18446744073709551616 ∧ l1 < 18446744073709551616 ∧ l2 < 18446744073709551616 ∧ l3 < 18446744073709551616 ∧ l4 < 18446744073709551616 ∧ l5 < 18446744073709551616 ∧ l6 < 18446744073709551616 ∧ l7 < 18446744073709551616 ∧ a * b / 115792089237316195423570985008687907853269984665640564039457584007913129639936 = l4 + l5 * 18446744073709551616 + l6 * 340282366920938463463374607431768211456 + l7 * 6277101735386680763835789423207666416102355444464034512896 ∧ a * b % 115792089237316195423570985008687907853269984665640564039457584007913129639936 = l0 + l1 * 18446744073709551616 + l2 * 340282366920938463463374607431768211456 + l3 * 6277101735386680763835789423207666416102355444464034512896 := by
  have eb := wd_sum hb
  have ea := wd_sum ha
  obtain ⟨l00, u00⟩ : ∃ l, l = macl (wd a 0) (wd b 0) 0 0 := ⟨_, rfl⟩
  obtain ⟨h00, v00⟩ : ∃ l, l = mach (wd a 0) (wd b 0) 0 0 := ⟨_, rfl⟩
  obtain ⟨_, e00, bl00, bh00⟩ := mac_all (wd_lt a 0) (wd_lt b 0) (show 0 < 18446744073709551616 from (by decide)) (show 0 < 18446744073709551616 from (by decide))
  rw [← u00, ← v00] at e00
  rw [← u00] at bl00
  rw [← v00] at bh00
  obtain ⟨l01, u01⟩ : ∃ l, l = macl (wd a 0) (wd b 1) 0 h00 := ⟨_, rfl⟩
  obtain ⟨h01, v01⟩ : ∃ l, l = mach (wd a 0) (wd b 1) 0 h00 := ⟨_, rfl⟩
  obtain ⟨_, e01, bl01, bh01⟩ := mac_all (wd_lt a 0) (wd_lt b 1) (show 0 < 18446744073709551616 from (by decide)) (show h00 < 18446744073709551616 from bh00)
  rw [← u01, ← v01] at e01
  rw [← u01] at bl01
  rw [← v01] at bh01
  obtain ⟨l02, u02⟩ : ∃ l, l = macl (wd a 0) (wd b 2) 0 h01 := ⟨_, rfl⟩
  obtain ⟨h02, v02⟩ : ∃ l, l = mach (wd a 0) (wd b 2) 0 h01 := ⟨_, rfl⟩
  obtain ⟨_, e02, bl02, bh02⟩ := mac_all (wd_lt a 0) (wd_lt b 2) (show 0 < 18446744073709551616 from (by decide)) (show h01 < 18446744073709551616 from bh01)
  rw [← u02, ← v02] at e02
  rw [← u02] at bl02
  rw [← v02] at bh02
  obtain ⟨l03, u03⟩ : ∃ l, l = macl (wd a 0) (wd b 3) 0 h02 := ⟨_, rfl⟩
  obtain ⟨h03, v03⟩ : ∃ l, l = mach (wd a 0) (wd b 3) 0 h02 := ⟨_, rfl⟩
  obtain ⟨_, e03, bl03, bh03⟩ := mac_all (wd_lt a 0) (wd_lt b 3) (show 0 < 18446744073709551616 from (by decide)) (show h02 < 18446744073709551616 from bh02)
  rw [← u03, ← v03] at e03
  rw [← u03] at bl03
  rw [← v03] at bh03
  have s1 : outN a b 1 = [l00, l01, l02, l03, h03, 0, 0, 0] := by
    have q := inN_four (wd a 0) b 0 [0, 0, 0, 0, 0, 0, 0, 0] l00 l01 l02 l03 h00 h01 h02 h03 u00 v00 u01 v01 u02 v02 u03 v03
    show (inN (wd a 0) b 0 (outN a b 0) 4).1.set (0 + 4) (inN (wd a 0) b 0 (outN a b 0) 4).2 = _
    rw [show outN a b 0 = [0, 0, 0, 0, 0, 0, 0, 0] from rfl, q]
    rfl
  obtain ⟨l10, u10⟩ : ∃ l, l = macl (wd a 1) (wd b 0) l01 0 := ⟨_, rfl⟩
  obtain ⟨h10, v10⟩ : ∃ l, l = mach (wd a 1) (wd b 0) l01 0 := ⟨_, rfl⟩
  obtain ⟨_, e10, bl10, bh10⟩ := mac_all (wd_lt a 1) (wd_lt b 0) (show l01 < 18446744073709551616 from bl01) (show 0 < 18446744073709551616 from (by decide))
  rw [← u10, ← v10] at e10
  rw [← u10] at bl10
  rw [← v10] at bh10
  obtain ⟨l11, u11⟩ : ∃ l, l = macl (wd a 1) (wd b 1) l02 h10 := ⟨_, rfl⟩
  obtain ⟨h11, v11⟩ : ∃ l, l = mach (wd a 1) (wd b 1) l02 h10 := ⟨_, rfl⟩
  obtain ⟨_, e11, bl11, bh11⟩ := mac_all (wd_lt a 1) (wd_lt b 1) (show l02 < 18446744073709551616 from bl02) (show h10 < 18446744073709551616 from bh10)
  rw [← u11, ← v11] at e11
  rw [← u11] at bl11
  rw [← v11] at bh11
  obtain ⟨l12, u12⟩ : ∃ l, l = macl (wd a 1) (wd b 2) l03 h11 := ⟨_, rfl⟩
  obtain ⟨h12, v12⟩ : ∃ l, l = mach (wd a 1) (wd b 2) l03 h11 := ⟨_, rfl⟩
  obtain ⟨_, e12, bl12, bh12⟩ := mac_all (wd_lt a 1) (wd_lt b 2) (show l03 < 18446744073709551616 from bl03) (show h11 < 18446744073709551616 from bh11)
  rw [← u12, ← v12] at e12
  rw [← u12] at bl12
  rw [← v12] at bh12
  obtain ⟨l13, u13⟩ : ∃ l, l = macl (wd a 1) (wd b 3) h03 h12 := ⟨_, rfl⟩
  obtain ⟨h13, v13⟩ : ∃ l, l = mach (wd a 1) (wd b 3) h03 h12 := ⟨_, rfl⟩
  obtain ⟨_, e13, bl13, bh13⟩ := mac_all (wd_lt a 1) (wd_lt b 3) (show h03 < 18446744073709551616 from bh03) (show h12 < 18446744073709551616 from bh12)
  rw [← u13, ← v13] at e13
  rw [← u13] at bl13
  rw [← v13] at bh13
  have s2 : outN a b 2 = [l00, l10, l11, l12, l13, h13, 0, 0] := by
    have q := inN_four (wd a 1) b 1 [l00, l01, l02, l03, h03, 0, 0, 0] l10 l11 l12 l13 h10 h11 h12 h13 u10 v10 u11 v11 u12 v12 u13 v13
    show (inN (wd a 1) b 1 (outN a b 1) 4).1.set (1 + 4) (inN (wd a 1) b 1 (outN a b 1) 4).2 = _
    rw [show outN a b 1 = [l00, l01, l02, l03, h03, 0, 0, 0] from s1, q]
    rfl
  obtain ⟨l20, u20⟩ : ∃ l, l = macl (wd a 2) (wd b 0) l11 0 := ⟨_, rfl⟩
  obtain ⟨h20, v20⟩ : ∃ l, l = mach (wd a 2) (wd b 0) l11 0 := ⟨_, rfl⟩
  obtain ⟨_, e20, bl20, bh20⟩ := mac_all (wd_lt a 2) (wd_lt b 0) (show l11 < 18446744073709551616 from bl11) (show 0 < 18446744073709551616 from (by decide))
  rw [← u20, ← v20] at e20
  rw [← u20] at bl20
  rw [← v20] at bh20
  obtain ⟨l21, u21⟩ : ∃ l, l = macl (wd a 2) (wd b 1) l12 h20 := ⟨_, rfl⟩
  obtain ⟨h21, v21⟩ : ∃ l, l = mach (wd a 2) (wd b 1) l12 h20 := ⟨_, rfl⟩
  obtain ⟨_, e21, bl21, bh21⟩ := mac_all (wd_lt a 2) (wd_lt b 1) (show l12 < 18446744073709551616 from bl12) (show h20 < 18446744073709551616 from bh20)
  rw [← u21, ← v21] at e21
  rw [← u21] at bl21
  rw [← v21] at bh21
  obtain ⟨l22, u22⟩ : ∃ l, l = macl (wd a 2) (wd b 2) l13 h21 := ⟨_, rfl⟩
  obtain ⟨h22, v22⟩ : ∃ l, l = mach (wd a 2) (wd b 2) l13 h21 := ⟨_, rfl⟩
  obtain ⟨_, e22, bl22, bh22⟩ := mac_all (wd_lt a 2) (wd_lt b 2) (show l13 < 18446744073709551616 from bl13) (show h21 < 18446744073709551616 from bh21)
  rw [← u22, ← v22] at e22
  rw [← u22] at bl22
  rw [← v22] at bh22
  obtain ⟨l23, u23⟩ : ∃ l, l = macl (wd a 2) (wd b 3) h13 h22 := ⟨_, rfl⟩
  obtain ⟨h23, v23⟩ : ∃ l, l = mach (wd a 2) (wd b 3) h13 h22 := ⟨_, rfl⟩
  obtain ⟨_, e23, bl23, bh23⟩ := mac_all (wd_lt a 2) (wd_lt b 3) (show h13 < 18446744073709551616 from bh13) (show h22 < 18446744073709551616 from bh22)
  rw [← u23, ← v23] at e23
  rw [← u23] at bl23
  rw [← v23] at bh23
  have s3 : outN a b 3 = [l00, l10, l20, l21, l22, l23, h23, 0] := by
    have q := inN_four (wd a 2) b 2 [l00, l10, l11, l12, l13, h13, 0, 0] l20 l21 l22 l23 h20 h21 h22 h23 u20 v20 u21 v21 u22 v22 u23 v23
    show (inN (wd a 2) b 2 (outN a b 2) 4).1.set (2 + 4) (inN (wd a 2) b 2 (outN a b 2) 4).2 = _
    rw [show outN a b 2 = [l00, l10, l11, l12, l13, h13, 0, 0] from s2, q]
    rfl
  obtain ⟨l30, u30⟩ : ∃ l, l = macl (wd a 3) (wd b 0) l21 0 := ⟨_, rfl⟩
  obtain ⟨h30, v30⟩ : ∃ l, l = mach (wd a 3) (wd b 0) l21 0 := ⟨_, rfl⟩
  obtain ⟨_, e30, bl30, bh30⟩ := mac_all (wd_lt a 3) (wd_lt b 0) (show l21 < 18446744073709551616 from bl21) (show 0 < 18446744073709551616 from (by decide))
  rw [← u30, ← v30] at e30
  rw [← u30] at bl30
  rw [← v30] at bh30
  obtain ⟨l31, u31⟩ : ∃ l, l = macl (wd a 3) (wd b 1) l22 h30 := ⟨_, rfl⟩
  obtain ⟨h31, v31⟩ : ∃ l, l = mach (wd a 3) (wd b 1) l22 h30 := ⟨_, rfl⟩
  obtain ⟨_, e31, bl31, bh31⟩ := mac_all (wd_lt a 3) (wd_lt b 1) (show l22 < 18446744073709551616 from bl22) (show h30 < 18446744073709551616 from bh30)
  rw [← u31, ← v31] at e31
  rw [← u31] at bl31
  rw [← v31] at bh31
  obtain ⟨l32, u32⟩ : ∃ l, l = macl (wd a 3) (wd b 2) l23 h31 := ⟨_, rfl⟩
  obtain ⟨h32, v32⟩ : ∃ l, l = mach (wd a 3) (wd b 2) l23 h31 := ⟨_, rfl⟩
  obtain ⟨_, e32, bl32, bh32⟩ := mac_all (wd_lt a 3) (wd_lt b 2) (show l23 < 18446744073709551616 from bl23) (show h31 < 18446744073709551616 from bh31)
  rw [← u32, ← v32] at e32
  rw [← u32] at bl32
  rw [← v32] at bh32
  obtain ⟨l33, u33⟩ : ∃ l, l = macl (wd a 3) (wd b 3) h23 h32 := ⟨_, rfl⟩
  obtain ⟨h33, v33⟩ : ∃ l, l = mach (wd a 3) (wd b 3) h23 h32 := ⟨_, rfl⟩
  obtain ⟨_, e33, bl33, bh33⟩ := mac_all (wd_lt a 3) (wd_lt b 3) (show h23 < 18446744073709551616 from bh23) (show h32 < 18446744073709551616 from bh32)
  rw [← u33, ← v33] at e33
  rw [← u33] at bl33
  rw [← v33] at bh33
  have s4 : outN a b 4 = [l00, l10, l20, l30, l31, l32, l33, h33] := by
    have q := inN_four (wd a 3) b 3 [l00, l10, l20, l21, l22, l23, h23, 0] l30 l31 l32 l33 h30 h31 h32 h33 u30 v30 u31 v31 u32 v32 u33 v33
    show (inN (wd a 3) b 3 (outN a b 3) 4).1.set (3 + 4) (inN (wd a 3) b 3 (outN a b 3) 4).2 = _
    rw [show outN a b 3 = [l00, l10, l20, l21, l22, l23, h23, 0] from s3, q]
    rfl
  have r0 := mul_row (a := wd a 0) (b0 := wd b 0) (b1 := wd b 1) (b2 := wd b 2) (b3 := wd b 3) (p0 := 0) (p1 := 0) (p2 := 0) (p3 := 0) e00 e01 e02 e03
  rw [← eb] at r0
  have r1 := mul_row (a := wd a 1) (b0 := wd b 0) (b1 := wd b 1) (b2 := wd b 2) (b3 := wd b 3) (p0 := l01) (p1 := l02) (p2 := l03) (p3 := h03) e10 e11 e12 e13
  rw [← eb] at r1
  have r2 := mul_row (a := wd a 2) (b0 := wd b 0) (b1 := wd b 1) (b2 := wd b 2) (b3 := wd b 3) (p0 := l11) (p1 := l12) (p2 := l13) (p3 := h13) e20 e21 e22 e23
  rw [← eb] at r2
  have r3 := mul_row (a := wd a 3) (b0 := wd b 0) (b1 := wd b 1) (b2 := wd b 2) (b3 := wd b 3) (p0 := l21) (p1 := l22) (p2 := l23) (p3 := h23) e30 e31 e32 e33
  rw [← eb] at r3
  obtain ⟨q1, q2⟩ := mul_final ea r0 r1 r2 r3 bl00 bl10 bl20 bl30
  exact ⟨l00, l10, l20, l30, l31, l32, l33, h33, s4, bl00, bl10, bl20, bl30, bl31, bl32, bl33, bh33, q1, q2⟩
end Go.Fw

/-
Contract of the program's product. No conditions.
-/
namespace Go.Fw
set_option linter.unusedVariables false
set_option linter.unusedSimpArgs false
open Go.Proofs
set_option maxRecDepth 10000
set_option maxHeartbeats 2000000
theorem rer_add0 (l p : Nat) : Returns cx n_bits_Add64 [n64 p, n64 l, n64 0] (.tup [n64 (sm l p 0), n64 (cr l p 0)]) := by
  have h := ret_Add64' p l 0 (by omega)
  rw [show sm p l 0 = sm l p 0 by unfold sm; rw [Nat.add_comm p l], show cr p l 0 = cr l p 0 by unfold cr; rw [Nat.add_comm p l]] at h
  exact h
theorem wordsD_set {ps : List Nat} {n v : Nat} {i m : Nat} (hn : n = i) : D.arr m .one ((ps.map n64).set n (.int .u64 v)) = .arr m .one ((ps.set i v).map n64) := by
  subst hn
  rw [List.map_set]
  rfl
theorem ret_MulU (a b : Nat) (ha : a < 115792089237316195423570985008687907853269984665640564039457584007913129639936) (hb : b < 115792089237316195423570985008687907853269984665640564039457584007913129639936) : Returns cx n_wide_Mul [U a, U b] (.tup [U (a * b / 115792089237316195423570985008687907853269984665640564039457584007913129639936), U (a * b % 115792089237316195423570985008687907853269984665640564039457584007913129639936)]) := by
  obtain ⟨l0, l1, l2, l3, l4, l5, l6, l7, ho, g0, g1, g2, g3, g4, g5, g6, g7, q1, q2⟩ := outN_four ha hb
  rw [q1, q2, ← u4_U g0 g1 g2 g3, ← u4_U g4 g5 g6 g7]
  clear q1 q2
  (refine of_W2 (fn := f_wide_Mul) {} (by kernel_rfl) (by kernel_rfl) (by kernel_rfl) (by kernel_rfl) (by kernel_rfl) ?_)
  ((try (conv => whnf)); (repeat ((first | (refine br_true ?_ ?_; (focus (exact yesA))) | (refine br_false ?_ ?_; (focus (exact noA))) | (refine onS_map ?_ ?_; (focus (exact numA))) | (refine onS_intro (eqTC_ints rfl rfl rfl rfl ?_) ?_; (focus (exact numA))) | refine onS_intro (mapB_u8s _) ?_ | (refine And.intro ?_ ?_; (focus (exact flatA)))); (try (conv => whnf)))))
  refine LoopW2_rule (fun i : Nat => [(3, .ptr 1 0 [] (.arr 4 .one)), (4, .ptr 2 0 [] (.arr 4 .one)), (5, .ptr 3 0 [] (.arr 4 .one)), (6, .ptr 4 0 [] (.arr 8 .one)), (15, .d (U a)), (16, .d (.int .i64 (i : Nat)))])
    (fun i => [none, some (.fix (.d (U b))), some (.fix (.d (U 0))), some (.fix (.d (U 0))), some (.fix (.d (.arr 8 .one ((outN a b i).map n64))))]) (fun i => i ≤ 4) (fun i => 4 - i) _ rfl 0 (Wk.go ?_ rfl ?_ rfl) (by omega) ?_
  rotate_left 2
  · rintro i K hi hK
    simp only at hi hK ⊢
    by_cases h4 : i = 4
    · subst h4
      rw [ho]
      ((try (conv => whnf)); (repeat ((first | (refine br_true ?_ ?_; (focus (exact yesA))) | (refine br_false ?_ ?_; (focus (exact noA))) | (refine onS_map ?_ ?_; (focus (exact numA))) | (refine onS_intro (eqTC_ints rfl rfl rfl rfl ?_) ?_; (focus (exact numA))) | refine onS_intro (mapB_u8s _) ?_ | (refine And.intro ?_ ?_; (focus (exact flatA)))); (try (conv => whnf)))))
      refine le_same ?_
      kernel_rfl
    have hx : wd a i < 18446744073709551616 := wd_lt a i
    have hw := outN_ok a b i
    have hin := fun j => inN_ok (b := b) (i := i) (ps := outN a b i) hx hw j
    ((try (conv => whnf)); (repeat ((first | (refine br_true ?_ ?_; (focus (exact yesA))) | (refine br_false ?_ ?_; (focus (exact noA))) | (refine onS_map ?_ ?_; (focus (exact numA))) | (refine onS_intro (eqTC_ints rfl rfl rfl rfl ?_) ?_; (focus (exact numA))) | refine onS_intro (mapB_u8s _) ?_ | (refine And.intro ?_ ?_; (focus (exact flatA)))); (try (conv => whnf)))))
    refine onS_parts (by omega) ?_
    rw [Int.toNat_natCast]
    ((try (conv => whnf)); (repeat ((first | (refine br_true ?_ ?_; (focus (exact yesA))) | (refine br_false ?_ ?_; (focus (exact noA))) | (refine onS_map ?_ ?_; (focus (exact numA))) | (refine onS_intro (eqTC_ints rfl rfl rfl rfl ?_) ?_; (focus (exact numA))) | refine onS_intro (mapB_u8s _) ?_ | (refine And.intro ?_ ?_; (focus (exact flatA)))); (try (conv => whnf)))))
    refine LoopW2_rule (fun j : Nat => [(3, .ptr 1 0 [] (.arr 4 .one)), (4, .ptr 2 0 [] (.arr 4 .one)), (5, .ptr 3 0 [] (.arr 4 .one)), (6, .ptr 4 0 [] (.arr 8 .one)), (7, .d (.int .i64 (i : Nat))), (8, .d (n64 (wd a i))), (9, .d (n64 (inN (wd a i) b i (outN a b i) j).2)), (15, .d (U a)), (16, .d (.int .i64 (i : Nat))), (20, .d (U b)), (21, .d (.int .i64 (j : Nat)))])
      (fun j => [none, some (.fix (.d (U b))), some (.fix (.d (U 0))), some (.fix (.d (U 0))), some (.fix (.d (.arr 8 .one ((inN (wd a i) b i (outN a b i) j).1.map n64))))]) (fun j => j ≤ 4) (fun j => 4 - j) _ rfl 0 (Wk.go ?_ rfl ?_ rfl) (by omega) ?_
    rotate_left 2
    · rintro j K' hj hK'
      try simp only at hj hK' ⊢
      obtain ⟨⟨hl, _⟩, hc⟩ := hin j
      by_cases hj4 : j = 4
      · subst hj4
        ((try (conv => whnf)); (repeat ((first | (refine br_true ?_ ?_; (focus (exact yesA))) | (refine br_false ?_ ?_; (focus (exact noA))) | (refine onS_map ?_ ?_; (focus (exact numA))) | (refine onS_intro (eqTC_ints rfl rfl rfl rfl ?_) ?_; (focus (exact numA))) | refine onS_intro (mapB_u8s _) ?_ | (refine And.intro ?_ ?_; (focus (exact flatA)))); (try (conv => whnf)))))
        refine hK (i + 1) _ _ rfl (Wk.go ?_ rfl ?_ rfl) (by omega) (by omega)
        all_goals (try (repeat' (first | exact trivial | rfl | exact .inl rfl | exact .inr rfl | refine ⟨?_, ?_⟩)))
        refine .inr (congrArg (fun x => some (Blk.fix (V.d x))) ?_)
        exact wordsD_set (by omega)
      have hv := (hin j).1.get (i + j)
      have hm := (mac_all hx (wd_lt b j) hv hc).1
      have es2 : inN (wd a i) b i (outN a b i) (j + 1) = ((inN (wd a i) b i (outN a b i) j).1.set (i + j) (macl (wd a i) (wd b j) ((inN (wd a i) b i (outN a b i) j).1.getD (i + j) default) (inN (wd a i) b i (outN a b i) j).2), mach (wd a i) (wd b j) ((inN (wd a i) b i (outN a b i) j).1.getD (i + j) default) (inN (wd a i) b i (outN a b i) j).2) := rfl
      ((try (conv => whnf)); (repeat ((first | (refine br_true ?_ ?_; (focus (exact yesA))) | (refine br_false ?_ ?_; (focus (exact noA))) | (refine onS_map ?_ ?_; (focus (exact numA))) | (refine onS_intro (eqTC_ints rfl rfl rfl rfl ?_) ?_; (focus (exact numA))) | refine onS_intro (mapB_u8s _) ?_ | (refine And.intro ?_ ?_; (focus (exact flatA)))); (try (conv => whnf)))))
      refine onS_parts (by omega) ?_
      rw [Int.toNat_natCast]
      have hy := wd_lt b j
      generalize hps : (inN (wd a i) b i (outN a b i) j).1 = ps at *
      generalize hcc : (inN (wd a i) b i (outN a b i) j).2 = c at *
      generalize wd b j = y at *
      generalize wd a i = x at *
      ((try (conv => whnf)); (repeat ((first | (refine br_true ?_ ?_; (focus (exact yesA))) | (refine br_false ?_ ?_; (focus (exact noA))) | (refine onS_map ?_ ?_; (focus (exact numA))) | (refine onS_intro (eqTC_ints rfl rfl rfl rfl ?_) ?_; (focus (exact numA))) | refine onS_intro (mapB_u8s _) ?_ | (refine And.intro ?_ ?_; (focus (exact flatA)))); (try (conv => whnf)))))
      ((first | refine call_intro (ret_Mul64 x y hx hy) (les_refl _) ?_ | refine call_intro (ret_Mul64 x y hx hy) lesA ?_); (try (conv => whnf)))
      ((try (conv => whnf)); (repeat ((first | (refine br_true ?_ ?_; (focus (exact yesA))) | (refine br_false ?_ ?_; (focus (exact noA))) | (refine onS_map ?_ ?_; (focus (exact numA))) | (refine onS_intro (eqTC_ints rfl rfl rfl rfl ?_) ?_; (focus (exact numA))) | refine onS_intro (mapB_u8s _) ?_ | (refine And.intro ?_ ?_; (focus (exact flatA)))); (try (conv => whnf)))))
      have ev : ((i : Int) + (j : Int)).toNat = i + j := by omega
      rw [ev]
      generalize hvv : ps.getD (i + j) default = v at *
      ((first | refine call_intro (ret_Add64' (x * y % 18446744073709551616) v 0 (by omega)) (les_refl _) ?_ | refine call_intro (ret_Add64' (x * y % 18446744073709551616) v 0 (by omega)) lesA ?_); (try (conv => whnf)))
      ((try (conv => whnf)); (repeat ((first | (refine br_true ?_ ?_; (focus (exact yesA))) | (refine br_false ?_ ?_; (focus (exact noA))) | (refine onS_map ?_ ?_; (focus (exact numA))) | (refine onS_intro (eqTC_ints rfl rfl rfl rfl ?_) ?_; (focus (exact numA))) | refine onS_intro (mapB_u8s _) ?_ | (refine And.intro ?_ ?_; (focus (exact flatA)))); (try (conv => whnf)))))
      ((first | refine call_intro (ret_Add64' (sm (x * y % 18446744073709551616) v 0) c 0 (by omega)) (les_refl _) ?_ | refine call_intro (ret_Add64' (sm (x * y % 18446744073709551616) v 0) c 0 (by omega)) lesA ?_); (try (conv => whnf)))
      ((try (conv => whnf)); (repeat ((first | (refine br_true ?_ ?_; (focus (exact yesA))) | (refine br_false ?_ ?_; (focus (exact noA))) | (refine onS_map ?_ ?_; (focus (exact numA))) | (refine onS_intro (eqTC_ints rfl rfl rfl rfl ?_) ?_; (focus (exact numA))) | refine onS_intro (mapB_u8s _) ?_ | (refine And.intro ?_ ?_; (focus (exact flatA)))); (try (conv => whnf)))))
      rw [hm, ev]
      refine hK' (j + 1) _ _ rfl (Wk.go ?_ rfl ?_ rfl) (by omega) (by omega)
      all_goals (try rw [es2])
      all_goals (try (repeat' (first | exact trivial | rfl | exact .inl rfl | exact .inr rfl | refine ⟨?_, ?_⟩)))
      refine .inr (congrArg (fun x => some (Blk.fix (V.d x))) ?_)
      exact wordsD_set rfl
    all_goals (try (repeat' (first | exact trivial | rfl | exact .inl rfl | exact .inr rfl | refine ⟨?_, ?_⟩)))
  all_goals (try (repeat' (first | exact trivial | rfl | exact .inl rfl | exact .inr rfl | refine ⟨?_, ?_⟩)))
end Go.Fw

/-
Contracts of numbers modulo others, of the program. No conditions.
-/
namespace Go.Fw
set_option linter.unusedVariables false
set_option linter.unusedSimpArgs false
open Go.Proofs
set_option maxRecDepth 10000
set_option maxHeartbeats 1000000
/-- A number modulo another, 0 if that is 0. -/
def modN (a m : Nat) : Nat := if m = 0 then 0 else a % m
theorem modN_zero (a : Nat) : modN a 0 = 0 := rfl
theorem modN_pos {a m : Nat} (h : 0 < m) : modN a m = a % m := if_neg (by omega)
theorem modN_lt {a m : Nat} (h : 0 < m) : modN a m < m := by rw [modN_pos h]; exact Nat.mod_lt _ h
theorem modN_256 {a m : Nat} (h : m < 115792089237316195423570985008687907853269984665640564039457584007913129639936) : modN a m < 115792089237316195423570985008687907853269984665640564039457584007913129639936 := by
  by_cases hm : 0 < m
  · have := modN_lt (a := a) hm; omega
  · obtain rfl : m = 0 := by omega
    rw [modN_zero]; omega
theorem modN_mul (a b m : Nat) : modN (modN a m * modN b m) m = modN (a * b) m := by
  by_cases hm : 0 < m
  · rw [modN_pos hm, modN_pos hm, modN_pos hm, modN_pos hm, ← Nat.mul_mod]
  · obtain rfl : m = 0 := by omega
    rfl
theorem modN_mul1 (a b m : Nat) : modN (modN a m * b) m = modN (a * b) m := by
  by_cases hm : 0 < m
  · rw [modN_pos hm, modN_pos hm, modN_pos hm, Nat.mod_mul_mod]
  · obtain rfl : m = 0 := by omega
    rfl
theorem add_mod_if {a b m : Nat} (h : 0 < m) : (a + b) % m = if m ≤ a % m + b % m then a % m + b % m - m else a % m + b % m := by
  have h1 := Nat.mod_lt a h
  have h2 := Nat.mod_lt b h
  rw [Nat.add_mod]
  split
  · rw [Nat.mod_eq_sub_mod (by omega), Nat.mod_eq_of_lt (by omega)]
  · exact Nat.mod_eq_of_lt (by omega)
/-- A difference modulo a number. -/
def subN (a b m : Nat) : Nat := if m = 0 then 0 else (a % m + (m - b % m)) % m
theorem subN_if {a b m : Nat} (h : 0 < m) : subN a b m = if a % m < b % m then a % m + m - b % m else a % m - b % m := by
  have h1 := Nat.mod_lt a h
  have h2 := Nat.mod_lt b h
  unfold subN
  rw [if_neg (by omega)]
  split
  · rw [Nat.mod_eq_of_lt (by omega)]; omega
  · rw [Nat.mod_eq_sub_mod (by omega), Nat.mod_eq_of_lt (by omega)]; omega
theorem ret_mod (a m : Nat) (ha : a < 115792089237316195423570985008687907853269984665640564039457584007913129639936) (hm : m < 115792089237316195423570985008687907853269984665640564039457584007913129639936) : Returns cx n_wide_mod [U a, U m] (U (modN a m)) := by
  (refine of_W2 (fn := f_wide_mod) {} (by kernel_rfl) (by kernel_rfl) (by kernel_rfl) (by kernel_rfl) (by kernel_rfl) ?_)
  ((try (conv => whnf)); (repeat ((first | (refine br_true ?_ ?_; (focus (exact yesA))) | (refine br_false ?_ ?_; (focus (exact noA))) | (refine onS_map ?_ ?_; (focus (exact numA))) | (refine onS_intro (eqTC_ints rfl rfl rfl rfl ?_) ?_; (focus (exact numA))) | refine onS_intro (mapB_u8s _) ?_ | (refine And.intro ?_ ?_; (focus (exact flatA)))); (try (conv => whnf)))))
  ((first | refine call_intro (ret_CmpU a m ha hm) (les_refl _) ?_ | refine call_intro (ret_CmpU a m ha hm) lesA ?_); (try (conv => whnf)))
  by_cases h : a < m
  · have hc : cmpN a m < 0 := by unfold cmpN; rw [if_pos h]; decide
    rw [modN_pos (by omega), Nat.mod_eq_of_lt h]
    ((try (conv => whnf)); (repeat ((first | (refine br_true ?_ ?_; (focus (exact yesA))) | (refine br_false ?_ ?_; (focus (exact noA))) | (refine onS_map ?_ ?_; (focus (exact numA))) | (refine onS_intro (eqTC_ints rfl rfl rfl rfl ?_) ?_; (focus (exact numA))) | refine onS_intro (mapB_u8s _) ?_ | (refine And.intro ?_ ?_; (focus (exact flatA)))); (try (conv => whnf)))))
    exact D.le.refl _
  · have hc : 0 ≤ cmpN a m := by unfold cmpN; rw [if_neg h]; split <;> decide
    by_cases h0 : m = 0
    · subst h0
      rw [modN_zero]
      ((try (conv => whnf)); (repeat ((first | (refine br_true ?_ ?_; (focus (exact yesA))) | (refine br_false ?_ ?_; (focus (exact noA))) | (refine onS_map ?_ ?_; (focus (exact numA))) | (refine onS_intro (eqTC_ints rfl rfl rfl rfl ?_) ?_; (focus (exact numA))) | refine onS_intro (mapB_u8s _) ?_ | (refine And.intro ?_ ?_; (focus (exact flatA)))); (try (conv => whnf)))))
      ((first | refine call_intro (ret_Div_bad 0 a 0 (by decide) (by decide) (by decide)) (les_refl _) ?_ | refine call_intro (ret_Div_bad 0 a 0 (by decide) (by decide) (by decide)) lesA ?_); (try (conv => whnf)))
      ((try (conv => whnf)); (repeat ((first | (refine br_true ?_ ?_; (focus (exact yesA))) | (refine br_false ?_ ?_; (focus (exact noA))) | (refine onS_map ?_ ?_; (focus (exact numA))) | (refine onS_intro (eqTC_ints rfl rfl rfl rfl ?_) ?_; (focus (exact numA))) | refine onS_intro (mapB_u8s _) ?_ | (refine And.intro ?_ ?_; (focus (exact flatA)))); (try (conv => whnf)))))
      exact D.le.refl _
    · rw [modN_pos (by omega)]
      ((try (conv => whnf)); (repeat ((first | (refine br_true ?_ ?_; (focus (exact yesA))) | (refine br_false ?_ ?_; (focus (exact noA))) | (refine onS_map ?_ ?_; (focus (exact numA))) | (refine onS_intro (eqTC_ints rfl rfl rfl rfl ?_) ?_; (focus (exact numA))) | refine onS_intro (mapB_u8s _) ?_ | (refine And.intro ?_ ?_; (focus (exact flatA)))); (try (conv => whnf)))))
      ((first | refine call_intro (ret_Div_ok 0 a m (by decide) ha hm (by omega)) (les_refl _) ?_ | refine call_intro (ret_Div_ok 0 a m (by decide) ha hm (by omega)) lesA ?_); (try (conv => whnf)))
      rw [Nat.zero_mul, Nat.zero_add]
      ((try (conv => whnf)); (repeat ((first | (refine br_true ?_ ?_; (focus (exact yesA))) | (refine br_false ?_ ?_; (focus (exact noA))) | (refine onS_map ?_ ?_; (focus (exact numA))) | (refine onS_intro (eqTC_ints rfl rfl rfl rfl ?_) ?_; (focus (exact numA))) | refine onS_intro (mapB_u8s _) ?_ | (refine And.intro ?_ ?_; (focus (exact flatA)))); (try (conv => whnf)))))
      exact D.le.refl _
theorem ret_AddMod (a b m : Nat) (ha : a < 115792089237316195423570985008687907853269984665640564039457584007913129639936) (hb : b < 115792089237316195423570985008687907853269984665640564039457584007913129639936) (hm : m < 115792089237316195423570985008687907853269984665640564039457584007913129639936) : Returns cx n_wide_AddMod [U a, U b, U m] (U (modN (a + b) m)) := by
  have hx := modN_256 (a := a) hm
  have hy := modN_256 (a := b) hm
  have hval : (0 < m → modN a m < m ∧ modN b m < m ∧ modN (a + b) m = if m ≤ modN a m + modN b m then modN a m + modN b m - m else modN a m + modN b m) := fun h => by
    refine ⟨modN_lt h, modN_lt h, ?_⟩
    rw [modN_pos h, modN_pos h, modN_pos h]
    exact add_mod_if h
  have hz : m = 0 → modN a m = 0 ∧ modN b m = 0 ∧ modN (a + b) m = 0 := fun h => by subst h; exact ⟨rfl, rfl, rfl⟩
  (refine of_W2 (fn := f_wide_AddMod) {} (by kernel_rfl) (by kernel_rfl) (by kernel_rfl) (by kernel_rfl) (by kernel_rfl) ?_)
  ((try (conv => whnf)); (repeat ((first | (refine br_true ?_ ?_; (focus (exact yesA))) | (refine br_false ?_ ?_; (focus (exact noA))) | (refine onS_map ?_ ?_; (focus (exact numA))) | (refine onS_intro (eqTC_ints rfl rfl rfl rfl ?_) ?_; (focus (exact numA))) | refine onS_intro (mapB_u8s _) ?_ | (refine And.intro ?_ ?_; (focus (exact flatA)))); (try (conv => whnf)))))
  ((first | refine call_intro (ret_mod a m ha hm) (les_refl _) ?_ | refine call_intro (ret_mod a m ha hm) lesA ?_); (try (conv => whnf)))
  ((try (conv => whnf)); (repeat ((first | (refine br_true ?_ ?_; (focus (exact yesA))) | (refine br_false ?_ ?_; (focus (exact noA))) | (refine onS_map ?_ ?_; (focus (exact numA))) | (refine onS_intro (eqTC_ints rfl rfl rfl rfl ?_) ?_; (focus (exact numA))) | refine onS_intro (mapB_u8s _) ?_ | (refine And.intro ?_ ?_; (focus (exact flatA)))); (try (conv => whnf)))))
  ((first | refine call_intro (ret_mod b m hb hm) (les_refl _) ?_ | refine call_intro (ret_mod b m hb hm) lesA ?_); (try (conv => whnf)))
  generalize modN a m = x at *
  generalize modN b m = y at *
  generalize modN (a + b) m = z at *
  ((try (conv => whnf)); (repeat ((first | (refine br_true ?_ ?_; (focus (exact yesA))) | (refine br_false ?_ ?_; (focus (exact noA))) | (refine onS_map ?_ ?_; (focus (exact numA))) | (refine onS_intro (eqTC_ints rfl rfl rfl rfl ?_) ?_; (focus (exact numA))) | refine onS_intro (mapB_u8s _) ?_ | (refine And.intro ?_ ?_; (focus (exact flatA)))); (try (conv => whnf)))))
  ((first | refine call_intro (ret_AddU x y hx hy) (les_refl _) ?_ | refine call_intro (ret_AddU x y hx hy) lesA ?_); (try (conv => whnf)))
  by_cases hB : 115792089237316195423570985008687907853269984665640564039457584007913129639936 ≤ x + y
  · have hm0 : 0 < m := by by_cases h : m = 0; (have := hz h; omega); omega
    obtain ⟨h1, h2, h3⟩ := hval hm0
    rw [if_pos (by omega)] at h3
    ((try (conv => whnf)); (repeat ((first | (refine br_true ?_ ?_; (focus (exact yesA))) | (refine br_false ?_ ?_; (focus (exact noA))) | (refine onS_map ?_ ?_; (focus (exact numA))) | (refine onS_intro (eqTC_ints rfl rfl rfl rfl ?_) ?_; (focus (exact numA))) | refine onS_intro (mapB_u8s _) ?_ | (refine And.intro ?_ ?_; (focus (exact flatA)))); (try (conv => whnf)))))
    ((first | refine call_intro (ret_SubU ((x + y) % 115792089237316195423570985008687907853269984665640564039457584007913129639936) m (Nat.mod_lt _ (by decide)) hm) (les_refl _) ?_ | refine call_intro (ret_SubU ((x + y) % 115792089237316195423570985008687907853269984665640564039457584007913129639936) m (Nat.mod_lt _ (by decide)) hm) lesA ?_); (try (conv => whnf)))
    ((try (conv => whnf)); (repeat ((first | (refine br_true ?_ ?_; (focus (exact yesA))) | (refine br_false ?_ ?_; (focus (exact noA))) | (refine onS_map ?_ ?_; (focus (exact numA))) | (refine onS_intro (eqTC_ints rfl rfl rfl rfl ?_) ?_; (focus (exact numA))) | refine onS_intro (mapB_u8s _) ?_ | (refine And.intro ?_ ?_; (focus (exact flatA)))); (try (conv => whnf)))))
    rw [show ((x + y) % 115792089237316195423570985008687907853269984665640564039457584007913129639936 + 115792089237316195423570985008687907853269984665640564039457584007913129639936 - m) % 115792089237316195423570985008687907853269984665640564039457584007913129639936 = z by omega]
    exact D.le.refl _
  · rw [Nat.mod_eq_of_lt (show x + y < 115792089237316195423570985008687907853269984665640564039457584007913129639936 by omega)]
    by_cases hc : x + y < m
    · have hc2 : cmpN (x + y) m < 0 := by unfold cmpN; rw [if_pos hc]; decide
      obtain ⟨h1, h2, h3⟩ := hval (by omega)
      rw [if_neg (by omega)] at h3
      ((try (conv => whnf)); (repeat ((first | (refine br_true ?_ ?_; (focus (exact yesA))) | (refine br_false ?_ ?_; (focus (exact noA))) | (refine onS_map ?_ ?_; (focus (exact numA))) | (refine onS_intro (eqTC_ints rfl rfl rfl rfl ?_) ?_; (focus (exact numA))) | refine onS_intro (mapB_u8s _) ?_ | (refine And.intro ?_ ?_; (focus (exact flatA)))); (try (conv => whnf)))))
      ((first | refine call_intro (ret_CmpU (x + y) m (by omega) hm) (les_refl _) ?_ | refine call_intro (ret_CmpU (x + y) m (by omega) hm) lesA ?_); (try (conv => whnf)))
      ((try (conv => whnf)); (repeat ((first | (refine br_true ?_ ?_; (focus (exact yesA))) | (refine br_false ?_ ?_; (focus (exact noA))) | (refine onS_map ?_ ?_; (focus (exact numA))) | (refine onS_intro (eqTC_ints rfl rfl rfl rfl ?_) ?_; (focus (exact numA))) | refine onS_intro (mapB_u8s _) ?_ | (refine And.intro ?_ ?_; (focus (exact flatA)))); (try (conv => whnf)))))
      rw [← h3]
      exact D.le.refl _
    · have hc2 : 0 ≤ cmpN (x + y) m := by unfold cmpN; rw [if_neg hc]; split <;> decide
      ((try (conv => whnf)); (repeat ((first | (refine br_true ?_ ?_; (focus (exact yesA))) | (refine br_false ?_ ?_; (focus (exact noA))) | (refine onS_map ?_ ?_; (focus (exact numA))) | (refine onS_intro (eqTC_ints rfl rfl rfl rfl ?_) ?_; (focus (exact numA))) | refine onS_intro (mapB_u8s _) ?_ | (refine And.intro ?_ ?_; (focus (exact flatA)))); (try (conv => whnf)))))
      ((first | refine call_intro (ret_CmpU (x + y) m (by omega) hm) (les_refl _) ?_ | refine call_intro (ret_CmpU (x + y) m (by omega) hm) lesA ?_); (try (conv => whnf)))
      ((try (conv => whnf)); (repeat ((first | (refine br_true ?_ ?_; (focus (exact yesA))) | (refine br_false ?_ ?_; (focus (exact noA))) | (refine onS_map ?_ ?_; (focus (exact numA))) | (refine onS_intro (eqTC_ints rfl rfl rfl rfl ?_) ?_; (focus (exact numA))) | refine onS_intro (mapB_u8s _) ?_ | (refine And.intro ?_ ?_; (focus (exact flatA)))); (try (conv => whnf)))))
      ((first | refine call_intro (ret_SubU (x + y) m (by omega) hm) (les_refl _) ?_ | refine call_intro (ret_SubU (x + y) m (by omega) hm) lesA ?_); (try (conv => whnf)))
      ((try (conv => whnf)); (repeat ((first | (refine br_true ?_ ?_; (focus (exact yesA))) | (refine br_false ?_ ?_; (focus (exact noA))) | (refine onS_map ?_ ?_; (focus (exact numA))) | (refine onS_intro (eqTC_ints rfl rfl rfl rfl ?_) ?_; (focus (exact numA))) | refine onS_intro (mapB_u8s _) ?_ | (refine And.intro ?_ ?_; (focus (exact flatA)))); (try (conv => whnf)))))
      have h3 : (x + y + 115792089237316195423570985008687907853269984665640564039457584007913129639936 - m) % 115792089237316195423570985008687907853269984665640564039457584007913129639936 = z := by
        by_cases h : m = 0
        · have := hz h; omega
        · obtain ⟨h1, h2, h3⟩ := hval (by omega)
          rw [if_pos (by omega)] at h3
          omega
      rw [h3]
      exact D.le.refl _
theorem ret_SubMod (a b m : Nat) (ha : a < 115792089237316195423570985008687907853269984665640564039457584007913129639936) (hb : b < 115792089237316195423570985008687907853269984665640564039457584007913129639936) (hm : m < 115792089237316195423570985008687907853269984665640564039457584007913129639936) : Returns cx n_wide_SubMod [U a, U b, U m] (U (subN a b m)) := by
  have hx := modN_256 (a := a) hm
  have hy := modN_256 (a := b) hm
  have hval : (0 < m → modN a m < m ∧ modN b m < m ∧ subN a b m = if modN a m < modN b m then modN a m + m - modN b m else modN a m - modN b m) := fun h => by
    refine ⟨modN_lt h, modN_lt h, ?_⟩
    rw [modN_pos h, modN_pos h]
    exact subN_if h
  have hz : m = 0 → modN a m = 0 ∧ modN b m = 0 ∧ subN a b m = 0 := fun h => by subst h; exact ⟨rfl, rfl, rfl⟩
  (refine of_W2 (fn := f_wide_SubMod) {} (by kernel_rfl) (by kernel_rfl) (by kernel_rfl) (by kernel_rfl) (by kernel_rfl) ?_)
  ((try (conv => whnf)); (repeat ((first | (refine br_true ?_ ?_; (focus (exact yesA))) | (refine br_false ?_ ?_; (focus (exact noA))) | (refine onS_map ?_ ?_; (focus (exact numA))) | (refine onS_intro (eqTC_ints rfl rfl rfl rfl ?_) ?_; (focus (exact numA))) | refine onS_intro (mapB_u8s _) ?_ | (refine And.intro ?_ ?_; (focus (exact flatA)))); (try (conv => whnf)))))
  ((first | refine call_intro (ret_mod a m ha hm) (les_refl _) ?_ | refine call_intro (ret_mod a m ha hm) lesA ?_); (try (conv => whnf)))
  ((try (conv => whnf)); (repeat ((first | (refine br_true ?_ ?_; (focus (exact yesA))) | (refine br_false ?_ ?_; (focus (exact noA))) | (refine onS_map ?_ ?_; (focus (exact numA))) | (refine onS_intro (eqTC_ints rfl rfl rfl rfl ?_) ?_; (focus (exact numA))) | refine onS_intro (mapB_u8s _) ?_ | (refine And.intro ?_ ?_; (focus (exact flatA)))); (try (conv => whnf)))))
  ((first | refine call_intro (ret_mod b m hb hm) (les_refl _) ?_ | refine call_intro (ret_mod b m hb hm) lesA ?_); (try (conv => whnf)))
  generalize modN a m = x at *
  generalize modN b m = y at *
  generalize subN a b m = z at *
  ((try (conv => whnf)); (repeat ((first | (refine br_true ?_ ?_; (focus (exact yesA))) | (refine br_false ?_ ?_; (focus (exact noA))) | (refine onS_map ?_ ?_; (focus (exact numA))) | (refine onS_intro (eqTC_ints rfl rfl rfl rfl ?_) ?_; (focus (exact numA))) | refine onS_intro (mapB_u8s _) ?_ | (refine And.intro ?_ ?_; (focus (exact flatA)))); (try (conv => whnf)))))
  ((first | refine call_intro (ret_SubU x y hx hy) (les_refl _) ?_ | refine call_intro (ret_SubU x y hx hy) lesA ?_); (try (conv => whnf)))
  by_cases hB : x < y
  · have hm0 : 0 < m := by by_cases h : m = 0; (have := hz h; omega); omega
    obtain ⟨h1, h2, h3⟩ := hval hm0
    rw [if_pos hB] at h3
    ((try (conv => whnf)); (repeat ((first | (refine br_true ?_ ?_; (focus (exact yesA))) | (refine br_false ?_ ?_; (focus (exact noA))) | (refine onS_map ?_ ?_; (focus (exact numA))) | (refine onS_intro (eqTC_ints rfl rfl rfl rfl ?_) ?_; (focus (exact numA))) | refine onS_intro (mapB_u8s _) ?_ | (refine And.intro ?_ ?_; (focus (exact flatA)))); (try (conv => whnf)))))
    ((first | refine call_intro (ret_AddU ((x + 115792089237316195423570985008687907853269984665640564039457584007913129639936 - y) % 115792089237316195423570985008687907853269984665640564039457584007913129639936) m (Nat.mod_lt _ (by decide)) hm) (les_refl _) ?_ | refine call_intro (ret_AddU ((x + 115792089237316195423570985008687907853269984665640564039457584007913129639936 - y) % 115792089237316195423570985008687907853269984665640564039457584007913129639936) m (Nat.mod_lt _ (by decide)) hm) lesA ?_); (try (conv => whnf)))
    ((try (conv => whnf)); (repeat ((first | (refine br_true ?_ ?_; (focus (exact yesA))) | (refine br_false ?_ ?_; (focus (exact noA))) | (refine onS_map ?_ ?_; (focus (exact numA))) | (refine onS_intro (eqTC_ints rfl rfl rfl rfl ?_) ?_; (focus (exact numA))) | refine onS_intro (mapB_u8s _) ?_ | (refine And.intro ?_ ?_; (focus (exact flatA)))); (try (conv => whnf)))))
    rw [show ((x + 115792089237316195423570985008687907853269984665640564039457584007913129639936 - y) % 115792089237316195423570985008687907853269984665640564039457584007913129639936 + m) % 115792089237316195423570985008687907853269984665640564039457584007913129639936 = z by omega]
    exact D.le.refl _
  · have h3 : (x + 115792089237316195423570985008687907853269984665640564039457584007913129639936 - y) % 115792089237316195423570985008687907853269984665640564039457584007913129639936 = z := by
      by_cases h : m = 0
      · have := hz h; omega
      · obtain ⟨h1, h2, h3⟩ := hval (by omega)
        rw [if_neg hB] at h3
        omega
    rw [h3]
    ((try (conv => whnf)); (repeat ((first | (refine br_true ?_ ?_; (focus (exact yesA))) | (refine br_false ?_ ?_; (focus (exact noA))) | (refine onS_map ?_ ?_; (focus (exact numA))) | (refine onS_intro (eqTC_ints rfl rfl rfl rfl ?_) ?_; (focus (exact numA))) | refine onS_intro (mapB_u8s _) ?_ | (refine And.intro ?_ ?_; (focus (exact flatA)))); (try (conv => whnf)))))
    exact D.le.refl _
theorem mul_hi {x y m : Nat} (hx : x < m) (hy : y < m) (hm : m < 115792089237316195423570985008687907853269984665640564039457584007913129639936) : x * y / 115792089237316195423570985008687907853269984665640564039457584007913129639936 < m := by
  rw [Nat.div_lt_iff_lt_mul (by decide)]
  have h1 : x * y ≤ m * y := Nat.mul_le_mul_right _ (by omega)
  have h2 : m * y < m * 115792089237316195423570985008687907853269984665640564039457584007913129639936 := Nat.mul_lt_mul_of_pos_left (by omega) (by omega)
  omega
theorem mul_lt256 {x y : Nat} (hx : x < 115792089237316195423570985008687907853269984665640564039457584007913129639936) (hy : y < 115792089237316195423570985008687907853269984665640564039457584007913129639936) : x * y / 115792089237316195423570985008687907853269984665640564039457584007913129639936 < 115792089237316195423570985008687907853269984665640564039457584007913129639936 := by
  rw [Nat.div_lt_iff_lt_mul (by decide)]
  have h1 : x * y ≤ 115792089237316195423570985008687907853269984665640564039457584007913129639936 * y := Nat.mul_le_mul_right _ (by omega)
  have h2 : 115792089237316195423570985008687907853269984665640564039457584007913129639936 * y < 115792089237316195423570985008687907853269984665640564039457584007913129639936 * 115792089237316195423570985008687907853269984665640564039457584007913129639936 := Nat.mul_lt_mul_of_pos_left hy (by decide)
  exact Nat.lt_of_le_of_lt h1 h2
theorem two_halves (z : Nat) : z / 115792089237316195423570985008687907853269984665640564039457584007913129639936 * 115792089237316195423570985008687907853269984665640564039457584007913129639936 + z % 115792089237316195423570985008687907853269984665640564039457584007913129639936 = z := by
  have := Nat.div_add_mod z 115792089237316195423570985008687907853269984665640564039457584007913129639936
  rw [Nat.mul_comm] at this
  exact this
theorem ret_MulMod (a b m : Nat) (ha : a < 115792089237316195423570985008687907853269984665640564039457584007913129639936) (hb : b < 115792089237316195423570985008687907853269984665640564039457584007913129639936) (hm : m < 115792089237316195423570985008687907853269984665640564039457584007913129639936) : Returns cx n_wide_MulMod [U a, U b, U m] (U (modN (a * b) m)) := by
  have hx := modN_256 (a := a) hm
  have hy := modN_256 (a := b) hm
  have hmm := modN_mul a b m
  have hval : 0 < m → modN a m < m ∧ modN b m < m := fun h => ⟨modN_lt h, modN_lt h⟩
  have hz : m = 0 → modN a m = 0 ∧ modN b m = 0 := fun h => by subst h; exact ⟨rfl, rfl⟩
  rw [← hmm]
  clear hmm
  (refine of_W2 (fn := f_wide_MulMod) {} (by kernel_rfl) (by kernel_rfl) (by kernel_rfl) (by kernel_rfl) (by kernel_rfl) ?_)
  ((try (conv => whnf)); (repeat ((first | (refine br_true ?_ ?_; (focus (exact yesA))) | (refine br_false ?_ ?_; (focus (exact noA))) | (refine onS_map ?_ ?_; (focus (exact numA))) | (refine onS_intro (eqTC_ints rfl rfl rfl rfl ?_) ?_; (focus (exact numA))) | refine onS_intro (mapB_u8s _) ?_ | (refine And.intro ?_ ?_; (focus (exact flatA)))); (try (conv => whnf)))))
  ((first | refine call_intro (ret_mod a m ha hm) (les_refl _) ?_ | refine call_intro (ret_mod a m ha hm) lesA ?_); (try (conv => whnf)))
  ((try (conv => whnf)); (repeat ((first | (refine br_true ?_ ?_; (focus (exact yesA))) | (refine br_false ?_ ?_; (focus (exact noA))) | (refine onS_map ?_ ?_; (focus (exact numA))) | (refine onS_intro (eqTC_ints rfl rfl rfl rfl ?_) ?_; (focus (exact numA))) | refine onS_intro (mapB_u8s _) ?_ | (refine And.intro ?_ ?_; (focus (exact flatA)))); (try (conv => whnf)))))
  ((first | refine call_intro (ret_mod b m hb hm) (les_refl _) ?_ | refine call_intro (ret_mod b m hb hm) lesA ?_); (try (conv => whnf)))
  generalize modN a m = x at *
  generalize modN b m = y at *
  ((try (conv => whnf)); (repeat ((first | (refine br_true ?_ ?_; (focus (exact yesA))) | (refine br_false ?_ ?_; (focus (exact noA))) | (refine onS_map ?_ ?_; (focus (exact numA))) | (refine onS_intro (eqTC_ints rfl rfl rfl rfl ?_) ?_; (focus (exact numA))) | refine onS_intro (mapB_u8s _) ?_ | (refine And.intro ?_ ?_; (focus (exact flatA)))); (try (conv => whnf)))))
  ((first | refine call_intro (ret_MulU x y hx hy) (les_refl _) ?_ | refine call_intro (ret_MulU x y hx hy) lesA ?_); (try (conv => whnf)))
  ((try (conv => whnf)); (repeat ((first | (refine br_true ?_ ?_; (focus (exact yesA))) | (refine br_false ?_ ?_; (focus (exact noA))) | (refine onS_map ?_ ?_; (focus (exact numA))) | (refine onS_intro (eqTC_ints rfl rfl rfl rfl ?_) ?_; (focus (exact numA))) | refine onS_intro (mapB_u8s _) ?_ | (refine And.intro ?_ ?_; (focus (exact flatA)))); (try (conv => whnf)))))
  by_cases h : m = 0
  · obtain ⟨rfl, rfl⟩ := hz h
    subst h
    ((first | refine call_intro (ret_Div_bad (0 * 0 / 115792089237316195423570985008687907853269984665640564039457584007913129639936) (0 * 0 % 115792089237316195423570985008687907853269984665640564039457584007913129639936) 0 (by decide) (by decide) (by decide)) (les_refl _) ?_ | refine call_intro (ret_Div_bad (0 * 0 / 115792089237316195423570985008687907853269984665640564039457584007913129639936) (0 * 0 % 115792089237316195423570985008687907853269984665640564039457584007913129639936) 0 (by decide) (by decide) (by decide)) lesA ?_); (try (conv => whnf)))
    ((try (conv => whnf)); (repeat ((first | (refine br_true ?_ ?_; (focus (exact yesA))) | (refine br_false ?_ ?_; (focus (exact noA))) | (refine onS_map ?_ ?_; (focus (exact numA))) | (refine onS_intro (eqTC_ints rfl rfl rfl rfl ?_) ?_; (focus (exact numA))) | refine onS_intro (mapB_u8s _) ?_ | (refine And.intro ?_ ?_; (focus (exact flatA)))); (try (conv => whnf)))))
    exact D.le.refl _
  · obtain ⟨h1, h2⟩ := hval (by omega)
    ((first | refine call_intro (ret_Div_ok (x * y / 115792089237316195423570985008687907853269984665640564039457584007913129639936) (x * y % 115792089237316195423570985008687907853269984665640564039457584007913129639936) m (mul_lt256 hx hy) (Nat.mod_lt _ (by decide)) hm (mul_hi h1 h2 hm)) (les_refl _) ?_ | refine call_intro (ret_Div_ok (x * y / 115792089237316195423570985008687907853269984665640564039457584007913129639936) (x * y % 115792089237316195423570985008687907853269984665640564039457584007913129639936) m (mul_lt256 hx hy) (Nat.mod_lt _ (by decide)) hm (mul_hi h1 h2 hm)) lesA ?_); (try (conv => whnf)))
    rw [two_halves, ← modN_pos (a := x * y) (show 0 < m by omega)]
    ((try (conv => whnf)); (repeat ((first | (refine br_true ?_ ?_; (focus (exact yesA))) | (refine br_false ?_ ?_; (focus (exact noA))) | (refine onS_map ?_ ?_; (focus (exact numA))) | (refine onS_intro (eqTC_ints rfl rfl rfl rfl ?_) ?_; (focus (exact numA))) | refine onS_intro (mapB_u8s _) ?_ | (refine And.intro ?_ ?_; (focus (exact flatA)))); (try (conv => whnf)))))
    exact D.le.refl _
end Go.Fw

/-
Contract of the reference's division. No conditions.
-/
namespace Go.Fw
set_option linter.unusedVariables false
set_option linter.unusedSimpArgs false
open Go.Proofs
set_option maxRecDepth 10000
set_option maxHeartbeats 4000000
theorem rer_Div_bad (hi lo b : Nat) (h1 : hi < 115792089237316195423570985008687907853269984665640564039457584007913129639936) (h3 : b < 115792089237316195423570985008687907853269984665640564039457584007913129639936) (h : b ≤ hi) : Returns cx n_lightclientref02_Div [U hi, U lo, U b] (.tup [U 0, U 0, .bool false]) := by
  (refine of_W2 (fn := f_lightclientref02_Div) { vis := [(2, [(0, true, [3]), (1, true, [4]), (2, true, [3]), (3, true, [4])]), (14, [(0, true, [3]), (1, true, [4]), (2, true, [3]), (3, true, [4])])] } (by kernel_rfl) (by kernel_rfl) (by kernel_rfl) (by kernel_rfl) (by kernel_rfl) ?_)
  ((try (conv => whnf)); (repeat ((first | (refine br_true ?_ ?_; (focus (exact yesA))) | (refine br_false ?_ ?_; (focus (exact noA))) | (refine onS_map ?_ ?_; (focus (exact numA))) | (refine onS_intro (eqTC_ints rfl rfl rfl rfl ?_) ?_; (focus (exact numA))) | refine onS_intro (mapB_u8s _) ?_ | (refine And.intro ?_ ?_; (focus (exact flatA)))); (try (conv => whnf)))))
  ((first | refine call_intro (rer_CmpU b hi h3 h1) (les_refl _) ?_ | refine call_intro (rer_CmpU b hi h3 h1) lesA ?_); (try (conv => whnf)))
  have hc : cmpN b hi ≤ 0 := by unfold cmpN; split <;> (try split) <;> omega
  ((try (conv => whnf)); (repeat ((first | (refine br_true ?_ ?_; (focus (exact yesA))) | (refine br_false ?_ ?_; (focus (exact noA))) | (refine onS_map ?_ ?_; (focus (exact numA))) | (refine onS_intro (eqTC_ints rfl rfl rfl rfl ?_) ?_; (focus (exact numA))) | refine onS_intro (mapB_u8s _) ?_ | (refine And.intro ?_ ?_; (focus (exact flatA)))); (try (conv => whnf)))))
  exact D.le.refl _
theorem over_of {r : Nat} (hr : r < 115792089237316195423570985008687907853269984665640564039457584007913129639936) : r.testBit 255 = chk (115792089237316195423570985008687907853269984665640564039457584007913129639936 ≤ r + r) := by
  rw [chk_eq, Nat.testBit_eq_decide_div_mod_eq]
  show decide (r / 57896044618658097711785492504343953926634992332820282019728792003956564819968 % 2 = 1) = _
  rw [Bool.eq_iff_iff, decide_eq_true_iff, decide_eq_true_iff]
  omega
theorem set_or1 {z : Nat} : D.arr 4 .one (((parts z).map (D.int .u64)).set (Int.toNat 0) (.int .u64 (orW .u64 (wd z 0 : Nat) 1))) = U (z ||| 1) := set_or0 (t := 1) (by decide)
theorem rer_Div_ok (hi lo b : Nat) (h1 : hi < 115792089237316195423570985008687907853269984665640564039457584007913129639936) (h2 : lo < 115792089237316195423570985008687907853269984665640564039457584007913129639936) (h3 : b < 115792089237316195423570985008687907853269984665640564039457584007913129639936) (h : hi < b) :
    Returns cx n_lightclientref02_Div [U hi, U lo, U b] (.tup [U ((hi * 115792089237316195423570985008687907853269984665640564039457584007913129639936 + lo) / b), U ((hi * 115792089237316195423570985008687907853269984665640564039457584007913129639936 + lo) % b), .bool true]) := by
  have hb0 : 0 < b := by omega
  obtain ⟨X, hX⟩ : ∃ X, X = hi * 115792089237316195423570985008687907853269984665640564039457584007913129639936 + lo := ⟨_, rfl⟩
  have hq : ∀ k, X / 2 ^ k / b * 2 ^ k < 115792089237316195423570985008687907853269984665640564039457584007913129639936 := fun k => by rw [hX]; exact quo_lt h2 h
  have hr : ∀ k, X / 2 ^ k % b < b := fun k => Nat.mod_lt _ hb0
  have hbit : ∀ j, j < 256 → X.testBit j = lo.testBit j := fun j hj => by rw [hX]; exact big_bit hj
  rw [← hX]
  (refine of_W2 (fn := f_lightclientref02_Div) { vis := [(2, [(0, true, [3]), (1, true, [4]), (2, true, [3]), (3, true, [4])]), (14, [(0, true, [3]), (1, true, [4]), (2, true, [3]), (3, true, [4])])] } (by kernel_rfl) (by kernel_rfl) (by kernel_rfl) (by kernel_rfl) (by kernel_rfl) ?_)
  ((try (conv => whnf)); (repeat ((first | (refine br_true ?_ ?_; (focus (exact yesA))) | (refine br_false ?_ ?_; (focus (exact noA))) | (refine onS_map ?_ ?_; (focus (exact numA))) | (refine onS_intro (eqTC_ints rfl rfl rfl rfl ?_) ?_; (focus (exact numA))) | refine onS_intro (mapB_u8s _) ?_ | (refine And.intro ?_ ?_; (focus (exact flatA)))); (try (conv => whnf)))))
  ((first | refine call_intro (rer_CmpU b hi h3 h1) (les_refl _) ?_ | refine call_intro (rer_CmpU b hi h3 h1) lesA ?_); (try (conv => whnf)))
  have hc : 0 < cmpN b hi := by unfold cmpN; rw [if_neg (by omega), if_pos h]; decide
  have s0 : X / 2 ^ 256 = hi := by rw [hX]; show (hi * 115792089237316195423570985008687907853269984665640564039457584007913129639936 + lo) / 115792089237316195423570985008687907853269984665640564039457584007913129639936 = hi; omega
  have s1 : X / 2 ^ 256 / b * 2 ^ 256 = 0 := by rw [s0, Nat.div_eq_of_lt h, Nat.zero_mul]
  have s2 : X / 2 ^ 256 % b = hi := by rw [s0, Nat.mod_eq_of_lt h]
  ((try (conv => whnf)); (repeat ((first | (refine br_true ?_ ?_; (focus (exact yesA))) | (refine br_false ?_ ?_; (focus (exact noA))) | (refine onS_map ?_ ?_; (focus (exact numA))) | (refine onS_intro (eqTC_ints rfl rfl rfl rfl ?_) ?_; (focus (exact numA))) | refine onS_intro (mapB_u8s _) ?_ | (refine And.intro ?_ ?_; (focus (exact flatA)))); (try (conv => whnf)))))
  refine LoopW2_rule (fun k : Nat => [(4, .ptr 1 0 [] (.arr 4 .one)), (5, .ptr 2 0 [] (.arr 4 .one)), (6, .ptr 3 0 [] (.arr 4 .one)), (7, .ptr 4 0 [] (.arr 4 .one)), (9, .d (.int .i64 ((k : Int) - 1)))])
    (fun k : Nat => [none, some (.fix (.d (U lo))), some (.fix (.d (U b))), some (.fix (.d (U (X / 2 ^ k / b * 2 ^ k)))), some (.fix (.d (U (X / 2 ^ k % b))))]) (fun k => k ≤ 256) (fun k => k) _ rfl 256 (Wk.go ?_ rfl ?_ rfl) (Nat.le_refl _) ?_
  rotate_left 2
  · rintro k K hk hK
    simp only at hk hK ⊢
    cases k with
    | zero =>
      simp only [Nat.pow_zero, Nat.div_one, Nat.mul_one]
      ((try (conv => whnf)); (repeat ((first | (refine br_true ?_ ?_; (focus (exact yesA))) | (refine br_false ?_ ?_; (focus (exact noA))) | (refine onS_map ?_ ?_; (focus (exact numA))) | (refine onS_intro (eqTC_ints rfl rfl rfl rfl ?_) ?_; (focus (exact numA))) | refine onS_intro (mapB_u8s _) ?_ | (refine And.intro ?_ ?_; (focus (exact flatA)))); (try (conv => whnf)))))
      exact D.le.refl _
    | succ j =>
      have ej : ((j + 1 : Nat) : Int) - 1 = (j : Int) := by omega
      rw [ej]
      have hrb := hr (j + 1)
      have qn := quo_next (X := X) (j := j) hb0
      rw [hbit j (by omega)] at qn
      generalize X / 2 ^ (j + 1) % b = r at *
      generalize X / 2 ^ (j + 1) / b * 2 ^ (j + 1) = q at *
      ((try (conv => whnf)); (repeat ((first | (refine br_true ?_ ?_; (focus (exact yesA))) | (refine br_false ?_ ?_; (focus (exact noA))) | (refine onS_map ?_ ?_; (focus (exact numA))) | (refine onS_intro (eqTC_ints rfl rfl rfl rfl ?_) ?_; (focus (exact numA))) | refine onS_intro (mapB_u8s _) ?_ | (refine And.intro ?_ ?_; (focus (exact flatA)))); (try (conv => whnf)))))
      ((first | refine call_intro (rer_Bit r 255 (by omega)) (les_refl _) ?_ | refine call_intro (rer_Bit r 255 (by omega)) lesA ?_); (try (conv => whnf)))
      ((try (conv => whnf)); (repeat ((first | (refine br_true ?_ ?_; (focus (exact yesA))) | (refine br_false ?_ ?_; (focus (exact noA))) | (refine onS_map ?_ ?_; (focus (exact numA))) | (refine onS_intro (eqTC_ints rfl rfl rfl rfl ?_) ?_; (focus (exact numA))) | refine onS_intro (mapB_u8s _) ?_ | (refine And.intro ?_ ?_; (focus (exact flatA)))); (try (conv => whnf)))))
      ((first | refine call_intro (rer_AddU r r (by omega) (by omega)) (les_refl _) ?_ | refine call_intro (rer_AddU r r (by omega) (by omega)) lesA ?_); (try (conv => whnf)))
      ((try (conv => whnf)); (repeat ((first | (refine br_true ?_ ?_; (focus (exact yesA))) | (refine br_false ?_ ?_; (focus (exact noA))) | (refine onS_map ?_ ?_; (focus (exact numA))) | (refine onS_intro (eqTC_ints rfl rfl rfl rfl ?_) ?_; (focus (exact numA))) | refine onS_intro (mapB_u8s _) ?_ | (refine And.intro ?_ ?_; (focus (exact flatA)))); (try (conv => whnf)))))
      ((first | refine call_intro (rer_Bit lo j (by omega)) (les_refl _) ?_ | refine call_intro (rer_Bit lo j (by omega)) lesA ?_); (try (conv => whnf)))
      obtain ⟨z, hz'⟩ : ∃ z, z = (r + r) % 115792089237316195423570985008687907853269984665640564039457584007913129639936 := ⟨_, rfl⟩
      rw [← hz', over_of (by omega)]
      have e1 : ((j : Int) / 64).toNat = j / 64 := by omega
      have e2 : ((j : Int) % 64).toNat = j % 64 := by omega
      cases hb : lo.testBit j with
      | false =>
        rw [hb] at qn
        simp only [Bool.toNat_false] at qn
        ((try (conv => whnf)); (repeat ((first | (refine br_true ?_ ?_; (focus (exact yesA))) | (refine br_false ?_ ?_; (focus (exact noA))) | (refine onS_map ?_ ?_; (focus (exact numA))) | (refine onS_intro (eqTC_ints rfl rfl rfl rfl ?_) ?_; (focus (exact numA))) | refine onS_intro (mapB_u8s _) ?_ | (refine And.intro ?_ ?_; (focus (exact flatA)))); (try (conv => whnf)))))
        obtain ⟨s, hs⟩ : ∃ s, s = z := ⟨_, rfl⟩
        rw [← hs]
        have hs256 : s < 115792089237316195423570985008687907853269984665640564039457584007913129639936 := by omega
        by_cases ho : 115792089237316195423570985008687907853269984665640564039457584007913129639936 ≤ r + r
        · ((try (conv => whnf)); (repeat ((first | (refine br_true ?_ ?_; (focus (exact yesA))) | (refine br_false ?_ ?_; (focus (exact noA))) | (refine onS_map ?_ ?_; (focus (exact numA))) | (refine onS_intro (eqTC_ints rfl rfl rfl rfl ?_) ?_; (focus (exact numA))) | refine onS_intro (mapB_u8s _) ?_ | (refine And.intro ?_ ?_; (focus (exact flatA)))); (try (conv => whnf)))))
          ((first | refine call_intro (rer_SubU s b hs256 h3) (les_refl _) ?_ | refine call_intro (rer_SubU s b hs256 h3) lesA ?_); (try (conv => whnf)))
          obtain ⟨q1, q2⟩ := qn.1 (by omega)
          ((try (conv => whnf)); (repeat ((first | (refine br_true ?_ ?_; (focus (exact yesA))) | (refine br_false ?_ ?_; (focus (exact noA))) | (refine onS_map ?_ ?_; (focus (exact numA))) | (refine onS_intro (eqTC_ints rfl rfl rfl rfl ?_) ?_; (focus (exact numA))) | refine onS_intro (mapB_u8s _) ?_ | (refine And.intro ?_ ?_; (focus (exact flatA)))); (try (conv => whnf)))))
          refine onS_parts (by omega) ?_
          ((try (conv => whnf)); (repeat ((first | (refine br_true ?_ ?_; (focus (exact yesA))) | (refine br_false ?_ ?_; (focus (exact noA))) | (refine onS_map ?_ ?_; (focus (exact numA))) | (refine onS_intro (eqTC_ints rfl rfl rfl rfl ?_) ?_; (focus (exact numA))) | refine onS_intro (mapB_u8s _) ?_ | (refine And.intro ?_ ?_; (focus (exact flatA)))); (try (conv => whnf)))))
          rw [e1, e2]
          refine hK j _ _ rfl (Wk.go ?_ rfl ?_ rfl) (by omega) (by omega)
          all_goals (try (repeat' (first | exact trivial | rfl | exact .inl rfl | exact .inr rfl | refine ⟨?_, ?_⟩)))
          · exact .inr (congrArg (fun x => some (Blk.fix (V.d x))) ((set_bit_U (by omega)).trans (congrArg U q1)))
          · exact .inr (congrArg (fun x => some (Blk.fix (V.d (U x)))) (by rw [q2]; omega))
        · by_cases hc : s < b
          · obtain ⟨q1, q2⟩ := qn.2 (by omega)
            have hc2 : cmpN s b < 0 := by unfold cmpN; rw [if_pos hc]; decide
            ((try (conv => whnf)); (repeat ((first | (refine br_true ?_ ?_; (focus (exact yesA))) | (refine br_false ?_ ?_; (focus (exact noA))) | (refine onS_map ?_ ?_; (focus (exact numA))) | (refine onS_intro (eqTC_ints rfl rfl rfl rfl ?_) ?_; (focus (exact numA))) | refine onS_intro (mapB_u8s _) ?_ | (refine And.intro ?_ ?_; (focus (exact flatA)))); (try (conv => whnf)))))
            ((first | refine call_intro (rer_CmpU s b hs256 h3) (les_refl _) ?_ | refine call_intro (rer_CmpU s b hs256 h3) lesA ?_); (try (conv => whnf)))
            ((try (conv => whnf)); (repeat ((first | (refine br_true ?_ ?_; (focus (exact yesA))) | (refine br_false ?_ ?_; (focus (exact noA))) | (refine onS_map ?_ ?_; (focus (exact numA))) | (refine onS_intro (eqTC_ints rfl rfl rfl rfl ?_) ?_; (focus (exact numA))) | refine onS_intro (mapB_u8s _) ?_ | (refine And.intro ?_ ?_; (focus (exact flatA)))); (try (conv => whnf)))))
            refine hK j _ _ rfl (Wk.go ?_ rfl ?_ rfl) (by omega) (by omega)
            all_goals (try (repeat' (first | exact trivial | rfl | exact .inl rfl | exact .inr rfl | refine ⟨?_, ?_⟩)))
            · exact .inr (congrArg (fun x => some (Blk.fix (V.d (U x)))) q1)
            · exact .inr (congrArg (fun x => some (Blk.fix (V.d (U x)))) (by rw [q2]; omega))
          · have hc2 : 0 ≤ cmpN s b := by unfold cmpN; rw [if_neg hc]; split <;> decide
            ((try (conv => whnf)); (repeat ((first | (refine br_true ?_ ?_; (focus (exact yesA))) | (refine br_false ?_ ?_; (focus (exact noA))) | (refine onS_map ?_ ?_; (focus (exact numA))) | (refine onS_intro (eqTC_ints rfl rfl rfl rfl ?_) ?_; (focus (exact numA))) | refine onS_intro (mapB_u8s _) ?_ | (refine And.intro ?_ ?_; (focus (exact flatA)))); (try (conv => whnf)))))
            ((first | refine call_intro (rer_CmpU s b hs256 h3) (les_refl _) ?_ | refine call_intro (rer_CmpU s b hs256 h3) lesA ?_); (try (conv => whnf)))
            ((try (conv => whnf)); (repeat ((first | (refine br_true ?_ ?_; (focus (exact yesA))) | (refine br_false ?_ ?_; (focus (exact noA))) | (refine onS_map ?_ ?_; (focus (exact numA))) | (refine onS_intro (eqTC_ints rfl rfl rfl rfl ?_) ?_; (focus (exact numA))) | refine onS_intro (mapB_u8s _) ?_ | (refine And.intro ?_ ?_; (focus (exact flatA)))); (try (conv => whnf)))))
            ((first | refine call_intro (rer_SubU s b hs256 h3) (les_refl _) ?_ | refine call_intro (rer_SubU s b hs256 h3) lesA ?_); (try (conv => whnf)))
            obtain ⟨q1, q2⟩ := qn.1 (by omega)
            ((try (conv => whnf)); (repeat ((first | (refine br_true ?_ ?_; (focus (exact yesA))) | (refine br_false ?_ ?_; (focus (exact noA))) | (refine onS_map ?_ ?_; (focus (exact numA))) | (refine onS_intro (eqTC_ints rfl rfl rfl rfl ?_) ?_; (focus (exact numA))) | refine onS_intro (mapB_u8s _) ?_ | (refine And.intro ?_ ?_; (focus (exact flatA)))); (try (conv => whnf)))))
            refine onS_parts (by omega) ?_
            ((try (conv => whnf)); (repeat ((first | (refine br_true ?_ ?_; (focus (exact yesA))) | (refine br_false ?_ ?_; (focus (exact noA))) | (refine onS_map ?_ ?_; (focus (exact numA))) | (refine onS_intro (eqTC_ints rfl rfl rfl rfl ?_) ?_; (focus (exact numA))) | refine onS_intro (mapB_u8s _) ?_ | (refine And.intro ?_ ?_; (focus (exact flatA)))); (try (conv => whnf)))))
            rw [e1, e2]
            refine hK j _ _ rfl (Wk.go ?_ rfl ?_ rfl) (by omega) (by omega)
            all_goals (try (repeat' (first | exact trivial | rfl | exact .inl rfl | exact .inr rfl | refine ⟨?_, ?_⟩)))
            · exact .inr (congrArg (fun x => some (Blk.fix (V.d x))) ((set_bit_U (by omega)).trans (congrArg U q1)))
            · exact .inr (congrArg (fun x => some (Blk.fix (V.d (U x)))) (by rw [q2]; omega))
      | true =>
        rw [hb] at qn
        simp only [Bool.toNat_true] at qn
        ((try (conv => whnf)); (repeat ((first | (refine br_true ?_ ?_; (focus (exact yesA))) | (refine br_false ?_ ?_; (focus (exact noA))) | (refine onS_map ?_ ?_; (focus (exact numA))) | (refine onS_intro (eqTC_ints rfl rfl rfl rfl ?_) ?_; (focus (exact numA))) | refine onS_intro (mapB_u8s _) ?_ | (refine And.intro ?_ ?_; (focus (exact flatA)))); (try (conv => whnf)))))
        rw [set_or1, or_one (show z % 2 = 0 by omega) (show 1 < 2 by decide)]
        obtain ⟨s, hs⟩ : ∃ s, s = z + 1 := ⟨_, rfl⟩
        rw [← hs]
        have hs256 : s < 115792089237316195423570985008687907853269984665640564039457584007913129639936 := by omega
        by_cases ho : 115792089237316195423570985008687907853269984665640564039457584007913129639936 ≤ r + r
        · ((try (conv => whnf)); (repeat ((first | (refine br_true ?_ ?_; (focus (exact yesA))) | (refine br_false ?_ ?_; (focus (exact noA))) | (refine onS_map ?_ ?_; (focus (exact numA))) | (refine onS_intro (eqTC_ints rfl rfl rfl rfl ?_) ?_; (focus (exact numA))) | refine onS_intro (mapB_u8s _) ?_ | (refine And.intro ?_ ?_; (focus (exact flatA)))); (try (conv => whnf)))))
          ((first | refine call_intro (rer_SubU s b hs256 h3) (les_refl _) ?_ | refine call_intro (rer_SubU s b hs256 h3) lesA ?_); (try (conv => whnf)))
          obtain ⟨q1, q2⟩ := qn.1 (by omega)
          ((try (conv => whnf)); (repeat ((first | (refine br_true ?_ ?_; (focus (exact yesA))) | (refine br_false ?_ ?_; (focus (exact noA))) | (refine onS_map ?_ ?_; (focus (exact numA))) | (refine onS_intro (eqTC_ints rfl rfl rfl rfl ?_) ?_; (focus (exact numA))) | refine onS_intro (mapB_u8s _) ?_ | (refine And.intro ?_ ?_; (focus (exact flatA)))); (try (conv => whnf)))))
          refine onS_parts (by omega) ?_
          ((try (conv => whnf)); (repeat ((first | (refine br_true ?_ ?_; (focus (exact yesA))) | (refine br_false ?_ ?_; (focus (exact noA))) | (refine onS_map ?_ ?_; (focus (exact numA))) | (refine onS_intro (eqTC_ints rfl rfl rfl rfl ?_) ?_; (focus (exact numA))) | refine onS_intro (mapB_u8s _) ?_ | (refine And.intro ?_ ?_; (focus (exact flatA)))); (try (conv => whnf)))))
          rw [e1, e2]
          refine hK j _ _ rfl (Wk.go ?_ rfl ?_ rfl) (by omega) (by omega)
          all_goals (try (repeat' (first | exact trivial | rfl | exact .inl rfl | exact .inr rfl | refine ⟨?_, ?_⟩)))
          · exact .inr (congrArg (fun x => some (Blk.fix (V.d x))) ((set_bit_U (by omega)).trans (congrArg U q1)))
          · exact .inr (congrArg (fun x => some (Blk.fix (V.d (U x)))) (by rw [q2]; omega))
        · by_cases hc : s < b
          · obtain ⟨q1, q2⟩ := qn.2 (by omega)
            have hc2 : cmpN s b < 0 := by unfold cmpN; rw [if_pos hc]; decide
            ((try (conv => whnf)); (repeat ((first | (refine br_true ?_ ?_; (focus (exact yesA))) | (refine br_false ?_ ?_; (focus (exact noA))) | (refine onS_map ?_ ?_; (focus (exact numA))) | (refine onS_intro (eqTC_ints rfl rfl rfl rfl ?_) ?_; (focus (exact numA))) | refine onS_intro (mapB_u8s _) ?_ | (refine And.intro ?_ ?_; (focus (exact flatA)))); (try (conv => whnf)))))
            ((first | refine call_intro (rer_CmpU s b hs256 h3) (les_refl _) ?_ | refine call_intro (rer_CmpU s b hs256 h3) lesA ?_); (try (conv => whnf)))
            ((try (conv => whnf)); (repeat ((first | (refine br_true ?_ ?_; (focus (exact yesA))) | (refine br_false ?_ ?_; (focus (exact noA))) | (refine onS_map ?_ ?_; (focus (exact numA))) | (refine onS_intro (eqTC_ints rfl rfl rfl rfl ?_) ?_; (focus (exact numA))) | refine onS_intro (mapB_u8s _) ?_ | (refine And.intro ?_ ?_; (focus (exact flatA)))); (try (conv => whnf)))))
            refine hK j _ _ rfl (Wk.go ?_ rfl ?_ rfl) (by omega) (by omega)
            all_goals (try (repeat' (first | exact trivial | rfl | exact .inl rfl | exact .inr rfl | refine ⟨?_, ?_⟩)))
            · exact .inr (congrArg (fun x => some (Blk.fix (V.d (U x)))) q1)
            · exact .inr (congrArg (fun x => some (Blk.fix (V.d (U x)))) (by rw [q2]; omega))
          · have hc2 : 0 ≤ cmpN s b := by unfold cmpN; rw [if_neg hc]; split <;> decide
            ((try (conv => whnf)); (repeat ((first | (refine br_true ?_ ?_; (focus (exact yesA))) | (refine br_false ?_ ?_; (focus (exact noA))) | (refine onS_map ?_ ?_; (focus (exact numA))) | (refine onS_intro (eqTC_ints rfl rfl rfl rfl ?_) ?_; (focus (exact numA))) | refine onS_intro (mapB_u8s _) ?_ | (refine And.intro ?_ ?_; (focus (exact flatA)))); (try (conv => whnf)))))
            ((first | refine call_intro (rer_CmpU s b hs256 h3) (les_refl _) ?_ | refine call_intro (rer_CmpU s b hs256 h3) lesA ?_); (try (conv => whnf)))
            ((try (conv => whnf)); (repeat ((first | (refine br_true ?_ ?_; (focus (exact yesA))) | (refine br_false ?_ ?_; (focus (exact noA))) | (refine onS_map ?_ ?_; (focus (exact numA))) | (refine onS_intro (eqTC_ints rfl rfl rfl rfl ?_) ?_; (focus (exact numA))) | refine onS_intro (mapB_u8s _) ?_ | (refine And.intro ?_ ?_; (focus (exact flatA)))); (try (conv => whnf)))))
            ((first | refine call_intro (rer_SubU s b hs256 h3) (les_refl _) ?_ | refine call_intro (rer_SubU s b hs256 h3) lesA ?_); (try (conv => whnf)))
            obtain ⟨q1, q2⟩ := qn.1 (by omega)
            ((try (conv => whnf)); (repeat ((first | (refine br_true ?_ ?_; (focus (exact yesA))) | (refine br_false ?_ ?_; (focus (exact noA))) | (refine onS_map ?_ ?_; (focus (exact numA))) | (refine onS_intro (eqTC_ints rfl rfl rfl rfl ?_) ?_; (focus (exact numA))) | refine onS_intro (mapB_u8s _) ?_ | (refine And.intro ?_ ?_; (focus (exact flatA)))); (try (conv => whnf)))))
            refine onS_parts (by omega) ?_
            ((try (conv => whnf)); (repeat ((first | (refine br_true ?_ ?_; (focus (exact yesA))) | (refine br_false ?_ ?_; (focus (exact noA))) | (refine onS_map ?_ ?_; (focus (exact numA))) | (refine onS_intro (eqTC_ints rfl rfl rfl rfl ?_) ?_; (focus (exact numA))) | refine onS_intro (mapB_u8s _) ?_ | (refine And.intro ?_ ?_; (focus (exact flatA)))); (try (conv => whnf)))))
            rw [e1, e2]
            refine hK j _ _ rfl (Wk.go ?_ rfl ?_ rfl) (by omega) (by omega)
            all_goals (try (repeat' (first | exact trivial | rfl | exact .inl rfl | exact .inr rfl | refine ⟨?_, ?_⟩)))
            · exact .inr (congrArg (fun x => some (Blk.fix (V.d x))) ((set_bit_U (by omega)).trans (congrArg U q1)))
            · exact .inr (congrArg (fun x => some (Blk.fix (V.d (U x)))) (by rw [q2]; omega))
  all_goals (try (repeat' (first | exact trivial | rfl | exact .inl rfl | exact .inr rfl | refine ⟨?_, ?_⟩)))
  · exact .inr (by rw [s1]; rfl)
  · exact .inr (by rw [s2])
end Go.Fw

/-
Contract of the reference's product. No conditions.
-/
namespace Go.Fw
set_option linter.unusedVariables false
set_option linter.unusedSimpArgs false
open Go.Proofs
set_option maxRecDepth 10000
set_option maxHeartbeats 2000000
theorem rer_MulU (a b : Nat) (ha : a < 115792089237316195423570985008687907853269984665640564039457584007913129639936) (hb : b < 115792089237316195423570985008687907853269984665640564039457584007913129639936) : Returns cx n_lightclientref02_Mul [U a, U b] (.tup [U (a * b / 115792089237316195423570985008687907853269984665640564039457584007913129639936), U (a * b % 115792089237316195423570985008687907853269984665640564039457584007913129639936)]) := by
  obtain ⟨l0, l1, l2, l3, l4, l5, l6, l7, ho, g0, g1, g2, g3, g4, g5, g6, g7, q1, q2⟩ := outN_four ha hb
  rw [q1, q2, ← u4_U g0 g1 g2 g3, ← u4_U g4 g5 g6 g7]
  clear q1 q2
  (refine of_W2 (fn := f_lightclientref02_Mul) {} (by kernel_rfl) (by kernel_rfl) (by kernel_rfl) (by kernel_rfl) (by kernel_rfl) ?_)
  ((try (conv => whnf)); (repeat ((first | (refine br_true ?_ ?_; (focus (exact yesA))) | (refine br_false ?_ ?_; (focus (exact noA))) | (refine onS_map ?_ ?_; (focus (exact numA))) | (refine onS_intro (eqTC_ints rfl rfl rfl rfl ?_) ?_; (focus (exact numA))) | refine onS_intro (mapB_u8s _) ?_ | (refine And.intro ?_ ?_; (focus (exact flatA)))); (try (conv => whnf)))))
  refine LoopW2_rule (fun i : Nat => [(2, .ptr 0 0 [] (.arr 4 .one)), (3, .ptr 1 0 [] (.arr 4 .one)), (4, .ptr 2 0 [] (.arr 4 .one)), (5, .ptr 3 0 [] (.arr 4 .one)), (6, .ptr 4 0 [] (.arr 8 .one)), (15, .d (.int .i64 (i : Nat)))])
    (fun i => [some (.fix (.d (U a))), some (.fix (.d (U b))), some (.fix (.d (U 0))), some (.fix (.d (U 0))), some (.fix (.d (.arr 8 .one ((outN a b i).map n64))))]) (fun i => i ≤ 4) (fun i => 4 - i) _ rfl 0 (Wk.go ?_ rfl ?_ rfl) (by omega) ?_
  rotate_left 2
  · rintro i K hi hK
    simp only at hi hK ⊢
    by_cases h4 : i = 4
    · subst h4
      rw [ho]
      ((try (conv => whnf)); (repeat ((first | (refine br_true ?_ ?_; (focus (exact yesA))) | (refine br_false ?_ ?_; (focus (exact noA))) | (refine onS_map ?_ ?_; (focus (exact numA))) | (refine onS_intro (eqTC_ints rfl rfl rfl rfl ?_) ?_; (focus (exact numA))) | refine onS_intro (mapB_u8s _) ?_ | (refine And.intro ?_ ?_; (focus (exact flatA)))); (try (conv => whnf)))))
      refine le_same ?_
      kernel_rfl
    have hx : wd a i < 18446744073709551616 := wd_lt a i
    have hw := outN_ok a b i
    have hin := fun j => inN_ok (b := b) (i := i) (ps := outN a b i) hx hw j
    ((try (conv => whnf)); (repeat ((first | (refine br_true ?_ ?_; (focus (exact yesA))) | (refine br_false ?_ ?_; (focus (exact noA))) | (refine onS_map ?_ ?_; (focus (exact numA))) | (refine onS_intro (eqTC_ints rfl rfl rfl rfl ?_) ?_; (focus (exact numA))) | refine onS_intro (mapB_u8s _) ?_ | (refine And.intro ?_ ?_; (focus (exact flatA)))); (try (conv => whnf)))))
    refine LoopW2_rule (fun j : Nat => [(2, .ptr 0 0 [] (.arr 4 .one)), (3, .ptr 1 0 [] (.arr 4 .one)), (4, .ptr 2 0 [] (.arr 4 .one)), (5, .ptr 3 0 [] (.arr 4 .one)), (6, .ptr 4 0 [] (.arr 8 .one)), (7, .d (.int .i64 (i : Nat))), (8, .d (n64 (inN (wd a i) b i (outN a b i) j).2)), (15, .d (.int .i64 (i : Nat))), (18, .d (.int .i64 (j : Nat)))])
      (fun j => [some (.fix (.d (U a))), some (.fix (.d (U b))), some (.fix (.d (U 0))), some (.fix (.d (U 0))), some (.fix (.d (.arr 8 .one ((inN (wd a i) b i (outN a b i) j).1.map n64))))]) (fun j => j ≤ 4) (fun j => 4 - j) _ rfl 0 (Wk.go ?_ rfl ?_ rfl) (by omega) ?_
    rotate_left 2
    · rintro j K' hj hK'
      try simp only at hj hK' ⊢
      obtain ⟨⟨hl, _⟩, hc⟩ := hin j
      by_cases hj4 : j = 4
      · subst hj4
        ((try (conv => whnf)); (repeat ((first | (refine br_true ?_ ?_; (focus (exact yesA))) | (refine br_false ?_ ?_; (focus (exact noA))) | (refine onS_map ?_ ?_; (focus (exact numA))) | (refine onS_intro (eqTC_ints rfl rfl rfl rfl ?_) ?_; (focus (exact numA))) | refine onS_intro (mapB_u8s _) ?_ | (refine And.intro ?_ ?_; (focus (exact flatA)))); (try (conv => whnf)))))
        refine hK (i + 1) _ _ rfl (Wk.go ?_ rfl ?_ rfl) (by omega) (by omega)
        all_goals (try (repeat' (first | exact trivial | rfl | exact .inl rfl | exact .inr rfl | refine ⟨?_, ?_⟩)))
        refine .inr (congrArg (fun x => some (Blk.fix (V.d x))) ?_)
        exact wordsD_set (by omega)
      have hv := (hin j).1.get (i + j)
      have hm := (mac_all hx (wd_lt b j) hv hc).1
      have es2 : inN (wd a i) b i (outN a b i) (j + 1) = ((inN (wd a i) b i (outN a b i) j).1.set (i + j) (macl (wd a i) (wd b j) ((inN (wd a i) b i (outN a b i) j).1.getD (i + j) default) (inN (wd a i) b i (outN a b i) j).2), mach (wd a i) (wd b j) ((inN (wd a i) b i (outN a b i) j).1.getD (i + j) default) (inN (wd a i) b i (outN a b i) j).2) := rfl
      ((try (conv => whnf)); (repeat ((first | (refine br_true ?_ ?_; (focus (exact yesA))) | (refine br_false ?_ ?_; (focus (exact noA))) | (refine onS_map ?_ ?_; (focus (exact numA))) | (refine onS_intro (eqTC_ints rfl rfl rfl rfl ?_) ?_; (focus (exact numA))) | refine onS_intro (mapB_u8s _) ?_ | (refine And.intro ?_ ?_; (focus (exact flatA)))); (try (conv => whnf)))))
      refine onS_parts (by omega) ?_
      rw [Int.toNat_natCast]
      ((try (conv => whnf)); (repeat ((first | (refine br_true ?_ ?_; (focus (exact yesA))) | (refine br_false ?_ ?_; (focus (exact noA))) | (refine onS_map ?_ ?_; (focus (exact numA))) | (refine onS_intro (eqTC_ints rfl rfl rfl rfl ?_) ?_; (focus (exact numA))) | refine onS_intro (mapB_u8s _) ?_ | (refine And.intro ?_ ?_; (focus (exact flatA)))); (try (conv => whnf)))))
      refine onS_parts (by omega) ?_
      rw [Int.toNat_natCast]
      have hy := wd_lt b j
      generalize hps : (inN (wd a i) b i (outN a b i) j).1 = ps at *
      generalize hcc : (inN (wd a i) b i (outN a b i) j).2 = c at *
      generalize wd b j = y at *
      generalize wd a i = x at *
      ((try (conv => whnf)); (repeat ((first | (refine br_true ?_ ?_; (focus (exact yesA))) | (refine br_false ?_ ?_; (focus (exact noA))) | (refine onS_map ?_ ?_; (focus (exact numA))) | (refine onS_intro (eqTC_ints rfl rfl rfl rfl ?_) ?_; (focus (exact numA))) | refine onS_intro (mapB_u8s _) ?_ | (refine And.intro ?_ ?_; (focus (exact flatA)))); (try (conv => whnf)))))
      ((first | refine call_intro (ret_Mul64 x y hx hy) (les_refl _) ?_ | refine call_intro (ret_Mul64 x y hx hy) lesA ?_); (try (conv => whnf)))
      ((try (conv => whnf)); (repeat ((first | (refine br_true ?_ ?_; (focus (exact yesA))) | (refine br_false ?_ ?_; (focus (exact noA))) | (refine onS_map ?_ ?_; (focus (exact numA))) | (refine onS_intro (eqTC_ints rfl rfl rfl rfl ?_) ?_; (focus (exact numA))) | refine onS_intro (mapB_u8s _) ?_ | (refine And.intro ?_ ?_; (focus (exact flatA)))); (try (conv => whnf)))))
      have ev : ((i : Int) + (j : Int)).toNat = i + j := by omega
      rw [ev]
      generalize hvv : ps.getD (i + j) default = v at *
      ((first | refine call_intro (rer_add0 (x * y % 18446744073709551616) v) (les_refl _) ?_ | refine call_intro (rer_add0 (x * y % 18446744073709551616) v) lesA ?_); (try (conv => whnf)))
      ((try (conv => whnf)); (repeat ((first | (refine br_true ?_ ?_; (focus (exact yesA))) | (refine br_false ?_ ?_; (focus (exact noA))) | (refine onS_map ?_ ?_; (focus (exact numA))) | (refine onS_intro (eqTC_ints rfl rfl rfl rfl ?_) ?_; (focus (exact numA))) | refine onS_intro (mapB_u8s _) ?_ | (refine And.intro ?_ ?_; (focus (exact flatA)))); (try (conv => whnf)))))
      ((first | refine call_intro (ret_Add64' (sm (x * y % 18446744073709551616) v 0) c 0 (by omega)) (les_refl _) ?_ | refine call_intro (ret_Add64' (sm (x * y % 18446744073709551616) v 0) c 0 (by omega)) lesA ?_); (try (conv => whnf)))
      ((try (conv => whnf)); (repeat ((first | (refine br_true ?_ ?_; (focus (exact yesA))) | (refine br_false ?_ ?_; (focus (exact noA))) | (refine onS_map ?_ ?_; (focus (exact numA))) | (refine onS_intro (eqTC_ints rfl rfl rfl rfl ?_) ?_; (focus (exact numA))) | refine onS_intro (mapB_u8s _) ?_ | (refine And.intro ?_ ?_; (focus (exact flatA)))); (try (conv => whnf)))))
      rw [hm, ev]
      refine hK' (j + 1) _ _ rfl (Wk.go ?_ rfl ?_ rfl) (by omega) (by omega)
      all_goals (try rw [es2])
      all_goals (try (repeat' (first | exact trivial | rfl | exact .inl rfl | exact .inr rfl | refine ⟨?_, ?_⟩)))
      refine .inr (congrArg (fun x => some (Blk.fix (V.d x))) ?_)
      exact wordsD_set rfl
    all_goals (try (repeat' (first | exact trivial | rfl | exact .inl rfl | exact .inr rfl | refine ⟨?_, ?_⟩)))
  all_goals (try (repeat' (first | exact trivial | rfl | exact .inl rfl | exact .inr rfl | refine ⟨?_, ?_⟩)))
end Go.Fw

/-
Contracts of numbers modulo others, of the reference. No conditions.
-/
namespace Go.Fw
set_option linter.unusedVariables false
set_option linter.unusedSimpArgs false
open Go.Proofs
set_option maxRecDepth 10000
set_option maxHeartbeats 1000000
theorem rer_reduce (a m : Nat) (ha : a < 115792089237316195423570985008687907853269984665640564039457584007913129639936) (hm : m < 115792089237316195423570985008687907853269984665640564039457584007913129639936) (h0 : 0 < m) : Returns cx n_lightclientref02_reduce [U a, U m] (U (modN a m)) := by
  (refine of_W2 (fn := f_lightclientref02_reduce) {} (by kernel_rfl) (by kernel_rfl) (by kernel_rfl) (by kernel_rfl) (by kernel_rfl) ?_)
  rw [modN_pos h0]
  ((try (conv => whnf)); (repeat ((first | (refine br_true ?_ ?_; (focus (exact yesA))) | (refine br_false ?_ ?_; (focus (exact noA))) | (refine onS_map ?_ ?_; (focus (exact numA))) | (refine onS_intro (eqTC_ints rfl rfl rfl rfl ?_) ?_; (focus (exact numA))) | refine onS_intro (mapB_u8s _) ?_ | (refine And.intro ?_ ?_; (focus (exact flatA)))); (try (conv => whnf)))))
  ((first | refine call_intro (rer_Div_ok 0 a m (by decide) ha hm h0) (les_refl _) ?_ | refine call_intro (rer_Div_ok 0 a m (by decide) ha hm h0) lesA ?_); (try (conv => whnf)))
  rw [Nat.zero_mul, Nat.zero_add]
  ((try (conv => whnf)); (repeat ((first | (refine br_true ?_ ?_; (focus (exact yesA))) | (refine br_false ?_ ?_; (focus (exact noA))) | (refine onS_map ?_ ?_; (focus (exact numA))) | (refine onS_intro (eqTC_ints rfl rfl rfl rfl ?_) ?_; (focus (exact numA))) | refine onS_intro (mapB_u8s _) ?_ | (refine And.intro ?_ ?_; (focus (exact flatA)))); (try (conv => whnf)))))
  exact D.le.refl _
theorem rer_AddMod (a b m : Nat) (ha : a < 115792089237316195423570985008687907853269984665640564039457584007913129639936) (hb : b < 115792089237316195423570985008687907853269984665640564039457584007913129639936) (hm : m < 115792089237316195423570985008687907853269984665640564039457584007913129639936) : Returns cx n_lightclientref02_AddMod [U a, U b, U m] (U (modN (a + b) m)) := by
  have hx := modN_256 (a := a) hm
  have hy := modN_256 (a := b) hm
  (refine of_W2 (fn := f_lightclientref02_AddMod) { vis := [(3, [(0, true, [0]), (1, true, [2]), (3, true, [1]), (4, true, [2]), (6, true, [0]), (7, true, [1])])] } (by kernel_rfl) (by kernel_rfl) (by kernel_rfl) (by kernel_rfl) (by kernel_rfl) ?_)
  ((try (conv => whnf)); (repeat ((first | (refine br_true ?_ ?_; (focus (exact yesA))) | (refine br_false ?_ ?_; (focus (exact noA))) | (refine onS_map ?_ ?_; (focus (exact numA))) | (refine onS_intro (eqTC_ints rfl rfl rfl rfl ?_) ?_; (focus (exact numA))) | refine onS_intro (mapB_u8s _) ?_ | (refine And.intro ?_ ?_; (focus (exact flatA)))); (try (conv => whnf)))))
  ((first | refine call_intro (rer_Zero m hm) (les_refl _) ?_ | refine call_intro (rer_Zero m hm) lesA ?_); (try (conv => whnf)))
  by_cases h : m = 0
  · ((try (conv => whnf)); (repeat ((first | (refine br_true ?_ ?_; (focus (exact yesA))) | (refine br_false ?_ ?_; (focus (exact noA))) | (refine onS_map ?_ ?_; (focus (exact numA))) | (refine onS_intro (eqTC_ints rfl rfl rfl rfl ?_) ?_; (focus (exact numA))) | refine onS_intro (mapB_u8s _) ?_ | (refine And.intro ?_ ?_; (focus (exact flatA)))); (try (conv => whnf)))))
    subst h
    exact D.le.refl _
  have h0 : 0 < m := by omega
  have h1 := modN_lt (a := a) h0
  have h2 := modN_lt (a := b) h0
  have h3 : modN (a + b) m = if m ≤ modN a m + modN b m then modN a m + modN b m - m else modN a m + modN b m := by
    rw [modN_pos h0, modN_pos h0, modN_pos h0]
    exact add_mod_if h0
  ((try (conv => whnf)); (repeat ((first | (refine br_true ?_ ?_; (focus (exact yesA))) | (refine br_false ?_ ?_; (focus (exact noA))) | (refine onS_map ?_ ?_; (focus (exact numA))) | (refine onS_intro (eqTC_ints rfl rfl rfl rfl ?_) ?_; (focus (exact numA))) | refine onS_intro (mapB_u8s _) ?_ | (refine And.intro ?_ ?_; (focus (exact flatA)))); (try (conv => whnf)))))
  ((first | refine call_intro (rer_reduce a m ha hm h0) (les_refl _) ?_ | refine call_intro (rer_reduce a m ha hm h0) lesA ?_); (try (conv => whnf)))
  ((try (conv => whnf)); (repeat ((first | (refine br_true ?_ ?_; (focus (exact yesA))) | (refine br_false ?_ ?_; (focus (exact noA))) | (refine onS_map ?_ ?_; (focus (exact numA))) | (refine onS_intro (eqTC_ints rfl rfl rfl rfl ?_) ?_; (focus (exact numA))) | refine onS_intro (mapB_u8s _) ?_ | (refine And.intro ?_ ?_; (focus (exact flatA)))); (try (conv => whnf)))))
  ((first | refine call_intro (rer_reduce b m hb hm h0) (les_refl _) ?_ | refine call_intro (rer_reduce b m hb hm h0) lesA ?_); (try (conv => whnf)))
  generalize modN a m = x at *
  generalize modN b m = y at *
  generalize modN (a + b) m = z at *
  ((try (conv => whnf)); (repeat ((first | (refine br_true ?_ ?_; (focus (exact yesA))) | (refine br_false ?_ ?_; (focus (exact noA))) | (refine onS_map ?_ ?_; (focus (exact numA))) | (refine onS_intro (eqTC_ints rfl rfl rfl rfl ?_) ?_; (focus (exact numA))) | refine onS_intro (mapB_u8s _) ?_ | (refine And.intro ?_ ?_; (focus (exact flatA)))); (try (conv => whnf)))))
  ((first | refine call_intro (rer_AddU x y hx hy) (les_refl _) ?_ | refine call_intro (rer_AddU x y hx hy) lesA ?_); (try (conv => whnf)))
  by_cases hB : 115792089237316195423570985008687907853269984665640564039457584007913129639936 ≤ x + y
  · rw [if_pos (by omega)] at h3
    ((try (conv => whnf)); (repeat ((first | (refine br_true ?_ ?_; (focus (exact yesA))) | (refine br_false ?_ ?_; (focus (exact noA))) | (refine onS_map ?_ ?_; (focus (exact numA))) | (refine onS_intro (eqTC_ints rfl rfl rfl rfl ?_) ?_; (focus (exact numA))) | refine onS_intro (mapB_u8s _) ?_ | (refine And.intro ?_ ?_; (focus (exact flatA)))); (try (conv => whnf)))))
    ((first | refine call_intro (rer_SubU ((x + y) % 115792089237316195423570985008687907853269984665640564039457584007913129639936) m (Nat.mod_lt _ (by decide)) hm) (les_refl _) ?_ | refine call_intro (rer_SubU ((x + y) % 115792089237316195423570985008687907853269984665640564039457584007913129639936) m (Nat.mod_lt _ (by decide)) hm) lesA ?_); (try (conv => whnf)))
    ((try (conv => whnf)); (repeat ((first | (refine br_true ?_ ?_; (focus (exact yesA))) | (refine br_false ?_ ?_; (focus (exact noA))) | (refine onS_map ?_ ?_; (focus (exact numA))) | (refine onS_intro (eqTC_ints rfl rfl rfl rfl ?_) ?_; (focus (exact numA))) | refine onS_intro (mapB_u8s _) ?_ | (refine And.intro ?_ ?_; (focus (exact flatA)))); (try (conv => whnf)))))
    rw [show ((x + y) % 115792089237316195423570985008687907853269984665640564039457584007913129639936 + 115792089237316195423570985008687907853269984665640564039457584007913129639936 - m) % 115792089237316195423570985008687907853269984665640564039457584007913129639936 = z by omega]
    exact D.le.refl _
  · rw [Nat.mod_eq_of_lt (show x + y < 115792089237316195423570985008687907853269984665640564039457584007913129639936 by omega)]
    by_cases hc : x + y < m
    · have hc2 : cmpN (x + y) m < 0 := by unfold cmpN; rw [if_pos hc]; decide
      rw [if_neg (by omega)] at h3
      ((try (conv => whnf)); (repeat ((first | (refine br_true ?_ ?_; (focus (exact yesA))) | (refine br_false ?_ ?_; (focus (exact noA))) | (refine onS_map ?_ ?_; (focus (exact numA))) | (refine onS_intro (eqTC_ints rfl rfl rfl rfl ?_) ?_; (focus (exact numA))) | refine onS_intro (mapB_u8s _) ?_ | (refine And.intro ?_ ?_; (focus (exact flatA)))); (try (conv => whnf)))))
      ((first | refine call_intro (rer_CmpU (x + y) m (by omega) hm) (les_refl _) ?_ | refine call_intro (rer_CmpU (x + y) m (by omega) hm) lesA ?_); (try (conv => whnf)))
      ((try (conv => whnf)); (repeat ((first | (refine br_true ?_ ?_; (focus (exact yesA))) | (refine br_false ?_ ?_; (focus (exact noA))) | (refine onS_map ?_ ?_; (focus (exact numA))) | (refine onS_intro (eqTC_ints rfl rfl rfl rfl ?_) ?_; (focus (exact numA))) | refine onS_intro (mapB_u8s _) ?_ | (refine And.intro ?_ ?_; (focus (exact flatA)))); (try (conv => whnf)))))
      rw [← h3]
      exact D.le.refl _
    · have hc2 : 0 ≤ cmpN (x + y) m := by unfold cmpN; rw [if_neg hc]; split <;> decide
      rw [if_pos (by omega)] at h3
      ((try (conv => whnf)); (repeat ((first | (refine br_true ?_ ?_; (focus (exact yesA))) | (refine br_false ?_ ?_; (focus (exact noA))) | (refine onS_map ?_ ?_; (focus (exact numA))) | (refine onS_intro (eqTC_ints rfl rfl rfl rfl ?_) ?_; (focus (exact numA))) | refine onS_intro (mapB_u8s _) ?_ | (refine And.intro ?_ ?_; (focus (exact flatA)))); (try (conv => whnf)))))
      ((first | refine call_intro (rer_CmpU (x + y) m (by omega) hm) (les_refl _) ?_ | refine call_intro (rer_CmpU (x + y) m (by omega) hm) lesA ?_); (try (conv => whnf)))
      ((try (conv => whnf)); (repeat ((first | (refine br_true ?_ ?_; (focus (exact yesA))) | (refine br_false ?_ ?_; (focus (exact noA))) | (refine onS_map ?_ ?_; (focus (exact numA))) | (refine onS_intro (eqTC_ints rfl rfl rfl rfl ?_) ?_; (focus (exact numA))) | refine onS_intro (mapB_u8s _) ?_ | (refine And.intro ?_ ?_; (focus (exact flatA)))); (try (conv => whnf)))))
      ((first | refine call_intro (rer_SubU (x + y) m (by omega) hm) (les_refl _) ?_ | refine call_intro (rer_SubU (x + y) m (by omega) hm) lesA ?_); (try (conv => whnf)))
      ((try (conv => whnf)); (repeat ((first | (refine br_true ?_ ?_; (focus (exact yesA))) | (refine br_false ?_ ?_; (focus (exact noA))) | (refine onS_map ?_ ?_; (focus (exact numA))) | (refine onS_intro (eqTC_ints rfl rfl rfl rfl ?_) ?_; (focus (exact numA))) | refine onS_intro (mapB_u8s _) ?_ | (refine And.intro ?_ ?_; (focus (exact flatA)))); (try (conv => whnf)))))
      rw [show (x + y + 115792089237316195423570985008687907853269984665640564039457584007913129639936 - m) % 115792089237316195423570985008687907853269984665640564039457584007913129639936 = z by omega]
      exact D.le.refl _
theorem rer_SubMod (a b m : Nat) (ha : a < 115792089237316195423570985008687907853269984665640564039457584007913129639936) (hb : b < 115792089237316195423570985008687907853269984665640564039457584007913129639936) (hm : m < 115792089237316195423570985008687907853269984665640564039457584007913129639936) : Returns cx n_lightclientref02_SubMod [U a, U b, U m] (U (subN a b m)) := by
  have hx := modN_256 (a := a) hm
  have hy := modN_256 (a := b) hm
  (refine of_W2 (fn := f_lightclientref02_SubMod) { vis := [(3, [(0, true, [0]), (1, true, [2]), (3, true, [1]), (4, true, [2]), (6, true, [0]), (7, true, [1])])] } (by kernel_rfl) (by kernel_rfl) (by kernel_rfl) (by kernel_rfl) (by kernel_rfl) ?_)
  ((try (conv => whnf)); (repeat ((first | (refine br_true ?_ ?_; (focus (exact yesA))) | (refine br_false ?_ ?_; (focus (exact noA))) | (refine onS_map ?_ ?_; (focus (exact numA))) | (refine onS_intro (eqTC_ints rfl rfl rfl rfl ?_) ?_; (focus (exact numA))) | refine onS_intro (mapB_u8s _) ?_ | (refine And.intro ?_ ?_; (focus (exact flatA)))); (try (conv => whnf)))))
  ((first | refine call_intro (rer_Zero m hm) (les_refl _) ?_ | refine call_intro (rer_Zero m hm) lesA ?_); (try (conv => whnf)))
  by_cases h : m = 0
  · ((try (conv => whnf)); (repeat ((first | (refine br_true ?_ ?_; (focus (exact yesA))) | (refine br_false ?_ ?_; (focus (exact noA))) | (refine onS_map ?_ ?_; (focus (exact numA))) | (refine onS_intro (eqTC_ints rfl rfl rfl rfl ?_) ?_; (focus (exact numA))) | refine onS_intro (mapB_u8s _) ?_ | (refine And.intro ?_ ?_; (focus (exact flatA)))); (try (conv => whnf)))))
    subst h
    exact D.le.refl _
  have h0 : 0 < m := by omega
  have h1 := modN_lt (a := a) h0
  have h2 := modN_lt (a := b) h0
  have h3 : subN a b m = if modN a m < modN b m then modN a m + m - modN b m else modN a m - modN b m := by
    rw [modN_pos h0, modN_pos h0]
    exact subN_if h0
  ((try (conv => whnf)); (repeat ((first | (refine br_true ?_ ?_; (focus (exact yesA))) | (refine br_false ?_ ?_; (focus (exact noA))) | (refine onS_map ?_ ?_; (focus (exact numA))) | (refine onS_intro (eqTC_ints rfl rfl rfl rfl ?_) ?_; (focus (exact numA))) | refine onS_intro (mapB_u8s _) ?_ | (refine And.intro ?_ ?_; (focus (exact flatA)))); (try (conv => whnf)))))
  ((first | refine call_intro (rer_reduce a m ha hm h0) (les_refl _) ?_ | refine call_intro (rer_reduce a m ha hm h0) lesA ?_); (try (conv => whnf)))
  ((try (conv => whnf)); (repeat ((first | (refine br_true ?_ ?_; (focus (exact yesA))) | (refine br_false ?_ ?_; (focus (exact noA))) | (refine onS_map ?_ ?_; (focus (exact numA))) | (refine onS_intro (eqTC_ints rfl rfl rfl rfl ?_) ?_; (focus (exact numA))) | refine onS_intro (mapB_u8s _) ?_ | (refine And.intro ?_ ?_; (focus (exact flatA)))); (try (conv => whnf)))))
  ((first | refine call_intro (rer_reduce b m hb hm h0) (les_refl _) ?_ | refine call_intro (rer_reduce b m hb hm h0) lesA ?_); (try (conv => whnf)))
  generalize modN a m = x at *
  generalize modN b m = y at *
  generalize subN a b m = z at *
  ((try (conv => whnf)); (repeat ((first | (refine br_true ?_ ?_; (focus (exact yesA))) | (refine br_false ?_ ?_; (focus (exact noA))) | (refine onS_map ?_ ?_; (focus (exact numA))) | (refine onS_intro (eqTC_ints rfl rfl rfl rfl ?_) ?_; (focus (exact numA))) | refine onS_intro (mapB_u8s _) ?_ | (refine And.intro ?_ ?_; (focus (exact flatA)))); (try (conv => whnf)))))
  ((first | refine call_intro (rer_SubU x y hx hy) (les_refl _) ?_ | refine call_intro (rer_SubU x y hx hy) lesA ?_); (try (conv => whnf)))
  by_cases hB : x < y
  · rw [if_pos hB] at h3
    ((try (conv => whnf)); (repeat ((first | (refine br_true ?_ ?_; (focus (exact yesA))) | (refine br_false ?_ ?_; (focus (exact noA))) | (refine onS_map ?_ ?_; (focus (exact numA))) | (refine onS_intro (eqTC_ints rfl rfl rfl rfl ?_) ?_; (focus (exact numA))) | refine onS_intro (mapB_u8s _) ?_ | (refine And.intro ?_ ?_; (focus (exact flatA)))); (try (conv => whnf)))))
    ((first | refine call_intro (rer_AddU ((x + 115792089237316195423570985008687907853269984665640564039457584007913129639936 - y) % 115792089237316195423570985008687907853269984665640564039457584007913129639936) m (Nat.mod_lt _ (by decide)) hm) (les_refl _) ?_ | refine call_intro (rer_AddU ((x + 115792089237316195423570985008687907853269984665640564039457584007913129639936 - y) % 115792089237316195423570985008687907853269984665640564039457584007913129639936) m (Nat.mod_lt _ (by decide)) hm) lesA ?_); (try (conv => whnf)))
    ((try (conv => whnf)); (repeat ((first | (refine br_true ?_ ?_; (focus (exact yesA))) | (refine br_false ?_ ?_; (focus (exact noA))) | (refine onS_map ?_ ?_; (focus (exact numA))) | (refine onS_intro (eqTC_ints rfl rfl rfl rfl ?_) ?_; (focus (exact numA))) | refine onS_intro (mapB_u8s _) ?_ | (refine And.intro ?_ ?_; (focus (exact flatA)))); (try (conv => whnf)))))
    rw [show ((x + 115792089237316195423570985008687907853269984665640564039457584007913129639936 - y) % 115792089237316195423570985008687907853269984665640564039457584007913129639936 + m) % 115792089237316195423570985008687907853269984665640564039457584007913129639936 = z by omega]
    exact D.le.refl _
  · rw [if_neg hB] at h3
    rw [show (x + 115792089237316195423570985008687907853269984665640564039457584007913129639936 - y) % 115792089237316195423570985008687907853269984665640564039457584007913129639936 = z by omega]
    ((try (conv => whnf)); (repeat ((first | (refine br_true ?_ ?_; (focus (exact yesA))) | (refine br_false ?_ ?_; (focus (exact noA))) | (refine onS_map ?_ ?_; (focus (exact numA))) | (refine onS_intro (eqTC_ints rfl rfl rfl rfl ?_) ?_; (focus (exact numA))) | refine onS_intro (mapB_u8s _) ?_ | (refine And.intro ?_ ?_; (focus (exact flatA)))); (try (conv => whnf)))))
    exact D.le.refl _
theorem rer_MulMod (a b m : Nat) (ha : a < 115792089237316195423570985008687907853269984665640564039457584007913129639936) (hb : b < 115792089237316195423570985008687907853269984665640564039457584007913129639936) (hm : m < 115792089237316195423570985008687907853269984665640564039457584007913129639936) : Returns cx n_lightclientref02_MulMod [U a, U b, U m] (U (modN (a * b) m)) := by
  have hx := modN_256 (a := a) hm
  have hy := modN_256 (a := b) hm
  have hmm := modN_mul a b m
  rw [← hmm]
  clear hmm
  (refine of_W2 (fn := f_lightclientref02_MulMod) {} (by kernel_rfl) (by kernel_rfl) (by kernel_rfl) (by kernel_rfl) (by kernel_rfl) ?_)
  ((try (conv => whnf)); (repeat ((first | (refine br_true ?_ ?_; (focus (exact yesA))) | (refine br_false ?_ ?_; (focus (exact noA))) | (refine onS_map ?_ ?_; (focus (exact numA))) | (refine onS_intro (eqTC_ints rfl rfl rfl rfl ?_) ?_; (focus (exact numA))) | refine onS_intro (mapB_u8s _) ?_ | (refine And.intro ?_ ?_; (focus (exact flatA)))); (try (conv => whnf)))))
  ((first | refine call_intro (rer_Zero m hm) (les_refl _) ?_ | refine call_intro (rer_Zero m hm) lesA ?_); (try (conv => whnf)))
  by_cases h : m = 0
  · ((try (conv => whnf)); (repeat ((first | (refine br_true ?_ ?_; (focus (exact yesA))) | (refine br_false ?_ ?_; (focus (exact noA))) | (refine onS_map ?_ ?_; (focus (exact numA))) | (refine onS_intro (eqTC_ints rfl rfl rfl rfl ?_) ?_; (focus (exact numA))) | refine onS_intro (mapB_u8s _) ?_ | (refine And.intro ?_ ?_; (focus (exact flatA)))); (try (conv => whnf)))))
    subst h
    exact D.le.refl _
  have h0 : 0 < m := by omega
  have h1 := modN_lt (a := a) h0
  have h2 := modN_lt (a := b) h0
  ((try (conv => whnf)); (repeat ((first | (refine br_true ?_ ?_; (focus (exact yesA))) | (refine br_false ?_ ?_; (focus (exact noA))) | (refine onS_map ?_ ?_; (focus (exact numA))) | (refine onS_intro (eqTC_ints rfl rfl rfl rfl ?_) ?_; (focus (exact numA))) | refine onS_intro (mapB_u8s _) ?_ | (refine And.intro ?_ ?_; (focus (exact flatA)))); (try (conv => whnf)))))
  ((first | refine call_intro (rer_reduce a m ha hm h0) (les_refl _) ?_ | refine call_intro (rer_reduce a m ha hm h0) lesA ?_); (try (conv => whnf)))
  ((try (conv => whnf)); (repeat ((first | (refine br_true ?_ ?_; (focus (exact yesA))) | (refine br_false ?_ ?_; (focus (exact noA))) | (refine onS_map ?_ ?_; (focus (exact numA))) | (refine onS_intro (eqTC_ints rfl rfl rfl rfl ?_) ?_; (focus (exact numA))) | refine onS_intro (mapB_u8s _) ?_ | (refine And.intro ?_ ?_; (focus (exact flatA)))); (try (conv => whnf)))))
  ((first | refine call_intro (rer_reduce b m hb hm h0) (les_refl _) ?_ | refine call_intro (rer_reduce b m hb hm h0) lesA ?_); (try (conv => whnf)))
  generalize modN a m = x at *
  generalize modN b m = y at *
  ((try (conv => whnf)); (repeat ((first | (refine br_true ?_ ?_; (focus (exact yesA))) | (refine br_false ?_ ?_; (focus (exact noA))) | (refine onS_map ?_ ?_; (focus (exact numA))) | (refine onS_intro (eqTC_ints rfl rfl rfl rfl ?_) ?_; (focus (exact numA))) | refine onS_intro (mapB_u8s _) ?_ | (refine And.intro ?_ ?_; (focus (exact flatA)))); (try (conv => whnf)))))
  ((first | refine call_intro (rer_MulU x y hx hy) (les_refl _) ?_ | refine call_intro (rer_MulU x y hx hy) lesA ?_); (try (conv => whnf)))
  ((try (conv => whnf)); (repeat ((first | (refine br_true ?_ ?_; (focus (exact yesA))) | (refine br_false ?_ ?_; (focus (exact noA))) | (refine onS_map ?_ ?_; (focus (exact numA))) | (refine onS_intro (eqTC_ints rfl rfl rfl rfl ?_) ?_; (focus (exact numA))) | refine onS_intro (mapB_u8s _) ?_ | (refine And.intro ?_ ?_; (focus (exact flatA)))); (try (conv => whnf)))))
  ((first | refine call_intro (rer_Div_ok (x * y / 115792089237316195423570985008687907853269984665640564039457584007913129639936) (x * y % 115792089237316195423570985008687907853269984665640564039457584007913129639936) m (mul_lt256 hx hy) (Nat.mod_lt _ (by decide)) hm (mul_hi h1 h2 hm)) (les_refl _) ?_ | refine call_intro (rer_Div_ok (x * y / 115792089237316195423570985008687907853269984665640564039457584007913129639936) (x * y % 115792089237316195423570985008687907853269984665640564039457584007913129639936) m (mul_lt256 hx hy) (Nat.mod_lt _ (by decide)) hm (mul_hi h1 h2 hm)) lesA ?_); (try (conv => whnf)))
  rw [two_halves, ← modN_pos (a := x * y) h0]
  ((try (conv => whnf)); (repeat ((first | (refine br_true ?_ ?_; (focus (exact yesA))) | (refine br_false ?_ ?_; (focus (exact noA))) | (refine onS_map ?_ ?_; (focus (exact numA))) | (refine onS_intro (eqTC_ints rfl rfl rfl rfl ?_) ?_; (focus (exact numA))) | refine onS_intro (mapB_u8s _) ?_ | (refine And.intro ?_ ?_; (focus (exact flatA)))); (try (conv => whnf)))))
  exact D.le.refl _
end Go.Fw

/-
Contracts of powers modulo numbers, of the program and of the reference. No conditions.
-/
namespace Go.Fw
set_option linter.unusedVariables false
set_option linter.unusedSimpArgs false
open Go.Proofs
set_option maxRecDepth 10000
set_option maxHeartbeats 1000000
theorem pw1 (a n : Nat) : a ^ n * a = a ^ (n + 1) := by rw [Nat.pow_add, Nat.pow_one]
theorem pow_next {a e m j : Nat} : modN (modN (a ^ (e / 2 ^ (j + 1))) m * modN (a ^ (e / 2 ^ (j + 1))) m) m = modN (a ^ (2 * (e / 2 ^ (j + 1)))) m := by
  rw [modN_mul, ← Nat.pow_add]
  congr 2
  omega
theorem pow_start {a e m : Nat} : modN (a ^ (e / 2 ^ nlen e)) m = modN 1 m := by
  rw [Nat.div_eq_of_lt (nlen_lt e), Nat.pow_zero]
theorem ret_ExpMod (a e m : Nat) (ha : a < 115792089237316195423570985008687907853269984665640564039457584007913129639936) (he : e < 115792089237316195423570985008687907853269984665640564039457584007913129639936) (hm : m < 115792089237316195423570985008687907853269984665640564039457584007913129639936) : Returns cx n_wide_ExpMod [U a, U e, U m] (U (modN (a ^ e) m)) := by
  have hst := pow_start (a := a) (e := e) (m := m)
  have hl : nlen e ≤ 256 := nlen_iff.2 he
  (refine of_W2 (fn := f_wide_ExpMod) {} (by kernel_rfl) (by kernel_rfl) (by kernel_rfl) (by kernel_rfl) (by kernel_rfl) ?_)
  ((try (conv => whnf)); (repeat ((first | (refine br_true ?_ ?_; (focus (exact yesA))) | (refine br_false ?_ ?_; (focus (exact noA))) | (refine onS_map ?_ ?_; (focus (exact numA))) | (refine onS_intro (eqTC_ints rfl rfl rfl rfl ?_) ?_; (focus (exact numA))) | refine onS_intro (mapB_u8s _) ?_ | (refine And.intro ?_ ?_; (focus (exact flatA)))); (try (conv => whnf)))))
  ((first | refine call_intro (ret_FromUintU 1 (by decide)) (les_refl _) ?_ | refine call_intro (ret_FromUintU 1 (by decide)) lesA ?_); (try (conv => whnf)))
  ((try (conv => whnf)); (repeat ((first | (refine br_true ?_ ?_; (focus (exact yesA))) | (refine br_false ?_ ?_; (focus (exact noA))) | (refine onS_map ?_ ?_; (focus (exact numA))) | (refine onS_intro (eqTC_ints rfl rfl rfl rfl ?_) ?_; (focus (exact numA))) | refine onS_intro (mapB_u8s _) ?_ | (refine And.intro ?_ ?_; (focus (exact flatA)))); (try (conv => whnf)))))
  ((first | refine call_intro (ret_mod 1 m (by decide) hm) (les_refl _) ?_ | refine call_intro (ret_mod 1 m (by decide) hm) lesA ?_); (try (conv => whnf)))
  ((try (conv => whnf)); (repeat ((first | (refine br_true ?_ ?_; (focus (exact yesA))) | (refine br_false ?_ ?_; (focus (exact noA))) | (refine onS_map ?_ ?_; (focus (exact numA))) | (refine onS_intro (eqTC_ints rfl rfl rfl rfl ?_) ?_; (focus (exact numA))) | refine onS_intro (mapB_u8s _) ?_ | (refine And.intro ?_ ?_; (focus (exact flatA)))); (try (conv => whnf)))))
  ((first | refine call_intro (ret_LenU e he) (les_refl _) ?_ | refine call_intro (ret_LenU e he) lesA ?_); (try (conv => whnf)))
  ((try (conv => whnf)); (repeat ((first | (refine br_true ?_ ?_; (focus (exact yesA))) | (refine br_false ?_ ?_; (focus (exact noA))) | (refine onS_map ?_ ?_; (focus (exact numA))) | (refine onS_intro (eqTC_ints rfl rfl rfl rfl ?_) ?_; (focus (exact numA))) | refine onS_intro (mapB_u8s _) ?_ | (refine And.intro ?_ ?_; (focus (exact flatA)))); (try (conv => whnf)))))
  refine LoopW2_rule (fun k : Nat => [(3, .ptr 0 0 [] (.arr 4 .one)), (4, .ptr 1 0 [] (.arr 4 .one)), (5, .ptr 2 0 [] (.arr 4 .one)), (6, .ptr 3 0 [] (.arr 4 .one)), (7, .ptr 4 0 [] (.arr 4 .one)), (8, .d (.int .i64 ((k : Int) - 1)))])
    (fun k : Nat => [some (.fix (.d (U a))), some (.fix (.d (U e))), some (.fix (.d (U m))), some (.fix (.d (U 0))), some (.fix (.d (U (modN (a ^ (e / 2 ^ k)) m))))]) (fun k => k ≤ 256) (fun k => k) _ rfl (nlen e) (Wk.go ?_ rfl ?_ rfl) hl ?_
  rotate_left 2
  · rintro k K hk hK
    simp only at hk hK ⊢
    cases k with
    | zero =>
      simp only [Nat.pow_zero, Nat.div_one]
      ((try (conv => whnf)); (repeat ((first | (refine br_true ?_ ?_; (focus (exact yesA))) | (refine br_false ?_ ?_; (focus (exact noA))) | (refine onS_map ?_ ?_; (focus (exact numA))) | (refine onS_intro (eqTC_ints rfl rfl rfl rfl ?_) ?_; (focus (exact numA))) | refine onS_intro (mapB_u8s _) ?_ | (refine And.intro ?_ ?_; (focus (exact flatA)))); (try (conv => whnf)))))
      exact D.le.refl _
    | succ j =>
      have ej : ((j + 1 : Nat) : Int) - 1 = (j : Int) := by omega
      have e1 : ((j : Int) / 64).toNat = j / 64 := by omega
      have e2 : ((j : Int) % 64).toNat = j % 64 := by omega
      have hn := pow_next (a := a) (e := e) (m := m) (j := j)
      have hx := modN_256 (a := a ^ (e / 2 ^ (j + 1))) hm
      have hd := div_next e j
      rw [ej]
      ((try (conv => whnf)); (repeat ((first | (refine br_true ?_ ?_; (focus (exact yesA))) | (refine br_false ?_ ?_; (focus (exact noA))) | (refine onS_map ?_ ?_; (focus (exact numA))) | (refine onS_intro (eqTC_ints rfl rfl rfl rfl ?_) ?_; (focus (exact numA))) | refine onS_intro (mapB_u8s _) ?_ | (refine And.intro ?_ ?_; (focus (exact flatA)))); (try (conv => whnf)))))
      ((first | refine call_intro (ret_MulMod _ _ m hx hx hm) (les_refl _) ?_ | refine call_intro (ret_MulMod _ _ m hx hx hm) lesA ?_); (try (conv => whnf)))
      rw [hn]
      ((try (conv => whnf)); (repeat ((first | (refine br_true ?_ ?_; (focus (exact yesA))) | (refine br_false ?_ ?_; (focus (exact noA))) | (refine onS_map ?_ ?_; (focus (exact numA))) | (refine onS_intro (eqTC_ints rfl rfl rfl rfl ?_) ?_; (focus (exact numA))) | refine onS_intro (mapB_u8s _) ?_ | (refine And.intro ?_ ?_; (focus (exact flatA)))); (try (conv => whnf)))))
      refine onS_parts (by omega) ?_
      ((try (conv => whnf)); (repeat ((first | (refine br_true ?_ ?_; (focus (exact yesA))) | (refine br_false ?_ ?_; (focus (exact noA))) | (refine onS_map ?_ ?_; (focus (exact numA))) | (refine onS_intro (eqTC_ints rfl rfl rfl rfl ?_) ?_; (focus (exact numA))) | refine onS_intro (mapB_u8s _) ?_ | (refine And.intro ?_ ?_; (focus (exact flatA)))); (try (conv => whnf)))))
      rw [e1, e2, bit_of (show j < 256 by omega)]
      have hy := modN_256 (a := a ^ (2 * (e / 2 ^ (j + 1)))) hm
      cases hb : e.testBit j with
      | false =>
        rw [hb] at hd
        simp only [Bool.toNat_false, Nat.add_zero] at hd ⊢
        ((try (conv => whnf)); (repeat ((first | (refine br_true ?_ ?_; (focus (exact yesA))) | (refine br_false ?_ ?_; (focus (exact noA))) | (refine onS_map ?_ ?_; (focus (exact numA))) | (refine onS_intro (eqTC_ints rfl rfl rfl rfl ?_) ?_; (focus (exact numA))) | refine onS_intro (mapB_u8s _) ?_ | (refine And.intro ?_ ?_; (focus (exact flatA)))); (try (conv => whnf)))))
        refine hK j _ _ rfl (Wk.go ?_ rfl ?_ rfl) (by omega) (by omega)
        all_goals (try (repeat' (first | exact trivial | rfl | exact .inl rfl | exact .inr rfl | refine ⟨?_, ?_⟩)))
        exact .inr (by rw [hd])
      | true =>
        rw [hb] at hd
        simp only [Bool.toNat_true] at hd ⊢
        ((try (conv => whnf)); (repeat ((first | (refine br_true ?_ ?_; (focus (exact yesA))) | (refine br_false ?_ ?_; (focus (exact noA))) | (refine onS_map ?_ ?_; (focus (exact numA))) | (refine onS_intro (eqTC_ints rfl rfl rfl rfl ?_) ?_; (focus (exact numA))) | refine onS_intro (mapB_u8s _) ?_ | (refine And.intro ?_ ?_; (focus (exact flatA)))); (try (conv => whnf)))))
        ((first | refine call_intro (ret_MulMod _ a m hy ha hm) (les_refl _) ?_ | refine call_intro (ret_MulMod _ a m hy ha hm) lesA ?_); (try (conv => whnf)))
        rw [modN_mul1, pw1, ← hd]
        ((try (conv => whnf)); (repeat ((first | (refine br_true ?_ ?_; (focus (exact yesA))) | (refine br_false ?_ ?_; (focus (exact noA))) | (refine onS_map ?_ ?_; (focus (exact numA))) | (refine onS_intro (eqTC_ints rfl rfl rfl rfl ?_) ?_; (focus (exact numA))) | refine onS_intro (mapB_u8s _) ?_ | (refine And.intro ?_ ?_; (focus (exact flatA)))); (try (conv => whnf)))))
        refine hK j _ _ rfl (Wk.go ?_ rfl ?_ rfl) (by omega) (by omega)
        all_goals (try (repeat' (first | exact trivial | rfl | exact .inl rfl | exact .inr rfl | refine ⟨?_, ?_⟩)))
  all_goals (try (repeat' (first | exact trivial | rfl | exact .inl rfl | exact .inr rfl | refine ⟨?_, ?_⟩)))
  exact .inr (by rw [hst])
theorem rer_ExpMod (a e m : Nat) (ha : a < 115792089237316195423570985008687907853269984665640564039457584007913129639936) (he : e < 115792089237316195423570985008687907853269984665640564039457584007913129639936) (hm : m < 115792089237316195423570985008687907853269984665640564039457584007913129639936) : Returns cx n_lightclientref02_ExpMod [U a, U e, U m] (U (modN (a ^ e) m)) := by
  have hst := pow_start (a := a) (e := e) (m := m)
  have hl : nlen e ≤ 256 := nlen_iff.2 he
  (refine of_W2 (fn := f_lightclientref02_ExpMod) {} (by kernel_rfl) (by kernel_rfl) (by kernel_rfl) (by kernel_rfl) (by kernel_rfl) ?_)
  ((try (conv => whnf)); (repeat ((first | (refine br_true ?_ ?_; (focus (exact yesA))) | (refine br_false ?_ ?_; (focus (exact noA))) | (refine onS_map ?_ ?_; (focus (exact numA))) | (refine onS_intro (eqTC_ints rfl rfl rfl rfl ?_) ?_; (focus (exact numA))) | refine onS_intro (mapB_u8s _) ?_ | (refine And.intro ?_ ?_; (focus (exact flatA)))); (try (conv => whnf)))))
  ((first | refine call_intro (rer_Zero m hm) (les_refl _) ?_ | refine call_intro (rer_Zero m hm) lesA ?_); (try (conv => whnf)))
  by_cases h : m = 0
  · ((try (conv => whnf)); (repeat ((first | (refine br_true ?_ ?_; (focus (exact yesA))) | (refine br_false ?_ ?_; (focus (exact noA))) | (refine onS_map ?_ ?_; (focus (exact numA))) | (refine onS_intro (eqTC_ints rfl rfl rfl rfl ?_) ?_; (focus (exact numA))) | refine onS_intro (mapB_u8s _) ?_ | (refine And.intro ?_ ?_; (focus (exact flatA)))); (try (conv => whnf)))))
    subst h
    exact D.le.refl _
  have h0 : 0 < m := by omega
  ((try (conv => whnf)); (repeat ((first | (refine br_true ?_ ?_; (focus (exact yesA))) | (refine br_false ?_ ?_; (focus (exact noA))) | (refine onS_map ?_ ?_; (focus (exact numA))) | (refine onS_intro (eqTC_ints rfl rfl rfl rfl ?_) ?_; (focus (exact numA))) | refine onS_intro (mapB_u8s _) ?_ | (refine And.intro ?_ ?_; (focus (exact flatA)))); (try (conv => whnf)))))
  ((first | refine call_intro (rer_FromUintU 1 (by decide)) (les_refl _) ?_ | refine call_intro (rer_FromUintU 1 (by decide)) lesA ?_); (try (conv => whnf)))
  ((try (conv => whnf)); (repeat ((first | (refine br_true ?_ ?_; (focus (exact yesA))) | (refine br_false ?_ ?_; (focus (exact noA))) | (refine onS_map ?_ ?_; (focus (exact numA))) | (refine onS_intro (eqTC_ints rfl rfl rfl rfl ?_) ?_; (focus (exact numA))) | refine onS_intro (mapB_u8s _) ?_ | (refine And.intro ?_ ?_; (focus (exact flatA)))); (try (conv => whnf)))))
  ((first | refine call_intro (rer_reduce 1 m (by decide) hm h0) (les_refl _) ?_ | refine call_intro (rer_reduce 1 m (by decide) hm h0) lesA ?_); (try (conv => whnf)))
  ((try (conv => whnf)); (repeat ((first | (refine br_true ?_ ?_; (focus (exact yesA))) | (refine br_false ?_ ?_; (focus (exact noA))) | (refine onS_map ?_ ?_; (focus (exact numA))) | (refine onS_intro (eqTC_ints rfl rfl rfl rfl ?_) ?_; (focus (exact numA))) | refine onS_intro (mapB_u8s _) ?_ | (refine And.intro ?_ ?_; (focus (exact flatA)))); (try (conv => whnf)))))
  ((first | refine call_intro (rer_LenU e he) (les_refl _) ?_ | refine call_intro (rer_LenU e he) lesA ?_); (try (conv => whnf)))
  ((try (conv => whnf)); (repeat ((first | (refine br_true ?_ ?_; (focus (exact yesA))) | (refine br_false ?_ ?_; (focus (exact noA))) | (refine onS_map ?_ ?_; (focus (exact numA))) | (refine onS_intro (eqTC_ints rfl rfl rfl rfl ?_) ?_; (focus (exact numA))) | refine onS_intro (mapB_u8s _) ?_ | (refine And.intro ?_ ?_; (focus (exact flatA)))); (try (conv => whnf)))))
  refine LoopW2_rule (fun k : Nat => [(3, .ptr 0 0 [] (.arr 4 .one)), (4, .ptr 1 0 [] (.arr 4 .one)), (5, .ptr 2 0 [] (.arr 4 .one)), (6, .ptr 3 0 [] (.arr 4 .one)), (7, .ptr 4 0 [] (.arr 4 .one)), (8, .d (.int .i64 ((k : Int) - 1)))])
    (fun k : Nat => [some (.fix (.d (U a))), some (.fix (.d (U e))), some (.fix (.d (U m))), some (.fix (.d (U 0))), some (.fix (.d (U (modN (a ^ (e / 2 ^ k)) m))))]) (fun k => k ≤ 256) (fun k => k) _ rfl (nlen e) (Wk.go ?_ rfl ?_ rfl) hl ?_
  rotate_left 2
  · rintro k K hk hK
    simp only at hk hK ⊢
    cases k with
    | zero =>
      simp only [Nat.pow_zero, Nat.div_one]
      ((try (conv => whnf)); (repeat ((first | (refine br_true ?_ ?_; (focus (exact yesA))) | (refine br_false ?_ ?_; (focus (exact noA))) | (refine onS_map ?_ ?_; (focus (exact numA))) | (refine onS_intro (eqTC_ints rfl rfl rfl rfl ?_) ?_; (focus (exact numA))) | refine onS_intro (mapB_u8s _) ?_ | (refine And.intro ?_ ?_; (focus (exact flatA)))); (try (conv => whnf)))))
      exact D.le.refl _
    | succ j =>
      have ej : ((j + 1 : Nat) : Int) - 1 = (j : Int) := by omega
      have hn := pow_next (a := a) (e := e) (m := m) (j := j)
      have hx := modN_256 (a := a ^ (e / 2 ^ (j + 1))) hm
      have hd := div_next e j
      rw [ej]
      ((try (conv => whnf)); (repeat ((first | (refine br_true ?_ ?_; (focus (exact yesA))) | (refine br_false ?_ ?_; (focus (exact noA))) | (refine onS_map ?_ ?_; (focus (exact numA))) | (refine onS_intro (eqTC_ints rfl rfl rfl rfl ?_) ?_; (focus (exact numA))) | refine onS_intro (mapB_u8s _) ?_ | (refine And.intro ?_ ?_; (focus (exact flatA)))); (try (conv => whnf)))))
      ((first | refine call_intro (rer_MulMod _ _ m hx hx hm) (les_refl _) ?_ | refine call_intro (rer_MulMod _ _ m hx hx hm) lesA ?_); (try (conv => whnf)))
      rw [hn]
      ((try (conv => whnf)); (repeat ((first | (refine br_true ?_ ?_; (focus (exact yesA))) | (refine br_false ?_ ?_; (focus (exact noA))) | (refine onS_map ?_ ?_; (focus (exact numA))) | (refine onS_intro (eqTC_ints rfl rfl rfl rfl ?_) ?_; (focus (exact numA))) | refine onS_intro (mapB_u8s _) ?_ | (refine And.intro ?_ ?_; (focus (exact flatA)))); (try (conv => whnf)))))
      ((first | refine call_intro (rer_Bit e j (by omega)) (les_refl _) ?_ | refine call_intro (rer_Bit e j (by omega)) lesA ?_); (try (conv => whnf)))
      have hy := modN_256 (a := a ^ (2 * (e / 2 ^ (j + 1)))) hm
      cases hb : e.testBit j with
      | false =>
        rw [hb] at hd
        simp only [Bool.toNat_false, Nat.add_zero] at hd ⊢
        ((try (conv => whnf)); (repeat ((first | (refine br_true ?_ ?_; (focus (exact yesA))) | (refine br_false ?_ ?_; (focus (exact noA))) | (refine onS_map ?_ ?_; (focus (exact numA))) | (refine onS_intro (eqTC_ints rfl rfl rfl rfl ?_) ?_; (focus (exact numA))) | refine onS_intro (mapB_u8s _) ?_ | (refine And.intro ?_ ?_; (focus (exact flatA)))); (try (conv => whnf)))))
        refine hK j _ _ rfl (Wk.go ?_ rfl ?_ rfl) (by omega) (by omega)
        all_goals (try (repeat' (first | exact trivial | rfl | exact .inl rfl | exact .inr rfl | refine ⟨?_, ?_⟩)))
        exact .inr (by rw [hd])
      | true =>
        rw [hb] at hd
        simp only [Bool.toNat_true] at hd ⊢
        ((try (conv => whnf)); (repeat ((first | (refine br_true ?_ ?_; (focus (exact yesA))) | (refine br_false ?_ ?_; (focus (exact noA))) | (refine onS_map ?_ ?_; (focus (exact numA))) | (refine onS_intro (eqTC_ints rfl rfl rfl rfl ?_) ?_; (focus (exact numA))) | refine onS_intro (mapB_u8s _) ?_ | (refine And.intro ?_ ?_; (focus (exact flatA)))); (try (conv => whnf)))))
        ((first | refine call_intro (rer_MulMod _ a m hy ha hm) (les_refl _) ?_ | refine call_intro (rer_MulMod _ a m hy ha hm) lesA ?_); (try (conv => whnf)))
        rw [modN_mul1, pw1, ← hd]
        ((try (conv => whnf)); (repeat ((first | (refine br_true ?_ ?_; (focus (exact yesA))) | (refine br_false ?_ ?_; (focus (exact noA))) | (refine onS_map ?_ ?_; (focus (exact numA))) | (refine onS_intro (eqTC_ints rfl rfl rfl rfl ?_) ?_; (focus (exact numA))) | refine onS_intro (mapB_u8s _) ?_ | (refine And.intro ?_ ?_; (focus (exact flatA)))); (try (conv => whnf)))))
        refine hK j _ _ rfl (Wk.go ?_ rfl ?_ rfl) (by omega) (by omega)
        all_goals (try (repeat' (first | exact trivial | rfl | exact .inl rfl | exact .inr rfl | refine ⟨?_, ?_⟩)))
  all_goals (try (repeat' (first | exact trivial | rfl | exact .inl rfl | exact .inr rfl | refine ⟨?_, ?_⟩)))
  exact .inr (by rw [hst])
end Go.Fw

/-
Contracts of division by ten and of decimal digits. No conditions.
-/
namespace Go.Fw
set_option linter.unusedVariables false
set_option linter.unusedSimpArgs false
open Go.Proofs
set_option maxRecDepth 10000
set_option maxHeartbeats 4000000
theorem ret_Lead (x : Nat) (hx : x < 18446744073709551616) : Returns cx n_bits_LeadingZeros64 [n64 x] (.int .i64 (64 - nlen x : Int)) := by
  have h9 : nlen x ≤ 64 := nlen_iff.2 hx
  (refine of_W2 (fn := f_bits_LeadingZeros64) {} (by kernel_rfl) (by kernel_rfl) (by kernel_rfl) (by kernel_rfl) (by kernel_rfl) ?_)
  ((try (conv => whnf)); (repeat ((first | (refine br_true ?_ ?_; (focus (exact yesA))) | (refine br_false ?_ ?_; (focus (exact noA))) | (refine onS_map ?_ ?_; (focus (exact numA))) | (refine onS_intro (eqTC_ints rfl rfl rfl rfl ?_) ?_; (focus (exact numA))) | refine onS_intro (mapB_u8s _) ?_ | (refine And.intro ?_ ?_; (focus (exact flatA)))); (try (conv => whnf)))))
  ((first | refine call_intro (ret_Len64 x hx) (les_refl _) ?_ | refine call_intro (ret_Len64 x hx) lesA ?_); (try (conv => whnf)))
  ((try (conv => whnf)); (repeat ((first | (refine br_true ?_ ?_; (focus (exact yesA))) | (refine br_false ?_ ?_; (focus (exact noA))) | (refine onS_map ?_ ?_; (focus (exact numA))) | (refine onS_intro (eqTC_ints rfl rfl rfl rfl ?_) ?_; (focus (exact numA))) | refine onS_intro (mapB_u8s _) ?_ | (refine And.intro ?_ ?_; (focus (exact flatA)))); (try (conv => whnf)))))
  exact D.le.refl _
theorem ret_Div64_zero (lo : Nat) (hl : lo < 18446744073709551616) : Returns cx n_bits_Div64 [n64 0, n64 lo, n64 10] (.tup [n64 (lo / 10), n64 (lo % 10)]) := by
  (refine of_W2 (fn := f_bits_Div64) {} (by kernel_rfl) (by kernel_rfl) (by kernel_rfl) (by kernel_rfl) (by kernel_rfl) ?_)
  ((try (conv => whnf)); (repeat ((first | (refine br_true ?_ ?_; (focus (exact yesA))) | (refine br_false ?_ ?_; (focus (exact noA))) | (refine onS_map ?_ ?_; (focus (exact numA))) | (refine onS_intro (eqTC_ints rfl rfl rfl rfl ?_) ?_; (focus (exact numA))) | refine onS_intro (mapB_u8s _) ?_ | (refine And.intro ?_ ?_; (focus (exact flatA)))); (try (conv => whnf)))))
  exact D.le.refl _
theorem ten_un32 {hi lo : Nat} (hh : hi < 10) (hl : lo < 18446744073709551616) : orW .u64 (shlW .u64 (hi : Nat) (Int.toNat 60)) ((lo : Int) / 2 ^ Int.toNat 4) = ((hi * 1152921504606846976 + lo / 16 : Nat) : Int) := by
  have e1 : shlW .u64 (hi : Nat) (Int.toNat 60) = ((hi * 1152921504606846976 : Nat) : Int) := by
    refine (shlW64 (a := hi) (n := 60) (by decide)).trans ?_
    exact congrArg _ (Nat.mod_eq_of_lt (show hi * 1152921504606846976 < 18446744073709551616 by omega))
  have e2 : (lo : Int) / 2 ^ Int.toNat 4 = ((lo / 16 : Nat) : Int) := by show (lo : Int) / 16 = _; omega
  rw [e1, e2, or64 (by omega) (by omega)]
  have := Nat.two_pow_add_eq_or_of_lt (i := 60) (b := lo / 16) (show lo / 16 < 1152921504606846976 by omega) hi
  rw [Nat.mul_comm] at this
  exact congrArg _ this.symm
theorem ten_un10 (lo : Nat) : shlW .u64 (lo : Nat) (Int.toNat 60) = ((lo % 16 * 1152921504606846976 : Nat) : Int) := by
  refine (shlW64 (a := lo) (n := 60) (by decide)).trans ?_
  exact congrArg _ (show lo * 1152921504606846976 % 18446744073709551616 = lo % 16 * 1152921504606846976 by omega)
theorem ten_un1 (x : Nat) : ((x * 1152921504606846976 : Nat) : Int) / 2 ^ Int.toNat 32 = ((x * 268435456 : Nat) : Int) := by
  show ((x * 1152921504606846976 : Nat) : Int) / 4294967296 = _
  omega
theorem ten_un0 (x : Nat) (hx : x < 16) : andW .u64 ((x * 1152921504606846976 : Nat) : Int) 4294967295 = 0 := by
  refine (and64 (a := x * 1152921504606846976) (b := 4294967295) (by omega) (by decide)).trans ?_
  rw [show x * 1152921504606846976 &&& 4294967295 = x * 1152921504606846976 % 4294967296 from Nat.and_two_pow_sub_one_eq_mod _ 32]
  omega
theorem ten_rhat (u : Nat) (hu : u < 11529215046068469760) : subW .u64 (u : Int) (mulW .u64 ((u : Int) / 2684354560) 2684354560) = ((u % 2684354560 : Nat) : Int) := by
  rw [subW_u64, mulW_u64]; omega
theorem ten_un21 (u x : Nat) (hu : u < 11529215046068469760) (hx : x < 16) : subW .u64 (addW .u64 (mulW .u64 (u : Int) 4294967296) ((x * 268435456 : Nat) : Int)) (mulW .u64 ((u : Int) / 2684354560) 11529215046068469760) = ((u % 2684354560 * 4294967296 + x * 268435456 : Nat) : Int) := by
  rw [subW_u64, addW_u64, mulW_u64, mulW_u64]; omega
theorem ten_q {hi lo u x v : Nat} (hh : hi < 10) (hl : lo < 18446744073709551616) (hu : u = hi * 1152921504606846976 + lo / 16) (hx : x = lo % 16) (hv : v = u % 2684354560 * 4294967296 + x * 268435456) : addW .u64 (mulW .u64 ((u : Int) / 2684354560) 4294967296) ((v : Int) / 2684354560) = (((hi * 18446744073709551616 + lo) / 10 : Nat) : Int) := by
  rw [addW_u64, mulW_u64]; omega
theorem ten_r1 {v : Nat} (hv : v < 11529215046068469760) : subW .u64 (addW .u64 (mulW .u64 (v : Int) 4294967296) 0) (mulW .u64 ((v : Int) / 2684354560) 11529215046068469760) = ((v % 2684354560 * 4294967296 : Nat) : Int) := by
  rw [subW_u64, addW_u64, mulW_u64, mulW_u64, Int.add_zero, Int.emod_emod, ← Int.sub_emod]
  have e : (v : Int) * 4294967296 - (v : Int) / 2684354560 * 11529215046068469760 = ((v % 2684354560 * 4294967296 : Nat) : Int) := by omega
  rw [e]
  exact Int.emod_eq_of_lt (by omega) (by omega)
theorem ten_r2 {n u x v : Nat} (hn : n = 16 * u + x) (hv : v = u % 2684354560 * 4294967296 + x * 268435456) : ((v % 2684354560 * 4294967296 : Nat) : Int) / 2 ^ Int.toNat 60 = ((n % 10 : Nat) : Int) := by
  have h1 : v = 268435456 * (u % 2684354560 * 16 + x) := by omega
  have h2 : v % 2684354560 = 268435456 * ((u % 2684354560 * 16 + x) % 10) := by
    rw [h1, show 2684354560 = 268435456 * 10 from rfl, Nat.mul_mod_mul_left]
  have h3 : (u % 2684354560 * 16 + x) % 10 = n % 10 := by omega
  rw [h2, h3, show (2 : Int) ^ Int.toNat 60 = 1152921504606846976 by decide]
  omega
theorem ret_Div64_ten (hi lo : Nat) (hh : hi < 10) (h0 : 0 < hi) (hl : lo < 18446744073709551616) : Returns cx n_bits_Div64 [n64 hi, n64 lo, n64 10] (.tup [n64 ((hi * 18446744073709551616 + lo) / 10), n64 ((hi * 18446744073709551616 + lo) % 10)]) := by
  (refine of_W2 (fn := f_bits_Div64) {} (by kernel_rfl) (by kernel_rfl) (by kernel_rfl) (by kernel_rfl) (by kernel_rfl) ?_)
  ((try (conv => whnf)); (repeat ((first | (refine br_true ?_ ?_; (focus (exact yesA))) | (refine br_false ?_ ?_; (focus (exact noA))) | (refine onS_map ?_ ?_; (focus (exact numA))) | (refine onS_intro (eqTC_ints rfl rfl rfl rfl ?_) ?_; (focus (exact numA))) | refine onS_intro (mapB_u8s _) ?_ | (refine And.intro ?_ ?_; (focus (exact flatA)))); (try (conv => whnf)))))
  ((first | refine call_intro (ret_Lead 10 (by omega)) (les_refl _) ?_ | refine call_intro (ret_Lead 10 (by omega)) lesA ?_); (try (conv => whnf)))
  rw [show (64 - (nlen 10 : Int)) = 60 by decide]
  ((try (conv => whnf)); (repeat ((first | (refine br_true ?_ ?_; (focus (exact yesA))) | (refine br_false ?_ ?_; (focus (exact noA))) | (refine onS_map ?_ ?_; (focus (exact numA))) | (refine onS_intro (eqTC_ints rfl rfl rfl rfl ?_) ?_; (focus (exact numA))) | refine onS_intro (mapB_u8s _) ?_ | (refine And.intro ?_ ?_; (focus (exact flatA)))); (try (conv => whnf)))))
  rw [show shlW .u64 ((10 : Nat) : Int) (Int.toNat 60) = 11529215046068469760 from rfl, show (subW .u64 64 60).toNat = Int.toNat 4 from rfl, ten_un32 hh hl, ten_un10, ten_un1, ten_un0 _ (by omega)]
  obtain ⟨u, hu⟩ : ∃ u, u = hi * 1152921504606846976 + lo / 16 := ⟨_, rfl⟩
  obtain ⟨x, hx⟩ : ∃ x, x = lo % 16 := ⟨_, rfl⟩
  rw [← hu, ← hx]
  rw [show (11529215046068469760 : Int) / 2 ^ Int.toNat 32 = 2684354560 by decide]
  rw [show andW .u64 11529215046068469760 4294967295 = 0 by decide]
  ((try (conv => whnf)); (repeat ((first | (refine br_true ?_ ?_; (focus (exact yesA))) | (refine br_false ?_ ?_; (focus (exact noA))) | (refine onS_map ?_ ?_; (focus (exact numA))) | (refine onS_intro (eqTC_ints rfl rfl rfl rfl ?_) ?_; (focus (exact numA))) | refine onS_intro (mapB_u8s _) ?_ | (refine And.intro ?_ ?_; (focus (exact flatA)))); (try (conv => whnf)))))
  rw [ten_rhat u (by omega)]
  refine LoopW2_n 1 (iter_go ?_)
  ((try (conv => whnf)); (repeat ((first | (refine br_true ?_ ?_; (focus (exact yesA))) | (refine br_false ?_ ?_; (focus (exact noA))) | (refine onS_map ?_ ?_; (focus (exact numA))) | (refine onS_intro (eqTC_ints rfl rfl rfl rfl ?_) ?_; (focus (exact numA))) | refine onS_intro (mapB_u8s _) ?_ | (refine And.intro ?_ ?_; (focus (exact flatA)))); (try (conv => whnf)))))
  rw [ten_un21 u x (by omega) (by omega)]
  obtain ⟨v, hv⟩ : ∃ v, v = u % 2684354560 * 4294967296 + x * 268435456 := ⟨_, rfl⟩
  rw [← hv, ten_rhat v (by omega)]
  refine LoopW2_n 1 (iter_go ?_)
  ((try (conv => whnf)); (repeat ((first | (refine br_true ?_ ?_; (focus (exact yesA))) | (refine br_false ?_ ?_; (focus (exact noA))) | (refine onS_map ?_ ?_; (focus (exact numA))) | (refine onS_intro (eqTC_ints rfl rfl rfl rfl ?_) ?_; (focus (exact numA))) | refine onS_intro (mapB_u8s _) ?_ | (refine And.intro ?_ ?_; (focus (exact flatA)))); (try (conv => whnf)))))
  rw [ten_q hh hl hu hx hv, ten_r1 (by omega), ten_r2 (n := hi * 18446744073709551616 + lo) (by omega) hv]
  exact D.le.refl _
/-- Two words divided by ten. -/
theorem ret_Div64 (hi lo : Nat) (hh : hi < 10) (hl : lo < 18446744073709551616) : Returns cx n_bits_Div64 [n64 hi, n64 lo, n64 10] (.tup [n64 ((hi * 18446744073709551616 + lo) / 10), n64 ((hi * 18446744073709551616 + lo) % 10)]) := by
  by_cases h : 0 < hi
  · exact ret_Div64_ten hi lo hh h hl
  · obtain rfl : hi = 0 := by omega
    rw [Nat.zero_mul, Nat.zero_add]
    exact ret_Div64_zero lo hl
theorem ret_tenth (a : Nat) (ha : a < 115792089237316195423570985008687907853269984665640564039457584007913129639936) : Returns cx n_wide_tenth [U a] (.tup [U (a / 10), .int .u8 (a % 10 : Nat)]) := by
  obtain ⟨a0, a1, a2, a3, h0, h1, h2, h3, ea, ua⟩ := U_split ha
  rw [ua]
  (refine of_W2 (fn := f_wide_tenth) {} (by kernel_rfl) (by kernel_rfl) (by kernel_rfl) (by kernel_rfl) (by kernel_rfl) ?_)
  ((try (conv => whnf)); (repeat ((first | (refine br_true ?_ ?_; (focus (exact yesA))) | (refine br_false ?_ ?_; (focus (exact noA))) | (refine onS_map ?_ ?_; (focus (exact numA))) | (refine onS_intro (eqTC_ints rfl rfl rfl rfl ?_) ?_; (focus (exact numA))) | refine onS_intro (mapB_u8s _) ?_ | (refine And.intro ?_ ?_; (focus (exact flatA)))); (try (conv => whnf)))))
  refine LoopW2_n 5 (iter_go ?_)
  ((try (conv => whnf)); (repeat ((first | (refine br_true ?_ ?_; (focus (exact yesA))) | (refine br_false ?_ ?_; (focus (exact noA))) | (refine onS_map ?_ ?_; (focus (exact numA))) | (refine onS_intro (eqTC_ints rfl rfl rfl rfl ?_) ?_; (focus (exact numA))) | refine onS_intro (mapB_u8s _) ?_ | (refine And.intro ?_ ?_; (focus (exact flatA)))); (try (conv => whnf)))))
  ((first | refine call_intro (ret_Div64 0 a3 (by omega) h3) (les_refl _) ?_ | refine call_intro (ret_Div64 0 a3 (by omega) h3) lesA ?_); (try (conv => whnf)))
  obtain ⟨q3, hq3⟩ : ∃ q, q = (0 * 18446744073709551616 + a3) / 10 := ⟨_, rfl⟩
  obtain ⟨r3, hr3⟩ : ∃ r, r = (0 * 18446744073709551616 + a3) % 10 := ⟨_, rfl⟩
  rw [← hq3, ← hr3]
  ((try (conv => whnf)); (repeat ((first | (refine br_true ?_ ?_; (focus (exact yesA))) | (refine br_false ?_ ?_; (focus (exact noA))) | (refine onS_map ?_ ?_; (focus (exact numA))) | (refine onS_intro (eqTC_ints rfl rfl rfl rfl ?_) ?_; (focus (exact numA))) | refine onS_intro (mapB_u8s _) ?_ | (refine And.intro ?_ ?_; (focus (exact flatA)))); (try (conv => whnf)))))
  refine ⟨_, _, rfl, .refl _ _, ?_⟩
  ((try (conv => whnf)); (repeat ((first | (refine br_true ?_ ?_; (focus (exact yesA))) | (refine br_false ?_ ?_; (focus (exact noA))) | (refine onS_map ?_ ?_; (focus (exact numA))) | (refine onS_intro (eqTC_ints rfl rfl rfl rfl ?_) ?_; (focus (exact numA))) | refine onS_intro (mapB_u8s _) ?_ | (refine And.intro ?_ ?_; (focus (exact flatA)))); (try (conv => whnf)))))
  ((first | refine call_intro (ret_Div64 r3 a2 (by omega) h2) (les_refl _) ?_ | refine call_intro (ret_Div64 r3 a2 (by omega) h2) lesA ?_); (try (conv => whnf)))
  obtain ⟨q2, hq2⟩ : ∃ q, q = (r3 * 18446744073709551616 + a2) / 10 := ⟨_, rfl⟩
  obtain ⟨r2, hr2⟩ : ∃ r, r = (r3 * 18446744073709551616 + a2) % 10 := ⟨_, rfl⟩
  rw [← hq2, ← hr2]
  ((try (conv => whnf)); (repeat ((first | (refine br_true ?_ ?_; (focus (exact yesA))) | (refine br_false ?_ ?_; (focus (exact noA))) | (refine onS_map ?_ ?_; (focus (exact numA))) | (refine onS_intro (eqTC_ints rfl rfl rfl rfl ?_) ?_; (focus (exact numA))) | refine onS_intro (mapB_u8s _) ?_ | (refine And.intro ?_ ?_; (focus (exact flatA)))); (try (conv => whnf)))))
  refine ⟨_, _, rfl, .refl _ _, ?_⟩
  ((try (conv => whnf)); (repeat ((first | (refine br_true ?_ ?_; (focus (exact yesA))) | (refine br_false ?_ ?_; (focus (exact noA))) | (refine onS_map ?_ ?_; (focus (exact numA))) | (refine onS_intro (eqTC_ints rfl rfl rfl rfl ?_) ?_; (focus (exact numA))) | refine onS_intro (mapB_u8s _) ?_ | (refine And.intro ?_ ?_; (focus (exact flatA)))); (try (conv => whnf)))))
  ((first | refine call_intro (ret_Div64 r2 a1 (by omega) h1) (les_refl _) ?_ | refine call_intro (ret_Div64 r2 a1 (by omega) h1) lesA ?_); (try (conv => whnf)))
  obtain ⟨q1, hq1⟩ : ∃ q, q = (r2 * 18446744073709551616 + a1) / 10 := ⟨_, rfl⟩
  obtain ⟨r1, hr1⟩ : ∃ r, r = (r2 * 18446744073709551616 + a1) % 10 := ⟨_, rfl⟩
  rw [← hq1, ← hr1]
  ((try (conv => whnf)); (repeat ((first | (refine br_true ?_ ?_; (focus (exact yesA))) | (refine br_false ?_ ?_; (focus (exact noA))) | (refine onS_map ?_ ?_; (focus (exact numA))) | (refine onS_intro (eqTC_ints rfl rfl rfl rfl ?_) ?_; (focus (exact numA))) | refine onS_intro (mapB_u8s _) ?_ | (refine And.intro ?_ ?_; (focus (exact flatA)))); (try (conv => whnf)))))
  refine ⟨_, _, rfl, .refl _ _, ?_⟩
  ((try (conv => whnf)); (repeat ((first | (refine br_true ?_ ?_; (focus (exact yesA))) | (refine br_false ?_ ?_; (focus (exact noA))) | (refine onS_map ?_ ?_; (focus (exact numA))) | (refine onS_intro (eqTC_ints rfl rfl rfl rfl ?_) ?_; (focus (exact numA))) | refine onS_intro (mapB_u8s _) ?_ | (refine And.intro ?_ ?_; (focus (exact flatA)))); (try (conv => whnf)))))
  ((first | refine call_intro (ret_Div64 r1 a0 (by omega) h0) (les_refl _) ?_ | refine call_intro (ret_Div64 r1 a0 (by omega) h0) lesA ?_); (try (conv => whnf)))
  obtain ⟨q0, hq0⟩ : ∃ q, q = (r1 * 18446744073709551616 + a0) / 10 := ⟨_, rfl⟩
  obtain ⟨r0, hr0⟩ : ∃ r, r = (r1 * 18446744073709551616 + a0) % 10 := ⟨_, rfl⟩
  rw [← hq0, ← hr0]
  ((try (conv => whnf)); (repeat ((first | (refine br_true ?_ ?_; (focus (exact yesA))) | (refine br_false ?_ ?_; (focus (exact noA))) | (refine onS_map ?_ ?_; (focus (exact numA))) | (refine onS_intro (eqTC_ints rfl rfl rfl rfl ?_) ?_; (focus (exact numA))) | refine onS_intro (mapB_u8s _) ?_ | (refine And.intro ?_ ?_; (focus (exact flatA)))); (try (conv => whnf)))))
  refine ⟨_, _, rfl, .refl _ _, ?_⟩
  ((try (conv => whnf)); (repeat ((first | (refine br_true ?_ ?_; (focus (exact yesA))) | (refine br_false ?_ ?_; (focus (exact noA))) | (refine onS_map ?_ ?_; (focus (exact numA))) | (refine onS_intro (eqTC_ints rfl rfl rfl rfl ?_) ?_; (focus (exact numA))) | refine onS_intro (mapB_u8s _) ?_ | (refine And.intro ?_ ?_; (focus (exact flatA)))); (try (conv => whnf)))))
  rw [show a / 10 = q0 + q1 * 18446744073709551616 + q2 * 340282366920938463463374607431768211456 + q3 * 6277101735386680763835789423207666416102355444464034512896 by omega, show a % 10 = r0 by omega, ← u4_U (by omega) (by omega) (by omega) (by omega), show IntKind.u8.wrap (r0 : Int) = (r0 : Int) by rw [wrap_u8]; omega]
  exact D.le.refl _
end Go.Fw

/-
Contracts of decimal texts at one number, and of the sanity check. No conditions.
-/
namespace Go.Fw
set_option linter.unusedVariables false
set_option linter.unusedSimpArgs false
open Go.Proofs
set_option maxRecDepth 10000
set_option maxHeartbeats 4000000
def sane64 : List UInt8 := [49, 56, 52, 52, 54, 55, 52, 52, 48, 55, 51, 55, 48, 57, 53, 53, 49, 54, 49, 54]
theorem mapB_of {xs : List D} {l : List UInt8} (h : xs.mapM asByte = some l) : mapB xs = some l := by rw [mapB_eq, h]
theorem ret_Text64 : Returns cx n_wide_Text [U 18446744073709551616] (.str sane64) := by
  (refine of_W2 (fn := f_wide_Text) {} (by kernel_rfl) (by kernel_rfl) (by kernel_rfl) (by kernel_rfl) (by kernel_rfl) ?_)
  ((try (conv => whnf)); (repeat ((first | (refine br_true ?_ ?_; (focus (exact yesA))) | (refine br_false ?_ ?_; (focus (exact noA))) | (refine onS_map ?_ ?_; (focus (exact numA))) | (refine onS_intro (eqTC_ints rfl rfl rfl rfl ?_) ?_; (focus (exact numA))) | refine onS_intro (mapB_u8s _) ?_ | (refine And.intro ?_ ?_; (focus (exact flatA)))); (try (conv => whnf)))))
  refine LoopW2_n 21 (iter_go ?_)
  ((try (conv => whnf)); (repeat ((first | (refine br_true ?_ ?_; (focus (exact yesA))) | (refine br_false ?_ ?_; (focus (exact noA))) | (refine onS_map ?_ ?_; (focus (exact numA))) | (refine onS_intro (eqTC_ints rfl rfl rfl rfl ?_) ?_; (focus (exact numA))) | refine onS_intro (mapB_u8s _) ?_ | (refine And.intro ?_ ?_; (focus (exact flatA)))); (try (conv => whnf)))))
  ((first | refine call_intro (ret_tenth 18446744073709551616 (by decide)) (les_refl _) ?_ | refine call_intro (ret_tenth 18446744073709551616 (by decide)) lesA ?_); (try (conv => whnf)))
  ((try (conv => whnf)); (repeat ((first | (refine br_true ?_ ?_; (focus (exact yesA))) | (refine br_false ?_ ?_; (focus (exact noA))) | (refine onS_map ?_ ?_; (focus (exact numA))) | (refine onS_intro (eqTC_ints rfl rfl rfl rfl ?_) ?_; (focus (exact numA))) | refine onS_intro (mapB_u8s _) ?_ | (refine And.intro ?_ ?_; (focus (exact flatA)))); (try (conv => whnf)))))
  refine onS_intro (eqTC_U0 rfl rfl rfl rfl (by decide)) ?_
  ((try (conv => whnf)); (repeat ((first | (refine br_true ?_ ?_; (focus (exact yesA))) | (refine br_false ?_ ?_; (focus (exact noA))) | (refine onS_map ?_ ?_; (focus (exact numA))) | (refine onS_intro (eqTC_ints rfl rfl rfl rfl ?_) ?_; (focus (exact numA))) | refine onS_intro (mapB_u8s _) ?_ | (refine And.intro ?_ ?_; (focus (exact flatA)))); (try (conv => whnf)))))
  refine ⟨_, _, rfl, .refl _ _, ?_⟩
  ((try (conv => whnf)); (repeat ((first | (refine br_true ?_ ?_; (focus (exact yesA))) | (refine br_false ?_ ?_; (focus (exact noA))) | (refine onS_map ?_ ?_; (focus (exact numA))) | (refine onS_intro (eqTC_ints rfl rfl rfl rfl ?_) ?_; (focus (exact numA))) | refine onS_intro (mapB_u8s _) ?_ | (refine And.intro ?_ ?_; (focus (exact flatA)))); (try (conv => whnf)))))
  ((first | refine call_intro (ret_tenth 1844674407370955161 (by decide)) (les_refl _) ?_ | refine call_intro (ret_tenth 1844674407370955161 (by decide)) lesA ?_); (try (conv => whnf)))
  ((try (conv => whnf)); (repeat ((first | (refine br_true ?_ ?_; (focus (exact yesA))) | (refine br_false ?_ ?_; (focus (exact noA))) | (refine onS_map ?_ ?_; (focus (exact numA))) | (refine onS_intro (eqTC_ints rfl rfl rfl rfl ?_) ?_; (focus (exact numA))) | refine onS_intro (mapB_u8s _) ?_ | (refine And.intro ?_ ?_; (focus (exact flatA)))); (try (conv => whnf)))))
  refine onS_intro (eqTC_U0 rfl rfl rfl rfl (by decide)) ?_
  ((try (conv => whnf)); (repeat ((first | (refine br_true ?_ ?_; (focus (exact yesA))) | (refine br_false ?_ ?_; (focus (exact noA))) | (refine onS_map ?_ ?_; (focus (exact numA))) | (refine onS_intro (eqTC_ints rfl rfl rfl rfl ?_) ?_; (focus (exact numA))) | refine onS_intro (mapB_u8s _) ?_ | (refine And.intro ?_ ?_; (focus (exact flatA)))); (try (conv => whnf)))))
  refine ⟨_, _, rfl, .refl _ _, ?_⟩
  ((try (conv => whnf)); (repeat ((first | (refine br_true ?_ ?_; (focus (exact yesA))) | (refine br_false ?_ ?_; (focus (exact noA))) | (refine onS_map ?_ ?_; (focus (exact numA))) | (refine onS_intro (eqTC_ints rfl rfl rfl rfl ?_) ?_; (focus (exact numA))) | refine onS_intro (mapB_u8s _) ?_ | (refine And.intro ?_ ?_; (focus (exact flatA)))); (try (conv => whnf)))))
  ((first | refine call_intro (ret_tenth 184467440737095516 (by decide)) (les_refl _) ?_ | refine call_intro (ret_tenth 184467440737095516 (by decide)) lesA ?_); (try (conv => whnf)))
  ((try (conv => whnf)); (repeat ((first | (refine br_true ?_ ?_; (focus (exact yesA))) | (refine br_false ?_ ?_; (focus (exact noA))) | (refine onS_map ?_ ?_; (focus (exact numA))) | (refine onS_intro (eqTC_ints rfl rfl rfl rfl ?_) ?_; (focus (exact numA))) | refine onS_intro (mapB_u8s _) ?_ | (refine And.intro ?_ ?_; (focus (exact flatA)))); (try (conv => whnf)))))
  refine onS_intro (eqTC_U0 rfl rfl rfl rfl (by decide)) ?_
  ((try (conv => whnf)); (repeat ((first | (refine br_true ?_ ?_; (focus (exact yesA))) | (refine br_false ?_ ?_; (focus (exact noA))) | (refine onS_map ?_ ?_; (focus (exact numA))) | (refine onS_intro (eqTC_ints rfl rfl rfl rfl ?_) ?_; (focus (exact numA))) | refine onS_intro (mapB_u8s _) ?_ | (refine And.intro ?_ ?_; (focus (exact flatA)))); (try (conv => whnf)))))
  refine ⟨_, _, rfl, .refl _ _, ?_⟩
  ((try (conv => whnf)); (repeat ((first | (refine br_true ?_ ?_; (focus (exact yesA))) | (refine br_false ?_ ?_; (focus (exact noA))) | (refine onS_map ?_ ?_; (focus (exact numA))) | (refine onS_intro (eqTC_ints rfl rfl rfl rfl ?_) ?_; (focus (exact numA))) | refine onS_intro (mapB_u8s _) ?_ | (refine And.intro ?_ ?_; (focus (exact flatA)))); (try (conv => whnf)))))
  ((first | refine call_intro (ret_tenth 18446744073709551 (by decide)) (les_refl _) ?_ | refine call_intro (ret_tenth 18446744073709551 (by decide)) lesA ?_); (try (conv => whnf)))
  ((try (conv => whnf)); (repeat ((first | (refine br_true ?_ ?_; (focus (exact yesA))) | (refine br_false ?_ ?_; (focus (exact noA))) | (refine onS_map ?_ ?_; (focus (exact numA))) | (refine onS_intro (eqTC_ints rfl rfl rfl rfl ?_) ?_; (focus (exact numA))) | refine onS_intro (mapB_u8s _) ?_ | (refine And.intro ?_ ?_; (focus (exact flatA)))); (try (conv => whnf)))))
  refine onS_intro (eqTC_U0 rfl rfl rfl rfl (by decide)) ?_
  ((try (conv => whnf)); (repeat ((first | (refine br_true ?_ ?_; (focus (exact yesA))) | (refine br_false ?_ ?_; (focus (exact noA))) | (refine onS_map ?_ ?_; (focus (exact numA))) | (refine onS_intro (eqTC_ints rfl rfl rfl rfl ?_) ?_; (focus (exact numA))) | refine onS_intro (mapB_u8s _) ?_ | (refine And.intro ?_ ?_; (focus (exact flatA)))); (try (conv => whnf)))))
  refine ⟨_, _, rfl, .refl _ _, ?_⟩
  ((try (conv => whnf)); (repeat ((first | (refine br_true ?_ ?_; (focus (exact yesA))) | (refine br_false ?_ ?_; (focus (exact noA))) | (refine onS_map ?_ ?_; (focus (exact numA))) | (refine onS_intro (eqTC_ints rfl rfl rfl rfl ?_) ?_; (focus (exact numA))) | refine onS_intro (mapB_u8s _) ?_ | (refine And.intro ?_ ?_; (focus (exact flatA)))); (try (conv => whnf)))))
  ((first | refine call_intro (ret_tenth 1844674407370955 (by decide)) (les_refl _) ?_ | refine call_intro (ret_tenth 1844674407370955 (by decide)) lesA ?_); (try (conv => whnf)))
  ((try (conv => whnf)); (repeat ((first | (refine br_true ?_ ?_; (focus (exact yesA))) | (refine br_false ?_ ?_; (focus (exact noA))) | (refine onS_map ?_ ?_; (focus (exact numA))) | (refine onS_intro (eqTC_ints rfl rfl rfl rfl ?_) ?_; (focus (exact numA))) | refine onS_intro (mapB_u8s _) ?_ | (refine And.intro ?_ ?_; (focus (exact flatA)))); (try (conv => whnf)))))
  refine onS_intro (eqTC_U0 rfl rfl rfl rfl (by decide)) ?_
  ((try (conv => whnf)); (repeat ((first | (refine br_true ?_ ?_; (focus (exact yesA))) | (refine br_false ?_ ?_; (focus (exact noA))) | (refine onS_map ?_ ?_; (focus (exact numA))) | (refine onS_intro (eqTC_ints rfl rfl rfl rfl ?_) ?_; (focus (exact numA))) | refine onS_intro (mapB_u8s _) ?_ | (refine And.intro ?_ ?_; (focus (exact flatA)))); (try (conv => whnf)))))
  refine ⟨_, _, rfl, .refl _ _, ?_⟩
  ((try (conv => whnf)); (repeat ((first | (refine br_true ?_ ?_; (focus (exact yesA))) | (refine br_false ?_ ?_; (focus (exact noA))) | (refine onS_map ?_ ?_; (focus (exact numA))) | (refine onS_intro (eqTC_ints rfl rfl rfl rfl ?_) ?_; (focus (exact numA))) | refine onS_intro (mapB_u8s _) ?_ | (refine And.intro ?_ ?_; (focus (exact flatA)))); (try (conv => whnf)))))
  ((first | refine call_intro (ret_tenth 184467440737095 (by decide)) (les_refl _) ?_ | refine call_intro (ret_tenth 184467440737095 (by decide)) lesA ?_); (try (conv => whnf)))
  ((try (conv => whnf)); (repeat ((first | (refine br_true ?_ ?_; (focus (exact yesA))) | (refine br_false ?_ ?_; (focus (exact noA))) | (refine onS_map ?_ ?_; (focus (exact numA))) | (refine onS_intro (eqTC_ints rfl rfl rfl rfl ?_) ?_; (focus (exact numA))) | refine onS_intro (mapB_u8s _) ?_ | (refine And.intro ?_ ?_; (focus (exact flatA)))); (try (conv => whnf)))))
  refine onS_intro (eqTC_U0 rfl rfl rfl rfl (by decide)) ?_
  ((try (conv => whnf)); (repeat ((first | (refine br_true ?_ ?_; (focus (exact yesA))) | (refine br_false ?_ ?_; (focus (exact noA))) | (refine onS_map ?_ ?_; (focus (exact numA))) | (refine onS_intro (eqTC_ints rfl rfl rfl rfl ?_) ?_; (focus (exact numA))) | refine onS_intro (mapB_u8s _) ?_ | (refine And.intro ?_ ?_; (focus (exact flatA)))); (try (conv => whnf)))))
  refine ⟨_, _, rfl, .refl _ _, ?_⟩
  ((try (conv => whnf)); (repeat ((first | (refine br_true ?_ ?_; (focus (exact yesA))) | (refine br_false ?_ ?_; (focus (exact noA))) | (refine onS_map ?_ ?_; (focus (exact numA))) | (refine onS_intro (eqTC_ints rfl rfl rfl rfl ?_) ?_; (focus (exact numA))) | refine onS_intro (mapB_u8s _) ?_ | (refine And.intro ?_ ?_; (focus (exact flatA)))); (try (conv => whnf)))))
  ((first | refine call_intro (ret_tenth 18446744073709 (by decide)) (les_refl _) ?_ | refine call_intro (ret_tenth 18446744073709 (by decide)) lesA ?_); (try (conv => whnf)))
  ((try (conv => whnf)); (repeat ((first | (refine br_true ?_ ?_; (focus (exact yesA))) | (refine br_false ?_ ?_; (focus (exact noA))) | (refine onS_map ?_ ?_; (focus (exact numA))) | (refine onS_intro (eqTC_ints rfl rfl rfl rfl ?_) ?_; (focus (exact numA))) | refine onS_intro (mapB_u8s _) ?_ | (refine And.intro ?_ ?_; (focus (exact flatA)))); (try (conv => whnf)))))
  refine onS_intro (eqTC_U0 rfl rfl rfl rfl (by decide)) ?_
  ((try (conv => whnf)); (repeat ((first | (refine br_true ?_ ?_; (focus (exact yesA))) | (refine br_false ?_ ?_; (focus (exact noA))) | (refine onS_map ?_ ?_; (focus (exact numA))) | (refine onS_intro (eqTC_ints rfl rfl rfl rfl ?_) ?_; (focus (exact numA))) | refine onS_intro (mapB_u8s _) ?_ | (refine And.intro ?_ ?_; (focus (exact flatA)))); (try (conv => whnf)))))
  refine ⟨_, _, rfl, .refl _ _, ?_⟩
  ((try (conv => whnf)); (repeat ((first | (refine br_true ?_ ?_; (focus (exact yesA))) | (refine br_false ?_ ?_; (focus (exact noA))) | (refine onS_map ?_ ?_; (focus (exact numA))) | (refine onS_intro (eqTC_ints rfl rfl rfl rfl ?_) ?_; (focus (exact numA))) | refine onS_intro (mapB_u8s _) ?_ | (refine And.intro ?_ ?_; (focus (exact flatA)))); (try (conv => whnf)))))
  ((first | refine call_intro (ret_tenth 1844674407370 (by decide)) (les_refl _) ?_ | refine call_intro (ret_tenth 1844674407370 (by decide)) lesA ?_); (try (conv => whnf)))
  ((try (conv => whnf)); (repeat ((first | (refine br_true ?_ ?_; (focus (exact yesA))) | (refine br_false ?_ ?_; (focus (exact noA))) | (refine onS_map ?_ ?_; (focus (exact numA))) | (refine onS_intro (eqTC_ints rfl rfl rfl rfl ?_) ?_; (focus (exact numA))) | refine onS_intro (mapB_u8s _) ?_ | (refine And.intro ?_ ?_; (focus (exact flatA)))); (try (conv => whnf)))))
  refine onS_intro (eqTC_U0 rfl rfl rfl rfl (by decide)) ?_
  ((try (conv => whnf)); (repeat ((first | (refine br_true ?_ ?_; (focus (exact yesA))) | (refine br_false ?_ ?_; (focus (exact noA))) | (refine onS_map ?_ ?_; (focus (exact numA))) | (refine onS_intro (eqTC_ints rfl rfl rfl rfl ?_) ?_; (focus (exact numA))) | refine onS_intro (mapB_u8s _) ?_ | (refine And.intro ?_ ?_; (focus (exact flatA)))); (try (conv => whnf)))))
  refine ⟨_, _, rfl, .refl _ _, ?_⟩
  ((try (conv => whnf)); (repeat ((first | (refine br_true ?_ ?_; (focus (exact yesA))) | (refine br_false ?_ ?_; (focus (exact noA))) | (refine onS_map ?_ ?_; (focus (exact numA))) | (refine onS_intro (eqTC_ints rfl rfl rfl rfl ?_) ?_; (focus (exact numA))) | refine onS_intro (mapB_u8s _) ?_ | (refine And.intro ?_ ?_; (focus (exact flatA)))); (try (conv => whnf)))))
  ((first | refine call_intro (ret_tenth 184467440737 (by decide)) (les_refl _) ?_ | refine call_intro (ret_tenth 184467440737 (by decide)) lesA ?_); (try (conv => whnf)))
  ((try (conv => whnf)); (repeat ((first | (refine br_true ?_ ?_; (focus (exact yesA))) | (refine br_false ?_ ?_; (focus (exact noA))) | (refine onS_map ?_ ?_; (focus (exact numA))) | (refine onS_intro (eqTC_ints rfl rfl rfl rfl ?_) ?_; (focus (exact numA))) | refine onS_intro (mapB_u8s _) ?_ | (refine And.intro ?_ ?_; (focus (exact flatA)))); (try (conv => whnf)))))
  refine onS_intro (eqTC_U0 rfl rfl rfl rfl (by decide)) ?_
  ((try (conv => whnf)); (repeat ((first | (refine br_true ?_ ?_; (focus (exact yesA))) | (refine br_false ?_ ?_; (focus (exact noA))) | (refine onS_map ?_ ?_; (focus (exact numA))) | (refine onS_intro (eqTC_ints rfl rfl rfl rfl ?_) ?_; (focus (exact numA))) | refine onS_intro (mapB_u8s _) ?_ | (refine And.intro ?_ ?_; (focus (exact flatA)))); (try (conv => whnf)))))
  refine ⟨_, _, rfl, .refl _ _, ?_⟩
  ((try (conv => whnf)); (repeat ((first | (refine br_true ?_ ?_; (focus (exact yesA))) | (refine br_false ?_ ?_; (focus (exact noA))) | (refine onS_map ?_ ?_; (focus (exact numA))) | (refine onS_intro (eqTC_ints rfl rfl rfl rfl ?_) ?_; (focus (exact numA))) | refine onS_intro (mapB_u8s _) ?_ | (refine And.intro ?_ ?_; (focus (exact flatA)))); (try (conv => whnf)))))
  ((first | refine call_intro (ret_tenth 18446744073 (by decide)) (les_refl _) ?_ | refine call_intro (ret_tenth 18446744073 (by decide)) lesA ?_); (try (conv => whnf)))
  ((try (conv => whnf)); (repeat ((first | (refine br_true ?_ ?_; (focus (exact yesA))) | (refine br_false ?_ ?_; (focus (exact noA))) | (refine onS_map ?_ ?_; (focus (exact numA))) | (refine onS_intro (eqTC_ints rfl rfl rfl rfl ?_) ?_; (focus (exact numA))) | refine onS_intro (mapB_u8s _) ?_ | (refine And.intro ?_ ?_; (focus (exact flatA)))); (try (conv => whnf)))))
  refine onS_intro (eqTC_U0 rfl rfl rfl rfl (by decide)) ?_
  ((try (conv => whnf)); (repeat ((first | (refine br_true ?_ ?_; (focus (exact yesA))) | (refine br_false ?_ ?_; (focus (exact noA))) | (refine onS_map ?_ ?_; (focus (exact numA))) | (refine onS_intro (eqTC_ints rfl rfl rfl rfl ?_) ?_; (focus (exact numA))) | refine onS_intro (mapB_u8s _) ?_ | (refine And.intro ?_ ?_; (focus (exact flatA)))); (try (conv => whnf)))))
  refine ⟨_, _, rfl, .refl _ _, ?_⟩
  ((try (conv => whnf)); (repeat ((first | (refine br_true ?_ ?_; (focus (exact yesA))) | (refine br_false ?_ ?_; (focus (exact noA))) | (refine onS_map ?_ ?_; (focus (exact numA))) | (refine onS_intro (eqTC_ints rfl rfl rfl rfl ?_) ?_; (focus (exact numA))) | refine onS_intro (mapB_u8s _) ?_ | (refine And.intro ?_ ?_; (focus (exact flatA)))); (try (conv => whnf)))))
  ((first | refine call_intro (ret_tenth 1844674407 (by decide)) (les_refl _) ?_ | refine call_intro (ret_tenth 1844674407 (by decide)) lesA ?_); (try (conv => whnf)))
  ((try (conv => whnf)); (repeat ((first | (refine br_true ?_ ?_; (focus (exact yesA))) | (refine br_false ?_ ?_; (focus (exact noA))) | (refine onS_map ?_ ?_; (focus (exact numA))) | (refine onS_intro (eqTC_ints rfl rfl rfl rfl ?_) ?_; (focus (exact numA))) | refine onS_intro (mapB_u8s _) ?_ | (refine And.intro ?_ ?_; (focus (exact flatA)))); (try (conv => whnf)))))
  refine onS_intro (eqTC_U0 rfl rfl rfl rfl (by decide)) ?_
  ((try (conv => whnf)); (repeat ((first | (refine br_true ?_ ?_; (focus (exact yesA))) | (refine br_false ?_ ?_; (focus (exact noA))) | (refine onS_map ?_ ?_; (focus (exact numA))) | (refine onS_intro (eqTC_ints rfl rfl rfl rfl ?_) ?_; (focus (exact numA))) | refine onS_intro (mapB_u8s _) ?_ | (refine And.intro ?_ ?_; (focus (exact flatA)))); (try (conv => whnf)))))
  refine ⟨_, _, rfl, .refl _ _, ?_⟩
  ((try (conv => whnf)); (repeat ((first | (refine br_true ?_ ?_; (focus (exact yesA))) | (refine br_false ?_ ?_; (focus (exact noA))) | (refine onS_map ?_ ?_; (focus (exact numA))) | (refine onS_intro (eqTC_ints rfl rfl rfl rfl ?_) ?_; (focus (exact numA))) | refine onS_intro (mapB_u8s _) ?_ | (refine And.intro ?_ ?_; (focus (exact flatA)))); (try (conv => whnf)))))
  ((first | refine call_intro (ret_tenth 184467440 (by decide)) (les_refl _) ?_ | refine call_intro (ret_tenth 184467440 (by decide)) lesA ?_); (try (conv => whnf)))
  ((try (conv => whnf)); (repeat ((first | (refine br_true ?_ ?_; (focus (exact yesA))) | (refine br_false ?_ ?_; (focus (exact noA))) | (refine onS_map ?_ ?_; (focus (exact numA))) | (refine onS_intro (eqTC_ints rfl rfl rfl rfl ?_) ?_; (focus (exact numA))) | refine onS_intro (mapB_u8s _) ?_ | (refine And.intro ?_ ?_; (focus (exact flatA)))); (try (conv => whnf)))))
  refine onS_intro (eqTC_U0 rfl rfl rfl rfl (by decide)) ?_
  ((try (conv => whnf)); (repeat ((first | (refine br_true ?_ ?_; (focus (exact yesA))) | (refine br_false ?_ ?_; (focus (exact noA))) | (refine onS_map ?_ ?_; (focus (exact numA))) | (refine onS_intro (eqTC_ints rfl rfl rfl rfl ?_) ?_; (focus (exact numA))) | refine onS_intro (mapB_u8s _) ?_ | (refine And.intro ?_ ?_; (focus (exact flatA)))); (try (conv => whnf)))))
  refine ⟨_, _, rfl, .refl _ _, ?_⟩
  ((try (conv => whnf)); (repeat ((first | (refine br_true ?_ ?_; (focus (exact yesA))) | (refine br_false ?_ ?_; (focus (exact noA))) | (refine onS_map ?_ ?_; (focus (exact numA))) | (refine onS_intro (eqTC_ints rfl rfl rfl rfl ?_) ?_; (focus (exact numA))) | refine onS_intro (mapB_u8s _) ?_ | (refine And.intro ?_ ?_; (focus (exact flatA)))); (try (conv => whnf)))))
  ((first | refine call_intro (ret_tenth 18446744 (by decide)) (les_refl _) ?_ | refine call_intro (ret_tenth 18446744 (by decide)) lesA ?_); (try (conv => whnf)))
  ((try (conv => whnf)); (repeat ((first | (refine br_true ?_ ?_; (focus (exact yesA))) | (refine br_false ?_ ?_; (focus (exact noA))) | (refine onS_map ?_ ?_; (focus (exact numA))) | (refine onS_intro (eqTC_ints rfl rfl rfl rfl ?_) ?_; (focus (exact numA))) | refine onS_intro (mapB_u8s _) ?_ | (refine And.intro ?_ ?_; (focus (exact flatA)))); (try (conv => whnf)))))
  refine onS_intro (eqTC_U0 rfl rfl rfl rfl (by decide)) ?_
  ((try (conv => whnf)); (repeat ((first | (refine br_true ?_ ?_; (focus (exact yesA))) | (refine br_false ?_ ?_; (focus (exact noA))) | (refine onS_map ?_ ?_; (focus (exact numA))) | (refine onS_intro (eqTC_ints rfl rfl rfl rfl ?_) ?_; (focus (exact numA))) | refine onS_intro (mapB_u8s _) ?_ | (refine And.intro ?_ ?_; (focus (exact flatA)))); (try (conv => whnf)))))
  refine ⟨_, _, rfl, .refl _ _, ?_⟩
  ((try (conv => whnf)); (repeat ((first | (refine br_true ?_ ?_; (focus (exact yesA))) | (refine br_false ?_ ?_; (focus (exact noA))) | (refine onS_map ?_ ?_; (focus (exact numA))) | (refine onS_intro (eqTC_ints rfl rfl rfl rfl ?_) ?_; (focus (exact numA))) | refine onS_intro (mapB_u8s _) ?_ | (refine And.intro ?_ ?_; (focus (exact flatA)))); (try (conv => whnf)))))
  ((first | refine call_intro (ret_tenth 1844674 (by decide)) (les_refl _) ?_ | refine call_intro (ret_tenth 1844674 (by decide)) lesA ?_); (try (conv => whnf)))
  ((try (conv => whnf)); (repeat ((first | (refine br_true ?_ ?_; (focus (exact yesA))) | (refine br_false ?_ ?_; (focus (exact noA))) | (refine onS_map ?_ ?_; (focus (exact numA))) | (refine onS_intro (eqTC_ints rfl rfl rfl rfl ?_) ?_; (focus (exact numA))) | refine onS_intro (mapB_u8s _) ?_ | (refine And.intro ?_ ?_; (focus (exact flatA)))); (try (conv => whnf)))))
  refine onS_intro (eqTC_U0 rfl rfl rfl rfl (by decide)) ?_
  ((try (conv => whnf)); (repeat ((first | (refine br_true ?_ ?_; (focus (exact yesA))) | (refine br_false ?_ ?_; (focus (exact noA))) | (refine onS_map ?_ ?_; (focus (exact numA))) | (refine onS_intro (eqTC_ints rfl rfl rfl rfl ?_) ?_; (focus (exact numA))) | refine onS_intro (mapB_u8s _) ?_ | (refine And.intro ?_ ?_; (focus (exact flatA)))); (try (conv => whnf)))))
  refine ⟨_, _, rfl, .refl _ _, ?_⟩
  ((try (conv => whnf)); (repeat ((first | (refine br_true ?_ ?_; (focus (exact yesA))) | (refine br_false ?_ ?_; (focus (exact noA))) | (refine onS_map ?_ ?_; (focus (exact numA))) | (refine onS_intro (eqTC_ints rfl rfl rfl rfl ?_) ?_; (focus (exact numA))) | refine onS_intro (mapB_u8s _) ?_ | (refine And.intro ?_ ?_; (focus (exact flatA)))); (try (conv => whnf)))))
  ((first | refine call_intro (ret_tenth 184467 (by decide)) (les_refl _) ?_ | refine call_intro (ret_tenth 184467 (by decide)) lesA ?_); (try (conv => whnf)))
  ((try (conv => whnf)); (repeat ((first | (refine br_true ?_ ?_; (focus (exact yesA))) | (refine br_false ?_ ?_; (focus (exact noA))) | (refine onS_map ?_ ?_; (focus (exact numA))) | (refine onS_intro (eqTC_ints rfl rfl rfl rfl ?_) ?_; (focus (exact numA))) | refine onS_intro (mapB_u8s _) ?_ | (refine And.intro ?_ ?_; (focus (exact flatA)))); (try (conv => whnf)))))
  refine onS_intro (eqTC_U0 rfl rfl rfl rfl (by decide)) ?_
  ((try (conv => whnf)); (repeat ((first | (refine br_true ?_ ?_; (focus (exact yesA))) | (refine br_false ?_ ?_; (focus (exact noA))) | (refine onS_map ?_ ?_; (focus (exact numA))) | (refine onS_intro (eqTC_ints rfl rfl rfl rfl ?_) ?_; (focus (exact numA))) | refine onS_intro (mapB_u8s _) ?_ | (refine And.intro ?_ ?_; (focus (exact flatA)))); (try (conv => whnf)))))
  refine ⟨_, _, rfl, .refl _ _, ?_⟩
  ((try (conv => whnf)); (repeat ((first | (refine br_true ?_ ?_; (focus (exact yesA))) | (refine br_false ?_ ?_; (focus (exact noA))) | (refine onS_map ?_ ?_; (focus (exact numA))) | (refine onS_intro (eqTC_ints rfl rfl rfl rfl ?_) ?_; (focus (exact numA))) | refine onS_intro (mapB_u8s _) ?_ | (refine And.intro ?_ ?_; (focus (exact flatA)))); (try (conv => whnf)))))
  ((first | refine call_intro (ret_tenth 18446 (by decide)) (les_refl _) ?_ | refine call_intro (ret_tenth 18446 (by decide)) lesA ?_); (try (conv => whnf)))
  ((try (conv => whnf)); (repeat ((first | (refine br_true ?_ ?_; (focus (exact yesA))) | (refine br_false ?_ ?_; (focus (exact noA))) | (refine onS_map ?_ ?_; (focus (exact numA))) | (refine onS_intro (eqTC_ints rfl rfl rfl rfl ?_) ?_; (focus (exact numA))) | refine onS_intro (mapB_u8s _) ?_ | (refine And.intro ?_ ?_; (focus (exact flatA)))); (try (conv => whnf)))))
  refine onS_intro (eqTC_U0 rfl rfl rfl rfl (by decide)) ?_
  ((try (conv => whnf)); (repeat ((first | (refine br_true ?_ ?_; (focus (exact yesA))) | (refine br_false ?_ ?_; (focus (exact noA))) | (refine onS_map ?_ ?_; (focus (exact numA))) | (refine onS_intro (eqTC_ints rfl rfl rfl rfl ?_) ?_; (focus (exact numA))) | refine onS_intro (mapB_u8s _) ?_ | (refine And.intro ?_ ?_; (focus (exact flatA)))); (try (conv => whnf)))))
  refine ⟨_, _, rfl, .refl _ _, ?_⟩
  ((try (conv => whnf)); (repeat ((first | (refine br_true ?_ ?_; (focus (exact yesA))) | (refine br_false ?_ ?_; (focus (exact noA))) | (refine onS_map ?_ ?_; (focus (exact numA))) | (refine onS_intro (eqTC_ints rfl rfl rfl rfl ?_) ?_; (focus (exact numA))) | refine onS_intro (mapB_u8s _) ?_ | (refine And.intro ?_ ?_; (focus (exact flatA)))); (try (conv => whnf)))))
  ((first | refine call_intro (ret_tenth 1844 (by decide)) (les_refl _) ?_ | refine call_intro (ret_tenth 1844 (by decide)) lesA ?_); (try (conv => whnf)))
  ((try (conv => whnf)); (repeat ((first | (refine br_true ?_ ?_; (focus (exact yesA))) | (refine br_false ?_ ?_; (focus (exact noA))) | (refine onS_map ?_ ?_; (focus (exact numA))) | (refine onS_intro (eqTC_ints rfl rfl rfl rfl ?_) ?_; (focus (exact numA))) | refine onS_intro (mapB_u8s _) ?_ | (refine And.intro ?_ ?_; (focus (exact flatA)))); (try (conv => whnf)))))
  refine onS_intro (eqTC_U0 rfl rfl rfl rfl (by decide)) ?_
  ((try (conv => whnf)); (repeat ((first | (refine br_true ?_ ?_; (focus (exact yesA))) | (refine br_false ?_ ?_; (focus (exact noA))) | (refine onS_map ?_ ?_; (focus (exact numA))) | (refine onS_intro (eqTC_ints rfl rfl rfl rfl ?_) ?_; (focus (exact numA))) | refine onS_intro (mapB_u8s _) ?_ | (refine And.intro ?_ ?_; (focus (exact flatA)))); (try (conv => whnf)))))
  refine ⟨_, _, rfl, .refl _ _, ?_⟩
  ((try (conv => whnf)); (repeat ((first | (refine br_true ?_ ?_; (focus (exact yesA))) | (refine br_false ?_ ?_; (focus (exact noA))) | (refine onS_map ?_ ?_; (focus (exact numA))) | (refine onS_intro (eqTC_ints rfl rfl rfl rfl ?_) ?_; (focus (exact numA))) | refine onS_intro (mapB_u8s _) ?_ | (refine And.intro ?_ ?_; (focus (exact flatA)))); (try (conv => whnf)))))
  ((first | refine call_intro (ret_tenth 184 (by decide)) (les_refl _) ?_ | refine call_intro (ret_tenth 184 (by decide)) lesA ?_); (try (conv => whnf)))
  ((try (conv => whnf)); (repeat ((first | (refine br_true ?_ ?_; (focus (exact yesA))) | (refine br_false ?_ ?_; (focus (exact noA))) | (refine onS_map ?_ ?_; (focus (exact numA))) | (refine onS_intro (eqTC_ints rfl rfl rfl rfl ?_) ?_; (focus (exact numA))) | refine onS_intro (mapB_u8s _) ?_ | (refine And.intro ?_ ?_; (focus (exact flatA)))); (try (conv => whnf)))))
  refine onS_intro (eqTC_U0 rfl rfl rfl rfl (by decide)) ?_
  ((try (conv => whnf)); (repeat ((first | (refine br_true ?_ ?_; (focus (exact yesA))) | (refine br_false ?_ ?_; (focus (exact noA))) | (refine onS_map ?_ ?_; (focus (exact numA))) | (refine onS_intro (eqTC_ints rfl rfl rfl rfl ?_) ?_; (focus (exact numA))) | refine onS_intro (mapB_u8s _) ?_ | (refine And.intro ?_ ?_; (focus (exact flatA)))); (try (conv => whnf)))))
  refine ⟨_, _, rfl, .refl _ _, ?_⟩
  ((try (conv => whnf)); (repeat ((first | (refine br_true ?_ ?_; (focus (exact yesA))) | (refine br_false ?_ ?_; (focus (exact noA))) | (refine onS_map ?_ ?_; (focus (exact numA))) | (refine onS_intro (eqTC_ints rfl rfl rfl rfl ?_) ?_; (focus (exact numA))) | refine onS_intro (mapB_u8s _) ?_ | (refine And.intro ?_ ?_; (focus (exact flatA)))); (try (conv => whnf)))))
  ((first | refine call_intro (ret_tenth 18 (by decide)) (les_refl _) ?_ | refine call_intro (ret_tenth 18 (by decide)) lesA ?_); (try (conv => whnf)))
  ((try (conv => whnf)); (repeat ((first | (refine br_true ?_ ?_; (focus (exact yesA))) | (refine br_false ?_ ?_; (focus (exact noA))) | (refine onS_map ?_ ?_; (focus (exact numA))) | (refine onS_intro (eqTC_ints rfl rfl rfl rfl ?_) ?_; (focus (exact numA))) | refine onS_intro (mapB_u8s _) ?_ | (refine And.intro ?_ ?_; (focus (exact flatA)))); (try (conv => whnf)))))
  refine onS_intro (eqTC_U0 rfl rfl rfl rfl (by decide)) ?_
  ((try (conv => whnf)); (repeat ((first | (refine br_true ?_ ?_; (focus (exact yesA))) | (refine br_false ?_ ?_; (focus (exact noA))) | (refine onS_map ?_ ?_; (focus (exact numA))) | (refine onS_intro (eqTC_ints rfl rfl rfl rfl ?_) ?_; (focus (exact numA))) | refine onS_intro (mapB_u8s _) ?_ | (refine And.intro ?_ ?_; (focus (exact flatA)))); (try (conv => whnf)))))
  refine ⟨_, _, rfl, .refl _ _, ?_⟩
  ((try (conv => whnf)); (repeat ((first | (refine br_true ?_ ?_; (focus (exact yesA))) | (refine br_false ?_ ?_; (focus (exact noA))) | (refine onS_map ?_ ?_; (focus (exact numA))) | (refine onS_intro (eqTC_ints rfl rfl rfl rfl ?_) ?_; (focus (exact numA))) | refine onS_intro (mapB_u8s _) ?_ | (refine And.intro ?_ ?_; (focus (exact flatA)))); (try (conv => whnf)))))
  ((first | refine call_intro (ret_tenth 1 (by decide)) (les_refl _) ?_ | refine call_intro (ret_tenth 1 (by decide)) lesA ?_); (try (conv => whnf)))
  ((try (conv => whnf)); (repeat ((first | (refine br_true ?_ ?_; (focus (exact yesA))) | (refine br_false ?_ ?_; (focus (exact noA))) | (refine onS_map ?_ ?_; (focus (exact numA))) | (refine onS_intro (eqTC_ints rfl rfl rfl rfl ?_) ?_; (focus (exact numA))) | refine onS_intro (mapB_u8s _) ?_ | (refine And.intro ?_ ?_; (focus (exact flatA)))); (try (conv => whnf)))))
  refine onS_intro (eqTC_U0 rfl rfl rfl rfl (by decide)) ?_
  ((try (conv => whnf)); (repeat ((first | (refine br_true ?_ ?_; (focus (exact yesA))) | (refine br_false ?_ ?_; (focus (exact noA))) | (refine onS_map ?_ ?_; (focus (exact numA))) | (refine onS_intro (eqTC_ints rfl rfl rfl rfl ?_) ?_; (focus (exact numA))) | refine onS_intro (mapB_u8s _) ?_ | (refine And.intro ?_ ?_; (focus (exact flatA)))); (try (conv => whnf)))))
  refine onS_intro (mapB_of (l := sane64) (by kernel_rfl)) ?_
  ((try (conv => whnf)); (repeat ((first | (refine br_true ?_ ?_; (focus (exact yesA))) | (refine br_false ?_ ?_; (focus (exact noA))) | (refine onS_map ?_ ?_; (focus (exact numA))) | (refine onS_intro (eqTC_ints rfl rfl rfl rfl ?_) ?_; (focus (exact numA))) | refine onS_intro (mapB_u8s _) ?_ | (refine And.intro ?_ ?_; (focus (exact flatA)))); (try (conv => whnf)))))
  exact D.le.refl _
theorem ret_sane : Returns cx n_lightclientlaw02_sane [] (.bool true) := by
  (refine of_W2 (fn := f_lightclientlaw02_sane) {} (by kernel_rfl) (by kernel_rfl) (by kernel_rfl) (by kernel_rfl) (by kernel_rfl) ?_)
  ((try (conv => whnf)); (repeat ((first | (refine br_true ?_ ?_; (focus (exact yesA))) | (refine br_false ?_ ?_; (focus (exact noA))) | (refine onS_map ?_ ?_; (focus (exact numA))) | (refine onS_intro (eqTC_ints rfl rfl rfl rfl ?_) ?_; (focus (exact numA))) | refine onS_intro (mapB_u8s _) ?_ | (refine And.intro ?_ ?_; (focus (exact flatA)))); (try (conv => whnf)))))
  ((first | refine call_intro (ret_SubU 0 1 (by decide) (by decide)) (les_refl _) ?_ | refine call_intro (ret_SubU 0 1 (by decide) (by decide)) lesA ?_); (try (conv => whnf)))
  ((try (conv => whnf)); (repeat ((first | (refine br_true ?_ ?_; (focus (exact yesA))) | (refine br_false ?_ ?_; (focus (exact noA))) | (refine onS_map ?_ ?_; (focus (exact numA))) | (refine onS_intro (eqTC_ints rfl rfl rfl rfl ?_) ?_; (focus (exact numA))) | refine onS_intro (mapB_u8s _) ?_ | (refine And.intro ?_ ?_; (focus (exact flatA)))); (try (conv => whnf)))))
  ((first | refine call_intro (ret_Div_ok 0 7 2 (by decide) (by decide) (by decide) (by decide)) (les_refl _) ?_ | refine call_intro (ret_Div_ok 0 7 2 (by decide) (by decide) (by decide) (by decide)) lesA ?_); (try (conv => whnf)))
  ((try (conv => whnf)); (repeat ((first | (refine br_true ?_ ?_; (focus (exact yesA))) | (refine br_false ?_ ?_; (focus (exact noA))) | (refine onS_map ?_ ?_; (focus (exact numA))) | (refine onS_intro (eqTC_ints rfl rfl rfl rfl ?_) ?_; (focus (exact numA))) | refine onS_intro (mapB_u8s _) ?_ | (refine And.intro ?_ ?_; (focus (exact flatA)))); (try (conv => whnf)))))
  refine onS_intro (eqTC_U (b := 115792089237316195423570985008687907853269984665640564039457584007913129639935) rfl rfl rfl rfl (by decide) (by decide)) ?_
  ((try (conv => whnf)); (repeat ((first | (refine br_true ?_ ?_; (focus (exact yesA))) | (refine br_false ?_ ?_; (focus (exact noA))) | (refine onS_map ?_ ?_; (focus (exact numA))) | (refine onS_intro (eqTC_ints rfl rfl rfl rfl ?_) ?_; (focus (exact numA))) | refine onS_intro (mapB_u8s _) ?_ | (refine And.intro ?_ ?_; (focus (exact flatA)))); (try (conv => whnf)))))
  refine onS_intro (eqTC_U (b := 3) rfl rfl rfl rfl (by decide) (by decide)) ?_
  ((try (conv => whnf)); (repeat ((first | (refine br_true ?_ ?_; (focus (exact yesA))) | (refine br_false ?_ ?_; (focus (exact noA))) | (refine onS_map ?_ ?_; (focus (exact numA))) | (refine onS_intro (eqTC_ints rfl rfl rfl rfl ?_) ?_; (focus (exact numA))) | refine onS_intro (mapB_u8s _) ?_ | (refine And.intro ?_ ?_; (focus (exact flatA)))); (try (conv => whnf)))))
  refine onS_intro (eqTC_U (b := 1) rfl rfl rfl rfl (by decide) (by decide)) ?_
  ((try (conv => whnf)); (repeat ((first | (refine br_true ?_ ?_; (focus (exact yesA))) | (refine br_false ?_ ?_; (focus (exact noA))) | (refine onS_map ?_ ?_; (focus (exact numA))) | (refine onS_intro (eqTC_ints rfl rfl rfl rfl ?_) ?_; (focus (exact numA))) | refine onS_intro (mapB_u8s _) ?_ | (refine And.intro ?_ ?_; (focus (exact flatA)))); (try (conv => whnf)))))
  ((first | refine call_intro (ret_Text64) (les_refl _) ?_ | refine call_intro (ret_Text64) lesA ?_); (try (conv => whnf)))
  ((try (conv => whnf)); (repeat ((first | (refine br_true ?_ ?_; (focus (exact yesA))) | (refine br_false ?_ ?_; (focus (exact noA))) | (refine onS_map ?_ ?_; (focus (exact numA))) | (refine onS_intro (eqTC_ints rfl rfl rfl rfl ?_) ?_; (focus (exact numA))) | refine onS_intro (mapB_u8s _) ?_ | (refine And.intro ?_ ?_; (focus (exact flatA)))); (try (conv => whnf)))))
  refine le_true (chk_true ?_)
  kernel_rfl
end Go.Fw

/-
Big-endian forms, plain. No conditions.
-/
namespace Go.Fw
set_option linter.unusedVariables false
set_option linter.unusedSimpArgs false
set_option maxRecDepth 10000
def Byt (c : Int) : Prop := 0 ≤ c ∧ c < 256
/-- The number with a big-endian form. -/
def beN : List Int → Nat
  | [] => 0
  | c :: r => c.toNat * 256 ^ r.length + beN r
theorem beN_lt : ∀ {l : List Int}, (∀ c ∈ l, Byt c) → beN l < 256 ^ l.length
  | [], _ => by simp [beN]
  | c :: r, h => by
    have hc := h c (by simp)
    have hr := beN_lt (l := r) fun x hx => h x (by simp [hx])
    have h1 : c.toNat + 1 ≤ 256 := by have := hc.1; have := hc.2; omega
    have h2 : (c.toNat + 1) * 256 ^ r.length ≤ 256 * 256 ^ r.length := Nat.mul_le_mul_right _ h1
    rw [Nat.add_mul, Nat.one_mul] at h2
    simp only [beN, List.length_cons, Nat.pow_succ]
    rw [Nat.mul_comm (256 ^ r.length)]
    omega
theorem beN_app : ∀ (a b : List Int), beN (a ++ b) = beN a * 256 ^ b.length + beN b
  | [], b => by simp [beN]
  | c :: r, b => by
    simp only [List.cons_append, beN, beN_app r b, List.length_append]
    rw [Nat.pow_add, Nat.add_mul, Nat.mul_assoc, Nat.add_assoc]
theorem beN_snoc (a : List Int) (c : Int) : beN (a ++ [c]) = beN a * 256 + c.toNat := by
  rw [beN_app]; simp [beN]
theorem beN_lex {p r s : List Int} {c d : Int} (hr : ∀ x ∈ r, Byt x) (hs : r.length = s.length) (hcd : c < d) (hc : 0 ≤ c) : beN (p ++ c :: r) < beN (p ++ d :: s) := by
  rw [beN_app, beN_app, List.length_cons, List.length_cons, hs]
  refine Nat.add_lt_add_left ?_ _
  simp only [beN]
  have h1 := beN_lt hr
  rw [hs] at h1 ⊢
  have h2 : (c.toNat + 1) * 256 ^ s.length ≤ d.toNat * 256 ^ s.length := Nat.mul_le_mul_right _ (by omega)
  rw [Nat.add_mul, Nat.one_mul] at h2
  omega
/-- One more byte. -/
def upI (x c : Int) : Int := orW .u64 (shlW .u64 x (Int.toNat 8)) c
theorem upI_eq {x : Nat} {c : Int} (hx : x < 72057594037927936) (hc : Byt c) : upI (x : Int) c = ((x * 256 + c.toNat : Nat) : Int) := by
  obtain ⟨n, rfl⟩ := Int.eq_ofNat_of_zero_le hc.1
  have hn : n < 256 := by have := hc.2; omega
  unfold upI
  have e : shlW .u64 (x : Int) (Int.toNat 8) = ((x * 256 : Nat) : Int) := by
    refine (shlW64 (a := x) (n := 8) (by decide)).trans ?_
    exact congrArg _ (Nat.mod_eq_of_lt (show x * 256 < 18446744073709551616 by omega))
  rw [e, or64 (by omega) (by omega), Int.toNat_natCast]
  have := Nat.two_pow_add_eq_or_of_lt (i := 8) (b := n) hn x
  rw [Nat.mul_comm] at this
  exact congrArg _ this.symm
theorem fold_up : ∀ (l a : List Int), a.length + l.length ≤ 8 → (∀ c ∈ a ++ l, Byt c) → l.foldl upI (beN a : Int) = (beN (a ++ l) : Int)
  | [], a, _, _ => by simp
  | c :: r, a, hl, h => by
    have hc : Byt c := h c (by simp)
    have ha : beN a < 256 ^ a.length := beN_lt fun x hx => h x (by simp [hx])
    have h7 : 256 ^ a.length ≤ 256 ^ 7 := Nat.pow_le_pow_right (by decide) (by simp at hl; omega)
    have hx : beN a < 72057594037927936 := Nat.lt_of_lt_of_le ha h7
    rw [List.foldl_cons, upI_eq hx hc, ← beN_snoc]
    have := fold_up r (a ++ [c]) (by simp at hl ⊢; omega) (fun x hx => h x (by simpa using hx))
    rw [this]
    simp
theorem fold_up0 {l : List Int} (hl : l.length ≤ 8) (h : ∀ c ∈ l, Byt c) : l.foldl upI 0 = (beN l : Int) := by
  have := fold_up l [] (by simpa using hl) (by simpa using h)
  simpa [beN] using this
/-- What the program has read after i bytes. -/
def fb (h : List Int) : Nat → List Int
  | 0 => [0, 0, 0, 0]
  | i + 1 => (fb h i).set (3 - i / 8) (upI ((fb h i).getD (3 - i / 8) 0) (h.getD i 0))
theorem fb_len (h : List Int) : ∀ i, (fb h i).length = 4
  | 0 => rfl
  | i + 1 => by simp [fb, fb_len h i]
theorem fb_end {c0 c1 c2 c3 c4 c5 c6 c7 c8 c9 d0 d1 d2 d3 d4 d5 d6 d7 d8 d9 e0 e1 e2 e3 e4 e5 e6 e7 e8 e9 f0 f1 : Int} :
    fb [c0, c1, c2, c3, c4, c5, c6, c7, c8, c9, d0, d1, d2, d3, d4, d5, d6, d7, d8, d9, e0, e1, e2, e3, e4, e5, e6, e7, e8, e9, f0, f1] 32 =
      [[e4, e5, e6, e7, e8, e9, f0, f1].foldl upI 0, [d6, d7, d8, d9, e0, e1, e2, e3].foldl upI 0, [c8, c9, d0, d1, d2, d3, d4, d5].foldl upI 0, [c0, c1, c2, c3, c4, c5, c6, c7].foldl upI 0] := by
  kernel_rfl
theorem w8_lt {l : List Int} (hl : l.length = 8) (h : ∀ c ∈ l, Byt c) : beN l < 18446744073709551616 := by
  have := beN_lt h
  rw [hl] at this
  exact this
/-- Four words of eight bytes. -/
theorem beN_four {a b c d : List Int} (hb : b.length = 8) (hc : c.length = 8) (hd : d.length = 8) : beN (a ++ (b ++ (c ++ d))) = beN d + beN c * 18446744073709551616 + beN b * 340282366920938463463374607431768211456 + beN a * 6277101735386680763835789423207666416102355444464034512896 := by
  rw [beN_app, beN_app, beN_app, List.length_append, List.length_append, hb, hc, hd]
  have e1 : 256 ^ 8 = 18446744073709551616 := by decide
  have e2 : 256 ^ (8 + 8) = 340282366920938463463374607431768211456 := by decide
  have e3 : 256 ^ (8 + (8 + 8)) = 6277101735386680763835789423207666416102355444464034512896 := by decide
  rw [e1, e2, e3]
  omega
theorem parts_four {x0 x1 x2 x3 : Nat} (l0 : x0 < 18446744073709551616) (l1 : x1 < 18446744073709551616) (l2 : x2 < 18446744073709551616) (l3 : x3 < 18446744073709551616) : parts (x0 + x1 * 18446744073709551616 + x2 * 340282366920938463463374607431768211456 + x3 * 6277101735386680763835789423207666416102355444464034512896) = [(x3 : Int), x2, x1, x0].reverse := by
  unfold parts
  rw [wd0, wd1, wd2, wd3]
  rw [show (x0 + x1 * 18446744073709551616 + x2 * 340282366920938463463374607431768211456 + x3 * 6277101735386680763835789423207666416102355444464034512896) % 18446744073709551616 = x0 by omega, show (x0 + x1 * 18446744073709551616 + x2 * 340282366920938463463374607431768211456 + x3 * 6277101735386680763835789423207666416102355444464034512896) / 18446744073709551616 % 18446744073709551616 = x1 by omega, show (x0 + x1 * 18446744073709551616 + x2 * 340282366920938463463374607431768211456 + x3 * 6277101735386680763835789423207666416102355444464034512896) / 340282366920938463463374607431768211456 % 18446744073709551616 = x2 by omega, show (x0 + x1 * 18446744073709551616 + x2 * 340282366920938463463374607431768211456 + x3 * 6277101735386680763835789423207666416102355444464034512896) / 6277101735386680763835789423207666416102355444464034512896 % 18446744073709551616 = x3 by omega]
  rfl
theorem fb_parts {h : List Int} (hl : h.length = 32) (hb : ∀ c ∈ h, Byt c) : fb h 32 = parts (beN h) := by
  match h, hl with
  | [c0, c1, c2, c3, c4, c5, c6, c7, c8, c9, d0, d1, d2, d3, d4, d5, d6, d7, d8, d9, e0, e1, e2, e3, e4, e5, e6, e7, e8, e9, f0, f1], _ =>
    rw [fb_end]
    have hb : ∀ x ∈ [c0, c1, c2, c3, c4, c5, c6, c7] ++ ([c8, c9, d0, d1, d2, d3, d4, d5] ++ ([d6, d7, d8, d9, e0, e1, e2, e3] ++ [e4, e5, e6, e7, e8, e9, f0, f1])), Byt x := hb
    have b3 : ∀ c ∈ [c0, c1, c2, c3, c4, c5, c6, c7], Byt c := fun c hc => hb c (List.mem_append_left _ hc)
    have b2 : ∀ c ∈ [c8, c9, d0, d1, d2, d3, d4, d5], Byt c := fun c hc => hb c (List.mem_append_right _ (List.mem_append_left _ hc))
    have b1 : ∀ c ∈ [d6, d7, d8, d9, e0, e1, e2, e3], Byt c := fun c hc => hb c (List.mem_append_right _ (List.mem_append_right _ (List.mem_append_left _ hc)))
    have b0 : ∀ c ∈ [e4, e5, e6, e7, e8, e9, f0, f1], Byt c := fun c hc => hb c (List.mem_append_right _ (List.mem_append_right _ (List.mem_append_right _ hc)))
    have e : beN [c0, c1, c2, c3, c4, c5, c6, c7, c8, c9, d0, d1, d2, d3, d4, d5, d6, d7, d8, d9, e0, e1, e2, e3, e4, e5, e6, e7, e8, e9, f0, f1] = _ := beN_four (a := [c0, c1, c2, c3, c4, c5, c6, c7]) (b := [c8, c9, d0, d1, d2, d3, d4, d5]) (c := [d6, d7, d8, d9, e0, e1, e2, e3]) (d := [e4, e5, e6, e7, e8, e9, f0, f1]) rfl rfl rfl
    rw [fold_up0 (by simp) b3, fold_up0 (by simp) b2, fold_up0 (by simp) b1, fold_up0 (by simp) b0]
    rw [e]
    have l3 := w8_lt rfl b3
    have l2 := w8_lt rfl b2
    have l1 := w8_lt rfl b1
    have l0 := w8_lt rfl b0
    generalize beN [c0, c1, c2, c3, c4, c5, c6, c7] = x3 at *
    generalize beN [c8, c9, d0, d1, d2, d3, d4, d5] = x2 at *
    generalize beN [d6, d7, d8, d9, e0, e1, e2, e3] = x1 at *
    generalize beN [e4, e5, e6, e7, e8, e9, f0, f1] = x0 at *
    exact (parts_four l0 l1 l2 l3).symm
end Go.Fw

/-
Contracts of big-endian forms, of the program and of the reference. No conditions.
-/
namespace Go.Fw
set_option linter.unusedVariables false
set_option linter.unusedSimpArgs false
open Go.Proofs
set_option maxRecDepth 100000
set_option maxHeartbeats 4000000
theorem set_ints {k : IntKind} {n : Nat} {l : List Int} {i : Nat} {x : Int} {l' : List Int} (h : l.set i x = l') : D.arr n .one ((l.map (D.int k)).set i (.int k x)) = .arr n .one (l'.map (D.int k)) := by
  rw [← h, List.map_set]
theorem byte_get {h : List Int} (hb : ∀ c ∈ h, Byt c) {i : Nat} (hi : i < h.length) : Byt (h.getD i default) := by
  rw [getD_get _ _ _ hi]
  exact hb _ (List.getElem_mem hi)
theorem ret_FromBytesU (h : List Int) (hl : h.length = 32) (hb : ∀ c ∈ h, Byt c) : Returns cx n_wide_FromBytes [hashD h] (U (beN h)) := by
  (refine of_W2 (fn := f_wide_FromBytes) {} (by kernel_rfl) (by kernel_rfl) (by kernel_rfl) (by kernel_rfl) (by kernel_rfl) ?_)
  ((try (conv => whnf)); (repeat ((first | (refine br_true ?_ ?_; (focus (exact yesA))) | (refine br_false ?_ ?_; (focus (exact noA))) | (refine onS_map ?_ ?_; (focus (exact numA))) | (refine onS_intro (eqTC_ints rfl rfl rfl rfl ?_) ?_; (focus (exact numA))) | refine onS_intro (mapB_u8s _) ?_ | (refine And.intro ?_ ?_; (focus (exact flatA)))); (try (conv => whnf)))))
  refine LoopW2_rule (fun i : Nat => [(2, .ptr 1 0 [] (.arr 4 .one)), (3, .ptr 2 0 [] (.arr 4 .one)), (6, .d (hashD h)), (7, .d (.int .i64 (i : Nat)))])
    (fun i => [none, some (.fix (.d (U 0))), some (.fix (.d (.arr 4 .one ((fb h i).map (.int .u64)))))]) (fun i => i ≤ 32) (fun i => 32 - i) _ rfl 0 (Wk.go ?_ rfl ?_ rfl) (by omega) ?_
  rotate_left 2
  · rintro i K hi hK
    simp only at hi hK ⊢
    have hf := fb_len h i
    by_cases h32 : i = 32
    · subst h32
      rw [fb_parts hl hb]
      ((try (conv => whnf)); (repeat ((first | (refine br_true ?_ ?_; (focus (exact yesA))) | (refine br_false ?_ ?_; (focus (exact noA))) | (refine onS_map ?_ ?_; (focus (exact numA))) | (refine onS_intro (eqTC_ints rfl rfl rfl rfl ?_) ?_; (focus (exact numA))) | refine onS_intro (mapB_u8s _) ?_ | (refine And.intro ?_ ?_; (focus (exact flatA)))); (try (conv => whnf)))))
      exact D.le.refl _
    · have hby := byte_get hb (show i < h.length by omega)
      obtain ⟨hb1, hb2⟩ := hby
      have e1 : (3 - (i : Int) / 8).toNat = 3 - i / 8 := by omega
      ((try (conv => whnf)); (repeat ((first | (refine br_true ?_ ?_; (focus (exact yesA))) | (refine br_false ?_ ?_; (focus (exact noA))) | (refine onS_map ?_ ?_; (focus (exact numA))) | (refine onS_intro (eqTC_ints rfl rfl rfl rfl ?_) ?_; (focus (exact numA))) | refine onS_intro (mapB_u8s _) ?_ | (refine And.intro ?_ ?_; (focus (exact flatA)))); (try (conv => whnf)))))
      rw [Int.toNat_natCast]
      ((try (conv => whnf)); (repeat ((first | (refine br_true ?_ ?_; (focus (exact yesA))) | (refine br_false ?_ ?_; (focus (exact noA))) | (refine onS_map ?_ ?_; (focus (exact numA))) | (refine onS_intro (eqTC_ints rfl rfl rfl rfl ?_) ?_; (focus (exact numA))) | refine onS_intro (mapB_u8s _) ?_ | (refine And.intro ?_ ?_; (focus (exact flatA)))); (try (conv => whnf)))))
      rw [e1]
      refine hK (i + 1) _ _ rfl (Wk.go ?_ rfl ?_ rfl) (by omega) (by omega)
      all_goals (try (repeat' (first | exact trivial | rfl | exact .inl rfl | exact .inr rfl | refine ⟨?_, ?_⟩)))
      exact .inr (congrArg (fun x => some (Blk.fix (V.d x))) (set_ints rfl))
  all_goals (try (repeat' (first | exact trivial | rfl | exact .inl rfl | exact .inr rfl | refine ⟨?_, ?_⟩)))
/-- What the reference has read after i bytes. -/
def fbr (h : List Int) : Nat → List Int
  | 0 => [0, 0, 0, 0]
  | i + 1 => (fbr h i).set ((31 - i) / 8) (orW .u64 ((fbr h i).getD ((31 - i) / 8) 0) (shlW .u64 (h.getD i 0) (8 * ((31 - i) % 8))))
theorem fbr_len (h : List Int) : ∀ i, (fbr h i).length = 4
  | 0 => rfl
  | i + 1 => by simp [fbr, fbr_len h i]
def fr : List Int → Int → Int
  | [], x => x
  | c :: r, x => fr r (orW .u64 x (shlW .u64 c (8 * r.length)))
theorem fr_eq : ∀ (l : List Int) (N : Nat), l.length ≤ 8 → (∀ c ∈ l, Byt c) → (N + 1) * 256 ^ l.length ≤ 18446744073709551616 → fr l ((N * 256 ^ l.length : Nat) : Int) = ((N * 256 ^ l.length + beN l : Nat) : Int)
  | [], N, _, _, _ => by simp [fr, beN]
  | c :: r, N, hl, h, hN => by
    have hc : Byt c := h c (by simp)
    obtain ⟨n, rfl⟩ := Int.eq_ofNat_of_zero_le hc.1
    have hn : n < 256 := by have := hc.2; omega
    have hp : 256 ^ r.length = 2 ^ (8 * r.length) := by rw [Nat.pow_mul]
    have hp0 : 0 < 256 ^ r.length := Nat.pow_pos (by decide)
    simp only [List.length_cons, Nat.pow_succ] at hl hN ⊢
    have hN2 : (N + 1) * (256 ^ r.length * 256) = N * (256 ^ r.length * 256) + 256 ^ r.length * 256 := by rw [Nat.add_mul, Nat.one_mul]
    have hlt : n * 256 ^ r.length < 256 ^ r.length * 256 := by rw [Nat.mul_comm]; exact Nat.mul_lt_mul_of_pos_left hn hp0
    have e : shlW .u64 ((n : Nat) : Int) (8 * r.length) = ((n * 256 ^ r.length : Nat) : Int) := by
      rw [shlW64 (by omega), ← hp, Nat.mod_eq_of_lt (by omega)]
    have e2 : N * (256 ^ r.length * 256) ||| n * 256 ^ r.length = (N * 256 + n) * 256 ^ r.length := by
      have hq : n * 256 ^ r.length < 2 ^ (8 * r.length + 8) := by rw [Nat.pow_add, ← hp]; exact hlt
      have := Nat.two_pow_add_eq_or_of_lt hq N
      rw [Nat.pow_add, ← hp, Nat.mul_comm _ N] at this
      rw [show (2 : Nat) ^ 8 = 256 from rfl] at this
      rw [← this, Nat.add_mul, Nat.mul_assoc, Nat.mul_comm 256]
    show fr r (orW .u64 ((N * (256 ^ r.length * 256) : Nat) : Int) (shlW .u64 ((n : Nat) : Int) (8 * r.length))) = _
    rw [e, or64 (by omega) (by omega), e2]
    have hN3 : (N * 256 + n + 1) * 256 ^ r.length ≤ 18446744073709551616 := by
      have : (N * 256 + n + 1) * 256 ^ r.length ≤ (N * 256 + 256) * 256 ^ r.length := Nat.mul_le_mul_right _ (by omega)
      rw [show N * 256 + 256 = (N + 1) * 256 by omega, Nat.mul_assoc, Nat.mul_comm 256] at this
      omega
    rw [fr_eq r (N * 256 + n) (by omega) (fun x hx => h x (by simp [hx])) hN3]
    simp only [beN, Int.toNat_natCast]
    rw [Nat.add_mul, Nat.mul_assoc, Nat.mul_comm 256, Nat.add_assoc]
theorem fr0 {l : List Int} (hl : l.length = 8) (h : ∀ c ∈ l, Byt c) : fr l 0 = (beN l : Int) := by
  have := fr_eq l 0 (by omega) h (by rw [hl]; decide)
  rw [Nat.zero_mul, Nat.zero_add] at this
  exact this
theorem fbr_end {c0 c1 c2 c3 c4 c5 c6 c7 c8 c9 d0 d1 d2 d3 d4 d5 d6 d7 d8 d9 e0 e1 e2 e3 e4 e5 e6 e7 e8 e9 f0 f1 : Int} :
    fbr [c0, c1, c2, c3, c4, c5, c6, c7, c8, c9, d0, d1, d2, d3, d4, d5, d6, d7, d8, d9, e0, e1, e2, e3, e4, e5, e6, e7, e8, e9, f0, f1] 32 =
      [fr [e4, e5, e6, e7, e8, e9, f0, f1] 0, fr [d6, d7, d8, d9, e0, e1, e2, e3] 0, fr [c8, c9, d0, d1, d2, d3, d4, d5] 0, fr [c0, c1, c2, c3, c4, c5, c6, c7] 0] := by
  kernel_rfl
theorem four_fr {a b c d : List Int} (ha : a.length = 8) (hb : b.length = 8) (hc : c.length = 8) (hd : d.length = 8) (h : ∀ x ∈ a ++ (b ++ (c ++ d)), Byt x) : [fr d 0, fr c 0, fr b 0, fr a 0] = parts (beN (a ++ (b ++ (c ++ d)))) := by
  have b3 : ∀ x ∈ a, Byt x := fun c hc => h c (List.mem_append_left _ hc)
  have b2 : ∀ x ∈ b, Byt x := fun c hc => h c (List.mem_append_right _ (List.mem_append_left _ hc))
  have b1 : ∀ x ∈ c, Byt x := fun c hc => h c (List.mem_append_right _ (List.mem_append_right _ (List.mem_append_left _ hc)))
  have b0 : ∀ x ∈ d, Byt x := fun c hc => h c (List.mem_append_right _ (List.mem_append_right _ (List.mem_append_right _ hc)))
  rw [fr0 ha b3, fr0 hb b2, fr0 hc b1, fr0 hd b0, beN_four hb hc hd, parts_four (w8_lt hd b0) (w8_lt hc b1) (w8_lt hb b2) (w8_lt ha b3)]
  rfl
theorem fbr_parts {h : List Int} (hl : h.length = 32) (hb : ∀ c ∈ h, Byt c) : fbr h 32 = parts (beN h) := by
  match h, hl with
  | [c0, c1, c2, c3, c4, c5, c6, c7, c8, c9, d0, d1, d2, d3, d4, d5, d6, d7, d8, d9, e0, e1, e2, e3, e4, e5, e6, e7, e8, e9, f0, f1], _ =>
    exact fbr_end.trans (four_fr (a := [c0, c1, c2, c3, c4, c5, c6, c7]) (b := [c8, c9, d0, d1, d2, d3, d4, d5]) (c := [d6, d7, d8, d9, e0, e1, e2, e3]) (d := [e4, e5, e6, e7, e8, e9, f0, f1]) rfl rfl rfl rfl hb)
theorem rer_FromBytesU (h : List Int) (hl : h.length = 32) (hb : ∀ c ∈ h, Byt c) : Returns cx n_lightclientref02_FromBytes [hashD h] (U (beN h)) := by
  (refine of_W2 (fn := f_lightclientref02_FromBytes) {} (by kernel_rfl) (by kernel_rfl) (by kernel_rfl) (by kernel_rfl) (by kernel_rfl) ?_)
  ((try (conv => whnf)); (repeat ((first | (refine br_true ?_ ?_; (focus (exact yesA))) | (refine br_false ?_ ?_; (focus (exact noA))) | (refine onS_map ?_ ?_; (focus (exact numA))) | (refine onS_intro (eqTC_ints rfl rfl rfl rfl ?_) ?_; (focus (exact numA))) | refine onS_intro (mapB_u8s _) ?_ | (refine And.intro ?_ ?_; (focus (exact flatA)))); (try (conv => whnf)))))
  refine LoopW2_rule (fun i : Nat => [(1, .ptr 0 0 [] (.arr 32 .one)), (2, .ptr 1 0 [] (.arr 4 .one)), (3, .ptr 2 0 [] (.arr 4 .one)), (6, .d (.int .i64 (i : Nat)))])
    (fun i => [some (.fix (.d (hashD h))), some (.fix (.d (U 0))), some (.fix (.d (.arr 4 .one ((fbr h i).map (.int .u64)))))]) (fun i => i ≤ 32) (fun i => 32 - i) _ rfl 0 (Wk.go ?_ rfl ?_ rfl) (by omega) ?_
  rotate_left 2
  · rintro i K hi hK
    simp only at hi hK ⊢
    have hf := fbr_len h i
    by_cases h32 : i = 32
    · subst h32
      rw [fbr_parts hl hb]
      ((try (conv => whnf)); (repeat ((first | (refine br_true ?_ ?_; (focus (exact yesA))) | (refine br_false ?_ ?_; (focus (exact noA))) | (refine onS_map ?_ ?_; (focus (exact numA))) | (refine onS_intro (eqTC_ints rfl rfl rfl rfl ?_) ?_; (focus (exact numA))) | refine onS_intro (mapB_u8s _) ?_ | (refine And.intro ?_ ?_; (focus (exact flatA)))); (try (conv => whnf)))))
      exact D.le.refl _
    · have hby := byte_get hb (show i < h.length by omega)
      obtain ⟨hb1, hb2⟩ := hby
      have e1 : ((31 - (i : Int)) / 8).toNat = (31 - i) / 8 := by omega
      have e2 : (8 * ((31 - (i : Int)) % 8)).toNat = 8 * ((31 - i) % 8) := by omega
      ((try (conv => whnf)); (repeat ((first | (refine br_true ?_ ?_; (focus (exact yesA))) | (refine br_false ?_ ?_; (focus (exact noA))) | (refine onS_map ?_ ?_; (focus (exact numA))) | (refine onS_intro (eqTC_ints rfl rfl rfl rfl ?_) ?_; (focus (exact numA))) | refine onS_intro (mapB_u8s _) ?_ | (refine And.intro ?_ ?_; (focus (exact flatA)))); (try (conv => whnf)))))
      rw [Int.toNat_natCast]
      ((try (conv => whnf)); (repeat ((first | (refine br_true ?_ ?_; (focus (exact yesA))) | (refine br_false ?_ ?_; (focus (exact noA))) | (refine onS_map ?_ ?_; (focus (exact numA))) | (refine onS_intro (eqTC_ints rfl rfl rfl rfl ?_) ?_; (focus (exact numA))) | refine onS_intro (mapB_u8s _) ?_ | (refine And.intro ?_ ?_; (focus (exact flatA)))); (try (conv => whnf)))))
      rw [e1, e2]
      refine hK (i + 1) _ _ rfl (Wk.go ?_ rfl ?_ rfl) (by omega) (by omega)
      all_goals (try (repeat' (first | exact trivial | rfl | exact .inl rfl | exact .inr rfl | refine ⟨?_, ?_⟩)))
      exact .inr (congrArg (fun x => some (Blk.fix (V.d x))) (set_ints rfl))
  all_goals (try (repeat' (first | exact trivial | rfl | exact .inl rfl | exact .inr rfl | refine ⟨?_, ?_⟩)))
end Go.Fw

/-
Contracts of big-endian forms, the other way; what they undo. No conditions.
-/
namespace Go.Fw
set_option linter.unusedVariables false
set_option linter.unusedSimpArgs false
open Go.Proofs
set_option maxRecDepth 100000
set_option maxHeartbeats 4000000
/-- The big-endian form of a number. -/
def beB (n : Nat) : List Int := bytes4 (wd n 0) (wd n 1) (wd n 2) (wd n 3)
theorem ret_BytesU (a : Nat) : Returns cx n_wide_Bytes [U a] (hashD (beB a)) := ret_Bytes _ _ _ _
theorem rer_BytesU (a : Nat) : Returns cx n_lightclientref02_Bytes [U a] (hashD (beB a)) := by
  show Returns cx n_lightclientref02_Bytes [u4 (wd a 0) (wd a 1) (wd a 2) (wd a 3)] (hashD (bytes4 (wd a 0) (wd a 1) (wd a 2) (wd a 3)))
  generalize wd a 0 = a0
  generalize wd a 1 = a1
  generalize wd a 2 = a2
  generalize wd a 3 = a3
  (refine of_W2 (fn := f_lightclientref02_Bytes) {} (by kernel_rfl) (by kernel_rfl) (by kernel_rfl) (by kernel_rfl) (by kernel_rfl) ?_)
  ((try (conv => whnf)); (repeat ((first | (refine br_true ?_ ?_; (focus (exact yesA))) | (refine br_false ?_ ?_; (focus (exact noA))) | (refine onS_map ?_ ?_; (focus (exact numA))) | (refine onS_intro (eqTC_ints rfl rfl rfl rfl ?_) ?_; (focus (exact numA))) | refine onS_intro (mapB_u8s _) ?_ | (refine And.intro ?_ ?_; (focus (exact flatA)))); (try (conv => whnf)))))
  refine LoopW2_n 33 (iter_go ?_)
  ((try (conv => whnf)); (repeat ((first | (refine br_true ?_ ?_; (focus (exact yesA))) | (refine br_false ?_ ?_; (focus (exact noA))) | (refine onS_map ?_ ?_; (focus (exact numA))) | (refine onS_intro (eqTC_ints rfl rfl rfl rfl ?_) ?_; (focus (exact numA))) | refine onS_intro (mapB_u8s _) ?_ | (refine And.intro ?_ ?_; (focus (exact flatA)))); (try (conv => whnf)))))
  iterate 32 (refine ⟨_, _, rfl, .refl _ _, ?_⟩; ((try (conv => whnf)); (repeat ((first | (refine br_true ?_ ?_; (focus (exact yesA))) | (refine br_false ?_ ?_; (focus (exact noA))) | (refine onS_map ?_ ?_; (focus (exact numA))) | (refine onS_intro (eqTC_ints rfl rfl rfl rfl ?_) ?_; (focus (exact numA))) | refine onS_intro (mapB_u8s _) ?_ | (refine And.intro ?_ ?_; (focus (exact flatA)))); (try (conv => whnf))))))
  refine le_same ?_
  kernel_rfl
theorem byteAt_eq (x j : Nat) : byteAt x j = ((x / 2 ^ (56 - 8 * j) % 256 : Nat) : Int) := by
  unfold byteAt
  rw [wrap_u8, show (x : Int) / 2 ^ (56 - 8 * j) = ((x / 2 ^ (56 - 8 * j) : Nat) : Int) by push_cast; rfl]
  omega
theorem bytes8_eq (x : Nat) : bytes8 x = [((x / 72057594037927936 % 256 : Nat) : Int), ((x / 281474976710656 % 256 : Nat) : Int), ((x / 1099511627776 % 256 : Nat) : Int), ((x / 4294967296 % 256 : Nat) : Int), ((x / 16777216 % 256 : Nat) : Int), ((x / 65536 % 256 : Nat) : Int), ((x / 256 % 256 : Nat) : Int), ((x / 1 % 256 : Nat) : Int)] := by
  unfold bytes8
  simp only [byteAt_eq]
theorem bytes8_len (x : Nat) : (bytes8 x).length = 8 := rfl
theorem bytes8_byt (x : Nat) : ∀ c ∈ bytes8 x, Byt c := by
  intro c hc
  rw [bytes8_eq] at hc
  simp only [List.mem_cons, List.not_mem_nil, or_false] at hc
  unfold Byt
  rcases hc with rfl | rfl | rfl | rfl | rfl | rfl | rfl | rfl <;> omega
theorem beN_bytes8 {x : Nat} (h : x < 18446744073709551616) : beN (bytes8 x) = x := by
  rw [bytes8_eq]
  simp only [beN, List.length_cons, List.length_nil, Int.toNat_natCast]
  show x / 72057594037927936 % 256 * 72057594037927936 + (x / 281474976710656 % 256 * 281474976710656 + (x / 1099511627776 % 256 * 1099511627776 + (x / 4294967296 % 256 * 4294967296 + (x / 16777216 % 256 * 16777216 + (x / 65536 % 256 * 65536 + (x / 256 % 256 * 256 + (x / 1 % 256 * 1 + 0))))))) = x
  omega
theorem beN_inj : ∀ {l m : List Int}, l.length = m.length → (∀ c ∈ l, Byt c) → (∀ c ∈ m, Byt c) → beN l = beN m → l = m
  | [], [], _, _, _, _ => rfl
  | c :: r, d :: s, hl, h1, h2, he => by
    have hls : r.length = s.length := by simpa using hl
    have hr := beN_lt (l := r) fun x hx => h1 x (by simp [hx])
    have hs := beN_lt (l := s) fun x hx => h2 x (by simp [hx])
    obtain ⟨n, rfl⟩ := Int.eq_ofNat_of_zero_le (h1 c (by simp)).1
    obtain ⟨m, rfl⟩ := Int.eq_ofNat_of_zero_le (h2 d (by simp)).1
    simp only [beN, Int.toNat_natCast] at he
    rw [hls] at he hr
    have e1 : n = m := by
      have a : (n * 256 ^ s.length + beN r) / 256 ^ s.length = (m * 256 ^ s.length + beN s) / 256 ^ s.length := by rw [he]
      rw [Nat.add_comm, Nat.add_mul_div_right _ _ (Nat.pow_pos (by decide)), Nat.div_eq_of_lt hr, Nat.add_comm (m * _), Nat.add_mul_div_right _ _ (Nat.pow_pos (by decide)), Nat.div_eq_of_lt hs] at a
      omega
    subst e1
    rw [beN_inj hls (fun x hx => h1 x (by simp [hx])) (fun x hx => h2 x (by simp [hx])) (by omega)]
  | [], _ :: _, h, _, _, _ => by simp at h
  | _ :: _, [], h, _, _, _ => by simp at h
theorem bytes8_beN {l : List Int} (hl : l.length = 8) (h : ∀ c ∈ l, Byt c) : bytes8 (beN l) = l :=
  beN_inj (by rw [hl]; rfl) (bytes8_byt _) h (beN_bytes8 (w8_lt hl h))
theorem beB_eq (n : Nat) : beB n = bytes8 (wd n 3) ++ (bytes8 (wd n 2) ++ (bytes8 (wd n 1) ++ bytes8 (wd n 0))) := by
  unfold beB bytes4
  simp only [List.append_assoc]
theorem beB_len (n : Nat) : (beB n).length = 32 := rfl
theorem beB_byt (n : Nat) : ∀ c ∈ beB n, Byt c := by
  intro c hc
  rw [beB_eq] at hc
  rcases List.mem_append.1 hc with hc | hc
  · exact bytes8_byt _ c hc
  · rcases List.mem_append.1 hc with hc | hc
    · exact bytes8_byt _ c hc
    · rcases List.mem_append.1 hc with hc | hc
      · exact bytes8_byt _ c hc
      · exact bytes8_byt _ c hc
theorem beN_beB {n : Nat} (h : n < 115792089237316195423570985008687907853269984665640564039457584007913129639936) : beN (beB n) = n := by
  rw [beB_eq, beN_four (bytes8_len _) (bytes8_len _) (bytes8_len _), beN_bytes8 (wd_lt _ _), beN_bytes8 (wd_lt _ _), beN_bytes8 (wd_lt _ _), beN_bytes8 (wd_lt _ _)]
  exact (wd_sum h).symm
theorem beN_lt256 {h : List Int} (hl : h.length = 32) (hb : ∀ c ∈ h, Byt c) : beN h < 115792089237316195423570985008687907853269984665640564039457584007913129639936 := by
  have := beN_lt hb
  rw [hl] at this
  exact this
theorem wd_four {x0 x1 x2 x3 : Nat} (l0 : x0 < 18446744073709551616) (l1 : x1 < 18446744073709551616) (l2 : x2 < 18446744073709551616) (l3 : x3 < 18446744073709551616) :
    wd (x0 + x1 * 18446744073709551616 + x2 * 340282366920938463463374607431768211456 + x3 * 6277101735386680763835789423207666416102355444464034512896) 0 = x0 ∧ wd (x0 + x1 * 18446744073709551616 + x2 * 340282366920938463463374607431768211456 + x3 * 6277101735386680763835789423207666416102355444464034512896) 1 = x1 ∧ wd (x0 + x1 * 18446744073709551616 + x2 * 340282366920938463463374607431768211456 + x3 * 6277101735386680763835789423207666416102355444464034512896) 2 = x2 ∧ wd (x0 + x1 * 18446744073709551616 + x2 * 340282366920938463463374607431768211456 + x3 * 6277101735386680763835789423207666416102355444464034512896) 3 = x3 := by
  rw [wd0, wd1, wd2, wd3]
  refine ⟨?_, ?_, ?_, ?_⟩ <;> omega
theorem beB_beN_four {a b c d : List Int} (ha : a.length = 8) (hb : b.length = 8) (hc : c.length = 8) (hd : d.length = 8) (h : ∀ x ∈ a ++ (b ++ (c ++ d)), Byt x) : beB (beN (a ++ (b ++ (c ++ d)))) = a ++ (b ++ (c ++ d)) := by
  have b3 : ∀ x ∈ a, Byt x := fun c hc => h c (List.mem_append_left _ hc)
  have b2 : ∀ x ∈ b, Byt x := fun c hc => h c (List.mem_append_right _ (List.mem_append_left _ hc))
  have b1 : ∀ x ∈ c, Byt x := fun c hc => h c (List.mem_append_right _ (List.mem_append_right _ (List.mem_append_left _ hc)))
  have b0 : ∀ x ∈ d, Byt x := fun c hc => h c (List.mem_append_right _ (List.mem_append_right _ (List.mem_append_right _ hc)))
  rw [beN_four hb hc hd, beB_eq]
  obtain ⟨e0, e1, e2, e3⟩ := wd_four (w8_lt hd b0) (w8_lt hc b1) (w8_lt hb b2) (w8_lt ha b3)
  rw [e0, e1, e2, e3, bytes8_beN hd b0, bytes8_beN hc b1, bytes8_beN hb b2, bytes8_beN ha b3]
theorem split_four {h : List Int} (hl : h.length = 32) : h = h.take 8 ++ ((h.drop 8).take 8 ++ ((h.drop 16).take 8 ++ h.drop 24)) := by
  rw [show h.drop 24 = (h.drop 16).drop 8 by rw [List.drop_drop], List.take_append_drop, show h.drop 16 = (h.drop 8).drop 8 by rw [List.drop_drop], List.take_append_drop, List.take_append_drop]
theorem beB_beN {h : List Int} (hl : h.length = 32) (hb : ∀ c ∈ h, Byt c) : beB (beN h) = h := by
  have e := split_four hl
  rw [e] at hb
  conv => lhs; rw [e]
  rw [beB_beN_four (by simp [hl]) (by simp [hl]) (by simp [hl]) (by simp [hl]) hb]
  exact e.symm
end Go.Fw
