/-
  No cell of these rows narrows 'for every input' (looked for: loops, veiled, ifaces, maps, wideKeys, modest, calm, conditions, laid).
  DERIVED. THE GIVEN ROWS OF THIS SEAT. 10 by the template 'for every input the law returns true; each argument reads behind the call as it read before'; 0 by the template 'total and deterministic' (their statements: YtlcigfcffmfckaaTotals.lean).
  GIVEN WITH THE SEED: the statements are not yours to turn. If you find one false, say at which input.
  Laid BY PROGRAM, IN A SANDBOX (cutbox-rows.mjs): the forced cells as the released guide's own fill.sh prints them over the translation 06fd7c946a2792b5… (all of the seat's roots in one cut). By AI agents, Wed Nov 11 2026. No macro, syntax, notation, axiom, sorry.
-/
import Derived.Test.YtlcigfcffmfckaaChecked
import GoSem.Claim
import GoSem.ClaimJoined
import GoSem.ClaimMapViews
import Derived.JoinedTies
import Derived.KernelRfl
namespace Go.Proofs.Ytlcigfcffmfckaa
/- THE CELL 'sum', in the pinned program and in every row, IS THE sha256 OF THE DUMP (.gsa) THAT YtlcigfcffmfckaaProg.lean LOADS. Nothing in Lean hashes anything: it is a label: what it is worth is what the hold of that sum in a sandbox is worth. -/
noncomputable def Try.pinned : Pinned := { name := "ytlcigfcffmfckaa", sum := "06fd7c946a2792b5de020e7bf591eabf852a8f3390f1e4aa8b6d854eaecf8e4d", checked := Try.checked }
namespace Rows
def none {H : Type} : Left H := { results := [], args := [] }

/-- 'lightclientlaw02.WideOrder': WHATEVER THE INPUT: true; the input reads as it did. -/
def wideOrderSpec : ChangeSpec := { name := "wideOrder", fn := fun _ => fun
  | [d1, d2] => { results := [.lit (.bool true)], args := [d1, d2] }
  | _ => none }
def wideOrderRow : OpenClaim := { program := "ytlcigfcffmfckaa", sum := "06fd7c946a2792b5de020e7bf591eabf852a8f3390f1e4aa8b6d854eaecf8e4d", func := "lightclient/lightclientlaw02.WideOrder", spec := "wideOrder", inPlace := ["math/bits.Sub64"], named := ["math/bits.divideError", "math/bits.overflowError"], apart := false }
def WideOrderSaid : Prop := wideOrderRow.holds Try.pinned (OpenSpec.ofChange wideOrderSpec)

/-- ITS FALSE NEIGHBOUR: 'it returns false'. Refute it at one input. -/
def wideOrderWrong : ChangeSpec := { name := "wideOrder", fn := fun _ => fun
  | [d1, d2] => { results := [.lit (.bool false)], args := [d1, d2] }
  | _ => none }
def WideOrderWrongFalsely : Prop := wideOrderRow.holds Try.pinned (OpenSpec.ofChange wideOrderWrong)

/-- 'lightclientlaw02.WideDivides': WHATEVER THE INPUT: true; the input reads as it did. -/
def wideDividesSpec : ChangeSpec := { name := "wideDivides", fn := fun _ => fun
  | [d1, d2, d3] => { results := [.lit (.bool true)], args := [d1, d2, d3] }
  | _ => none }
def wideDividesRow : OpenClaim := { program := "ytlcigfcffmfckaa", sum := "06fd7c946a2792b5de020e7bf591eabf852a8f3390f1e4aa8b6d854eaecf8e4d", func := "lightclient/lightclientlaw02.WideDivides", spec := "wideDivides", inPlace := ["math/bits.Sub64", "math/bits.Add64"], named := ["math/bits.divideError", "math/bits.overflowError"], apart := false }
def WideDividesSaid : Prop := wideDividesRow.holds Try.pinned (OpenSpec.ofChange wideDividesSpec)

/-- ITS FALSE NEIGHBOUR: 'it returns false'. Refute it at one input. -/
def wideDividesWrong : ChangeSpec := { name := "wideDivides", fn := fun _ => fun
  | [d1, d2, d3] => { results := [.lit (.bool false)], args := [d1, d2, d3] }
  | _ => none }
def WideDividesWrongFalsely : Prop := wideDividesRow.holds Try.pinned (OpenSpec.ofChange wideDividesWrong)

/-- 'lightclientlaw02.WideBasics': WHATEVER THE INPUT: true; the input reads as it did. -/
def wideBasicsSpec : ChangeSpec := { name := "wideBasics", fn := fun _ => fun
  | [d1, d2, d3, d4] => { results := [.lit (.bool true)], args := [d1, d2, d3, d4] }
  | _ => none }
def wideBasicsRow : OpenClaim := { program := "ytlcigfcffmfckaa", sum := "06fd7c946a2792b5de020e7bf591eabf852a8f3390f1e4aa8b6d854eaecf8e4d", func := "lightclient/lightclientlaw02.WideBasics", spec := "wideBasics", inPlace := ["math/bits.Sub64"], named := ["math/bits.divideError", "math/bits.overflowError"], apart := false }
def WideBasicsSaid : Prop := wideBasicsRow.holds Try.pinned (OpenSpec.ofChange wideBasicsSpec)

/-- ITS FALSE NEIGHBOUR: 'it returns false'. Refute it at one input. -/
def wideBasicsWrong : ChangeSpec := { name := "wideBasics", fn := fun _ => fun
  | [d1, d2, d3, d4] => { results := [.lit (.bool false)], args := [d1, d2, d3, d4] }
  | _ => none }
def WideBasicsWrongFalsely : Prop := wideBasicsRow.holds Try.pinned (OpenSpec.ofChange wideBasicsWrong)

/-- 'lightclientlaw02.WideShifts': WHATEVER THE INPUT: true; the input reads as it did. -/
def wideShiftsSpec : ChangeSpec := { name := "wideShifts", fn := fun _ => fun
  | [d1, d2] => { results := [.lit (.bool true)], args := [d1, d2] }
  | _ => none }
def wideShiftsRow : OpenClaim := { program := "ytlcigfcffmfckaa", sum := "06fd7c946a2792b5de020e7bf591eabf852a8f3390f1e4aa8b6d854eaecf8e4d", func := "lightclient/lightclientlaw02.WideShifts", spec := "wideShifts", inPlace := ["math/bits.Sub64", "math/bits.Add64"], named := ["math/bits.divideError", "math/bits.overflowError"], apart := false }
def WideShiftsSaid : Prop := wideShiftsRow.holds Try.pinned (OpenSpec.ofChange wideShiftsSpec)

/-- ITS FALSE NEIGHBOUR: 'it returns false'. Refute it at one input. -/
def wideShiftsWrong : ChangeSpec := { name := "wideShifts", fn := fun _ => fun
  | [d1, d2] => { results := [.lit (.bool false)], args := [d1, d2] }
  | _ => none }
def WideShiftsWrongFalsely : Prop := wideShiftsRow.holds Try.pinned (OpenSpec.ofChange wideShiftsWrong)

/-- 'lightclientlaw02.WideSums': WHATEVER THE INPUT: true; the input reads as it did. -/
def wideSumsSpec : ChangeSpec := { name := "wideSums", fn := fun _ => fun
  | [d1, d2] => { results := [.lit (.bool true)], args := [d1, d2] }
  | _ => none }
def wideSumsRow : OpenClaim := { program := "ytlcigfcffmfckaa", sum := "06fd7c946a2792b5de020e7bf591eabf852a8f3390f1e4aa8b6d854eaecf8e4d", func := "lightclient/lightclientlaw02.WideSums", spec := "wideSums", inPlace := ["math/bits.Add64", "math/bits.Sub64"], named := ["math/bits.divideError", "math/bits.overflowError"], apart := false }
def WideSumsSaid : Prop := wideSumsRow.holds Try.pinned (OpenSpec.ofChange wideSumsSpec)

/-- ITS FALSE NEIGHBOUR: 'it returns false'. Refute it at one input. -/
def wideSumsWrong : ChangeSpec := { name := "wideSums", fn := fun _ => fun
  | [d1, d2] => { results := [.lit (.bool false)], args := [d1, d2] }
  | _ => none }
def WideSumsWrongFalsely : Prop := wideSumsRow.holds Try.pinned (OpenSpec.ofChange wideSumsWrong)

/-- 'lightclientlaw02.WideUndo': WHATEVER THE INPUT: true; the input reads as it did. -/
def wideUndoSpec : ChangeSpec := { name := "wideUndo", fn := fun _ => fun
  | [d1, d2, d3, d4] => { results := [.lit (.bool true)], args := [d1, d2, d3, d4] }
  | _ => none }
def wideUndoRow : OpenClaim := { program := "ytlcigfcffmfckaa", sum := "06fd7c946a2792b5de020e7bf591eabf852a8f3390f1e4aa8b6d854eaecf8e4d", func := "lightclient/lightclientlaw02.WideUndo", spec := "wideUndo", inPlace := ["math/bits.Add64", "math/bits.Sub64"], named := ["math/bits.divideError", "math/bits.overflowError"], apart := false }
def WideUndoSaid : Prop := wideUndoRow.holds Try.pinned (OpenSpec.ofChange wideUndoSpec)

/-- ITS FALSE NEIGHBOUR: 'it returns false'. Refute it at one input. -/
def wideUndoWrong : ChangeSpec := { name := "wideUndo", fn := fun _ => fun
  | [d1, d2, d3, d4] => { results := [.lit (.bool false)], args := [d1, d2, d3, d4] }
  | _ => none }
def WideUndoWrongFalsely : Prop := wideUndoRow.holds Try.pinned (OpenSpec.ofChange wideUndoWrong)

/-- 'lightclientlaw02.WidePowers': WHATEVER THE INPUT: true; the input reads as it did. -/
def widePowersSpec : ChangeSpec := { name := "widePowers", fn := fun _ => fun
  | [d1, d2, d3] => { results := [.lit (.bool true)], args := [d1, d2, d3] }
  | _ => none }
def widePowersRow : OpenClaim := { program := "ytlcigfcffmfckaa", sum := "06fd7c946a2792b5de020e7bf591eabf852a8f3390f1e4aa8b6d854eaecf8e4d", func := "lightclient/lightclientlaw02.WidePowers", spec := "widePowers", inPlace := ["math/bits.Sub64", "math/bits.Add64"], named := ["math/bits.divideError", "math/bits.overflowError"], apart := false }
def WidePowersSaid : Prop := widePowersRow.holds Try.pinned (OpenSpec.ofChange widePowersSpec)

/-- ITS FALSE NEIGHBOUR: 'it returns false'. Refute it at one input. -/
def widePowersWrong : ChangeSpec := { name := "widePowers", fn := fun _ => fun
  | [d1, d2, d3] => { results := [.lit (.bool false)], args := [d1, d2, d3] }
  | _ => none }
def WidePowersWrongFalsely : Prop := widePowersRow.holds Try.pinned (OpenSpec.ofChange widePowersWrong)

/-- 'lightclientlaw02.WideExponents': WHATEVER THE INPUT: true; the input reads as it did. -/
def wideExponentsSpec : ChangeSpec := { name := "wideExponents", fn := fun _ => fun
  | [d1, d2, d3, d4] => { results := [.lit (.bool true)], args := [d1, d2, d3, d4] }
  | _ => none }
def wideExponentsRow : OpenClaim := { program := "ytlcigfcffmfckaa", sum := "06fd7c946a2792b5de020e7bf591eabf852a8f3390f1e4aa8b6d854eaecf8e4d", func := "lightclient/lightclientlaw02.WideExponents", spec := "wideExponents", inPlace := ["math/bits.Sub64", "math/bits.Add64"], named := ["math/bits.divideError", "math/bits.overflowError"], apart := false }
def WideExponentsSaid : Prop := wideExponentsRow.holds Try.pinned (OpenSpec.ofChange wideExponentsSpec)

/-- ITS FALSE NEIGHBOUR: 'it returns false'. Refute it at one input. -/
def wideExponentsWrong : ChangeSpec := { name := "wideExponents", fn := fun _ => fun
  | [d1, d2, d3, d4] => { results := [.lit (.bool false)], args := [d1, d2, d3, d4] }
  | _ => none }
def WideExponentsWrongFalsely : Prop := wideExponentsRow.holds Try.pinned (OpenSpec.ofChange wideExponentsWrong)

/-- 'lightclientlaw02.WideModular': WHATEVER THE INPUT: true; the input reads as it did. -/
def wideModularSpec : ChangeSpec := { name := "wideModular", fn := fun _ => fun
  | [d1, d2, d3] => { results := [.lit (.bool true)], args := [d1, d2, d3] }
  | _ => none }
def wideModularRow : OpenClaim := { program := "ytlcigfcffmfckaa", sum := "06fd7c946a2792b5de020e7bf591eabf852a8f3390f1e4aa8b6d854eaecf8e4d", func := "lightclient/lightclientlaw02.WideModular", spec := "wideModular", inPlace := ["math/bits.Sub64", "math/bits.Add64"], named := ["math/bits.divideError", "math/bits.overflowError"], apart := false }
def WideModularSaid : Prop := wideModularRow.holds Try.pinned (OpenSpec.ofChange wideModularSpec)

/-- ITS FALSE NEIGHBOUR: 'it returns false'. Refute it at one input. -/
def wideModularWrong : ChangeSpec := { name := "wideModular", fn := fun _ => fun
  | [d1, d2, d3] => { results := [.lit (.bool false)], args := [d1, d2, d3] }
  | _ => none }
def WideModularWrongFalsely : Prop := wideModularRow.holds Try.pinned (OpenSpec.ofChange wideModularWrong)

/-- 'lightclientlaw02.WideRing': WHATEVER THE INPUT: true; the input reads as it did. -/
def wideRingSpec : ChangeSpec := { name := "wideRing", fn := fun _ => fun
  | [d1, d2, d3, d4] => { results := [.lit (.bool true)], args := [d1, d2, d3, d4] }
  | _ => none }
def wideRingRow : OpenClaim := { program := "ytlcigfcffmfckaa", sum := "06fd7c946a2792b5de020e7bf591eabf852a8f3390f1e4aa8b6d854eaecf8e4d", func := "lightclient/lightclientlaw02.WideRing", spec := "wideRing", inPlace := ["math/bits.Sub64", "math/bits.Add64"], named := ["math/bits.divideError", "math/bits.overflowError"], apart := false }
def WideRingSaid : Prop := wideRingRow.holds Try.pinned (OpenSpec.ofChange wideRingSpec)

/-- ITS FALSE NEIGHBOUR: 'it returns false'. Refute it at one input. -/
def wideRingWrong : ChangeSpec := { name := "wideRing", fn := fun _ => fun
  | [d1, d2, d3, d4] => { results := [.lit (.bool false)], args := [d1, d2, d3, d4] }
  | _ => none }
def WideRingWrongFalsely : Prop := wideRingRow.holds Try.pinned (OpenSpec.ofChange wideRingWrong)

/- THE SECOND FORM. 'bulk': how many values and letters a reading holds, each counted each time it is reached (what is shared counts as often as it is met; a slice's spare places count too). A statement '..UptoSaid' is the law's where the arguments, and the package variables that the reading takes, are together of bulk at most 1048576: NARROWER than '..Said'. Prove '..Said' where nothing that the law and all that it calls make is longer than what came in: it says more and counts as full. Else prove '..UptoSaid'. A law counts once. -/
mutual
def uptoBulk {H : Type} : DataW H → Nat
  | .lit (.string bytes) => bytes.length + 1
  | .lit _ => 1
  | .nil => 1
  | .ptr d => uptoBulk d + 1
  | .slice elems spare => uptoBulkAll elems + uptoBulkAll spare + 1
  | .agg parts => uptoBulkAll parts + 1
  | .iface _ d => uptoBulk d + 1
  | .map entries => uptoBulkEntries entries + 1
  | .held _ => 1
def uptoBulkAll {H : Type} : List (DataW H) → Nat
  | [] => 0
  | d :: r => uptoBulk d + uptoBulkAll r
def uptoBulkEntries {H : Type} : List (Lit × DataW H) → Nat
  | [] => 0
  | x :: r => uptoBulkEntry x + uptoBulkEntries r
def uptoBulkEntry {H : Type} : Lit × DataW H → Nat
  | (.string bytes, d) => bytes.length + uptoBulk d + 1
  | (_, d) => uptoBulk d + 1
 end
def uptoSmall : (H : Type) → List (DataW H) → Bool := fun _ ds => decide (uptoBulkAll ds ≤ 1048576)
def OpenSpec.upto (s : _root_.Go.ChangeSpec) : _root_.Go.OpenSpec := { _root_.Go.OpenSpec.ofChange s with cond := some uptoSmall }

/-- 'lightclientlaw02.WideOrder', WHERE WHAT IT READS IS OF BULK AT MOST 1048576: true; the input reads as it did. -/
def wideOrderUptoRow : OpenClaim := { program := "ytlcigfcffmfckaa", sum := "06fd7c946a2792b5de020e7bf591eabf852a8f3390f1e4aa8b6d854eaecf8e4d", func := "lightclient/lightclientlaw02.WideOrder", spec := "wideOrder", inPlace := ["math/bits.Sub64"], named := ["math/bits.divideError", "math/bits.overflowError"], apart := false, narrowed := true }
def WideOrderUptoSaid : Prop := wideOrderUptoRow.holds Try.pinned (OpenSpec.upto wideOrderSpec)

/-- 'lightclientlaw02.WideDivides', WHERE WHAT IT READS IS OF BULK AT MOST 1048576: true; the input reads as it did. -/
def wideDividesUptoRow : OpenClaim := { program := "ytlcigfcffmfckaa", sum := "06fd7c946a2792b5de020e7bf591eabf852a8f3390f1e4aa8b6d854eaecf8e4d", func := "lightclient/lightclientlaw02.WideDivides", spec := "wideDivides", inPlace := ["math/bits.Sub64", "math/bits.Add64"], named := ["math/bits.divideError", "math/bits.overflowError"], apart := false, narrowed := true }
def WideDividesUptoSaid : Prop := wideDividesUptoRow.holds Try.pinned (OpenSpec.upto wideDividesSpec)

/-- 'lightclientlaw02.WideBasics', WHERE WHAT IT READS IS OF BULK AT MOST 1048576: true; the input reads as it did. -/
def wideBasicsUptoRow : OpenClaim := { program := "ytlcigfcffmfckaa", sum := "06fd7c946a2792b5de020e7bf591eabf852a8f3390f1e4aa8b6d854eaecf8e4d", func := "lightclient/lightclientlaw02.WideBasics", spec := "wideBasics", inPlace := ["math/bits.Sub64"], named := ["math/bits.divideError", "math/bits.overflowError"], apart := false, narrowed := true }
def WideBasicsUptoSaid : Prop := wideBasicsUptoRow.holds Try.pinned (OpenSpec.upto wideBasicsSpec)

/-- 'lightclientlaw02.WideShifts', WHERE WHAT IT READS IS OF BULK AT MOST 1048576: true; the input reads as it did. -/
def wideShiftsUptoRow : OpenClaim := { program := "ytlcigfcffmfckaa", sum := "06fd7c946a2792b5de020e7bf591eabf852a8f3390f1e4aa8b6d854eaecf8e4d", func := "lightclient/lightclientlaw02.WideShifts", spec := "wideShifts", inPlace := ["math/bits.Sub64", "math/bits.Add64"], named := ["math/bits.divideError", "math/bits.overflowError"], apart := false, narrowed := true }
def WideShiftsUptoSaid : Prop := wideShiftsUptoRow.holds Try.pinned (OpenSpec.upto wideShiftsSpec)

/-- 'lightclientlaw02.WideSums', WHERE WHAT IT READS IS OF BULK AT MOST 1048576: true; the input reads as it did. -/
def wideSumsUptoRow : OpenClaim := { program := "ytlcigfcffmfckaa", sum := "06fd7c946a2792b5de020e7bf591eabf852a8f3390f1e4aa8b6d854eaecf8e4d", func := "lightclient/lightclientlaw02.WideSums", spec := "wideSums", inPlace := ["math/bits.Add64", "math/bits.Sub64"], named := ["math/bits.divideError", "math/bits.overflowError"], apart := false, narrowed := true }
def WideSumsUptoSaid : Prop := wideSumsUptoRow.holds Try.pinned (OpenSpec.upto wideSumsSpec)

/-- 'lightclientlaw02.WideUndo', WHERE WHAT IT READS IS OF BULK AT MOST 1048576: true; the input reads as it did. -/
def wideUndoUptoRow : OpenClaim := { program := "ytlcigfcffmfckaa", sum := "06fd7c946a2792b5de020e7bf591eabf852a8f3390f1e4aa8b6d854eaecf8e4d", func := "lightclient/lightclientlaw02.WideUndo", spec := "wideUndo", inPlace := ["math/bits.Add64", "math/bits.Sub64"], named := ["math/bits.divideError", "math/bits.overflowError"], apart := false, narrowed := true }
def WideUndoUptoSaid : Prop := wideUndoUptoRow.holds Try.pinned (OpenSpec.upto wideUndoSpec)

/-- 'lightclientlaw02.WidePowers', WHERE WHAT IT READS IS OF BULK AT MOST 1048576: true; the input reads as it did. -/
def widePowersUptoRow : OpenClaim := { program := "ytlcigfcffmfckaa", sum := "06fd7c946a2792b5de020e7bf591eabf852a8f3390f1e4aa8b6d854eaecf8e4d", func := "lightclient/lightclientlaw02.WidePowers", spec := "widePowers", inPlace := ["math/bits.Sub64", "math/bits.Add64"], named := ["math/bits.divideError", "math/bits.overflowError"], apart := false, narrowed := true }
def WidePowersUptoSaid : Prop := widePowersUptoRow.holds Try.pinned (OpenSpec.upto widePowersSpec)

/-- 'lightclientlaw02.WideExponents', WHERE WHAT IT READS IS OF BULK AT MOST 1048576: true; the input reads as it did. -/
def wideExponentsUptoRow : OpenClaim := { program := "ytlcigfcffmfckaa", sum := "06fd7c946a2792b5de020e7bf591eabf852a8f3390f1e4aa8b6d854eaecf8e4d", func := "lightclient/lightclientlaw02.WideExponents", spec := "wideExponents", inPlace := ["math/bits.Sub64", "math/bits.Add64"], named := ["math/bits.divideError", "math/bits.overflowError"], apart := false, narrowed := true }
def WideExponentsUptoSaid : Prop := wideExponentsUptoRow.holds Try.pinned (OpenSpec.upto wideExponentsSpec)

/-- 'lightclientlaw02.WideModular', WHERE WHAT IT READS IS OF BULK AT MOST 1048576: true; the input reads as it did. -/
def wideModularUptoRow : OpenClaim := { program := "ytlcigfcffmfckaa", sum := "06fd7c946a2792b5de020e7bf591eabf852a8f3390f1e4aa8b6d854eaecf8e4d", func := "lightclient/lightclientlaw02.WideModular", spec := "wideModular", inPlace := ["math/bits.Sub64", "math/bits.Add64"], named := ["math/bits.divideError", "math/bits.overflowError"], apart := false, narrowed := true }
def WideModularUptoSaid : Prop := wideModularUptoRow.holds Try.pinned (OpenSpec.upto wideModularSpec)

/-- 'lightclientlaw02.WideRing', WHERE WHAT IT READS IS OF BULK AT MOST 1048576: true; the input reads as it did. -/
def wideRingUptoRow : OpenClaim := { program := "ytlcigfcffmfckaa", sum := "06fd7c946a2792b5de020e7bf591eabf852a8f3390f1e4aa8b6d854eaecf8e4d", func := "lightclient/lightclientlaw02.WideRing", spec := "wideRing", inPlace := ["math/bits.Sub64", "math/bits.Add64"], named := ["math/bits.divideError", "math/bits.overflowError"], apart := false, narrowed := true }
def WideRingUptoSaid : Prop := wideRingUptoRow.holds Try.pinned (OpenSpec.upto wideRingSpec)

end Rows
end Go.Proofs.Ytlcigfcffmfckaa
