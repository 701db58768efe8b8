/-
  NARROWER THAN 'FOR EVERY INPUT', by the rows' own cells (each row's printed sentence says how): MerkleRoots: laid · MerkleGrows: laid · MerklePaths: laid · MerkleFollows: laid · MerkleBinds: laid · MerkleParts: laid · MerkleProves: laid · MerkleCovers: laid.
  DERIVED. THE GIVEN ROWS OF THIS SEAT. 8 by the template 'for every input the law returns true; each argument reads behind the call as it read before'; 0 by the template 'total and deterministic' (their statements: YtbkoenhfcdlahaaDoorTotals.lean).
  GIVEN WITH THE SEED: the statements are not yours to turn. If you find one false, say at which input.
  Laid BY PROGRAM, IN A SANDBOX (cutbox-rows.mjs): the forced cells as the released guide's own fill.sh prints them over the translation d8fb94d1baec19eb… (all of the seat's roots in one cut). By AI agents, Wed Nov 11 2026. No macro, syntax, notation, axiom, sorry.
-/
import Derived.Test.YtbkoenhfcdlahaaDoorChecked
import GoSem.Claim
import GoSem.ClaimJoined
import GoSem.ClaimMapViews
import Derived.JoinedTies
import Derived.KernelRfl
namespace Go.Proofs.YtbkoenhfcdlahaaDoor
/- THE CELL 'sum', in the pinned program and in every row, IS THE sha256 OF THE DUMP (.gsa) THAT YtbkoenhfcdlahaaDoorProg.lean LOADS. Nothing in Lean hashes anything: it is a label: what it is worth is what the hold of that sum in a sandbox is worth. -/
noncomputable def Tryd.pinned : Pinned := { name := "ytbkoenhfcdlahaadoor", sum := "d8fb94d1baec19eb034dc7ca438f588bb89fba41f2cecbb87675cefbfebcab52", checked := Tryd.checked }
namespace Rows
def none {H : Type} : Left H := { results := [], args := [] }

/- WHAT THE LISTED PACKAGE-LEVEL VARIABLES READ AS WHEN THE CALL BEGINS. Each datum BY PROGRAM (the guide's laid-datum.mjs) off the statement by which the dump's own 'gosem.cut.vars' lays the variable. In a bare row this is a premise. The card (YtbkoenhfcdlahaaDoorCards.lean) ties it to the program's text. -/
def laid_lightclient_sha_constants {H : Type} : DataW H := .agg [.lit (.int .u32 1116352408), .lit (.int .u32 1899447441), .lit (.int .u32 3049323471), .lit (.int .u32 3921009573), .lit (.int .u32 961987163), .lit (.int .u32 1508970993), .lit (.int .u32 2453635748), .lit (.int .u32 2870763221), .lit (.int .u32 3624381080), .lit (.int .u32 310598401), .lit (.int .u32 607225278), .lit (.int .u32 1426881987), .lit (.int .u32 1925078388), .lit (.int .u32 2162078206), .lit (.int .u32 2614888103), .lit (.int .u32 3248222580), .lit (.int .u32 3835390401), .lit (.int .u32 4022224774), .lit (.int .u32 264347078), .lit (.int .u32 604807628), .lit (.int .u32 770255983), .lit (.int .u32 1249150122), .lit (.int .u32 1555081692), .lit (.int .u32 1996064986), .lit (.int .u32 2554220882), .lit (.int .u32 2821834349), .lit (.int .u32 2952996808), .lit (.int .u32 3210313671), .lit (.int .u32 3336571891), .lit (.int .u32 3584528711), .lit (.int .u32 113926993), .lit (.int .u32 338241895), .lit (.int .u32 666307205), .lit (.int .u32 773529912), .lit (.int .u32 1294757372), .lit (.int .u32 1396182291), .lit (.int .u32 1695183700), .lit (.int .u32 1986661051), .lit (.int .u32 2177026350), .lit (.int .u32 2456956037), .lit (.int .u32 2730485921), .lit (.int .u32 2820302411), .lit (.int .u32 3259730800), .lit (.int .u32 3345764771), .lit (.int .u32 3516065817), .lit (.int .u32 3600352804), .lit (.int .u32 4094571909), .lit (.int .u32 275423344), .lit (.int .u32 430227734), .lit (.int .u32 506948616), .lit (.int .u32 659060556), .lit (.int .u32 883997877), .lit (.int .u32 958139571), .lit (.int .u32 1322822218), .lit (.int .u32 1537002063), .lit (.int .u32 1747873779), .lit (.int .u32 1955562222), .lit (.int .u32 2024104815), .lit (.int .u32 2227730452), .lit (.int .u32 2361852424), .lit (.int .u32 2428436474), .lit (.int .u32 2756734187), .lit (.int .u32 3204031479), .lit (.int .u32 3329325298)]
def laid_lightclient_sha_initial {H : Type} : DataW H := .agg [.lit (.int .u32 1779033703), .lit (.int .u32 3144134277), .lit (.int .u32 1013904242), .lit (.int .u32 2773480762), .lit (.int .u32 1359893119), .lit (.int .u32 2600822924), .lit (.int .u32 528734635), .lit (.int .u32 1541459225)]

/-- 'lightclientlaw07.MerkleRoots': WHATEVER THE INPUT: true; the input reads as it did. -/
def merkleRootsSpec : ChangeSpec := { name := "merkleRoots", fn := fun _ => fun
  | [d1, d2, d3] => { results := [.lit (.bool true)], args := [d1, d2, d3] }
  | _ => none }
def merkleRootsRow : OpenClaim := { program := "ytbkoenhfcdlahaadoor", sum := "d8fb94d1baec19eb034dc7ca438f588bb89fba41f2cecbb87675cefbfebcab52", func := "lightclient/lightclientlaw07.MerkleRoots", spec := "merkleRoots", named := ["lightclient/sha.initial", "lightclient/sha.constants"], apart := false, laid := [("lightclient/sha.constants", laid_lightclient_sha_constants), ("lightclient/sha.initial", laid_lightclient_sha_initial)] }
def MerkleRootsSaid : Prop := merkleRootsRow.holds Tryd.pinned (OpenSpec.ofChange merkleRootsSpec)

/-- ITS FALSE NEIGHBOUR: 'it returns false'. Refute it at one input. -/
def merkleRootsWrong : ChangeSpec := { name := "merkleRoots", fn := fun _ => fun
  | [d1, d2, d3] => { results := [.lit (.bool false)], args := [d1, d2, d3] }
  | _ => none }
def MerkleRootsWrongFalsely : Prop := merkleRootsRow.holds Tryd.pinned (OpenSpec.ofChange merkleRootsWrong)

/-- 'lightclientlaw07.MerkleGrows': WHATEVER THE INPUT: true; the input reads as it did. -/
def merkleGrowsSpec : ChangeSpec := { name := "merkleGrows", fn := fun _ => fun
  | [d1, d2] => { results := [.lit (.bool true)], args := [d1, d2] }
  | _ => none }
def merkleGrowsRow : OpenClaim := { program := "ytbkoenhfcdlahaadoor", sum := "d8fb94d1baec19eb034dc7ca438f588bb89fba41f2cecbb87675cefbfebcab52", func := "lightclient/lightclientlaw07.MerkleGrows", spec := "merkleGrows", named := ["lightclient/sha.initial", "lightclient/sha.constants"], apart := false, laid := [("lightclient/sha.constants", laid_lightclient_sha_constants), ("lightclient/sha.initial", laid_lightclient_sha_initial)] }
def MerkleGrowsSaid : Prop := merkleGrowsRow.holds Tryd.pinned (OpenSpec.ofChange merkleGrowsSpec)

/-- ITS FALSE NEIGHBOUR: 'it returns false'. Refute it at one input. -/
def merkleGrowsWrong : ChangeSpec := { name := "merkleGrows", fn := fun _ => fun
  | [d1, d2] => { results := [.lit (.bool false)], args := [d1, d2] }
  | _ => none }
def MerkleGrowsWrongFalsely : Prop := merkleGrowsRow.holds Tryd.pinned (OpenSpec.ofChange merkleGrowsWrong)

/-- 'lightclientlaw07.MerklePaths': WHATEVER THE INPUT: true; the input reads as it did. -/
def merklePathsSpec : ChangeSpec := { name := "merklePaths", fn := fun _ => fun
  | [d1, d2] => { results := [.lit (.bool true)], args := [d1, d2] }
  | _ => none }
def merklePathsRow : OpenClaim := { program := "ytbkoenhfcdlahaadoor", sum := "d8fb94d1baec19eb034dc7ca438f588bb89fba41f2cecbb87675cefbfebcab52", func := "lightclient/lightclientlaw07.MerklePaths", spec := "merklePaths", named := ["lightclient/sha.initial", "lightclient/sha.constants"], apart := false, laid := [("lightclient/sha.constants", laid_lightclient_sha_constants), ("lightclient/sha.initial", laid_lightclient_sha_initial)] }
def MerklePathsSaid : Prop := merklePathsRow.holds Tryd.pinned (OpenSpec.ofChange merklePathsSpec)

/-- ITS FALSE NEIGHBOUR: 'it returns false'. Refute it at one input. -/
def merklePathsWrong : ChangeSpec := { name := "merklePaths", fn := fun _ => fun
  | [d1, d2] => { results := [.lit (.bool false)], args := [d1, d2] }
  | _ => none }
def MerklePathsWrongFalsely : Prop := merklePathsRow.holds Tryd.pinned (OpenSpec.ofChange merklePathsWrong)

/-- 'lightclientlaw07.MerkleFollows': WHATEVER THE INPUT: true; the input reads as it did. -/
def merkleFollowsSpec : ChangeSpec := { name := "merkleFollows", fn := fun _ => fun
  | [d1, d2] => { results := [.lit (.bool true)], args := [d1, d2] }
  | _ => none }
def merkleFollowsRow : OpenClaim := { program := "ytbkoenhfcdlahaadoor", sum := "d8fb94d1baec19eb034dc7ca438f588bb89fba41f2cecbb87675cefbfebcab52", func := "lightclient/lightclientlaw07.MerkleFollows", spec := "merkleFollows", named := ["lightclient/sha.initial", "lightclient/sha.constants"], apart := false, laid := [("lightclient/sha.constants", laid_lightclient_sha_constants), ("lightclient/sha.initial", laid_lightclient_sha_initial)] }
def MerkleFollowsSaid : Prop := merkleFollowsRow.holds Tryd.pinned (OpenSpec.ofChange merkleFollowsSpec)

/-- ITS FALSE NEIGHBOUR: 'it returns false'. Refute it at one input. -/
def merkleFollowsWrong : ChangeSpec := { name := "merkleFollows", fn := fun _ => fun
  | [d1, d2] => { results := [.lit (.bool false)], args := [d1, d2] }
  | _ => none }
def MerkleFollowsWrongFalsely : Prop := merkleFollowsRow.holds Tryd.pinned (OpenSpec.ofChange merkleFollowsWrong)

/-- 'lightclientlaw07.MerkleBinds': WHATEVER THE INPUT: true; the input reads as it did. -/
def merkleBindsSpec : ChangeSpec := { name := "merkleBinds", fn := fun _ => fun
  | [d1, d2, d3, d4, d5, d6] => { results := [.lit (.bool true)], args := [d1, d2, d3, d4, d5, d6] }
  | _ => none }
def merkleBindsRow : OpenClaim := { program := "ytbkoenhfcdlahaadoor", sum := "d8fb94d1baec19eb034dc7ca438f588bb89fba41f2cecbb87675cefbfebcab52", func := "lightclient/lightclientlaw07.MerkleBinds", spec := "merkleBinds", named := ["lightclient/sha.initial", "lightclient/sha.constants"], apart := false, laid := [("lightclient/sha.constants", laid_lightclient_sha_constants), ("lightclient/sha.initial", laid_lightclient_sha_initial)] }
def MerkleBindsSaid : Prop := merkleBindsRow.holds Tryd.pinned (OpenSpec.ofChange merkleBindsSpec)

/-- ITS FALSE NEIGHBOUR: 'it returns false'. Refute it at one input. -/
def merkleBindsWrong : ChangeSpec := { name := "merkleBinds", fn := fun _ => fun
  | [d1, d2, d3, d4, d5, d6] => { results := [.lit (.bool false)], args := [d1, d2, d3, d4, d5, d6] }
  | _ => none }
def MerkleBindsWrongFalsely : Prop := merkleBindsRow.holds Tryd.pinned (OpenSpec.ofChange merkleBindsWrong)

/-- 'lightclientlaw07.MerkleParts': WHATEVER THE INPUT: true; the input reads as it did. -/
def merklePartsSpec : ChangeSpec := { name := "merkleParts", fn := fun _ => fun
  | [d1, d2] => { results := [.lit (.bool true)], args := [d1, d2] }
  | _ => none }
def merklePartsRow : OpenClaim := { program := "ytbkoenhfcdlahaadoor", sum := "d8fb94d1baec19eb034dc7ca438f588bb89fba41f2cecbb87675cefbfebcab52", func := "lightclient/lightclientlaw07.MerkleParts", spec := "merkleParts", recurses := true, named := ["lightclient/sha.initial", "lightclient/sha.constants"], apart := false, laid := [("lightclient/sha.constants", laid_lightclient_sha_constants), ("lightclient/sha.initial", laid_lightclient_sha_initial)] }
def MerklePartsSaid : Prop := merklePartsRow.holds Tryd.pinned (OpenSpec.ofChange merklePartsSpec)

/-- ITS FALSE NEIGHBOUR: 'it returns false'. Refute it at one input. -/
def merklePartsWrong : ChangeSpec := { name := "merkleParts", fn := fun _ => fun
  | [d1, d2] => { results := [.lit (.bool false)], args := [d1, d2] }
  | _ => none }
def MerklePartsWrongFalsely : Prop := merklePartsRow.holds Tryd.pinned (OpenSpec.ofChange merklePartsWrong)

/-- 'lightclientlaw07.MerkleProves': WHATEVER THE INPUT: true; the input reads as it did. -/
def merkleProvesSpec : ChangeSpec := { name := "merkleProves", fn := fun _ => fun
  | [d1, d2] => { results := [.lit (.bool true)], args := [d1, d2] }
  | _ => none }
def merkleProvesRow : OpenClaim := { program := "ytbkoenhfcdlahaadoor", sum := "d8fb94d1baec19eb034dc7ca438f588bb89fba41f2cecbb87675cefbfebcab52", func := "lightclient/lightclientlaw07.MerkleProves", spec := "merkleProves", named := ["lightclient/sha.initial", "lightclient/sha.constants"], apart := false, laid := [("lightclient/sha.constants", laid_lightclient_sha_constants), ("lightclient/sha.initial", laid_lightclient_sha_initial)] }
def MerkleProvesSaid : Prop := merkleProvesRow.holds Tryd.pinned (OpenSpec.ofChange merkleProvesSpec)

/-- ITS FALSE NEIGHBOUR: 'it returns false'. Refute it at one input. -/
def merkleProvesWrong : ChangeSpec := { name := "merkleProves", fn := fun _ => fun
  | [d1, d2] => { results := [.lit (.bool false)], args := [d1, d2] }
  | _ => none }
def MerkleProvesWrongFalsely : Prop := merkleProvesRow.holds Tryd.pinned (OpenSpec.ofChange merkleProvesWrong)

/-- 'lightclientlaw07.MerkleCovers': WHATEVER THE INPUT: true; the input reads as it did. -/
def merkleCoversSpec : ChangeSpec := { name := "merkleCovers", fn := fun _ => fun
  | [d1, d2] => { results := [.lit (.bool true)], args := [d1, d2] }
  | _ => none }
def merkleCoversRow : OpenClaim := { program := "ytbkoenhfcdlahaadoor", sum := "d8fb94d1baec19eb034dc7ca438f588bb89fba41f2cecbb87675cefbfebcab52", func := "lightclient/lightclientlaw07.MerkleCovers", spec := "merkleCovers", recurses := true, named := ["lightclient/sha.initial", "lightclient/sha.constants"], apart := false, laid := [("lightclient/sha.constants", laid_lightclient_sha_constants), ("lightclient/sha.initial", laid_lightclient_sha_initial)] }
def MerkleCoversSaid : Prop := merkleCoversRow.holds Tryd.pinned (OpenSpec.ofChange merkleCoversSpec)

/-- ITS FALSE NEIGHBOUR: 'it returns false'. Refute it at one input. -/
def merkleCoversWrong : ChangeSpec := { name := "merkleCovers", fn := fun _ => fun
  | [d1, d2] => { results := [.lit (.bool false)], args := [d1, d2] }
  | _ => none }
def MerkleCoversWrongFalsely : Prop := merkleCoversRow.holds Tryd.pinned (OpenSpec.ofChange merkleCoversWrong)

/- THE SECOND FORM. 'bulk': how many values and letters a reading holds, each counted each time it is reached (what is shared counts as often as it is met; a slice's spare places count too). A statement '..UptoSaid' is the law's where the arguments, and the package variables that the reading takes, are together of bulk at most 1048576: NARROWER than '..Said'. Prove '..Said' where nothing that the law and all that it calls make is longer than what came in: it says more and counts as full. Else prove '..UptoSaid'. A law counts once. -/
mutual
def uptoBulk {H : Type} : DataW H → Nat
  | .lit (.string bytes) => bytes.length + 1
  | .lit _ => 1
  | .nil => 1
  | .ptr d => uptoBulk d + 1
  | .slice elems spare => uptoBulkAll elems + uptoBulkAll spare + 1
  | .agg parts => uptoBulkAll parts + 1
  | .iface _ d => uptoBulk d + 1
  | .map entries => uptoBulkEntries entries + 1
  | .held _ => 1
def uptoBulkAll {H : Type} : List (DataW H) → Nat
  | [] => 0
  | d :: r => uptoBulk d + uptoBulkAll r
def uptoBulkEntries {H : Type} : List (Lit × DataW H) → Nat
  | [] => 0
  | x :: r => uptoBulkEntry x + uptoBulkEntries r
def uptoBulkEntry {H : Type} : Lit × DataW H → Nat
  | (.string bytes, d) => bytes.length + uptoBulk d + 1
  | (_, d) => uptoBulk d + 1
 end
def uptoSmall : (H : Type) → List (DataW H) → Bool := fun _ ds => decide (uptoBulkAll ds ≤ 1048576)
def OpenSpec.upto (s : _root_.Go.ChangeSpec) : _root_.Go.OpenSpec := { _root_.Go.OpenSpec.ofChange s with cond := some uptoSmall }

/-- 'lightclientlaw07.MerkleRoots', WHERE WHAT IT READS IS OF BULK AT MOST 1048576: true; the input reads as it did. -/
def merkleRootsUptoRow : OpenClaim := { program := "ytbkoenhfcdlahaadoor", sum := "d8fb94d1baec19eb034dc7ca438f588bb89fba41f2cecbb87675cefbfebcab52", func := "lightclient/lightclientlaw07.MerkleRoots", spec := "merkleRoots", named := ["lightclient/sha.initial", "lightclient/sha.constants"], apart := false, laid := [("lightclient/sha.constants", laid_lightclient_sha_constants), ("lightclient/sha.initial", laid_lightclient_sha_initial)], narrowed := true }
def MerkleRootsUptoSaid : Prop := merkleRootsUptoRow.holds Tryd.pinned (OpenSpec.upto merkleRootsSpec)

/-- 'lightclientlaw07.MerkleGrows', WHERE WHAT IT READS IS OF BULK AT MOST 1048576: true; the input reads as it did. -/
def merkleGrowsUptoRow : OpenClaim := { program := "ytbkoenhfcdlahaadoor", sum := "d8fb94d1baec19eb034dc7ca438f588bb89fba41f2cecbb87675cefbfebcab52", func := "lightclient/lightclientlaw07.MerkleGrows", spec := "merkleGrows", named := ["lightclient/sha.initial", "lightclient/sha.constants"], apart := false, laid := [("lightclient/sha.constants", laid_lightclient_sha_constants), ("lightclient/sha.initial", laid_lightclient_sha_initial)], narrowed := true }
def MerkleGrowsUptoSaid : Prop := merkleGrowsUptoRow.holds Tryd.pinned (OpenSpec.upto merkleGrowsSpec)

/-- 'lightclientlaw07.MerklePaths', WHERE WHAT IT READS IS OF BULK AT MOST 1048576: true; the input reads as it did. -/
def merklePathsUptoRow : OpenClaim := { program := "ytbkoenhfcdlahaadoor", sum := "d8fb94d1baec19eb034dc7ca438f588bb89fba41f2cecbb87675cefbfebcab52", func := "lightclient/lightclientlaw07.MerklePaths", spec := "merklePaths", named := ["lightclient/sha.initial", "lightclient/sha.constants"], apart := false, laid := [("lightclient/sha.constants", laid_lightclient_sha_constants), ("lightclient/sha.initial", laid_lightclient_sha_initial)], narrowed := true }
def MerklePathsUptoSaid : Prop := merklePathsUptoRow.holds Tryd.pinned (OpenSpec.upto merklePathsSpec)

/-- 'lightclientlaw07.MerkleFollows', WHERE WHAT IT READS IS OF BULK AT MOST 1048576: true; the input reads as it did. -/
def merkleFollowsUptoRow : OpenClaim := { program := "ytbkoenhfcdlahaadoor", sum := "d8fb94d1baec19eb034dc7ca438f588bb89fba41f2cecbb87675cefbfebcab52", func := "lightclient/lightclientlaw07.MerkleFollows", spec := "merkleFollows", named := ["lightclient/sha.initial", "lightclient/sha.constants"], apart := false, laid := [("lightclient/sha.constants", laid_lightclient_sha_constants), ("lightclient/sha.initial", laid_lightclient_sha_initial)], narrowed := true }
def MerkleFollowsUptoSaid : Prop := merkleFollowsUptoRow.holds Tryd.pinned (OpenSpec.upto merkleFollowsSpec)

/-- 'lightclientlaw07.MerkleBinds', WHERE WHAT IT READS IS OF BULK AT MOST 1048576: true; the input reads as it did. -/
def merkleBindsUptoRow : OpenClaim := { program := "ytbkoenhfcdlahaadoor", sum := "d8fb94d1baec19eb034dc7ca438f588bb89fba41f2cecbb87675cefbfebcab52", func := "lightclient/lightclientlaw07.MerkleBinds", spec := "merkleBinds", named := ["lightclient/sha.initial", "lightclient/sha.constants"], apart := false, laid := [("lightclient/sha.constants", laid_lightclient_sha_constants), ("lightclient/sha.initial", laid_lightclient_sha_initial)], narrowed := true }
def MerkleBindsUptoSaid : Prop := merkleBindsUptoRow.holds Tryd.pinned (OpenSpec.upto merkleBindsSpec)

/-- 'lightclientlaw07.MerkleParts', WHERE WHAT IT READS IS OF BULK AT MOST 1048576: true; the input reads as it did. -/
def merklePartsUptoRow : OpenClaim := { program := "ytbkoenhfcdlahaadoor", sum := "d8fb94d1baec19eb034dc7ca438f588bb89fba41f2cecbb87675cefbfebcab52", func := "lightclient/lightclientlaw07.MerkleParts", spec := "merkleParts", recurses := true, named := ["lightclient/sha.initial", "lightclient/sha.constants"], apart := false, laid := [("lightclient/sha.constants", laid_lightclient_sha_constants), ("lightclient/sha.initial", laid_lightclient_sha_initial)], narrowed := true }
def MerklePartsUptoSaid : Prop := merklePartsUptoRow.holds Tryd.pinned (OpenSpec.upto merklePartsSpec)

/-- 'lightclientlaw07.MerkleProves', WHERE WHAT IT READS IS OF BULK AT MOST 1048576: true; the input reads as it did. -/
def merkleProvesUptoRow : OpenClaim := { program := "ytbkoenhfcdlahaadoor", sum := "d8fb94d1baec19eb034dc7ca438f588bb89fba41f2cecbb87675cefbfebcab52", func := "lightclient/lightclientlaw07.MerkleProves", spec := "merkleProves", named := ["lightclient/sha.initial", "lightclient/sha.constants"], apart := false, laid := [("lightclient/sha.constants", laid_lightclient_sha_constants), ("lightclient/sha.initial", laid_lightclient_sha_initial)], narrowed := true }
def MerkleProvesUptoSaid : Prop := merkleProvesUptoRow.holds Tryd.pinned (OpenSpec.upto merkleProvesSpec)

/-- 'lightclientlaw07.MerkleCovers', WHERE WHAT IT READS IS OF BULK AT MOST 1048576: true; the input reads as it did. -/
def merkleCoversUptoRow : OpenClaim := { program := "ytbkoenhfcdlahaadoor", sum := "d8fb94d1baec19eb034dc7ca438f588bb89fba41f2cecbb87675cefbfebcab52", func := "lightclient/lightclientlaw07.MerkleCovers", spec := "merkleCovers", recurses := true, named := ["lightclient/sha.initial", "lightclient/sha.constants"], apart := false, laid := [("lightclient/sha.constants", laid_lightclient_sha_constants), ("lightclient/sha.initial", laid_lightclient_sha_initial)], narrowed := true }
def MerkleCoversUptoSaid : Prop := merkleCoversUptoRow.holds Tryd.pinned (OpenSpec.upto merkleCoversSpec)

end Rows
end Go.Proofs.YtbkoenhfcdlahaaDoor
