/-
  DERIVED. GIVEN WITH THE SEED: THE CARDS: each row of YtbkoenhfcdlahaaDoorRows.lean that lists a variable, with what it lists TIED to the program's text (the seventh form; the later family's looks); each row that meets fmt, with fmt's text TOLD by the authors' own Lean function (tested against real Go, not proved from fmt's source: count such statements apart). THE CARD IS WHAT COUNTS. Prove the row's statement (the work); the ties are given (YtbkoenhfcdlahaaDoorTie.lean); close each card by the builder's one call (the guide's Derived/Test/ToyasCard.lean, 'card_holds'). Laid BY PROGRAM, IN A SANDBOX (cutbox-door.mjs). By AI agents, Wed Nov 11 2026. No macro, syntax, notation, axiom, sorry.
-/
import Derived.Test.YtbkoenhfcdlahaaDoorRows
import GoSem.ClaimSeven
namespace Go.Proofs.YtbkoenhfcdlahaaDoor
namespace Rows

/-- THE TIED CARD OF 'lightclientlaw07.MerkleRoots'. -/
def merkleRootsCard : Claim7 := { stood := { row := merkleRootsRow, standIns := [], harness := (true, "6d969cb03f990c0c13cd459d09822c7155fecc818cf0862199b1ed6ff755b05c"), looks := false }, kinds := [], alts := [], laidByText := true, laidKinds := [.data, .data], laidTests := true, laidLooks := .later }
def MerkleRootsCardSaid : Prop := Claim7.holds Tryd.pinned (.plain (OpenSpec.ofChange merkleRootsSpec)) merkleRootsCard

/-- THE TIED CARD OF 'lightclientlaw07.MerkleGrows'. -/
def merkleGrowsCard : Claim7 := { stood := { row := merkleGrowsRow, standIns := [], harness := (true, "6d969cb03f990c0c13cd459d09822c7155fecc818cf0862199b1ed6ff755b05c"), looks := false }, kinds := [], alts := [], laidByText := true, laidKinds := [.data, .data], laidTests := true, laidLooks := .later }
def MerkleGrowsCardSaid : Prop := Claim7.holds Tryd.pinned (.plain (OpenSpec.ofChange merkleGrowsSpec)) merkleGrowsCard

/-- THE TIED CARD OF 'lightclientlaw07.MerklePaths'. -/
def merklePathsCard : Claim7 := { stood := { row := merklePathsRow, standIns := [], harness := (true, "6d969cb03f990c0c13cd459d09822c7155fecc818cf0862199b1ed6ff755b05c"), looks := false }, kinds := [], alts := [], laidByText := true, laidKinds := [.data, .data], laidTests := true, laidLooks := .later }
def MerklePathsCardSaid : Prop := Claim7.holds Tryd.pinned (.plain (OpenSpec.ofChange merklePathsSpec)) merklePathsCard

/-- THE TIED CARD OF 'lightclientlaw07.MerkleFollows'. -/
def merkleFollowsCard : Claim7 := { stood := { row := merkleFollowsRow, standIns := [], harness := (true, "6d969cb03f990c0c13cd459d09822c7155fecc818cf0862199b1ed6ff755b05c"), looks := false }, kinds := [], alts := [], laidByText := true, laidKinds := [.data, .data], laidTests := true, laidLooks := .later }
def MerkleFollowsCardSaid : Prop := Claim7.holds Tryd.pinned (.plain (OpenSpec.ofChange merkleFollowsSpec)) merkleFollowsCard

/-- THE TIED CARD OF 'lightclientlaw07.MerkleBinds'. -/
def merkleBindsCard : Claim7 := { stood := { row := merkleBindsRow, standIns := [], harness := (true, "6d969cb03f990c0c13cd459d09822c7155fecc818cf0862199b1ed6ff755b05c"), looks := false }, kinds := [], alts := [], laidByText := true, laidKinds := [.data, .data], laidTests := true, laidLooks := .later }
def MerkleBindsCardSaid : Prop := Claim7.holds Tryd.pinned (.plain (OpenSpec.ofChange merkleBindsSpec)) merkleBindsCard

/-- THE TIED CARD OF 'lightclientlaw07.MerkleParts'. -/
def merklePartsCard : Claim7 := { stood := { row := merklePartsRow, standIns := [], harness := (true, "6d969cb03f990c0c13cd459d09822c7155fecc818cf0862199b1ed6ff755b05c"), looks := false }, kinds := [], alts := [], laidByText := true, laidKinds := [.data, .data], laidTests := true, laidLooks := .later }
def MerklePartsCardSaid : Prop := Claim7.holds Tryd.pinned (.plain (OpenSpec.ofChange merklePartsSpec)) merklePartsCard

/-- THE TIED CARD OF 'lightclientlaw07.MerkleProves'. -/
def merkleProvesCard : Claim7 := { stood := { row := merkleProvesRow, standIns := [], harness := (true, "6d969cb03f990c0c13cd459d09822c7155fecc818cf0862199b1ed6ff755b05c"), looks := false }, kinds := [], alts := [], laidByText := true, laidKinds := [.data, .data], laidTests := true, laidLooks := .later }
def MerkleProvesCardSaid : Prop := Claim7.holds Tryd.pinned (.plain (OpenSpec.ofChange merkleProvesSpec)) merkleProvesCard

/-- THE TIED CARD OF 'lightclientlaw07.MerkleCovers'. -/
def merkleCoversCard : Claim7 := { stood := { row := merkleCoversRow, standIns := [], harness := (true, "6d969cb03f990c0c13cd459d09822c7155fecc818cf0862199b1ed6ff755b05c"), looks := false }, kinds := [], alts := [], laidByText := true, laidKinds := [.data, .data], laidTests := true, laidLooks := .later }
def MerkleCoversCardSaid : Prop := Claim7.holds Tryd.pinned (.plain (OpenSpec.ofChange merkleCoversSpec)) merkleCoversCard

/-- THE SECOND FORM's CARD OF 'lightclientlaw07.MerkleRoots'. -/
def merkleRootsUptoCard : Claim7 := { stood := { row := merkleRootsUptoRow, standIns := [], harness := (true, "6d969cb03f990c0c13cd459d09822c7155fecc818cf0862199b1ed6ff755b05c"), looks := false }, kinds := [], alts := [], laidByText := true, laidKinds := [.data, .data], laidTests := true, laidLooks := .later }
def MerkleRootsUptoCardSaid : Prop := Claim7.holds Tryd.pinned (.plain (OpenSpec.upto merkleRootsSpec)) merkleRootsUptoCard

/-- THE SECOND FORM's CARD OF 'lightclientlaw07.MerkleGrows'. -/
def merkleGrowsUptoCard : Claim7 := { stood := { row := merkleGrowsUptoRow, standIns := [], harness := (true, "6d969cb03f990c0c13cd459d09822c7155fecc818cf0862199b1ed6ff755b05c"), looks := false }, kinds := [], alts := [], laidByText := true, laidKinds := [.data, .data], laidTests := true, laidLooks := .later }
def MerkleGrowsUptoCardSaid : Prop := Claim7.holds Tryd.pinned (.plain (OpenSpec.upto merkleGrowsSpec)) merkleGrowsUptoCard

/-- THE SECOND FORM's CARD OF 'lightclientlaw07.MerklePaths'. -/
def merklePathsUptoCard : Claim7 := { stood := { row := merklePathsUptoRow, standIns := [], harness := (true, "6d969cb03f990c0c13cd459d09822c7155fecc818cf0862199b1ed6ff755b05c"), looks := false }, kinds := [], alts := [], laidByText := true, laidKinds := [.data, .data], laidTests := true, laidLooks := .later }
def MerklePathsUptoCardSaid : Prop := Claim7.holds Tryd.pinned (.plain (OpenSpec.upto merklePathsSpec)) merklePathsUptoCard

/-- THE SECOND FORM's CARD OF 'lightclientlaw07.MerkleFollows'. -/
def merkleFollowsUptoCard : Claim7 := { stood := { row := merkleFollowsUptoRow, standIns := [], harness := (true, "6d969cb03f990c0c13cd459d09822c7155fecc818cf0862199b1ed6ff755b05c"), looks := false }, kinds := [], alts := [], laidByText := true, laidKinds := [.data, .data], laidTests := true, laidLooks := .later }
def MerkleFollowsUptoCardSaid : Prop := Claim7.holds Tryd.pinned (.plain (OpenSpec.upto merkleFollowsSpec)) merkleFollowsUptoCard

/-- THE SECOND FORM's CARD OF 'lightclientlaw07.MerkleBinds'. -/
def merkleBindsUptoCard : Claim7 := { stood := { row := merkleBindsUptoRow, standIns := [], harness := (true, "6d969cb03f990c0c13cd459d09822c7155fecc818cf0862199b1ed6ff755b05c"), looks := false }, kinds := [], alts := [], laidByText := true, laidKinds := [.data, .data], laidTests := true, laidLooks := .later }
def MerkleBindsUptoCardSaid : Prop := Claim7.holds Tryd.pinned (.plain (OpenSpec.upto merkleBindsSpec)) merkleBindsUptoCard

/-- THE SECOND FORM's CARD OF 'lightclientlaw07.MerkleParts'. -/
def merklePartsUptoCard : Claim7 := { stood := { row := merklePartsUptoRow, standIns := [], harness := (true, "6d969cb03f990c0c13cd459d09822c7155fecc818cf0862199b1ed6ff755b05c"), looks := false }, kinds := [], alts := [], laidByText := true, laidKinds := [.data, .data], laidTests := true, laidLooks := .later }
def MerklePartsUptoCardSaid : Prop := Claim7.holds Tryd.pinned (.plain (OpenSpec.upto merklePartsSpec)) merklePartsUptoCard

/-- THE SECOND FORM's CARD OF 'lightclientlaw07.MerkleProves'. -/
def merkleProvesUptoCard : Claim7 := { stood := { row := merkleProvesUptoRow, standIns := [], harness := (true, "6d969cb03f990c0c13cd459d09822c7155fecc818cf0862199b1ed6ff755b05c"), looks := false }, kinds := [], alts := [], laidByText := true, laidKinds := [.data, .data], laidTests := true, laidLooks := .later }
def MerkleProvesUptoCardSaid : Prop := Claim7.holds Tryd.pinned (.plain (OpenSpec.upto merkleProvesSpec)) merkleProvesUptoCard

/-- THE SECOND FORM's CARD OF 'lightclientlaw07.MerkleCovers'. -/
def merkleCoversUptoCard : Claim7 := { stood := { row := merkleCoversUptoRow, standIns := [], harness := (true, "6d969cb03f990c0c13cd459d09822c7155fecc818cf0862199b1ed6ff755b05c"), looks := false }, kinds := [], alts := [], laidByText := true, laidKinds := [.data, .data], laidTests := true, laidLooks := .later }
def MerkleCoversUptoCardSaid : Prop := Claim7.holds Tryd.pinned (.plain (OpenSpec.upto merkleCoversSpec)) merkleCoversUptoCard
end Rows
end Go.Proofs.YtbkoenhfcdlahaaDoor
