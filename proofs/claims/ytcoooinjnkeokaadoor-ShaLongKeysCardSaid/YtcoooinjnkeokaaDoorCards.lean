/-
  DERIVED. GIVEN WITH THE SEED: THE CARDS: each row of YtcoooinjnkeokaaDoorRows.lean that lists a variable, with what it lists TIED to the program's text (the seventh form; the later family's looks); each row that meets fmt, with fmt's text TOLD by the authors' own Lean function (tested against real Go, not proved from fmt's source: count such statements apart). THE CARD IS WHAT COUNTS. Prove the row's statement (the work); the ties are given (YtcoooinjnkeokaaDoorTie.lean); close each card by the builder's one call (the guide's Derived/Test/ToyasCard.lean, 'card_holds'). Laid BY PROGRAM, IN A SANDBOX (cutbox-door.mjs). By AI agents, Wed Nov 11 2026. No macro, syntax, notation, axiom, sorry.
-/
import Derived.Test.YtcoooinjnkeokaaDoorRows
import GoSem.ClaimSeven
namespace Go.Proofs.YtcoooinjnkeokaaDoor
namespace Rows

/-- THE TIED CARD OF 'lightclientlaw03.ShaCompresses'. -/
def shaCompressesCard : Claim7 := { stood := { row := shaCompressesRow, standIns := [], harness := (true, "62e9e71fe89cab50170b0c2a44a39b9b82129d0c227c543ea853a4e16875cade"), looks := false }, kinds := [], alts := [], laidByText := true, laidKinds := [.data, .data], laidTests := true, laidLooks := .later }
def ShaCompressesCardSaid : Prop := Claim7.holds Tryd.pinned (.plain (OpenSpec.ofChange shaCompressesSpec)) shaCompressesCard

/-- THE TIED CARD OF 'lightclientlaw03.ShaPads'. -/
def shaPadsCard : Claim7 := { stood := { row := shaPadsRow, standIns := [], harness := (true, "62e9e71fe89cab50170b0c2a44a39b9b82129d0c227c543ea853a4e16875cade"), looks := false }, kinds := [], alts := [], laidByText := true, laidKinds := [.data, .data], laidTests := true, laidLooks := .later }
def ShaPadsCardSaid : Prop := Claim7.holds Tryd.pinned (.plain (OpenSpec.ofChange shaPadsSpec)) shaPadsCard

/-- THE TIED CARD OF 'lightclientlaw03.ShaChains'. -/
def shaChainsCard : Claim7 := { stood := { row := shaChainsRow, standIns := [], harness := (true, "62e9e71fe89cab50170b0c2a44a39b9b82129d0c227c543ea853a4e16875cade"), looks := false }, kinds := [], alts := [], laidByText := true, laidKinds := [.data, .data], laidTests := true, laidLooks := .later }
def ShaChainsCardSaid : Prop := Claim7.holds Tryd.pinned (.plain (OpenSpec.ofChange shaChainsSpec)) shaChainsCard

/-- THE TIED CARD OF 'lightclientlaw03.ShaSums'. -/
def shaSumsCard : Claim7 := { stood := { row := shaSumsRow, standIns := [], harness := (true, "62e9e71fe89cab50170b0c2a44a39b9b82129d0c227c543ea853a4e16875cade"), looks := false }, kinds := [], alts := [], laidByText := true, laidKinds := [.data, .data], laidTests := true, laidLooks := .later }
def ShaSumsCardSaid : Prop := Claim7.holds Tryd.pinned (.plain (OpenSpec.ofChange shaSumsSpec)) shaSumsCard

/-- THE TIED CARD OF 'lightclientlaw03.ShaDoubles'. -/
def shaDoublesCard : Claim7 := { stood := { row := shaDoublesRow, standIns := [], harness := (true, "62e9e71fe89cab50170b0c2a44a39b9b82129d0c227c543ea853a4e16875cade"), looks := false }, kinds := [], alts := [], laidByText := true, laidKinds := [.data, .data], laidTests := true, laidLooks := .later }
def ShaDoublesCardSaid : Prop := Claim7.holds Tryd.pinned (.plain (OpenSpec.ofChange shaDoublesSpec)) shaDoublesCard

/-- THE TIED CARD OF 'lightclientlaw03.ShaLongKeys'. -/
def shaLongKeysCard : Claim7 := { stood := { row := shaLongKeysRow, standIns := [], harness := (true, "62e9e71fe89cab50170b0c2a44a39b9b82129d0c227c543ea853a4e16875cade"), looks := false }, kinds := [], alts := [], laidByText := true, laidKinds := [.data, .data], laidTests := true, laidLooks := .later }
def ShaLongKeysCardSaid : Prop := Claim7.holds Tryd.pinned (.plain (OpenSpec.ofChange shaLongKeysSpec)) shaLongKeysCard

/-- THE TIED CARD OF 'lightclientlaw03.ShaKeyed'. -/
def shaKeyedCard : Claim7 := { stood := { row := shaKeyedRow, standIns := [], harness := (true, "62e9e71fe89cab50170b0c2a44a39b9b82129d0c227c543ea853a4e16875cade"), looks := false }, kinds := [], alts := [], laidByText := true, laidKinds := [.data, .data], laidTests := true, laidLooks := .later }
def ShaKeyedCardSaid : Prop := Claim7.holds Tryd.pinned (.plain (OpenSpec.ofChange shaKeyedSpec)) shaKeyedCard

/-- THE SECOND FORM's CARD OF 'lightclientlaw03.ShaCompresses'. -/
def shaCompressesUptoCard : Claim7 := { stood := { row := shaCompressesUptoRow, standIns := [], harness := (true, "62e9e71fe89cab50170b0c2a44a39b9b82129d0c227c543ea853a4e16875cade"), looks := false }, kinds := [], alts := [], laidByText := true, laidKinds := [.data, .data], laidTests := true, laidLooks := .later }
def ShaCompressesUptoCardSaid : Prop := Claim7.holds Tryd.pinned (.plain (OpenSpec.upto shaCompressesSpec)) shaCompressesUptoCard

/-- THE SECOND FORM's CARD OF 'lightclientlaw03.ShaPads'. -/
def shaPadsUptoCard : Claim7 := { stood := { row := shaPadsUptoRow, standIns := [], harness := (true, "62e9e71fe89cab50170b0c2a44a39b9b82129d0c227c543ea853a4e16875cade"), looks := false }, kinds := [], alts := [], laidByText := true, laidKinds := [.data, .data], laidTests := true, laidLooks := .later }
def ShaPadsUptoCardSaid : Prop := Claim7.holds Tryd.pinned (.plain (OpenSpec.upto shaPadsSpec)) shaPadsUptoCard

/-- THE SECOND FORM's CARD OF 'lightclientlaw03.ShaChains'. -/
def shaChainsUptoCard : Claim7 := { stood := { row := shaChainsUptoRow, standIns := [], harness := (true, "62e9e71fe89cab50170b0c2a44a39b9b82129d0c227c543ea853a4e16875cade"), looks := false }, kinds := [], alts := [], laidByText := true, laidKinds := [.data, .data], laidTests := true, laidLooks := .later }
def ShaChainsUptoCardSaid : Prop := Claim7.holds Tryd.pinned (.plain (OpenSpec.upto shaChainsSpec)) shaChainsUptoCard

/-- THE SECOND FORM's CARD OF 'lightclientlaw03.ShaSums'. -/
def shaSumsUptoCard : Claim7 := { stood := { row := shaSumsUptoRow, standIns := [], harness := (true, "62e9e71fe89cab50170b0c2a44a39b9b82129d0c227c543ea853a4e16875cade"), looks := false }, kinds := [], alts := [], laidByText := true, laidKinds := [.data, .data], laidTests := true, laidLooks := .later }
def ShaSumsUptoCardSaid : Prop := Claim7.holds Tryd.pinned (.plain (OpenSpec.upto shaSumsSpec)) shaSumsUptoCard

/-- THE SECOND FORM's CARD OF 'lightclientlaw03.ShaDoubles'. -/
def shaDoublesUptoCard : Claim7 := { stood := { row := shaDoublesUptoRow, standIns := [], harness := (true, "62e9e71fe89cab50170b0c2a44a39b9b82129d0c227c543ea853a4e16875cade"), looks := false }, kinds := [], alts := [], laidByText := true, laidKinds := [.data, .data], laidTests := true, laidLooks := .later }
def ShaDoublesUptoCardSaid : Prop := Claim7.holds Tryd.pinned (.plain (OpenSpec.upto shaDoublesSpec)) shaDoublesUptoCard

/-- THE SECOND FORM's CARD OF 'lightclientlaw03.ShaLongKeys'. -/
def shaLongKeysUptoCard : Claim7 := { stood := { row := shaLongKeysUptoRow, standIns := [], harness := (true, "62e9e71fe89cab50170b0c2a44a39b9b82129d0c227c543ea853a4e16875cade"), looks := false }, kinds := [], alts := [], laidByText := true, laidKinds := [.data, .data], laidTests := true, laidLooks := .later }
def ShaLongKeysUptoCardSaid : Prop := Claim7.holds Tryd.pinned (.plain (OpenSpec.upto shaLongKeysSpec)) shaLongKeysUptoCard

/-- THE SECOND FORM's CARD OF 'lightclientlaw03.ShaKeyed'. -/
def shaKeyedUptoCard : Claim7 := { stood := { row := shaKeyedUptoRow, standIns := [], harness := (true, "62e9e71fe89cab50170b0c2a44a39b9b82129d0c227c543ea853a4e16875cade"), looks := false }, kinds := [], alts := [], laidByText := true, laidKinds := [.data, .data], laidTests := true, laidLooks := .later }
def ShaKeyedUptoCardSaid : Prop := Claim7.holds Tryd.pinned (.plain (OpenSpec.upto shaKeyedSpec)) shaKeyedUptoCard
end Rows
end Go.Proofs.YtcoooinjnkeokaaDoor
