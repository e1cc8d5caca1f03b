/-
  DERIVED. GIVEN WITH THE SEED: THE CARDS: each row of YtompcngeikjfiaaDoorRows.lean that lists a variable, with what it lists TIED to the program's text (the seventh form; the later family's looks); each row that meets fmt, with fmt's text TOLD by the authors' own Lean function (tested against real Go, not proved from fmt's source: count such statements apart). THE CARD IS WHAT COUNTS. Prove the row's statement (the work); the ties are given (YtompcngeikjfiaaDoorTie.lean); close each card by the builder's one call (the guide's Derived/Test/ToyasCard.lean, 'card_holds'). Laid BY PROGRAM, IN A SANDBOX (cutbox-door.mjs). By AI agents, Wed Nov 11 2026. No macro, syntax, notation, axiom, sorry.
-/
import Derived.Test.YtompcngeikjfiaaDoorRows
import GoSem.ClaimSeven
namespace Go.Proofs.YtompcngeikjfiaaDoor
namespace Rows

/-- THE TIED CARD OF 'weirlaw27.UriNames'. -/
def uriNamesCard : Claim7 := { stood := { row := uriNamesRow, standIns := [], harness := (true, "3a729d69bc3a2a2f84d3d617cee7395c99d6107b38c7e50d8b44af5e0977c64b"), looks := false }, kinds := [], alts := [], laidByText := true, laidKinds := [.data, .pinned], laidTests := true, laidLooks := .later }
def UriNamesCardSaid : Prop := Claim7.holds Tryd.pinned (.plain (OpenSpec.ofChange uriNamesSpec)) uriNamesCard

/-- THE TIED CARD OF 'weirlaw27.UriEscapes'. -/
def uriEscapesCard : Claim7 := { stood := { row := uriEscapesRow, standIns := [], harness := (true, "3a729d69bc3a2a2f84d3d617cee7395c99d6107b38c7e50d8b44af5e0977c64b"), looks := false }, kinds := [], alts := [], laidByText := true, laidKinds := [.data, .pinned], laidTests := true, laidLooks := .later }
def UriEscapesCardSaid : Prop := Claim7.holds Tryd.pinned (.plain (OpenSpec.ofChange uriEscapesSpec)) uriEscapesCard

/-- THE TIED CARD OF 'weirlaw27.UriTexts'. -/
def uriTextsCard : Claim7 := { stood := { row := uriTextsRow, standIns := [], harness := (true, "3a729d69bc3a2a2f84d3d617cee7395c99d6107b38c7e50d8b44af5e0977c64b"), looks := false }, kinds := [], alts := [], laidByText := true, laidKinds := [.data, .pinned], laidTests := true, laidLooks := .later }
def UriTextsCardSaid : Prop := Claim7.holds Tryd.pinned (.plain (OpenSpec.ofChange uriTextsSpec)) uriTextsCard

/-- THE TIED CARD OF 'weirlaw27.UriParams'. -/
def uriParamsCard : Claim7 := { stood := { row := uriParamsRow, standIns := [], harness := (true, "3a729d69bc3a2a2f84d3d617cee7395c99d6107b38c7e50d8b44af5e0977c64b"), looks := false }, kinds := [], alts := [], laidByText := true, laidKinds := [.data, .pinned], laidTests := true, laidLooks := .later }
def UriParamsCardSaid : Prop := Claim7.holds Tryd.pinned (.plain (OpenSpec.ofChange uriParamsSpec)) uriParamsCard

/-- THE TIED CARD OF 'weirlaw27.UriBack'. -/
def uriBackCard : Claim7 := { stood := { row := uriBackRow, standIns := [], harness := (true, "3a729d69bc3a2a2f84d3d617cee7395c99d6107b38c7e50d8b44af5e0977c64b"), looks := false }, kinds := [], alts := [], laidByText := true, laidKinds := [.data, .pinned], laidTests := true, laidLooks := .later }
def UriBackCardSaid : Prop := Claim7.holds Tryd.pinned (.plain (OpenSpec.ofChange uriBackSpec)) uriBackCard

/-- THE TIED CARD OF 'weirlaw27.UriTwo'. -/
def uriTwoCard : Claim7 := { stood := { row := uriTwoRow, standIns := [], harness := (true, "3a729d69bc3a2a2f84d3d617cee7395c99d6107b38c7e50d8b44af5e0977c64b"), looks := false }, kinds := [], alts := [], laidByText := true, laidKinds := [.data, .pinned], laidTests := true, laidLooks := .later }
def UriTwoCardSaid : Prop := Claim7.holds Tryd.pinned (.plain (OpenSpec.ofChange uriTwoSpec)) uriTwoCard

/-- THE TIED CARD OF 'weirlaw27.UriKeeps'. -/
def uriKeepsCard : Claim7 := { stood := { row := uriKeepsRow, standIns := [], harness := (true, "3a729d69bc3a2a2f84d3d617cee7395c99d6107b38c7e50d8b44af5e0977c64b"), looks := false }, kinds := [], alts := [], laidByText := true, laidKinds := [.data, .pinned], laidTests := true, laidLooks := .later }
def UriKeepsCardSaid : Prop := Claim7.holds Tryd.pinned (.plain (OpenSpec.ofChange uriKeepsSpec)) uriKeepsCard

/-- THE SECOND FORM's CARD OF 'weirlaw27.UriNames'. -/
def uriNamesUptoCard : Claim7 := { stood := { row := uriNamesUptoRow, standIns := [], harness := (true, "3a729d69bc3a2a2f84d3d617cee7395c99d6107b38c7e50d8b44af5e0977c64b"), looks := false }, kinds := [], alts := [], laidByText := true, laidKinds := [.data, .pinned], laidTests := true, laidLooks := .later }
def UriNamesUptoCardSaid : Prop := Claim7.holds Tryd.pinned (.plain (OpenSpec.upto uriNamesSpec)) uriNamesUptoCard

/-- THE SECOND FORM's CARD OF 'weirlaw27.UriEscapes'. -/
def uriEscapesUptoCard : Claim7 := { stood := { row := uriEscapesUptoRow, standIns := [], harness := (true, "3a729d69bc3a2a2f84d3d617cee7395c99d6107b38c7e50d8b44af5e0977c64b"), looks := false }, kinds := [], alts := [], laidByText := true, laidKinds := [.data, .pinned], laidTests := true, laidLooks := .later }
def UriEscapesUptoCardSaid : Prop := Claim7.holds Tryd.pinned (.plain (OpenSpec.upto uriEscapesSpec)) uriEscapesUptoCard

/-- THE SECOND FORM's CARD OF 'weirlaw27.UriTexts'. -/
def uriTextsUptoCard : Claim7 := { stood := { row := uriTextsUptoRow, standIns := [], harness := (true, "3a729d69bc3a2a2f84d3d617cee7395c99d6107b38c7e50d8b44af5e0977c64b"), looks := false }, kinds := [], alts := [], laidByText := true, laidKinds := [.data, .pinned], laidTests := true, laidLooks := .later }
def UriTextsUptoCardSaid : Prop := Claim7.holds Tryd.pinned (.plain (OpenSpec.upto uriTextsSpec)) uriTextsUptoCard

/-- THE SECOND FORM's CARD OF 'weirlaw27.UriParams'. -/
def uriParamsUptoCard : Claim7 := { stood := { row := uriParamsUptoRow, standIns := [], harness := (true, "3a729d69bc3a2a2f84d3d617cee7395c99d6107b38c7e50d8b44af5e0977c64b"), looks := false }, kinds := [], alts := [], laidByText := true, laidKinds := [.data, .pinned], laidTests := true, laidLooks := .later }
def UriParamsUptoCardSaid : Prop := Claim7.holds Tryd.pinned (.plain (OpenSpec.upto uriParamsSpec)) uriParamsUptoCard

/-- THE SECOND FORM's CARD OF 'weirlaw27.UriBack'. -/
def uriBackUptoCard : Claim7 := { stood := { row := uriBackUptoRow, standIns := [], harness := (true, "3a729d69bc3a2a2f84d3d617cee7395c99d6107b38c7e50d8b44af5e0977c64b"), looks := false }, kinds := [], alts := [], laidByText := true, laidKinds := [.data, .pinned], laidTests := true, laidLooks := .later }
def UriBackUptoCardSaid : Prop := Claim7.holds Tryd.pinned (.plain (OpenSpec.upto uriBackSpec)) uriBackUptoCard

/-- THE SECOND FORM's CARD OF 'weirlaw27.UriTwo'. -/
def uriTwoUptoCard : Claim7 := { stood := { row := uriTwoUptoRow, standIns := [], harness := (true, "3a729d69bc3a2a2f84d3d617cee7395c99d6107b38c7e50d8b44af5e0977c64b"), looks := false }, kinds := [], alts := [], laidByText := true, laidKinds := [.data, .pinned], laidTests := true, laidLooks := .later }
def UriTwoUptoCardSaid : Prop := Claim7.holds Tryd.pinned (.plain (OpenSpec.upto uriTwoSpec)) uriTwoUptoCard

/-- THE SECOND FORM's CARD OF 'weirlaw27.UriKeeps'. -/
def uriKeepsUptoCard : Claim7 := { stood := { row := uriKeepsUptoRow, standIns := [], harness := (true, "3a729d69bc3a2a2f84d3d617cee7395c99d6107b38c7e50d8b44af5e0977c64b"), looks := false }, kinds := [], alts := [], laidByText := true, laidKinds := [.data, .pinned], laidTests := true, laidLooks := .later }
def UriKeepsUptoCardSaid : Prop := Claim7.holds Tryd.pinned (.plain (OpenSpec.upto uriKeepsSpec)) uriKeepsUptoCard
end Rows
end Go.Proofs.YtompcngeikjfiaaDoor
