/-
  DERIVED. GIVEN WITH THE SEED: THE CARDS: each row of YtoemceehmiaigaaDoorRows.lean that lists a variable, with what it lists TIED to the program's text (the seventh form; the later family's looks); each row that meets fmt, with fmt's text TOLD by the authors' own Lean function (tested against real Go, not proved from fmt's source: count such statements apart). THE CARD IS WHAT COUNTS. Prove the row's statement (the work); the ties are given (YtoemceehmiaigaaDoorTie.lean); close each card by the builder's one call (the guide's Derived/Test/ToyasCard.lean, 'card_holds'). Laid BY PROGRAM, IN A SANDBOX (cutbox-door.mjs). By AI agents, Wed Nov 11 2026. No macro, syntax, notation, axiom, sorry.
-/
import Derived.Test.YtoemceehmiaigaaDoorRows
import GoSem.ClaimSeven
namespace Go.Proofs.YtoemceehmiaigaaDoor
namespace Rows

/-- THE TIED CARD OF 'weirlaw04.ShaRoots'. -/
def shaRootsCard : Claim7 := { stood := { row := shaRootsRow, standIns := [], harness := (true, "bc5c82db8fc165582166ede7c0d967bfed8fde76b0860f29f7a41f57ab4bf814"), looks := false }, kinds := [], alts := [], laidByText := true, laidKinds := [.data], laidTests := true, laidLooks := .later }
def ShaRootsCardSaid : Prop := Claim7.holds Tryd.pinned (.plain (OpenSpec.ofChange shaRootsSpec)) shaRootsCard

/-- THE TIED CARD OF 'weirlaw04.ShaSums'. -/
def shaSumsCard : Claim7 := { stood := { row := shaSumsRow, standIns := [], harness := (true, "bc5c82db8fc165582166ede7c0d967bfed8fde76b0860f29f7a41f57ab4bf814"), looks := false }, kinds := [], alts := [], laidByText := true, laidKinds := [.data], laidTests := true, laidLooks := .later }
def ShaSumsCardSaid : Prop := Claim7.holds Tryd.pinned (.plain (OpenSpec.ofChange shaSumsSpec)) shaSumsCard

/-- THE TIED CARD OF 'weirlaw04.ShaHashes'. -/
def shaHashesCard : Claim7 := { stood := { row := shaHashesRow, standIns := [], harness := (true, "bc5c82db8fc165582166ede7c0d967bfed8fde76b0860f29f7a41f57ab4bf814"), looks := false }, kinds := [], alts := [], laidByText := true, laidKinds := [.data], laidTests := true, laidLooks := .later }
def ShaHashesCardSaid : Prop := Claim7.holds Tryd.pinned (.plain (OpenSpec.ofChange shaHashesSpec)) shaHashesCard

/-- THE TIED CARD OF 'weirlaw04.ShaPieces'. -/
def shaPiecesCard : Claim7 := { stood := { row := shaPiecesRow, standIns := [], harness := (true, "bc5c82db8fc165582166ede7c0d967bfed8fde76b0860f29f7a41f57ab4bf814"), looks := false }, kinds := [], alts := [], laidByText := true, laidKinds := [.data], laidTests := true, laidLooks := .later }
def ShaPiecesCardSaid : Prop := Claim7.holds Tryd.pinned (.plain (OpenSpec.ofChange shaPiecesSpec)) shaPiecesCard

/-- THE TIED CARD OF 'weirlaw04.ShaMacs'. -/
def shaMacsCard : Claim7 := { stood := { row := shaMacsRow, standIns := [], harness := (true, "bc5c82db8fc165582166ede7c0d967bfed8fde76b0860f29f7a41f57ab4bf814"), looks := false }, kinds := [], alts := [], laidByText := true, laidKinds := [.data], laidTests := true, laidLooks := .later }
def ShaMacsCardSaid : Prop := Claim7.holds Tryd.pinned (.plain (OpenSpec.ofChange shaMacsSpec)) shaMacsCard

/-- THE TIED CARD OF 'weirlaw04.ShaHmacs'. -/
def shaHmacsCard : Claim7 := { stood := { row := shaHmacsRow, standIns := [], harness := (true, "bc5c82db8fc165582166ede7c0d967bfed8fde76b0860f29f7a41f57ab4bf814"), looks := false }, kinds := [], alts := [], laidByText := true, laidKinds := [.data], laidTests := true, laidLooks := .later }
def ShaHmacsCardSaid : Prop := Claim7.holds Tryd.pinned (.plain (OpenSpec.ofChange shaHmacsSpec)) shaHmacsCard

/-- THE TIED CARD OF 'weirlaw04.ShaNested'. -/
def shaNestedCard : Claim7 := { stood := { row := shaNestedRow, standIns := [], harness := (true, "bc5c82db8fc165582166ede7c0d967bfed8fde76b0860f29f7a41f57ab4bf814"), looks := false }, kinds := [], alts := [], laidByText := true, laidKinds := [.data], laidTests := true, laidLooks := .later }
def ShaNestedCardSaid : Prop := Claim7.holds Tryd.pinned (.plain (OpenSpec.ofChange shaNestedSpec)) shaNestedCard

/-- THE TIED CARD OF 'weirlaw05.SealNames'. -/
def sealNamesCard : Claim7 := { stood := { row := sealNamesRow, standIns := [], harness := (true, "bc5c82db8fc165582166ede7c0d967bfed8fde76b0860f29f7a41f57ab4bf814"), looks := false }, kinds := [], alts := [], laidByText := true, laidKinds := [.data], laidTests := true, laidLooks := .later }
def SealNamesCardSaid : Prop := Claim7.holds Tryd.pinned (.plain (OpenSpec.ofChange sealNamesSpec)) sealNamesCard

/-- THE TIED CARD OF 'weirlaw05.SealOpens'. -/
def sealOpensCard : Claim7 := { stood := { row := sealOpensRow, standIns := [], harness := (true, "bc5c82db8fc165582166ede7c0d967bfed8fde76b0860f29f7a41f57ab4bf814"), looks := false }, kinds := [], alts := [], laidByText := true, laidKinds := [.data], laidTests := true, laidLooks := .later }
def SealOpensCardSaid : Prop := Claim7.holds Tryd.pinned (.plain (OpenSpec.ofChange sealOpensSpec)) sealOpensCard

/-- THE TIED CARD OF 'weirlaw05.SealOnly'. -/
def sealOnlyCard : Claim7 := { stood := { row := sealOnlyRow, standIns := [], harness := (true, "bc5c82db8fc165582166ede7c0d967bfed8fde76b0860f29f7a41f57ab4bf814"), looks := false }, kinds := [], alts := [], laidByText := true, laidKinds := [.data], laidTests := true, laidLooks := .later }
def SealOnlyCardSaid : Prop := Claim7.holds Tryd.pinned (.plain (OpenSpec.ofChange sealOnlySpec)) sealOnlyCard

/-- THE TIED CARD OF 'weirlaw05.SealTag'. -/
def sealTagCard : Claim7 := { stood := { row := sealTagRow, standIns := [], harness := (true, "bc5c82db8fc165582166ede7c0d967bfed8fde76b0860f29f7a41f57ab4bf814"), looks := false }, kinds := [], alts := [], laidByText := true, laidKinds := [.data], laidTests := true, laidLooks := .later }
def SealTagCardSaid : Prop := Claim7.holds Tryd.pinned (.plain (OpenSpec.ofChange sealTagSpec)) sealTagCard

/-- THE TIED CARD OF 'weirlaw05.SealKeeps'. -/
def sealKeepsCard : Claim7 := { stood := { row := sealKeepsRow, standIns := [], harness := (true, "bc5c82db8fc165582166ede7c0d967bfed8fde76b0860f29f7a41f57ab4bf814"), looks := false }, kinds := [], alts := [], laidByText := true, laidKinds := [.data], laidTests := true, laidLooks := .later }
def SealKeepsCardSaid : Prop := Claim7.holds Tryd.pinned (.plain (OpenSpec.ofChange sealKeepsSpec)) sealKeepsCard

/-- THE SECOND FORM's CARD OF 'weirlaw04.ShaRoots'. -/
def shaRootsUptoCard : Claim7 := { stood := { row := shaRootsUptoRow, standIns := [], harness := (true, "bc5c82db8fc165582166ede7c0d967bfed8fde76b0860f29f7a41f57ab4bf814"), looks := false }, kinds := [], alts := [], laidByText := true, laidKinds := [.data], laidTests := true, laidLooks := .later }
def ShaRootsUptoCardSaid : Prop := Claim7.holds Tryd.pinned (.plain (OpenSpec.upto shaRootsSpec)) shaRootsUptoCard

/-- THE SECOND FORM's CARD OF 'weirlaw04.ShaSums'. -/
def shaSumsUptoCard : Claim7 := { stood := { row := shaSumsUptoRow, standIns := [], harness := (true, "bc5c82db8fc165582166ede7c0d967bfed8fde76b0860f29f7a41f57ab4bf814"), looks := false }, kinds := [], alts := [], laidByText := true, laidKinds := [.data], laidTests := true, laidLooks := .later }
def ShaSumsUptoCardSaid : Prop := Claim7.holds Tryd.pinned (.plain (OpenSpec.upto shaSumsSpec)) shaSumsUptoCard

/-- THE SECOND FORM's CARD OF 'weirlaw04.ShaHashes'. -/
def shaHashesUptoCard : Claim7 := { stood := { row := shaHashesUptoRow, standIns := [], harness := (true, "bc5c82db8fc165582166ede7c0d967bfed8fde76b0860f29f7a41f57ab4bf814"), looks := false }, kinds := [], alts := [], laidByText := true, laidKinds := [.data], laidTests := true, laidLooks := .later }
def ShaHashesUptoCardSaid : Prop := Claim7.holds Tryd.pinned (.plain (OpenSpec.upto shaHashesSpec)) shaHashesUptoCard

/-- THE SECOND FORM's CARD OF 'weirlaw04.ShaPieces'. -/
def shaPiecesUptoCard : Claim7 := { stood := { row := shaPiecesUptoRow, standIns := [], harness := (true, "bc5c82db8fc165582166ede7c0d967bfed8fde76b0860f29f7a41f57ab4bf814"), looks := false }, kinds := [], alts := [], laidByText := true, laidKinds := [.data], laidTests := true, laidLooks := .later }
def ShaPiecesUptoCardSaid : Prop := Claim7.holds Tryd.pinned (.plain (OpenSpec.upto shaPiecesSpec)) shaPiecesUptoCard

/-- THE SECOND FORM's CARD OF 'weirlaw04.ShaMacs'. -/
def shaMacsUptoCard : Claim7 := { stood := { row := shaMacsUptoRow, standIns := [], harness := (true, "bc5c82db8fc165582166ede7c0d967bfed8fde76b0860f29f7a41f57ab4bf814"), looks := false }, kinds := [], alts := [], laidByText := true, laidKinds := [.data], laidTests := true, laidLooks := .later }
def ShaMacsUptoCardSaid : Prop := Claim7.holds Tryd.pinned (.plain (OpenSpec.upto shaMacsSpec)) shaMacsUptoCard

/-- THE SECOND FORM's CARD OF 'weirlaw04.ShaHmacs'. -/
def shaHmacsUptoCard : Claim7 := { stood := { row := shaHmacsUptoRow, standIns := [], harness := (true, "bc5c82db8fc165582166ede7c0d967bfed8fde76b0860f29f7a41f57ab4bf814"), looks := false }, kinds := [], alts := [], laidByText := true, laidKinds := [.data], laidTests := true, laidLooks := .later }
def ShaHmacsUptoCardSaid : Prop := Claim7.holds Tryd.pinned (.plain (OpenSpec.upto shaHmacsSpec)) shaHmacsUptoCard

/-- THE SECOND FORM's CARD OF 'weirlaw04.ShaNested'. -/
def shaNestedUptoCard : Claim7 := { stood := { row := shaNestedUptoRow, standIns := [], harness := (true, "bc5c82db8fc165582166ede7c0d967bfed8fde76b0860f29f7a41f57ab4bf814"), looks := false }, kinds := [], alts := [], laidByText := true, laidKinds := [.data], laidTests := true, laidLooks := .later }
def ShaNestedUptoCardSaid : Prop := Claim7.holds Tryd.pinned (.plain (OpenSpec.upto shaNestedSpec)) shaNestedUptoCard

/-- THE SECOND FORM's CARD OF 'weirlaw05.SealNames'. -/
def sealNamesUptoCard : Claim7 := { stood := { row := sealNamesUptoRow, standIns := [], harness := (true, "bc5c82db8fc165582166ede7c0d967bfed8fde76b0860f29f7a41f57ab4bf814"), looks := false }, kinds := [], alts := [], laidByText := true, laidKinds := [.data], laidTests := true, laidLooks := .later }
def SealNamesUptoCardSaid : Prop := Claim7.holds Tryd.pinned (.plain (OpenSpec.upto sealNamesSpec)) sealNamesUptoCard

/-- THE SECOND FORM's CARD OF 'weirlaw05.SealOpens'. -/
def sealOpensUptoCard : Claim7 := { stood := { row := sealOpensUptoRow, standIns := [], harness := (true, "bc5c82db8fc165582166ede7c0d967bfed8fde76b0860f29f7a41f57ab4bf814"), looks := false }, kinds := [], alts := [], laidByText := true, laidKinds := [.data], laidTests := true, laidLooks := .later }
def SealOpensUptoCardSaid : Prop := Claim7.holds Tryd.pinned (.plain (OpenSpec.upto sealOpensSpec)) sealOpensUptoCard

/-- THE SECOND FORM's CARD OF 'weirlaw05.SealOnly'. -/
def sealOnlyUptoCard : Claim7 := { stood := { row := sealOnlyUptoRow, standIns := [], harness := (true, "bc5c82db8fc165582166ede7c0d967bfed8fde76b0860f29f7a41f57ab4bf814"), looks := false }, kinds := [], alts := [], laidByText := true, laidKinds := [.data], laidTests := true, laidLooks := .later }
def SealOnlyUptoCardSaid : Prop := Claim7.holds Tryd.pinned (.plain (OpenSpec.upto sealOnlySpec)) sealOnlyUptoCard

/-- THE SECOND FORM's CARD OF 'weirlaw05.SealTag'. -/
def sealTagUptoCard : Claim7 := { stood := { row := sealTagUptoRow, standIns := [], harness := (true, "bc5c82db8fc165582166ede7c0d967bfed8fde76b0860f29f7a41f57ab4bf814"), looks := false }, kinds := [], alts := [], laidByText := true, laidKinds := [.data], laidTests := true, laidLooks := .later }
def SealTagUptoCardSaid : Prop := Claim7.holds Tryd.pinned (.plain (OpenSpec.upto sealTagSpec)) sealTagUptoCard

/-- THE SECOND FORM's CARD OF 'weirlaw05.SealKeeps'. -/
def sealKeepsUptoCard : Claim7 := { stood := { row := sealKeepsUptoRow, standIns := [], harness := (true, "bc5c82db8fc165582166ede7c0d967bfed8fde76b0860f29f7a41f57ab4bf814"), looks := false }, kinds := [], alts := [], laidByText := true, laidKinds := [.data], laidTests := true, laidLooks := .later }
def SealKeepsUptoCardSaid : Prop := Claim7.holds Tryd.pinned (.plain (OpenSpec.upto sealKeepsSpec)) sealKeepsUptoCard
end Rows
end Go.Proofs.YtoemceehmiaigaaDoor
