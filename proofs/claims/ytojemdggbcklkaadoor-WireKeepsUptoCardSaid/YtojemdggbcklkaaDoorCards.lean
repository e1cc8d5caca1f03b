/-
  DERIVED. GIVEN WITH THE SEED: THE CARDS: each row of YtojemdggbcklkaaDoorRows.lean that lists a variable, with what it lists TIED to the program's text (the seventh form; the later family's looks); each row that meets fmt, with fmt's text TOLD by the authors' own Lean function (tested against real Go, not proved from fmt's source: count such statements apart). THE CARD IS WHAT COUNTS. Prove the row's statement (the work); the ties are given (YtojemdggbcklkaaDoorTie.lean); close each card by the builder's one call (the guide's Derived/Test/ToyasCard.lean, 'card_holds'). Laid BY PROGRAM, IN A SANDBOX (cutbox-door.mjs). By AI agents, Wed Nov 11 2026. No macro, syntax, notation, axiom, sorry.
-/
import Derived.Test.YtojemdggbcklkaaDoorRows
import GoSem.ClaimSeven
namespace Go.Proofs.YtojemdggbcklkaaDoor
namespace Rows

/-- THE TIED CARD OF 'weirlaw28.WireWrites'. -/
def wireWritesCard : Claim7 := { stood := { row := wireWritesRow, standIns := [], harness := (true, "c6c8ce90bad307d099fb3087276e2c01ea55454bc2d16e5a875f45ed2ad5ad77"), looks := false }, kinds := [], alts := [], laidByText := true, laidKinds := [.data, .data, .data], laidTests := true, laidLooks := .later }
def WireWritesCardSaid : Prop := Claim7.holds Tryd.pinned (.plain (OpenSpec.ofChange wireWritesSpec)) wireWritesCard

/-- THE TIED CARD OF 'weirlaw28.WireReads'. -/
def wireReadsCard : Claim7 := { stood := { row := wireReadsRow, standIns := [], harness := (true, "c6c8ce90bad307d099fb3087276e2c01ea55454bc2d16e5a875f45ed2ad5ad77"), looks := false }, kinds := [], alts := [], laidByText := true, laidKinds := [.data, .pinned], laidTests := true, laidLooks := .later }
def WireReadsCardSaid : Prop := Claim7.holds Tryd.pinned (.plain (OpenSpec.ofChange wireReadsSpec)) wireReadsCard

/-- THE TIED CARD OF 'weirlaw28.WireStays'. -/
def wireStaysCard : Claim7 := { stood := { row := wireStaysRow, standIns := [], harness := (true, "c6c8ce90bad307d099fb3087276e2c01ea55454bc2d16e5a875f45ed2ad5ad77"), looks := false }, kinds := [], alts := [], laidByText := true, laidKinds := [.data, .pinned], laidTests := true, laidLooks := .later }
def WireStaysCardSaid : Prop := Claim7.holds Tryd.pinned (.plain (OpenSpec.ofChange wireStaysSpec)) wireStaysCard

/-- THE TIED CARD OF 'weirlaw28.WireShort'. -/
def wireShortCard : Claim7 := { stood := { row := wireShortRow, standIns := [], harness := (true, "c6c8ce90bad307d099fb3087276e2c01ea55454bc2d16e5a875f45ed2ad5ad77"), looks := false }, kinds := [], alts := [], laidByText := true, laidKinds := [.data, .pinned], laidTests := true, laidLooks := .later }
def WireShortCardSaid : Prop := Claim7.holds Tryd.pinned (.plain (OpenSpec.ofChange wireShortSpec)) wireShortCard

/-- THE TIED CARD OF 'weirlaw28.WireBodies'. -/
def wireBodiesCard : Claim7 := { stood := { row := wireBodiesRow, standIns := [], harness := (true, "c6c8ce90bad307d099fb3087276e2c01ea55454bc2d16e5a875f45ed2ad5ad77"), looks := false }, kinds := [], alts := [], laidByText := true, laidKinds := [.data, .pinned], laidTests := true, laidLooks := .later }
def WireBodiesCardSaid : Prop := Claim7.holds Tryd.pinned (.plain (OpenSpec.ofChange wireBodiesSpec)) wireBodiesCard

/-- THE TIED CARD OF 'weirlaw28.WireTwice'. -/
def wireTwiceCard : Claim7 := { stood := { row := wireTwiceRow, standIns := [], harness := (true, "c6c8ce90bad307d099fb3087276e2c01ea55454bc2d16e5a875f45ed2ad5ad77"), looks := false }, kinds := [], alts := [], laidByText := true, laidKinds := [.data, .pinned], laidTests := true, laidLooks := .later }
def WireTwiceCardSaid : Prop := Claim7.holds Tryd.pinned (.plain (OpenSpec.ofChange wireTwiceSpec)) wireTwiceCard

/-- THE TIED CARD OF 'weirlaw28.WireFeeds'. -/
def wireFeedsCard : Claim7 := { stood := { row := wireFeedsRow, standIns := [], harness := (true, "c6c8ce90bad307d099fb3087276e2c01ea55454bc2d16e5a875f45ed2ad5ad77"), looks := false }, kinds := [], alts := [], laidByText := true, laidKinds := [.data, .pinned], laidTests := true, laidLooks := .later }
def WireFeedsCardSaid : Prop := Claim7.holds Tryd.pinned (.plain (OpenSpec.ofChange wireFeedsSpec)) wireFeedsCard

/-- THE TIED CARD OF 'weirlaw28.WirePieces'. -/
def wirePiecesCard : Claim7 := { stood := { row := wirePiecesRow, standIns := [], harness := (true, "c6c8ce90bad307d099fb3087276e2c01ea55454bc2d16e5a875f45ed2ad5ad77"), looks := false }, kinds := [], alts := [], laidByText := true, laidKinds := [.data, .pinned], laidTests := true, laidLooks := .later }
def WirePiecesCardSaid : Prop := Claim7.holds Tryd.pinned (.plain (OpenSpec.ofChange wirePiecesSpec)) wirePiecesCard

/-- THE TIED CARD OF 'weirlaw28.WireKeeps'. -/
def wireKeepsCard : Claim7 := { stood := { row := wireKeepsRow, standIns := [], harness := (true, "c6c8ce90bad307d099fb3087276e2c01ea55454bc2d16e5a875f45ed2ad5ad77"), looks := false }, kinds := [], alts := [], laidByText := true, laidKinds := [.data, .pinned], laidTests := true, laidLooks := .later }
def WireKeepsCardSaid : Prop := Claim7.holds Tryd.pinned (.plain (OpenSpec.ofChange wireKeepsSpec)) wireKeepsCard

/-- THE SECOND FORM's CARD OF 'weirlaw28.WireWrites'. -/
def wireWritesUptoCard : Claim7 := { stood := { row := wireWritesUptoRow, standIns := [], harness := (true, "c6c8ce90bad307d099fb3087276e2c01ea55454bc2d16e5a875f45ed2ad5ad77"), looks := false }, kinds := [], alts := [], laidByText := true, laidKinds := [.data, .data, .data], laidTests := true, laidLooks := .later }
def WireWritesUptoCardSaid : Prop := Claim7.holds Tryd.pinned (.plain (OpenSpec.upto wireWritesSpec)) wireWritesUptoCard

/-- THE SECOND FORM's CARD OF 'weirlaw28.WireReads'. -/
def wireReadsUptoCard : Claim7 := { stood := { row := wireReadsUptoRow, standIns := [], harness := (true, "c6c8ce90bad307d099fb3087276e2c01ea55454bc2d16e5a875f45ed2ad5ad77"), looks := false }, kinds := [], alts := [], laidByText := true, laidKinds := [.data, .pinned], laidTests := true, laidLooks := .later }
def WireReadsUptoCardSaid : Prop := Claim7.holds Tryd.pinned (.plain (OpenSpec.upto wireReadsSpec)) wireReadsUptoCard

/-- THE SECOND FORM's CARD OF 'weirlaw28.WireStays'. -/
def wireStaysUptoCard : Claim7 := { stood := { row := wireStaysUptoRow, standIns := [], harness := (true, "c6c8ce90bad307d099fb3087276e2c01ea55454bc2d16e5a875f45ed2ad5ad77"), looks := false }, kinds := [], alts := [], laidByText := true, laidKinds := [.data, .pinned], laidTests := true, laidLooks := .later }
def WireStaysUptoCardSaid : Prop := Claim7.holds Tryd.pinned (.plain (OpenSpec.upto wireStaysSpec)) wireStaysUptoCard

/-- THE SECOND FORM's CARD OF 'weirlaw28.WireShort'. -/
def wireShortUptoCard : Claim7 := { stood := { row := wireShortUptoRow, standIns := [], harness := (true, "c6c8ce90bad307d099fb3087276e2c01ea55454bc2d16e5a875f45ed2ad5ad77"), looks := false }, kinds := [], alts := [], laidByText := true, laidKinds := [.data, .pinned], laidTests := true, laidLooks := .later }
def WireShortUptoCardSaid : Prop := Claim7.holds Tryd.pinned (.plain (OpenSpec.upto wireShortSpec)) wireShortUptoCard

/-- THE SECOND FORM's CARD OF 'weirlaw28.WireBodies'. -/
def wireBodiesUptoCard : Claim7 := { stood := { row := wireBodiesUptoRow, standIns := [], harness := (true, "c6c8ce90bad307d099fb3087276e2c01ea55454bc2d16e5a875f45ed2ad5ad77"), looks := false }, kinds := [], alts := [], laidByText := true, laidKinds := [.data, .pinned], laidTests := true, laidLooks := .later }
def WireBodiesUptoCardSaid : Prop := Claim7.holds Tryd.pinned (.plain (OpenSpec.upto wireBodiesSpec)) wireBodiesUptoCard

/-- THE SECOND FORM's CARD OF 'weirlaw28.WireTwice'. -/
def wireTwiceUptoCard : Claim7 := { stood := { row := wireTwiceUptoRow, standIns := [], harness := (true, "c6c8ce90bad307d099fb3087276e2c01ea55454bc2d16e5a875f45ed2ad5ad77"), looks := false }, kinds := [], alts := [], laidByText := true, laidKinds := [.data, .pinned], laidTests := true, laidLooks := .later }
def WireTwiceUptoCardSaid : Prop := Claim7.holds Tryd.pinned (.plain (OpenSpec.upto wireTwiceSpec)) wireTwiceUptoCard

/-- THE SECOND FORM's CARD OF 'weirlaw28.WireFeeds'. -/
def wireFeedsUptoCard : Claim7 := { stood := { row := wireFeedsUptoRow, standIns := [], harness := (true, "c6c8ce90bad307d099fb3087276e2c01ea55454bc2d16e5a875f45ed2ad5ad77"), looks := false }, kinds := [], alts := [], laidByText := true, laidKinds := [.data, .pinned], laidTests := true, laidLooks := .later }
def WireFeedsUptoCardSaid : Prop := Claim7.holds Tryd.pinned (.plain (OpenSpec.upto wireFeedsSpec)) wireFeedsUptoCard

/-- THE SECOND FORM's CARD OF 'weirlaw28.WirePieces'. -/
def wirePiecesUptoCard : Claim7 := { stood := { row := wirePiecesUptoRow, standIns := [], harness := (true, "c6c8ce90bad307d099fb3087276e2c01ea55454bc2d16e5a875f45ed2ad5ad77"), looks := false }, kinds := [], alts := [], laidByText := true, laidKinds := [.data, .pinned], laidTests := true, laidLooks := .later }
def WirePiecesUptoCardSaid : Prop := Claim7.holds Tryd.pinned (.plain (OpenSpec.upto wirePiecesSpec)) wirePiecesUptoCard

/-- THE SECOND FORM's CARD OF 'weirlaw28.WireKeeps'. -/
def wireKeepsUptoCard : Claim7 := { stood := { row := wireKeepsUptoRow, standIns := [], harness := (true, "c6c8ce90bad307d099fb3087276e2c01ea55454bc2d16e5a875f45ed2ad5ad77"), looks := false }, kinds := [], alts := [], laidByText := true, laidKinds := [.data, .pinned], laidTests := true, laidLooks := .later }
def WireKeepsUptoCardSaid : Prop := Claim7.holds Tryd.pinned (.plain (OpenSpec.upto wireKeepsSpec)) wireKeepsUptoCard
end Rows
end Go.Proofs.YtojemdggbcklkaaDoor
