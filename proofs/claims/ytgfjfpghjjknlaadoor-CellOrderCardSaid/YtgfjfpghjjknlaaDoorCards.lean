/-
  DERIVED. GIVEN WITH THE SEED: THE CARDS: each row of YtgfjfpghjjknlaaDoorRows.lean that lists a variable, with what it lists TIED to the program's text (the seventh form; the later family's looks); each row that meets fmt, with fmt's text TOLD by the authors' own Lean function (tested against real Go, not proved from fmt's source: count such statements apart). THE CARD IS WHAT COUNTS. Prove the row's statement (the work); the ties are given (YtgfjfpghjjknlaaDoorTie.lean); close each card by the builder's one call (the guide's Derived/Test/ToyasCard.lean, 'card_holds'). Laid BY PROGRAM, IN A SANDBOX (cutbox-door.mjs). By AI agents, Wed Nov 11 2026. No macro, syntax, notation, axiom, sorry.
-/
import Derived.Test.YtgfjfpghjjknlaaDoorRows
import GoSem.ClaimSeven
namespace Go.Proofs.YtgfjfpghjjknlaaDoor
namespace Rows

/-- THE TIED CARD OF 'pleachlaw03.CellValues'. -/
def cellValuesCard : Claim7 := { stood := { row := cellValuesRow, standIns := [], harness := (true, "bee642b81c39fbc0063568839116d2263356f2112ad7bd6d16ec48c4e6c72e35"), looks := false }, kinds := [], alts := [], laidByText := true, laidKinds := [.data, .data, .data, .data, .pinned, .pinned], laidTests := true, laidLooks := .later }
def CellValuesCardSaid : Prop := Claim7.holds Tryd.pinned (.plain (OpenSpec.ofChange cellValuesSpec)) cellValuesCard

/-- THE TIED CARD OF 'pleachlaw03.CellJoins'. -/
def cellJoinsCard : Claim7 := { stood := { row := cellJoinsRow, standIns := [], harness := (true, "bee642b81c39fbc0063568839116d2263356f2112ad7bd6d16ec48c4e6c72e35"), looks := false }, kinds := [], alts := [], laidByText := true, laidKinds := [.data, .data, .data, .data, .pinned, .pinned], laidTests := true, laidLooks := .later }
def CellJoinsCardSaid : Prop := Claim7.holds Tryd.pinned (.plain (OpenSpec.ofChange cellJoinsSpec)) cellJoinsCard

/-- THE TIED CARD OF 'pleachlaw03.CellShown'. -/
def cellShownCard : Claim7 := { stood := { row := cellShownRow, standIns := [], harness := (true, "bee642b81c39fbc0063568839116d2263356f2112ad7bd6d16ec48c4e6c72e35"), looks := false }, kinds := [], alts := [], laidByText := true, laidKinds := [.data, .data, .data, .data, .pinned, .pinned], laidTests := true, laidLooks := .later }
def CellShownCardSaid : Prop := Claim7.holds Tryd.pinned (.plain (OpenSpec.ofChange cellShownSpec)) cellShownCard

/-- THE TIED CARD OF 'pleachlaw03.CellWrites'. -/
def cellWritesCard : Claim7 := { stood := { row := cellWritesRow, standIns := [], harness := (true, "bee642b81c39fbc0063568839116d2263356f2112ad7bd6d16ec48c4e6c72e35"), looks := false }, kinds := [], alts := [], laidByText := true, laidKinds := [.data, .data, .data, .data, .pinned, .pinned], laidTests := true, laidLooks := .later }
def CellWritesCardSaid : Prop := Claim7.holds Tryd.pinned (.plain (OpenSpec.ofChange cellWritesSpec)) cellWritesCard

/-- THE TIED CARD OF 'pleachlaw03.CellReads'. -/
def cellReadsCard : Claim7 := { stood := { row := cellReadsRow, standIns := [], harness := (true, "bee642b81c39fbc0063568839116d2263356f2112ad7bd6d16ec48c4e6c72e35"), looks := false }, kinds := [], alts := [], laidByText := true, laidKinds := [.data, .data, .data, .data, .pinned, .pinned], laidTests := true, laidLooks := .later }
def CellReadsCardSaid : Prop := Claim7.holds Tryd.pinned (.plain (OpenSpec.ofChange cellReadsSpec)) cellReadsCard

/-- THE TIED CARD OF 'pleachlaw03.CellOrder'. -/
def cellOrderCard : Claim7 := { stood := { row := cellOrderRow, standIns := [], harness := (true, "bee642b81c39fbc0063568839116d2263356f2112ad7bd6d16ec48c4e6c72e35"), looks := false }, kinds := [], alts := [], laidByText := true, laidKinds := [.data, .data, .data, .data, .pinned, .pinned], laidTests := true, laidLooks := .later }
def CellOrderCardSaid : Prop := Claim7.holds Tryd.pinned (.plain (OpenSpec.ofChange cellOrderSpec)) cellOrderCard

/-- THE SECOND FORM's CARD OF 'pleachlaw03.CellValues'. -/
def cellValuesUptoCard : Claim7 := { stood := { row := cellValuesUptoRow, standIns := [], harness := (true, "bee642b81c39fbc0063568839116d2263356f2112ad7bd6d16ec48c4e6c72e35"), looks := false }, kinds := [], alts := [], laidByText := true, laidKinds := [.data, .data, .data, .data, .pinned, .pinned], laidTests := true, laidLooks := .later }
def CellValuesUptoCardSaid : Prop := Claim7.holds Tryd.pinned (.plain (OpenSpec.upto cellValuesSpec)) cellValuesUptoCard

/-- THE SECOND FORM's CARD OF 'pleachlaw03.CellJoins'. -/
def cellJoinsUptoCard : Claim7 := { stood := { row := cellJoinsUptoRow, standIns := [], harness := (true, "bee642b81c39fbc0063568839116d2263356f2112ad7bd6d16ec48c4e6c72e35"), looks := false }, kinds := [], alts := [], laidByText := true, laidKinds := [.data, .data, .data, .data, .pinned, .pinned], laidTests := true, laidLooks := .later }
def CellJoinsUptoCardSaid : Prop := Claim7.holds Tryd.pinned (.plain (OpenSpec.upto cellJoinsSpec)) cellJoinsUptoCard

/-- THE SECOND FORM's CARD OF 'pleachlaw03.CellShown'. -/
def cellShownUptoCard : Claim7 := { stood := { row := cellShownUptoRow, standIns := [], harness := (true, "bee642b81c39fbc0063568839116d2263356f2112ad7bd6d16ec48c4e6c72e35"), looks := false }, kinds := [], alts := [], laidByText := true, laidKinds := [.data, .data, .data, .data, .pinned, .pinned], laidTests := true, laidLooks := .later }
def CellShownUptoCardSaid : Prop := Claim7.holds Tryd.pinned (.plain (OpenSpec.upto cellShownSpec)) cellShownUptoCard

/-- THE SECOND FORM's CARD OF 'pleachlaw03.CellWrites'. -/
def cellWritesUptoCard : Claim7 := { stood := { row := cellWritesUptoRow, standIns := [], harness := (true, "bee642b81c39fbc0063568839116d2263356f2112ad7bd6d16ec48c4e6c72e35"), looks := false }, kinds := [], alts := [], laidByText := true, laidKinds := [.data, .data, .data, .data, .pinned, .pinned], laidTests := true, laidLooks := .later }
def CellWritesUptoCardSaid : Prop := Claim7.holds Tryd.pinned (.plain (OpenSpec.upto cellWritesSpec)) cellWritesUptoCard

/-- THE SECOND FORM's CARD OF 'pleachlaw03.CellReads'. -/
def cellReadsUptoCard : Claim7 := { stood := { row := cellReadsUptoRow, standIns := [], harness := (true, "bee642b81c39fbc0063568839116d2263356f2112ad7bd6d16ec48c4e6c72e35"), looks := false }, kinds := [], alts := [], laidByText := true, laidKinds := [.data, .data, .data, .data, .pinned, .pinned], laidTests := true, laidLooks := .later }
def CellReadsUptoCardSaid : Prop := Claim7.holds Tryd.pinned (.plain (OpenSpec.upto cellReadsSpec)) cellReadsUptoCard

/-- THE SECOND FORM's CARD OF 'pleachlaw03.CellOrder'. -/
def cellOrderUptoCard : Claim7 := { stood := { row := cellOrderUptoRow, standIns := [], harness := (true, "bee642b81c39fbc0063568839116d2263356f2112ad7bd6d16ec48c4e6c72e35"), looks := false }, kinds := [], alts := [], laidByText := true, laidKinds := [.data, .data, .data, .data, .pinned, .pinned], laidTests := true, laidLooks := .later }
def CellOrderUptoCardSaid : Prop := Claim7.holds Tryd.pinned (.plain (OpenSpec.upto cellOrderSpec)) cellOrderUptoCard
end Rows
end Go.Proofs.YtgfjfpghjjknlaaDoor
