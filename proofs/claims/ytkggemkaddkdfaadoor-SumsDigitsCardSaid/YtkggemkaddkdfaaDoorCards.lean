/-
  DERIVED. GIVEN WITH THE SEED: THE CARDS: each row of YtkggemkaddkdfaaDoorRows.lean that lists a variable, with what it lists TIED to the program's text (the seventh form; the later family's looks); each row that meets fmt, with fmt's text TOLD by the authors' own Lean function (tested against real Go, not proved from fmt's source: count such statements apart). THE CARD IS WHAT COUNTS. Prove the row's statement (the work); the ties are given (YtkggemkaddkdfaaDoorTie.lean); close each card by the builder's one call (the guide's Derived/Test/ToyasCard.lean, 'card_holds'). Laid BY PROGRAM, IN A SANDBOX (cutbox-door.mjs). By AI agents, Wed Nov 11 2026. No macro, syntax, notation, axiom, sorry.
-/
import Derived.Test.YtkggemkaddkdfaaDoorRows
import GoSem.ClaimSeven
namespace Go.Proofs.YtkggemkaddkdfaaDoor
namespace Rows

/-- THE TIED CARD OF 'pleachlaw01.SumsDigits'. -/
def sumsDigitsCard : Claim7 := { stood := { row := sumsDigitsRow, standIns := [], harness := (true, "9ca3b36198510cf53f8ed6c6099d17f17cd425adb7d5a9a4f237766a3370a7f1"), looks := false }, kinds := [], alts := [], laidByText := true, laidKinds := [.data, .pinned], laidTests := true, laidLooks := .later }
def SumsDigitsCardSaid : Prop := Claim7.holds Tryd.pinned (.plain (OpenSpec.ofChange sumsDigitsSpec)) sumsDigitsCard

/-- THE SECOND FORM's CARD OF 'pleachlaw01.SumsDigits'. -/
def sumsDigitsUptoCard : Claim7 := { stood := { row := sumsDigitsUptoRow, standIns := [], harness := (true, "9ca3b36198510cf53f8ed6c6099d17f17cd425adb7d5a9a4f237766a3370a7f1"), looks := false }, kinds := [], alts := [], laidByText := true, laidKinds := [.data, .pinned], laidTests := true, laidLooks := .later }
def SumsDigitsUptoCardSaid : Prop := Claim7.holds Tryd.pinned (.plain (OpenSpec.upto sumsDigitsSpec)) sumsDigitsUptoCard
end Rows
end Go.Proofs.YtkggemkaddkdfaaDoor
