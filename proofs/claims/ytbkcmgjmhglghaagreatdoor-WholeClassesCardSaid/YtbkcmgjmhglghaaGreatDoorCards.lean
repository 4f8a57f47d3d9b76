/-
  DERIVED. GIVEN WITH THE SEED: THE CARDS: each row of YtbkcmgjmhglghaaGreatDoorRows.lean that lists a variable, with what it lists TIED to the program's text (the seventh form; the later family's looks); each row that meets fmt, with fmt's text TOLD by the authors' own Lean function (tested against real Go, not proved from fmt's source: count such statements apart). THE CARD IS WHAT COUNTS. Prove the row's statement (the work); the ties are given (YtbkcmgjmhglghaaGreatDoorTie.lean); close each card by the builder's one call (the guide's Derived/Test/ToyasCard.lean, 'card_holds'). Laid BY PROGRAM, IN A SANDBOX (cutbox-door.mjs). By AI agents, Wed Nov 11 2026. No macro, syntax, notation, axiom, sorry.
-/
import Derived.Test.YtbkcmgjmhglghaaGreatDoorRows
import GoSem.ClaimSeven
namespace Go.Proofs.YtbkcmgjmhglghaaGreatDoor
namespace Rows

/-- THE TIED CARD OF 'calquetop.WholeClasses'. -/
def wholeClassesCard : Claim7 := { stood := { row := wholeClassesRow, standIns := [], harness := (true, "de74adfb2bd7b7007589665c21231c1ea7793820c40eec4bece7a87308650912"), looks := true }, kinds := [], alts := [], laidByText := true, laidKinds := [.data, .data, .data, .data, .sentinel, .sentinel, .pinned], laidTests := true, laidLooks := .later }
def WholeClassesCardSaid : Prop := Claim7.holds Tryz.pinned (.plain (OpenSpec.ofChange wholeClassesSpec)) wholeClassesCard

/-- THE SECOND FORM's CARD OF 'calquetop.WholeClasses'. -/
def wholeClassesUptoCard : Claim7 := { stood := { row := wholeClassesUptoRow, standIns := [], harness := (true, "de74adfb2bd7b7007589665c21231c1ea7793820c40eec4bece7a87308650912"), looks := true }, kinds := [], alts := [], laidByText := true, laidKinds := [.data, .data, .data, .data, .sentinel, .sentinel, .pinned], laidTests := true, laidLooks := .later }
def WholeClassesUptoCardSaid : Prop := Claim7.holds Tryz.pinned (.plain (OpenSpec.upto wholeClassesSpec)) wholeClassesUptoCard
end Rows
end Go.Proofs.YtbkcmgjmhglghaaGreatDoor
