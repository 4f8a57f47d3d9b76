/-
  DERIVED. GIVEN WITH THE SEED: THE CARDS: each row of YtgefbagojghmeaaDoorRows.lean that lists a variable, with what it lists TIED to the program's text (the seventh form; the later family's looks); each row that meets fmt, with fmt's text TOLD by the authors' own Lean function (tested against real Go, not proved from fmt's source: count such statements apart). THE CARD IS WHAT COUNTS. Prove the row's statement (the work); the ties are given (YtgefbagojghmeaaDoorTie.lean); close each card by the builder's one call (the guide's Derived/Test/ToyasCard.lean, 'card_holds'). Laid BY PROGRAM, IN A SANDBOX (cutbox-door.mjs). By AI agents, Wed Nov 11 2026. No macro, syntax, notation, axiom, sorry.
-/
import Derived.Test.YtgefbagojghmeaaDoorRows
import GoSem.ClaimSeven
namespace Go.Proofs.YtgefbagojghmeaaDoor
namespace Rows

/-- THE TIED CARD OF 'calquelaw24.IsolateJoins'. -/
def isolateJoinsCard : Claim7 := { stood := { row := isolateJoinsRow, standIns := [], harness := (true, "755e64f33e762e64ee7e648ec0e422a6d0a59dab9e1cd1aba7ad6eeaae1d003a"), looks := false }, kinds := [], alts := [], laidByText := true, laidKinds := [.data, .pinned], laidTests := true, laidLooks := .later }
def IsolateJoinsCardSaid : Prop := Claim7.holds Tryd.pinned (.plain (OpenSpec.ofChange isolateJoinsSpec)) isolateJoinsCard

/-- THE TIED CARD OF 'calquelaw24.IsolateBalance'. -/
def isolateBalanceCard : Claim7 := { stood := { row := isolateBalanceRow, standIns := [], harness := (true, "755e64f33e762e64ee7e648ec0e422a6d0a59dab9e1cd1aba7ad6eeaae1d003a"), looks := false }, kinds := [], alts := [], laidByText := true, laidKinds := [.data, .pinned], laidTests := true, laidLooks := .later }
def IsolateBalanceCardSaid : Prop := Claim7.holds Tryd.pinned (.plain (OpenSpec.ofChange isolateBalanceSpec)) isolateBalanceCard

/-- THE TIED CARD OF 'calquelaw24.IsolateStable'. -/
def isolateStableCard : Claim7 := { stood := { row := isolateStableRow, standIns := [], harness := (true, "755e64f33e762e64ee7e648ec0e422a6d0a59dab9e1cd1aba7ad6eeaae1d003a"), looks := false }, kinds := [], alts := [], laidByText := true, laidKinds := [.data, .pinned], laidTests := true, laidLooks := .later }
def IsolateStableCardSaid : Prop := Claim7.holds Tryd.pinned (.plain (OpenSpec.ofChange isolateStableSpec)) isolateStableCard

/-- THE TIED CARD OF 'calquelaw24.IsolateUnwrap'. -/
def isolateUnwrapCard : Claim7 := { stood := { row := isolateUnwrapRow, standIns := [], harness := (true, "755e64f33e762e64ee7e648ec0e422a6d0a59dab9e1cd1aba7ad6eeaae1d003a"), looks := false }, kinds := [], alts := [], laidByText := true, laidKinds := [.data, .pinned], laidTests := true, laidLooks := .later }
def IsolateUnwrapCardSaid : Prop := Claim7.holds Tryd.pinned (.plain (OpenSpec.ofChange isolateUnwrapSpec)) isolateUnwrapCard

/-- THE SECOND FORM's CARD OF 'calquelaw24.IsolateJoins'. -/
def isolateJoinsUptoCard : Claim7 := { stood := { row := isolateJoinsUptoRow, standIns := [], harness := (true, "755e64f33e762e64ee7e648ec0e422a6d0a59dab9e1cd1aba7ad6eeaae1d003a"), looks := false }, kinds := [], alts := [], laidByText := true, laidKinds := [.data, .pinned], laidTests := true, laidLooks := .later }
def IsolateJoinsUptoCardSaid : Prop := Claim7.holds Tryd.pinned (.plain (OpenSpec.upto isolateJoinsSpec)) isolateJoinsUptoCard

/-- THE SECOND FORM's CARD OF 'calquelaw24.IsolateBalance'. -/
def isolateBalanceUptoCard : Claim7 := { stood := { row := isolateBalanceUptoRow, standIns := [], harness := (true, "755e64f33e762e64ee7e648ec0e422a6d0a59dab9e1cd1aba7ad6eeaae1d003a"), looks := false }, kinds := [], alts := [], laidByText := true, laidKinds := [.data, .pinned], laidTests := true, laidLooks := .later }
def IsolateBalanceUptoCardSaid : Prop := Claim7.holds Tryd.pinned (.plain (OpenSpec.upto isolateBalanceSpec)) isolateBalanceUptoCard

/-- THE SECOND FORM's CARD OF 'calquelaw24.IsolateStable'. -/
def isolateStableUptoCard : Claim7 := { stood := { row := isolateStableUptoRow, standIns := [], harness := (true, "755e64f33e762e64ee7e648ec0e422a6d0a59dab9e1cd1aba7ad6eeaae1d003a"), looks := false }, kinds := [], alts := [], laidByText := true, laidKinds := [.data, .pinned], laidTests := true, laidLooks := .later }
def IsolateStableUptoCardSaid : Prop := Claim7.holds Tryd.pinned (.plain (OpenSpec.upto isolateStableSpec)) isolateStableUptoCard

/-- THE SECOND FORM's CARD OF 'calquelaw24.IsolateUnwrap'. -/
def isolateUnwrapUptoCard : Claim7 := { stood := { row := isolateUnwrapUptoRow, standIns := [], harness := (true, "755e64f33e762e64ee7e648ec0e422a6d0a59dab9e1cd1aba7ad6eeaae1d003a"), looks := false }, kinds := [], alts := [], laidByText := true, laidKinds := [.data, .pinned], laidTests := true, laidLooks := .later }
def IsolateUnwrapUptoCardSaid : Prop := Claim7.holds Tryd.pinned (.plain (OpenSpec.upto isolateUnwrapSpec)) isolateUnwrapUptoCard
end Rows
end Go.Proofs.YtgefbagojghmeaaDoor
