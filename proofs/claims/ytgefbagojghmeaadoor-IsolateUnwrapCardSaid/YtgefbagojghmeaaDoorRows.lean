/-
  NARROWER THAN 'FOR EVERY INPUT', by the rows' own cells (each row's printed sentence says how): IsolateJoins: laid · IsolateBalance: laid · IsolateStable: laid · IsolateUnwrap: laid.
  DERIVED. THE GIVEN ROWS OF THIS SEAT. 4 by the template 'for every input the law returns true; each argument reads behind the call as it read before'; 0 by the template 'total and deterministic' (their statements: YtgefbagojghmeaaDoorTotals.lean).
  GIVEN WITH THE SEED: the statements are not yours to turn. If you find one false, say at which input.
  Laid BY PROGRAM, IN A SANDBOX (cutbox-rows.mjs): the forced cells as the released guide's own fill.sh prints them over the translation 57e8cc13e1dc5ec3… (all of the seat's roots in one cut). By AI agents, Wed Nov 11 2026. No macro, syntax, notation, axiom, sorry.
-/
import Derived.Test.YtgefbagojghmeaaDoorChecked
import GoSem.PinnedTables
import GoSem.Claim
import GoSem.ClaimJoined
import GoSem.ClaimMapViews
import Derived.JoinedTies
import Derived.KernelRfl
namespace Go.Proofs.YtgefbagojghmeaaDoor
/- THE CELL 'sum', in the pinned program and in every row, IS THE sha256 OF THE DUMP (.gsa) THAT YtgefbagojghmeaaDoorProg.lean LOADS. Nothing in Lean hashes anything: it is a label: what it is worth is what the hold of that sum in a sandbox is worth. -/
noncomputable def Tryd.pinned : Pinned := { name := "ytgefbagojghmeaadoor", sum := "57e8cc13e1dc5ec3ef07a3c6cf32d90a45ab97bb07e1977461c9c5509427a673", checked := Tryd.checked }
namespace Rows
def none {H : Type} : Left H := { results := [], args := [] }

/- WHAT THE LISTED PACKAGE-LEVEL VARIABLES READ AS WHEN THE CALL BEGINS. Each datum BY PROGRAM (the guide's laid-datum.mjs) off the statement by which the dump's own 'gosem.cut.vars' lays the variable. In a bare row this is a premise. The card (YtgefbagojghmeaaDoorCards.lean) ties it to the program's text. -/
def laid_unicode_utf8_acceptRanges {H : Type} : DataW H := .agg [.agg [.lit (.int .u8 128), .lit (.int .u8 191)], .agg [.lit (.int .u8 160), .lit (.int .u8 191)], .agg [.lit (.int .u8 128), .lit (.int .u8 159)], .agg [.lit (.int .u8 144), .lit (.int .u8 191)], .agg [.lit (.int .u8 128), .lit (.int .u8 143)], .agg [.lit (.int .u8 0), .lit (.int .u8 0)], .agg [.lit (.int .u8 0), .lit (.int .u8 0)], .agg [.lit (.int .u8 0), .lit (.int .u8 0)], .agg [.lit (.int .u8 0), .lit (.int .u8 0)], .agg [.lit (.int .u8 0), .lit (.int .u8 0)], .agg [.lit (.int .u8 0), .lit (.int .u8 0)], .agg [.lit (.int .u8 0), .lit (.int .u8 0)], .agg [.lit (.int .u8 0), .lit (.int .u8 0)], .agg [.lit (.int .u8 0), .lit (.int .u8 0)], .agg [.lit (.int .u8 0), .lit (.int .u8 0)], .agg [.lit (.int .u8 0), .lit (.int .u8 0)]]
/-- One of Go's own tables, pinned by name: the form's constant. -/
def laid_unicode_utf8_first : DataW Unit := Go.Pinned.utf8First

/-- 'calquelaw24.IsolateJoins': WHATEVER THE INPUT: true; the input reads as it did. -/
def isolateJoinsSpec : ChangeSpec := { name := "isolateJoins", fn := fun _ => fun
  | [d1, d2] => { results := [.lit (.bool true)], args := [d1, d2] }
  | _ => none }
def isolateJoinsRow : OpenClaim := { program := "ytgefbagojghmeaadoor", sum := "57e8cc13e1dc5ec3ef07a3c6cf32d90a45ab97bb07e1977461c9c5509427a673", func := "calque/calquelaw24.IsolateJoins", spec := "isolateJoins", inPlace := ["internal/abi.NoEscape"], recurses := true, named := ["unicode/utf8.first", "unicode/utf8.acceptRanges"], apart := false, laid := [("unicode/utf8.acceptRanges", laid_unicode_utf8_acceptRanges), ("unicode/utf8.first", laid_unicode_utf8_first)] }
def IsolateJoinsSaid : Prop := isolateJoinsRow.holds Tryd.pinned (OpenSpec.ofChange isolateJoinsSpec)

/-- ITS FALSE NEIGHBOUR: 'it returns false'. Refute it at one input. -/
def isolateJoinsWrong : ChangeSpec := { name := "isolateJoins", fn := fun _ => fun
  | [d1, d2] => { results := [.lit (.bool false)], args := [d1, d2] }
  | _ => none }
def IsolateJoinsWrongFalsely : Prop := isolateJoinsRow.holds Tryd.pinned (OpenSpec.ofChange isolateJoinsWrong)

/-- 'calquelaw24.IsolateBalance': WHATEVER THE INPUT: true; the input reads as it did. -/
def isolateBalanceSpec : ChangeSpec := { name := "isolateBalance", fn := fun _ => fun
  | [d] => { results := [.lit (.bool true)], args := [d] }
  | _ => none }
def isolateBalanceRow : OpenClaim := { program := "ytgefbagojghmeaadoor", sum := "57e8cc13e1dc5ec3ef07a3c6cf32d90a45ab97bb07e1977461c9c5509427a673", func := "calque/calquelaw24.IsolateBalance", spec := "isolateBalance", inPlace := ["internal/abi.NoEscape"], recurses := true, named := ["unicode/utf8.first", "unicode/utf8.acceptRanges"], apart := false, laid := [("unicode/utf8.acceptRanges", laid_unicode_utf8_acceptRanges), ("unicode/utf8.first", laid_unicode_utf8_first)] }
def IsolateBalanceSaid : Prop := isolateBalanceRow.holds Tryd.pinned (OpenSpec.ofChange isolateBalanceSpec)

/-- ITS FALSE NEIGHBOUR: 'it returns false'. Refute it at one input. -/
def isolateBalanceWrong : ChangeSpec := { name := "isolateBalance", fn := fun _ => fun
  | [d] => { results := [.lit (.bool false)], args := [d] }
  | _ => none }
def IsolateBalanceWrongFalsely : Prop := isolateBalanceRow.holds Tryd.pinned (OpenSpec.ofChange isolateBalanceWrong)

/-- 'calquelaw24.IsolateStable': WHATEVER THE INPUT: true; the input reads as it did. -/
def isolateStableSpec : ChangeSpec := { name := "isolateStable", fn := fun _ => fun
  | [d] => { results := [.lit (.bool true)], args := [d] }
  | _ => none }
def isolateStableRow : OpenClaim := { program := "ytgefbagojghmeaadoor", sum := "57e8cc13e1dc5ec3ef07a3c6cf32d90a45ab97bb07e1977461c9c5509427a673", func := "calque/calquelaw24.IsolateStable", spec := "isolateStable", inPlace := ["internal/abi.NoEscape"], recurses := true, named := ["unicode/utf8.first", "unicode/utf8.acceptRanges"], apart := false, laid := [("unicode/utf8.acceptRanges", laid_unicode_utf8_acceptRanges), ("unicode/utf8.first", laid_unicode_utf8_first)] }
def IsolateStableSaid : Prop := isolateStableRow.holds Tryd.pinned (OpenSpec.ofChange isolateStableSpec)

/-- ITS FALSE NEIGHBOUR: 'it returns false'. Refute it at one input. -/
def isolateStableWrong : ChangeSpec := { name := "isolateStable", fn := fun _ => fun
  | [d] => { results := [.lit (.bool false)], args := [d] }
  | _ => none }
def IsolateStableWrongFalsely : Prop := isolateStableRow.holds Tryd.pinned (OpenSpec.ofChange isolateStableWrong)

/-- 'calquelaw24.IsolateUnwrap': WHATEVER THE INPUT: true; the input reads as it did. -/
def isolateUnwrapSpec : ChangeSpec := { name := "isolateUnwrap", fn := fun _ => fun
  | [d] => { results := [.lit (.bool true)], args := [d] }
  | _ => none }
def isolateUnwrapRow : OpenClaim := { program := "ytgefbagojghmeaadoor", sum := "57e8cc13e1dc5ec3ef07a3c6cf32d90a45ab97bb07e1977461c9c5509427a673", func := "calque/calquelaw24.IsolateUnwrap", spec := "isolateUnwrap", inPlace := ["internal/abi.NoEscape"], recurses := true, named := ["unicode/utf8.first", "unicode/utf8.acceptRanges"], apart := false, laid := [("unicode/utf8.acceptRanges", laid_unicode_utf8_acceptRanges), ("unicode/utf8.first", laid_unicode_utf8_first)] }
def IsolateUnwrapSaid : Prop := isolateUnwrapRow.holds Tryd.pinned (OpenSpec.ofChange isolateUnwrapSpec)

/-- ITS FALSE NEIGHBOUR: 'it returns false'. Refute it at one input. -/
def isolateUnwrapWrong : ChangeSpec := { name := "isolateUnwrap", fn := fun _ => fun
  | [d] => { results := [.lit (.bool false)], args := [d] }
  | _ => none }
def IsolateUnwrapWrongFalsely : Prop := isolateUnwrapRow.holds Tryd.pinned (OpenSpec.ofChange isolateUnwrapWrong)

/- THE SECOND FORM. 'bulk': how many values and letters a reading holds, each counted each time it is reached (what is shared counts as often as it is met; a slice's spare places count too). A statement '..UptoSaid' is the law's where the arguments, and the package variables that the reading takes, are together of bulk at most 1048576: NARROWER than '..Said'. Prove '..Said' where nothing that the law and all that it calls make is longer than what came in: it says more and counts as full. Else prove '..UptoSaid'. A law counts once. -/
mutual
def uptoBulk {H : Type} : DataW H → Nat
  | .lit (.string bytes) => bytes.length + 1
  | .lit _ => 1
  | .nil => 1
  | .ptr d => uptoBulk d + 1
  | .slice elems spare => uptoBulkAll elems + uptoBulkAll spare + 1
  | .agg parts => uptoBulkAll parts + 1
  | .iface _ d => uptoBulk d + 1
  | .map entries => uptoBulkEntries entries + 1
  | .held _ => 1
def uptoBulkAll {H : Type} : List (DataW H) → Nat
  | [] => 0
  | d :: r => uptoBulk d + uptoBulkAll r
def uptoBulkEntries {H : Type} : List (Lit × DataW H) → Nat
  | [] => 0
  | x :: r => uptoBulkEntry x + uptoBulkEntries r
def uptoBulkEntry {H : Type} : Lit × DataW H → Nat
  | (.string bytes, d) => bytes.length + uptoBulk d + 1
  | (_, d) => uptoBulk d + 1
 end
def uptoSmall : (H : Type) → List (DataW H) → Bool := fun _ ds => decide (uptoBulkAll ds ≤ 1048576)
def OpenSpec.upto (s : _root_.Go.ChangeSpec) : _root_.Go.OpenSpec := { _root_.Go.OpenSpec.ofChange s with cond := some uptoSmall }

/-- 'calquelaw24.IsolateJoins', WHERE WHAT IT READS IS OF BULK AT MOST 1048576: true; the input reads as it did. -/
def isolateJoinsUptoRow : OpenClaim := { program := "ytgefbagojghmeaadoor", sum := "57e8cc13e1dc5ec3ef07a3c6cf32d90a45ab97bb07e1977461c9c5509427a673", func := "calque/calquelaw24.IsolateJoins", spec := "isolateJoins", inPlace := ["internal/abi.NoEscape"], recurses := true, named := ["unicode/utf8.first", "unicode/utf8.acceptRanges"], apart := false, laid := [("unicode/utf8.acceptRanges", laid_unicode_utf8_acceptRanges), ("unicode/utf8.first", laid_unicode_utf8_first)], narrowed := true }
def IsolateJoinsUptoSaid : Prop := isolateJoinsUptoRow.holds Tryd.pinned (OpenSpec.upto isolateJoinsSpec)

/-- 'calquelaw24.IsolateBalance', WHERE WHAT IT READS IS OF BULK AT MOST 1048576: true; the input reads as it did. -/
def isolateBalanceUptoRow : OpenClaim := { program := "ytgefbagojghmeaadoor", sum := "57e8cc13e1dc5ec3ef07a3c6cf32d90a45ab97bb07e1977461c9c5509427a673", func := "calque/calquelaw24.IsolateBalance", spec := "isolateBalance", inPlace := ["internal/abi.NoEscape"], recurses := true, named := ["unicode/utf8.first", "unicode/utf8.acceptRanges"], apart := false, laid := [("unicode/utf8.acceptRanges", laid_unicode_utf8_acceptRanges), ("unicode/utf8.first", laid_unicode_utf8_first)], narrowed := true }
def IsolateBalanceUptoSaid : Prop := isolateBalanceUptoRow.holds Tryd.pinned (OpenSpec.upto isolateBalanceSpec)

/-- 'calquelaw24.IsolateStable', WHERE WHAT IT READS IS OF BULK AT MOST 1048576: true; the input reads as it did. -/
def isolateStableUptoRow : OpenClaim := { program := "ytgefbagojghmeaadoor", sum := "57e8cc13e1dc5ec3ef07a3c6cf32d90a45ab97bb07e1977461c9c5509427a673", func := "calque/calquelaw24.IsolateStable", spec := "isolateStable", inPlace := ["internal/abi.NoEscape"], recurses := true, named := ["unicode/utf8.first", "unicode/utf8.acceptRanges"], apart := false, laid := [("unicode/utf8.acceptRanges", laid_unicode_utf8_acceptRanges), ("unicode/utf8.first", laid_unicode_utf8_first)], narrowed := true }
def IsolateStableUptoSaid : Prop := isolateStableUptoRow.holds Tryd.pinned (OpenSpec.upto isolateStableSpec)

/-- 'calquelaw24.IsolateUnwrap', WHERE WHAT IT READS IS OF BULK AT MOST 1048576: true; the input reads as it did. -/
def isolateUnwrapUptoRow : OpenClaim := { program := "ytgefbagojghmeaadoor", sum := "57e8cc13e1dc5ec3ef07a3c6cf32d90a45ab97bb07e1977461c9c5509427a673", func := "calque/calquelaw24.IsolateUnwrap", spec := "isolateUnwrap", inPlace := ["internal/abi.NoEscape"], recurses := true, named := ["unicode/utf8.first", "unicode/utf8.acceptRanges"], apart := false, laid := [("unicode/utf8.acceptRanges", laid_unicode_utf8_acceptRanges), ("unicode/utf8.first", laid_unicode_utf8_first)], narrowed := true }
def IsolateUnwrapUptoSaid : Prop := isolateUnwrapUptoRow.holds Tryd.pinned (OpenSpec.upto isolateUnwrapSpec)

end Rows
end Go.Proofs.YtgefbagojghmeaaDoor
