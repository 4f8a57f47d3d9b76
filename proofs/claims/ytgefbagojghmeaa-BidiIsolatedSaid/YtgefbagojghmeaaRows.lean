/-
  No cell of these rows narrows 'for every input' (looked for: loops, veiled, ifaces, maps, wideKeys, modest, calm, conditions, laid).
  DERIVED. THE GIVEN ROWS OF THIS SEAT. 8 by the template 'for every input the law returns true; each argument reads behind the call as it read before'; 0 by the template 'total and deterministic' (their statements: YtgefbagojghmeaaTotals.lean).
  GIVEN WITH THE SEED: the statements are not yours to turn. If you find one false, say at which input.
  Laid BY PROGRAM, IN A SANDBOX (cutbox-rows.mjs): the forced cells as the released guide's own fill.sh prints them over the translation 3de88aafa45e3a07… (all of the seat's roots in one cut). By AI agents, Wed Nov 11 2026. No macro, syntax, notation, axiom, sorry.
-/
import Derived.Test.YtgefbagojghmeaaChecked
import GoSem.Claim
import GoSem.ClaimJoined
import GoSem.ClaimMapViews
import Derived.JoinedTies
import Derived.KernelRfl
namespace Go.Proofs.Ytgefbagojghmeaa
/- THE CELL 'sum', in the pinned program and in every row, IS THE sha256 OF THE DUMP (.gsa) THAT YtgefbagojghmeaaProg.lean LOADS. Nothing in Lean hashes anything: it is a label: what it is worth is what the hold of that sum in a sandbox is worth. -/
noncomputable def Try.pinned : Pinned := { name := "ytgefbagojghmeaa", sum := "3de88aafa45e3a0793ad6a9d4b53b005cea6bd0813909c3372961c076f89c5a9", checked := Try.checked }
namespace Rows
def none {H : Type} : Left H := { results := [], args := [] }

/-- 'calquelaw24.IsolateStrip': WHATEVER THE INPUT: true; the input reads as it did. -/
def isolateStripSpec : ChangeSpec := { name := "isolateStrip", fn := fun _ => fun
  | [d] => { results := [.lit (.bool true)], args := [d] }
  | _ => none }
def isolateStripRow : OpenClaim := { program := "ytgefbagojghmeaa", sum := "3de88aafa45e3a0793ad6a9d4b53b005cea6bd0813909c3372961c076f89c5a9", func := "calque/calquelaw24.IsolateStrip", spec := "isolateStrip", inPlace := ["internal/abi.NoEscape"], apart := false }
def IsolateStripSaid : Prop := isolateStripRow.holds Try.pinned (OpenSpec.ofChange isolateStripSpec)

/-- ITS FALSE NEIGHBOUR: 'it returns false'. Refute it at one input. -/
def isolateStripWrong : ChangeSpec := { name := "isolateStrip", fn := fun _ => fun
  | [d] => { results := [.lit (.bool false)], args := [d] }
  | _ => none }
def IsolateStripWrongFalsely : Prop := isolateStripRow.holds Try.pinned (OpenSpec.ofChange isolateStripWrong)

/-- 'calquelaw23.BidiLevels': WHATEVER THE INPUT: true; the input reads as it did. -/
def bidiLevelsSpec : ChangeSpec := { name := "bidiLevels", fn := fun _ => fun
  | [d1, d2] => { results := [.lit (.bool true)], args := [d1, d2] }
  | _ => none }
def bidiLevelsRow : OpenClaim := { program := "ytgefbagojghmeaa", sum := "3de88aafa45e3a0793ad6a9d4b53b005cea6bd0813909c3372961c076f89c5a9", func := "calque/calquelaw23.BidiLevels", spec := "bidiLevels", unfollowed := true, recurses := true, apart := false }
def BidiLevelsSaid : Prop := bidiLevelsRow.holds Try.pinned (OpenSpec.ofChange bidiLevelsSpec)

/-- ITS FALSE NEIGHBOUR: 'it returns false'. Refute it at one input. -/
def bidiLevelsWrong : ChangeSpec := { name := "bidiLevels", fn := fun _ => fun
  | [d1, d2] => { results := [.lit (.bool false)], args := [d1, d2] }
  | _ => none }
def BidiLevelsWrongFalsely : Prop := bidiLevelsRow.holds Try.pinned (OpenSpec.ofChange bidiLevelsWrong)

/-- 'calquelaw23.BidiParity': WHATEVER THE INPUT: true; the input reads as it did. -/
def bidiParitySpec : ChangeSpec := { name := "bidiParity", fn := fun _ => fun
  | [d1, d2] => { results := [.lit (.bool true)], args := [d1, d2] }
  | _ => none }
def bidiParityRow : OpenClaim := { program := "ytgefbagojghmeaa", sum := "3de88aafa45e3a0793ad6a9d4b53b005cea6bd0813909c3372961c076f89c5a9", func := "calque/calquelaw23.BidiParity", spec := "bidiParity", unfollowed := true, recurses := true, apart := false }
def BidiParitySaid : Prop := bidiParityRow.holds Try.pinned (OpenSpec.ofChange bidiParitySpec)

/-- ITS FALSE NEIGHBOUR: 'it returns false'. Refute it at one input. -/
def bidiParityWrong : ChangeSpec := { name := "bidiParity", fn := fun _ => fun
  | [d1, d2] => { results := [.lit (.bool false)], args := [d1, d2] }
  | _ => none }
def BidiParityWrongFalsely : Prop := bidiParityRow.holds Try.pinned (OpenSpec.ofChange bidiParityWrong)

/-- 'calquelaw23.BidiDirection': WHATEVER THE INPUT: true; the input reads as it did. -/
def bidiDirectionSpec : ChangeSpec := { name := "bidiDirection", fn := fun _ => fun
  | [d] => { results := [.lit (.bool true)], args := [d] }
  | _ => none }
def bidiDirectionRow : OpenClaim := { program := "ytgefbagojghmeaa", sum := "3de88aafa45e3a0793ad6a9d4b53b005cea6bd0813909c3372961c076f89c5a9", func := "calque/calquelaw23.BidiDirection", spec := "bidiDirection", unfollowed := true, recurses := true, apart := false }
def BidiDirectionSaid : Prop := bidiDirectionRow.holds Try.pinned (OpenSpec.ofChange bidiDirectionSpec)

/-- ITS FALSE NEIGHBOUR: 'it returns false'. Refute it at one input. -/
def bidiDirectionWrong : ChangeSpec := { name := "bidiDirection", fn := fun _ => fun
  | [d] => { results := [.lit (.bool false)], args := [d] }
  | _ => none }
def BidiDirectionWrongFalsely : Prop := bidiDirectionRow.holds Try.pinned (OpenSpec.ofChange bidiDirectionWrong)

/-- 'calquelaw23.BidiOrder': WHATEVER THE INPUT: true; the input reads as it did. -/
def bidiOrderSpec : ChangeSpec := { name := "bidiOrder", fn := fun _ => fun
  | [d] => { results := [.lit (.bool true)], args := [d] }
  | _ => none }
def bidiOrderRow : OpenClaim := { program := "ytgefbagojghmeaa", sum := "3de88aafa45e3a0793ad6a9d4b53b005cea6bd0813909c3372961c076f89c5a9", func := "calque/calquelaw23.BidiOrder", spec := "bidiOrder", unfollowed := true, recurses := true, apart := false }
def BidiOrderSaid : Prop := bidiOrderRow.holds Try.pinned (OpenSpec.ofChange bidiOrderSpec)

/-- ITS FALSE NEIGHBOUR: 'it returns false'. Refute it at one input. -/
def bidiOrderWrong : ChangeSpec := { name := "bidiOrder", fn := fun _ => fun
  | [d] => { results := [.lit (.bool false)], args := [d] }
  | _ => none }
def BidiOrderWrongFalsely : Prop := bidiOrderRow.holds Try.pinned (OpenSpec.ofChange bidiOrderWrong)

/-- 'calquelaw23.BidiIsolated': WHATEVER THE INPUT: true; the input reads as it did. -/
def bidiIsolatedSpec : ChangeSpec := { name := "bidiIsolated", fn := fun _ => fun
  | [d1, d2, d3] => { results := [.lit (.bool true)], args := [d1, d2, d3] }
  | _ => none }
def bidiIsolatedRow : OpenClaim := { program := "ytgefbagojghmeaa", sum := "3de88aafa45e3a0793ad6a9d4b53b005cea6bd0813909c3372961c076f89c5a9", func := "calque/calquelaw23.BidiIsolated", spec := "bidiIsolated", unfollowed := true, recurses := true, apart := false }
def BidiIsolatedSaid : Prop := bidiIsolatedRow.holds Try.pinned (OpenSpec.ofChange bidiIsolatedSpec)

/-- ITS FALSE NEIGHBOUR: 'it returns false'. Refute it at one input. -/
def bidiIsolatedWrong : ChangeSpec := { name := "bidiIsolated", fn := fun _ => fun
  | [d1, d2, d3] => { results := [.lit (.bool false)], args := [d1, d2, d3] }
  | _ => none }
def BidiIsolatedWrongFalsely : Prop := bidiIsolatedRow.holds Try.pinned (OpenSpec.ofChange bidiIsolatedWrong)

/-- 'calquelaw23.BidiVisual': WHATEVER THE INPUT: true; the input reads as it did. -/
def bidiVisualSpec : ChangeSpec := { name := "bidiVisual", fn := fun _ => fun
  | [d1, d2] => { results := [.lit (.bool true)], args := [d1, d2] }
  | _ => none }
def bidiVisualRow : OpenClaim := { program := "ytgefbagojghmeaa", sum := "3de88aafa45e3a0793ad6a9d4b53b005cea6bd0813909c3372961c076f89c5a9", func := "calque/calquelaw23.BidiVisual", spec := "bidiVisual", inPlace := ["internal/abi.NoEscape"], unfollowed := true, recurses := true, apart := false }
def BidiVisualSaid : Prop := bidiVisualRow.holds Try.pinned (OpenSpec.ofChange bidiVisualSpec)

/-- ITS FALSE NEIGHBOUR: 'it returns false'. Refute it at one input. -/
def bidiVisualWrong : ChangeSpec := { name := "bidiVisual", fn := fun _ => fun
  | [d1, d2] => { results := [.lit (.bool false)], args := [d1, d2] }
  | _ => none }
def BidiVisualWrongFalsely : Prop := bidiVisualRow.holds Try.pinned (OpenSpec.ofChange bidiVisualWrong)

/-- 'calquelaw23.BidiPlain': WHATEVER THE INPUT: true; the input reads as it did. -/
def bidiPlainSpec : ChangeSpec := { name := "bidiPlain", fn := fun _ => fun
  | [d] => { results := [.lit (.bool true)], args := [d] }
  | _ => none }
def bidiPlainRow : OpenClaim := { program := "ytgefbagojghmeaa", sum := "3de88aafa45e3a0793ad6a9d4b53b005cea6bd0813909c3372961c076f89c5a9", func := "calque/calquelaw23.BidiPlain", spec := "bidiPlain", inPlace := ["internal/abi.NoEscape"], unfollowed := true, recurses := true, apart := false }
def BidiPlainSaid : Prop := bidiPlainRow.holds Try.pinned (OpenSpec.ofChange bidiPlainSpec)

/-- ITS FALSE NEIGHBOUR: 'it returns false'. Refute it at one input. -/
def bidiPlainWrong : ChangeSpec := { name := "bidiPlain", fn := fun _ => fun
  | [d] => { results := [.lit (.bool false)], args := [d] }
  | _ => none }
def BidiPlainWrongFalsely : Prop := bidiPlainRow.holds Try.pinned (OpenSpec.ofChange bidiPlainWrong)

/- THE SECOND FORM. 'bulk': how many values and letters a reading holds, each counted each time it is reached (what is shared counts as often as it is met; a slice's spare places count too). A statement '..UptoSaid' is the law's where the arguments, and the package variables that the reading takes, are together of bulk at most 1048576: NARROWER than '..Said'. Prove '..Said' where nothing that the law and all that it calls make is longer than what came in: it says more and counts as full. Else prove '..UptoSaid'. A law counts once. -/
mutual
def uptoBulk {H : Type} : DataW H → Nat
  | .lit (.string bytes) => bytes.length + 1
  | .lit _ => 1
  | .nil => 1
  | .ptr d => uptoBulk d + 1
  | .slice elems spare => uptoBulkAll elems + uptoBulkAll spare + 1
  | .agg parts => uptoBulkAll parts + 1
  | .iface _ d => uptoBulk d + 1
  | .map entries => uptoBulkEntries entries + 1
  | .held _ => 1
def uptoBulkAll {H : Type} : List (DataW H) → Nat
  | [] => 0
  | d :: r => uptoBulk d + uptoBulkAll r
def uptoBulkEntries {H : Type} : List (Lit × DataW H) → Nat
  | [] => 0
  | x :: r => uptoBulkEntry x + uptoBulkEntries r
def uptoBulkEntry {H : Type} : Lit × DataW H → Nat
  | (.string bytes, d) => bytes.length + uptoBulk d + 1
  | (_, d) => uptoBulk d + 1
 end
def uptoSmall : (H : Type) → List (DataW H) → Bool := fun _ ds => decide (uptoBulkAll ds ≤ 1048576)
def OpenSpec.upto (s : _root_.Go.ChangeSpec) : _root_.Go.OpenSpec := { _root_.Go.OpenSpec.ofChange s with cond := some uptoSmall }

/-- 'calquelaw24.IsolateStrip', WHERE WHAT IT READS IS OF BULK AT MOST 1048576: true; the input reads as it did. -/
def isolateStripUptoRow : OpenClaim := { program := "ytgefbagojghmeaa", sum := "3de88aafa45e3a0793ad6a9d4b53b005cea6bd0813909c3372961c076f89c5a9", func := "calque/calquelaw24.IsolateStrip", spec := "isolateStrip", inPlace := ["internal/abi.NoEscape"], apart := false, narrowed := true }
def IsolateStripUptoSaid : Prop := isolateStripUptoRow.holds Try.pinned (OpenSpec.upto isolateStripSpec)

/-- 'calquelaw23.BidiLevels', WHERE WHAT IT READS IS OF BULK AT MOST 1048576: true; the input reads as it did. -/
def bidiLevelsUptoRow : OpenClaim := { program := "ytgefbagojghmeaa", sum := "3de88aafa45e3a0793ad6a9d4b53b005cea6bd0813909c3372961c076f89c5a9", func := "calque/calquelaw23.BidiLevels", spec := "bidiLevels", unfollowed := true, recurses := true, apart := false, narrowed := true }
def BidiLevelsUptoSaid : Prop := bidiLevelsUptoRow.holds Try.pinned (OpenSpec.upto bidiLevelsSpec)

/-- 'calquelaw23.BidiParity', WHERE WHAT IT READS IS OF BULK AT MOST 1048576: true; the input reads as it did. -/
def bidiParityUptoRow : OpenClaim := { program := "ytgefbagojghmeaa", sum := "3de88aafa45e3a0793ad6a9d4b53b005cea6bd0813909c3372961c076f89c5a9", func := "calque/calquelaw23.BidiParity", spec := "bidiParity", unfollowed := true, recurses := true, apart := false, narrowed := true }
def BidiParityUptoSaid : Prop := bidiParityUptoRow.holds Try.pinned (OpenSpec.upto bidiParitySpec)

/-- 'calquelaw23.BidiDirection', WHERE WHAT IT READS IS OF BULK AT MOST 1048576: true; the input reads as it did. -/
def bidiDirectionUptoRow : OpenClaim := { program := "ytgefbagojghmeaa", sum := "3de88aafa45e3a0793ad6a9d4b53b005cea6bd0813909c3372961c076f89c5a9", func := "calque/calquelaw23.BidiDirection", spec := "bidiDirection", unfollowed := true, recurses := true, apart := false, narrowed := true }
def BidiDirectionUptoSaid : Prop := bidiDirectionUptoRow.holds Try.pinned (OpenSpec.upto bidiDirectionSpec)

/-- 'calquelaw23.BidiOrder', WHERE WHAT IT READS IS OF BULK AT MOST 1048576: true; the input reads as it did. -/
def bidiOrderUptoRow : OpenClaim := { program := "ytgefbagojghmeaa", sum := "3de88aafa45e3a0793ad6a9d4b53b005cea6bd0813909c3372961c076f89c5a9", func := "calque/calquelaw23.BidiOrder", spec := "bidiOrder", unfollowed := true, recurses := true, apart := false, narrowed := true }
def BidiOrderUptoSaid : Prop := bidiOrderUptoRow.holds Try.pinned (OpenSpec.upto bidiOrderSpec)

/-- 'calquelaw23.BidiIsolated', WHERE WHAT IT READS IS OF BULK AT MOST 1048576: true; the input reads as it did. -/
def bidiIsolatedUptoRow : OpenClaim := { program := "ytgefbagojghmeaa", sum := "3de88aafa45e3a0793ad6a9d4b53b005cea6bd0813909c3372961c076f89c5a9", func := "calque/calquelaw23.BidiIsolated", spec := "bidiIsolated", unfollowed := true, recurses := true, apart := false, narrowed := true }
def BidiIsolatedUptoSaid : Prop := bidiIsolatedUptoRow.holds Try.pinned (OpenSpec.upto bidiIsolatedSpec)

/-- 'calquelaw23.BidiVisual', WHERE WHAT IT READS IS OF BULK AT MOST 1048576: true; the input reads as it did. -/
def bidiVisualUptoRow : OpenClaim := { program := "ytgefbagojghmeaa", sum := "3de88aafa45e3a0793ad6a9d4b53b005cea6bd0813909c3372961c076f89c5a9", func := "calque/calquelaw23.BidiVisual", spec := "bidiVisual", inPlace := ["internal/abi.NoEscape"], unfollowed := true, recurses := true, apart := false, narrowed := true }
def BidiVisualUptoSaid : Prop := bidiVisualUptoRow.holds Try.pinned (OpenSpec.upto bidiVisualSpec)

/-- 'calquelaw23.BidiPlain', WHERE WHAT IT READS IS OF BULK AT MOST 1048576: true; the input reads as it did. -/
def bidiPlainUptoRow : OpenClaim := { program := "ytgefbagojghmeaa", sum := "3de88aafa45e3a0793ad6a9d4b53b005cea6bd0813909c3372961c076f89c5a9", func := "calque/calquelaw23.BidiPlain", spec := "bidiPlain", inPlace := ["internal/abi.NoEscape"], unfollowed := true, recurses := true, apart := false, narrowed := true }
def BidiPlainUptoSaid : Prop := bidiPlainUptoRow.holds Try.pinned (OpenSpec.upto bidiPlainSpec)

end Rows
end Go.Proofs.Ytgefbagojghmeaa
