/-
  No cell of these rows narrows 'for every input' (looked for: loops, veiled, ifaces, maps, wideKeys, modest, calm, conditions, laid).
  DERIVED. THE GIVEN ROWS OF THIS SEAT. 5 by the template 'for every input the law returns true; each argument reads behind the call as it read before'; 0 by the template 'total and deterministic' (their statements: YtpjafemkdoeflaaTotals.lean).
  GIVEN WITH THE SEED: the statements are not yours to turn. If you find one false, say at which input.
  Laid BY PROGRAM, IN A SANDBOX (cutbox-rows.mjs): the forced cells as the released guide's own fill.sh prints them over the translation df529203b2a9d869… (all of the seat's roots in one cut). By AI agents, Wed Nov 11 2026. No macro, syntax, notation, axiom, sorry.
-/
import Derived.Test.YtpjafemkdoeflaaChecked
import GoSem.Claim
import GoSem.ClaimJoined
import GoSem.ClaimMapViews
import Derived.JoinedTies
import Derived.KernelRfl
namespace Go.Proofs.Ytpjafemkdoeflaa
/- THE CELL 'sum', in the pinned program and in every row, IS THE sha256 OF THE DUMP (.gsa) THAT YtpjafemkdoeflaaProg.lean LOADS. Nothing in Lean hashes anything: it is a label: what it is worth is what the hold of that sum in a sandbox is worth. -/
noncomputable def Try.pinned : Pinned := { name := "ytpjafemkdoeflaa", sum := "df529203b2a9d869663f15e0cb381f193aefdbd86d834ff524a781355dd76b8b", checked := Try.checked }
namespace Rows
def none {H : Type} : Left H := { results := [], args := [] }

/-- 'calquelaw25.TokenTexts': WHATEVER THE INPUT: true; the input reads as it did. -/
def tokenTextsSpec : ChangeSpec := { name := "tokenTexts", fn := fun _ => fun
  | [d] => { results := [.lit (.bool true)], args := [d] }
  | _ => none }
def tokenTextsRow : OpenClaim := { program := "ytpjafemkdoeflaa", sum := "df529203b2a9d869663f15e0cb381f193aefdbd86d834ff524a781355dd76b8b", func := "calque/calquelaw25.TokenTexts", spec := "tokenTexts", inPlace := ["internal/bytealg.IndexByteString", "internal/abi.NoEscape"], apart := false }
def TokenTextsSaid : Prop := tokenTextsRow.holds Try.pinned (OpenSpec.ofChange tokenTextsSpec)

/-- ITS FALSE NEIGHBOUR: 'it returns false'. Refute it at one input. -/
def tokenTextsWrong : ChangeSpec := { name := "tokenTexts", fn := fun _ => fun
  | [d] => { results := [.lit (.bool false)], args := [d] }
  | _ => none }
def TokenTextsWrongFalsely : Prop := tokenTextsRow.holds Try.pinned (OpenSpec.ofChange tokenTextsWrong)

/-- 'calquelaw25.TokenPlaces': WHATEVER THE INPUT: true; the input reads as it did. -/
def tokenPlacesSpec : ChangeSpec := { name := "tokenPlaces", fn := fun _ => fun
  | [d] => { results := [.lit (.bool true)], args := [d] }
  | _ => none }
def tokenPlacesRow : OpenClaim := { program := "ytpjafemkdoeflaa", sum := "df529203b2a9d869663f15e0cb381f193aefdbd86d834ff524a781355dd76b8b", func := "calque/calquelaw25.TokenPlaces", spec := "tokenPlaces", inPlace := ["internal/bytealg.IndexByteString", "internal/abi.NoEscape"], apart := false }
def TokenPlacesSaid : Prop := tokenPlacesRow.holds Try.pinned (OpenSpec.ofChange tokenPlacesSpec)

/-- ITS FALSE NEIGHBOUR: 'it returns false'. Refute it at one input. -/
def tokenPlacesWrong : ChangeSpec := { name := "tokenPlaces", fn := fun _ => fun
  | [d] => { results := [.lit (.bool false)], args := [d] }
  | _ => none }
def TokenPlacesWrongFalsely : Prop := tokenPlacesRow.holds Try.pinned (OpenSpec.ofChange tokenPlacesWrong)

/-- 'calquelaw25.TokenJoins': WHATEVER THE INPUT: true; the input reads as it did. -/
def tokenJoinsSpec : ChangeSpec := { name := "tokenJoins", fn := fun _ => fun
  | [d1, d2] => { results := [.lit (.bool true)], args := [d1, d2] }
  | _ => none }
def tokenJoinsRow : OpenClaim := { program := "ytpjafemkdoeflaa", sum := "df529203b2a9d869663f15e0cb381f193aefdbd86d834ff524a781355dd76b8b", func := "calque/calquelaw25.TokenJoins", spec := "tokenJoins", inPlace := ["internal/bytealg.IndexByteString", "internal/abi.NoEscape"], apart := false }
def TokenJoinsSaid : Prop := tokenJoinsRow.holds Try.pinned (OpenSpec.ofChange tokenJoinsSpec)

/-- ITS FALSE NEIGHBOUR: 'it returns false'. Refute it at one input. -/
def tokenJoinsWrong : ChangeSpec := { name := "tokenJoins", fn := fun _ => fun
  | [d1, d2] => { results := [.lit (.bool false)], args := [d1, d2] }
  | _ => none }
def TokenJoinsWrongFalsely : Prop := tokenJoinsRow.holds Try.pinned (OpenSpec.ofChange tokenJoinsWrong)

/-- 'calquelaw25.TokenBlanks': WHATEVER THE INPUT: true; the input reads as it did. -/
def tokenBlanksSpec : ChangeSpec := { name := "tokenBlanks", fn := fun _ => fun
  | [d1, d2] => { results := [.lit (.bool true)], args := [d1, d2] }
  | _ => none }
def tokenBlanksRow : OpenClaim := { program := "ytpjafemkdoeflaa", sum := "df529203b2a9d869663f15e0cb381f193aefdbd86d834ff524a781355dd76b8b", func := "calque/calquelaw25.TokenBlanks", spec := "tokenBlanks", inPlace := ["internal/bytealg.IndexByteString", "internal/abi.NoEscape"], apart := false }
def TokenBlanksSaid : Prop := tokenBlanksRow.holds Try.pinned (OpenSpec.ofChange tokenBlanksSpec)

/-- ITS FALSE NEIGHBOUR: 'it returns false'. Refute it at one input. -/
def tokenBlanksWrong : ChangeSpec := { name := "tokenBlanks", fn := fun _ => fun
  | [d1, d2] => { results := [.lit (.bool false)], args := [d1, d2] }
  | _ => none }
def TokenBlanksWrongFalsely : Prop := tokenBlanksRow.holds Try.pinned (OpenSpec.ofChange tokenBlanksWrong)

/-- 'calquelaw25.TokenEscapes': WHATEVER THE INPUT: true; the input reads as it did. -/
def tokenEscapesSpec : ChangeSpec := { name := "tokenEscapes", fn := fun _ => fun
  | [d] => { results := [.lit (.bool true)], args := [d] }
  | _ => none }
def tokenEscapesRow : OpenClaim := { program := "ytpjafemkdoeflaa", sum := "df529203b2a9d869663f15e0cb381f193aefdbd86d834ff524a781355dd76b8b", func := "calque/calquelaw25.TokenEscapes", spec := "tokenEscapes", inPlace := ["internal/bytealg.IndexByteString", "internal/abi.NoEscape"], apart := false }
def TokenEscapesSaid : Prop := tokenEscapesRow.holds Try.pinned (OpenSpec.ofChange tokenEscapesSpec)

/-- ITS FALSE NEIGHBOUR: 'it returns false'. Refute it at one input. -/
def tokenEscapesWrong : ChangeSpec := { name := "tokenEscapes", fn := fun _ => fun
  | [d] => { results := [.lit (.bool false)], args := [d] }
  | _ => none }
def TokenEscapesWrongFalsely : Prop := tokenEscapesRow.holds Try.pinned (OpenSpec.ofChange tokenEscapesWrong)

/- THE SECOND FORM. 'bulk': how many values and letters a reading holds, each counted each time it is reached (what is shared counts as often as it is met; a slice's spare places count too). A statement '..UptoSaid' is the law's where the arguments, and the package variables that the reading takes, are together of bulk at most 1048576: NARROWER than '..Said'. Prove '..Said' where nothing that the law and all that it calls make is longer than what came in: it says more and counts as full. Else prove '..UptoSaid'. A law counts once. -/
mutual
def uptoBulk {H : Type} : DataW H → Nat
  | .lit (.string bytes) => bytes.length + 1
  | .lit _ => 1
  | .nil => 1
  | .ptr d => uptoBulk d + 1
  | .slice elems spare => uptoBulkAll elems + uptoBulkAll spare + 1
  | .agg parts => uptoBulkAll parts + 1
  | .iface _ d => uptoBulk d + 1
  | .map entries => uptoBulkEntries entries + 1
  | .held _ => 1
def uptoBulkAll {H : Type} : List (DataW H) → Nat
  | [] => 0
  | d :: r => uptoBulk d + uptoBulkAll r
def uptoBulkEntries {H : Type} : List (Lit × DataW H) → Nat
  | [] => 0
  | x :: r => uptoBulkEntry x + uptoBulkEntries r
def uptoBulkEntry {H : Type} : Lit × DataW H → Nat
  | (.string bytes, d) => bytes.length + uptoBulk d + 1
  | (_, d) => uptoBulk d + 1
 end
def uptoSmall : (H : Type) → List (DataW H) → Bool := fun _ ds => decide (uptoBulkAll ds ≤ 1048576)
def OpenSpec.upto (s : _root_.Go.ChangeSpec) : _root_.Go.OpenSpec := { _root_.Go.OpenSpec.ofChange s with cond := some uptoSmall }

/-- 'calquelaw25.TokenTexts', WHERE WHAT IT READS IS OF BULK AT MOST 1048576: true; the input reads as it did. -/
def tokenTextsUptoRow : OpenClaim := { program := "ytpjafemkdoeflaa", sum := "df529203b2a9d869663f15e0cb381f193aefdbd86d834ff524a781355dd76b8b", func := "calque/calquelaw25.TokenTexts", spec := "tokenTexts", inPlace := ["internal/bytealg.IndexByteString", "internal/abi.NoEscape"], apart := false, narrowed := true }
def TokenTextsUptoSaid : Prop := tokenTextsUptoRow.holds Try.pinned (OpenSpec.upto tokenTextsSpec)

/-- 'calquelaw25.TokenPlaces', WHERE WHAT IT READS IS OF BULK AT MOST 1048576: true; the input reads as it did. -/
def tokenPlacesUptoRow : OpenClaim := { program := "ytpjafemkdoeflaa", sum := "df529203b2a9d869663f15e0cb381f193aefdbd86d834ff524a781355dd76b8b", func := "calque/calquelaw25.TokenPlaces", spec := "tokenPlaces", inPlace := ["internal/bytealg.IndexByteString", "internal/abi.NoEscape"], apart := false, narrowed := true }
def TokenPlacesUptoSaid : Prop := tokenPlacesUptoRow.holds Try.pinned (OpenSpec.upto tokenPlacesSpec)

/-- 'calquelaw25.TokenJoins', WHERE WHAT IT READS IS OF BULK AT MOST 1048576: true; the input reads as it did. -/
def tokenJoinsUptoRow : OpenClaim := { program := "ytpjafemkdoeflaa", sum := "df529203b2a9d869663f15e0cb381f193aefdbd86d834ff524a781355dd76b8b", func := "calque/calquelaw25.TokenJoins", spec := "tokenJoins", inPlace := ["internal/bytealg.IndexByteString", "internal/abi.NoEscape"], apart := false, narrowed := true }
def TokenJoinsUptoSaid : Prop := tokenJoinsUptoRow.holds Try.pinned (OpenSpec.upto tokenJoinsSpec)

/-- 'calquelaw25.TokenBlanks', WHERE WHAT IT READS IS OF BULK AT MOST 1048576: true; the input reads as it did. -/
def tokenBlanksUptoRow : OpenClaim := { program := "ytpjafemkdoeflaa", sum := "df529203b2a9d869663f15e0cb381f193aefdbd86d834ff524a781355dd76b8b", func := "calque/calquelaw25.TokenBlanks", spec := "tokenBlanks", inPlace := ["internal/bytealg.IndexByteString", "internal/abi.NoEscape"], apart := false, narrowed := true }
def TokenBlanksUptoSaid : Prop := tokenBlanksUptoRow.holds Try.pinned (OpenSpec.upto tokenBlanksSpec)

/-- 'calquelaw25.TokenEscapes', WHERE WHAT IT READS IS OF BULK AT MOST 1048576: true; the input reads as it did. -/
def tokenEscapesUptoRow : OpenClaim := { program := "ytpjafemkdoeflaa", sum := "df529203b2a9d869663f15e0cb381f193aefdbd86d834ff524a781355dd76b8b", func := "calque/calquelaw25.TokenEscapes", spec := "tokenEscapes", inPlace := ["internal/bytealg.IndexByteString", "internal/abi.NoEscape"], apart := false, narrowed := true }
def TokenEscapesUptoSaid : Prop := tokenEscapesUptoRow.holds Try.pinned (OpenSpec.upto tokenEscapesSpec)

end Rows
end Go.Proofs.Ytpjafemkdoeflaa
