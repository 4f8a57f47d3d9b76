/-
  NARROWER THAN 'FOR EVERY INPUT', by the rows' own cells (each row's printed sentence says how): Utf8Joins: laid · Utf8Decode: laid · Utf8Encode: laid · Utf8Inverse: laid.
  DERIVED. THE GIVEN ROWS OF THIS SEAT. 4 by the template 'for every input the law returns true; each argument reads behind the call as it read before'; 0 by the template 'total and deterministic' (their statements: YtflfdkjbpbjghaaDoorTotals.lean).
  GIVEN WITH THE SEED: the statements are not yours to turn. If you find one false, say at which input.
  Laid BY PROGRAM, IN A SANDBOX (cutbox-rows.mjs): the forced cells as the released guide's own fill.sh prints them over the translation df706c9beed6a601… (all of the seat's roots in one cut). By AI agents, Wed Nov 11 2026. No macro, syntax, notation, axiom, sorry.
-/
import Derived.Test.YtflfdkjbpbjghaaDoorChecked
import GoSem.PinnedTables
import GoSem.Claim
import GoSem.ClaimJoined
import GoSem.ClaimMapViews
import Derived.JoinedTies
import Derived.KernelRfl
namespace Go.Proofs.YtflfdkjbpbjghaaDoor
/- THE CELL 'sum', in the pinned program and in every row, IS THE sha256 OF THE DUMP (.gsa) THAT YtflfdkjbpbjghaaDoorProg.lean LOADS. Nothing in Lean hashes anything: it is a label: what it is worth is what the hold of that sum in a sandbox is worth. -/
noncomputable def Tryd.pinned : Pinned := { name := "ytflfdkjbpbjghaadoor", sum := "df706c9beed6a60198d566979fcb36adc4d3dc88aa7a76c5bba5089d0efb3cdd", checked := Tryd.checked }
namespace Rows
def none {H : Type} : Left H := { results := [], args := [] }

/- WHAT THE LISTED PACKAGE-LEVEL VARIABLES READ AS WHEN THE CALL BEGINS. Each datum BY PROGRAM (the guide's laid-datum.mjs) off the statement by which the dump's own 'gosem.cut.vars' lays the variable. In a bare row this is a premise. The card (YtflfdkjbpbjghaaDoorCards.lean) ties it to the program's text. -/
def laid_unicode_utf8_acceptRanges {H : Type} : DataW H := .agg [.agg [.lit (.int .u8 128), .lit (.int .u8 191)], .agg [.lit (.int .u8 160), .lit (.int .u8 191)], .agg [.lit (.int .u8 128), .lit (.int .u8 159)], .agg [.lit (.int .u8 144), .lit (.int .u8 191)], .agg [.lit (.int .u8 128), .lit (.int .u8 143)], .agg [.lit (.int .u8 0), .lit (.int .u8 0)], .agg [.lit (.int .u8 0), .lit (.int .u8 0)], .agg [.lit (.int .u8 0), .lit (.int .u8 0)], .agg [.lit (.int .u8 0), .lit (.int .u8 0)], .agg [.lit (.int .u8 0), .lit (.int .u8 0)], .agg [.lit (.int .u8 0), .lit (.int .u8 0)], .agg [.lit (.int .u8 0), .lit (.int .u8 0)], .agg [.lit (.int .u8 0), .lit (.int .u8 0)], .agg [.lit (.int .u8 0), .lit (.int .u8 0)], .agg [.lit (.int .u8 0), .lit (.int .u8 0)], .agg [.lit (.int .u8 0), .lit (.int .u8 0)]]
/-- One of Go's own tables, pinned by name: the form's constant. -/
def laid_unicode_utf8_first : DataW Unit := Go.Pinned.utf8First

/-- 'calquelaw01.Utf8Joins': WHATEVER THE INPUT: true; the input reads as it did. -/
def utf8JoinsSpec : ChangeSpec := { name := "utf8Joins", fn := fun _ => fun
  | [d1, d2] => { results := [.lit (.bool true)], args := [d1, d2] }
  | _ => none }
def utf8JoinsRow : OpenClaim := { program := "ytflfdkjbpbjghaadoor", sum := "df706c9beed6a60198d566979fcb36adc4d3dc88aa7a76c5bba5089d0efb3cdd", func := "calque/calquelaw01.Utf8Joins", spec := "utf8Joins", unfollowed := true, recurses := true, named := ["unicode/utf8.first", "unicode/utf8.acceptRanges"], apart := false, laid := [("unicode/utf8.acceptRanges", laid_unicode_utf8_acceptRanges), ("unicode/utf8.first", laid_unicode_utf8_first)] }
def Utf8JoinsSaid : Prop := utf8JoinsRow.holds Tryd.pinned (OpenSpec.ofChange utf8JoinsSpec)

/-- ITS FALSE NEIGHBOUR: 'it returns false'. Refute it at one input. -/
def utf8JoinsWrong : ChangeSpec := { name := "utf8Joins", fn := fun _ => fun
  | [d1, d2] => { results := [.lit (.bool false)], args := [d1, d2] }
  | _ => none }
def Utf8JoinsWrongFalsely : Prop := utf8JoinsRow.holds Tryd.pinned (OpenSpec.ofChange utf8JoinsWrong)

/-- 'calquelaw01.Utf8Decode': WHATEVER THE INPUT: true; the input reads as it did. -/
def utf8DecodeSpec : ChangeSpec := { name := "utf8Decode", fn := fun _ => fun
  | [d] => { results := [.lit (.bool true)], args := [d] }
  | _ => none }
def utf8DecodeRow : OpenClaim := { program := "ytflfdkjbpbjghaadoor", sum := "df706c9beed6a60198d566979fcb36adc4d3dc88aa7a76c5bba5089d0efb3cdd", func := "calque/calquelaw01.Utf8Decode", spec := "utf8Decode", unfollowed := true, recurses := true, named := ["unicode/utf8.first", "unicode/utf8.acceptRanges"], apart := false, laid := [("unicode/utf8.acceptRanges", laid_unicode_utf8_acceptRanges), ("unicode/utf8.first", laid_unicode_utf8_first)] }
def Utf8DecodeSaid : Prop := utf8DecodeRow.holds Tryd.pinned (OpenSpec.ofChange utf8DecodeSpec)

/-- ITS FALSE NEIGHBOUR: 'it returns false'. Refute it at one input. -/
def utf8DecodeWrong : ChangeSpec := { name := "utf8Decode", fn := fun _ => fun
  | [d] => { results := [.lit (.bool false)], args := [d] }
  | _ => none }
def Utf8DecodeWrongFalsely : Prop := utf8DecodeRow.holds Tryd.pinned (OpenSpec.ofChange utf8DecodeWrong)

/-- 'calquelaw01.Utf8Encode': WHATEVER THE INPUT: true; the input reads as it did. -/
def utf8EncodeSpec : ChangeSpec := { name := "utf8Encode", fn := fun _ => fun
  | [d] => { results := [.lit (.bool true)], args := [d] }
  | _ => none }
def utf8EncodeRow : OpenClaim := { program := "ytflfdkjbpbjghaadoor", sum := "df706c9beed6a60198d566979fcb36adc4d3dc88aa7a76c5bba5089d0efb3cdd", func := "calque/calquelaw01.Utf8Encode", spec := "utf8Encode", inPlace := ["internal/abi.NoEscape"], unfollowed := true, recurses := true, named := ["unicode/utf8.first", "unicode/utf8.acceptRanges"], apart := false, laid := [("unicode/utf8.acceptRanges", laid_unicode_utf8_acceptRanges), ("unicode/utf8.first", laid_unicode_utf8_first)] }
def Utf8EncodeSaid : Prop := utf8EncodeRow.holds Tryd.pinned (OpenSpec.ofChange utf8EncodeSpec)

/-- ITS FALSE NEIGHBOUR: 'it returns false'. Refute it at one input. -/
def utf8EncodeWrong : ChangeSpec := { name := "utf8Encode", fn := fun _ => fun
  | [d] => { results := [.lit (.bool false)], args := [d] }
  | _ => none }
def Utf8EncodeWrongFalsely : Prop := utf8EncodeRow.holds Tryd.pinned (OpenSpec.ofChange utf8EncodeWrong)

/-- 'calquelaw01.Utf8Inverse': WHATEVER THE INPUT: true; the input reads as it did. -/
def utf8InverseSpec : ChangeSpec := { name := "utf8Inverse", fn := fun _ => fun
  | [d] => { results := [.lit (.bool true)], args := [d] }
  | _ => none }
def utf8InverseRow : OpenClaim := { program := "ytflfdkjbpbjghaadoor", sum := "df706c9beed6a60198d566979fcb36adc4d3dc88aa7a76c5bba5089d0efb3cdd", func := "calque/calquelaw01.Utf8Inverse", spec := "utf8Inverse", inPlace := ["internal/abi.NoEscape"], unfollowed := true, recurses := true, named := ["unicode/utf8.first", "unicode/utf8.acceptRanges"], apart := false, laid := [("unicode/utf8.acceptRanges", laid_unicode_utf8_acceptRanges), ("unicode/utf8.first", laid_unicode_utf8_first)] }
def Utf8InverseSaid : Prop := utf8InverseRow.holds Tryd.pinned (OpenSpec.ofChange utf8InverseSpec)

/-- ITS FALSE NEIGHBOUR: 'it returns false'. Refute it at one input. -/
def utf8InverseWrong : ChangeSpec := { name := "utf8Inverse", fn := fun _ => fun
  | [d] => { results := [.lit (.bool false)], args := [d] }
  | _ => none }
def Utf8InverseWrongFalsely : Prop := utf8InverseRow.holds Tryd.pinned (OpenSpec.ofChange utf8InverseWrong)

/- THE SECOND FORM. 'bulk': how many values and letters a reading holds, each counted each time it is reached (what is shared counts as often as it is met; a slice's spare places count too). A statement '..UptoSaid' is the law's where the arguments, and the package variables that the reading takes, are together of bulk at most 1048576: NARROWER than '..Said'. Prove '..Said' where nothing that the law and all that it calls make is longer than what came in: it says more and counts as full. Else prove '..UptoSaid'. A law counts once. -/
mutual
def uptoBulk {H : Type} : DataW H → Nat
  | .lit (.string bytes) => bytes.length + 1
  | .lit _ => 1
  | .nil => 1
  | .ptr d => uptoBulk d + 1
  | .slice elems spare => uptoBulkAll elems + uptoBulkAll spare + 1
  | .agg parts => uptoBulkAll parts + 1
  | .iface _ d => uptoBulk d + 1
  | .map entries => uptoBulkEntries entries + 1
  | .held _ => 1
def uptoBulkAll {H : Type} : List (DataW H) → Nat
  | [] => 0
  | d :: r => uptoBulk d + uptoBulkAll r
def uptoBulkEntries {H : Type} : List (Lit × DataW H) → Nat
  | [] => 0
  | x :: r => uptoBulkEntry x + uptoBulkEntries r
def uptoBulkEntry {H : Type} : Lit × DataW H → Nat
  | (.string bytes, d) => bytes.length + uptoBulk d + 1
  | (_, d) => uptoBulk d + 1
 end
def uptoSmall : (H : Type) → List (DataW H) → Bool := fun _ ds => decide (uptoBulkAll ds ≤ 1048576)
def OpenSpec.upto (s : _root_.Go.ChangeSpec) : _root_.Go.OpenSpec := { _root_.Go.OpenSpec.ofChange s with cond := some uptoSmall }

/-- 'calquelaw01.Utf8Joins', WHERE WHAT IT READS IS OF BULK AT MOST 1048576: true; the input reads as it did. -/
def utf8JoinsUptoRow : OpenClaim := { program := "ytflfdkjbpbjghaadoor", sum := "df706c9beed6a60198d566979fcb36adc4d3dc88aa7a76c5bba5089d0efb3cdd", func := "calque/calquelaw01.Utf8Joins", spec := "utf8Joins", unfollowed := true, recurses := true, named := ["unicode/utf8.first", "unicode/utf8.acceptRanges"], apart := false, laid := [("unicode/utf8.acceptRanges", laid_unicode_utf8_acceptRanges), ("unicode/utf8.first", laid_unicode_utf8_first)], narrowed := true }
def Utf8JoinsUptoSaid : Prop := utf8JoinsUptoRow.holds Tryd.pinned (OpenSpec.upto utf8JoinsSpec)

/-- 'calquelaw01.Utf8Decode', WHERE WHAT IT READS IS OF BULK AT MOST 1048576: true; the input reads as it did. -/
def utf8DecodeUptoRow : OpenClaim := { program := "ytflfdkjbpbjghaadoor", sum := "df706c9beed6a60198d566979fcb36adc4d3dc88aa7a76c5bba5089d0efb3cdd", func := "calque/calquelaw01.Utf8Decode", spec := "utf8Decode", unfollowed := true, recurses := true, named := ["unicode/utf8.first", "unicode/utf8.acceptRanges"], apart := false, laid := [("unicode/utf8.acceptRanges", laid_unicode_utf8_acceptRanges), ("unicode/utf8.first", laid_unicode_utf8_first)], narrowed := true }
def Utf8DecodeUptoSaid : Prop := utf8DecodeUptoRow.holds Tryd.pinned (OpenSpec.upto utf8DecodeSpec)

/-- 'calquelaw01.Utf8Encode', WHERE WHAT IT READS IS OF BULK AT MOST 1048576: true; the input reads as it did. -/
def utf8EncodeUptoRow : OpenClaim := { program := "ytflfdkjbpbjghaadoor", sum := "df706c9beed6a60198d566979fcb36adc4d3dc88aa7a76c5bba5089d0efb3cdd", func := "calque/calquelaw01.Utf8Encode", spec := "utf8Encode", inPlace := ["internal/abi.NoEscape"], unfollowed := true, recurses := true, named := ["unicode/utf8.first", "unicode/utf8.acceptRanges"], apart := false, laid := [("unicode/utf8.acceptRanges", laid_unicode_utf8_acceptRanges), ("unicode/utf8.first", laid_unicode_utf8_first)], narrowed := true }
def Utf8EncodeUptoSaid : Prop := utf8EncodeUptoRow.holds Tryd.pinned (OpenSpec.upto utf8EncodeSpec)

/-- 'calquelaw01.Utf8Inverse', WHERE WHAT IT READS IS OF BULK AT MOST 1048576: true; the input reads as it did. -/
def utf8InverseUptoRow : OpenClaim := { program := "ytflfdkjbpbjghaadoor", sum := "df706c9beed6a60198d566979fcb36adc4d3dc88aa7a76c5bba5089d0efb3cdd", func := "calque/calquelaw01.Utf8Inverse", spec := "utf8Inverse", inPlace := ["internal/abi.NoEscape"], unfollowed := true, recurses := true, named := ["unicode/utf8.first", "unicode/utf8.acceptRanges"], apart := false, laid := [("unicode/utf8.acceptRanges", laid_unicode_utf8_acceptRanges), ("unicode/utf8.first", laid_unicode_utf8_first)], narrowed := true }
def Utf8InverseUptoSaid : Prop := utf8InverseUptoRow.holds Tryd.pinned (OpenSpec.upto utf8InverseSpec)

end Rows
end Go.Proofs.YtflfdkjbpbjghaaDoor
