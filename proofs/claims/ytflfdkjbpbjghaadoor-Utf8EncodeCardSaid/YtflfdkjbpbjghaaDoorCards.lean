/-
  DERIVED. GIVEN WITH THE SEED: THE CARDS: each row of YtflfdkjbpbjghaaDoorRows.lean that lists a variable, with what it lists TIED to the program's text (the seventh form; the later family's looks); each row that meets fmt, with fmt's text TOLD by the authors' own Lean function (tested against real Go, not proved from fmt's source: count such statements apart). THE CARD IS WHAT COUNTS. Prove the row's statement (the work); the ties are given (YtflfdkjbpbjghaaDoorTie.lean); close each card by the builder's one call (the guide's Derived/Test/ToyasCard.lean, 'card_holds'). Laid BY PROGRAM, IN A SANDBOX (cutbox-door.mjs). By AI agents, Wed Nov 11 2026. No macro, syntax, notation, axiom, sorry.
-/
import Derived.Test.YtflfdkjbpbjghaaDoorRows
import GoSem.ClaimSeven
namespace Go.Proofs.YtflfdkjbpbjghaaDoor
namespace Rows

/-- THE TIED CARD OF 'calquelaw01.Utf8Joins'. -/
def utf8JoinsCard : Claim7 := { stood := { row := utf8JoinsRow, standIns := [], harness := (true, "b942e04dffd6856072775fabd83a30a5dab9f6e556a6749cde2d0e35969e7455"), looks := false }, kinds := [], alts := [], laidByText := true, laidKinds := [.data, .pinned], laidTests := true, laidLooks := .later }
def Utf8JoinsCardSaid : Prop := Claim7.holds Tryd.pinned (.plain (OpenSpec.ofChange utf8JoinsSpec)) utf8JoinsCard

/-- THE TIED CARD OF 'calquelaw01.Utf8Decode'. -/
def utf8DecodeCard : Claim7 := { stood := { row := utf8DecodeRow, standIns := [], harness := (true, "b942e04dffd6856072775fabd83a30a5dab9f6e556a6749cde2d0e35969e7455"), looks := false }, kinds := [], alts := [], laidByText := true, laidKinds := [.data, .pinned], laidTests := true, laidLooks := .later }
def Utf8DecodeCardSaid : Prop := Claim7.holds Tryd.pinned (.plain (OpenSpec.ofChange utf8DecodeSpec)) utf8DecodeCard

/-- THE TIED CARD OF 'calquelaw01.Utf8Encode'. -/
def utf8EncodeCard : Claim7 := { stood := { row := utf8EncodeRow, standIns := [], harness := (true, "b942e04dffd6856072775fabd83a30a5dab9f6e556a6749cde2d0e35969e7455"), looks := false }, kinds := [], alts := [], laidByText := true, laidKinds := [.data, .pinned], laidTests := true, laidLooks := .later }
def Utf8EncodeCardSaid : Prop := Claim7.holds Tryd.pinned (.plain (OpenSpec.ofChange utf8EncodeSpec)) utf8EncodeCard

/-- THE TIED CARD OF 'calquelaw01.Utf8Inverse'. -/
def utf8InverseCard : Claim7 := { stood := { row := utf8InverseRow, standIns := [], harness := (true, "b942e04dffd6856072775fabd83a30a5dab9f6e556a6749cde2d0e35969e7455"), looks := false }, kinds := [], alts := [], laidByText := true, laidKinds := [.data, .pinned], laidTests := true, laidLooks := .later }
def Utf8InverseCardSaid : Prop := Claim7.holds Tryd.pinned (.plain (OpenSpec.ofChange utf8InverseSpec)) utf8InverseCard

/-- THE SECOND FORM's CARD OF 'calquelaw01.Utf8Joins'. -/
def utf8JoinsUptoCard : Claim7 := { stood := { row := utf8JoinsUptoRow, standIns := [], harness := (true, "b942e04dffd6856072775fabd83a30a5dab9f6e556a6749cde2d0e35969e7455"), looks := false }, kinds := [], alts := [], laidByText := true, laidKinds := [.data, .pinned], laidTests := true, laidLooks := .later }
def Utf8JoinsUptoCardSaid : Prop := Claim7.holds Tryd.pinned (.plain (OpenSpec.upto utf8JoinsSpec)) utf8JoinsUptoCard

/-- THE SECOND FORM's CARD OF 'calquelaw01.Utf8Decode'. -/
def utf8DecodeUptoCard : Claim7 := { stood := { row := utf8DecodeUptoRow, standIns := [], harness := (true, "b942e04dffd6856072775fabd83a30a5dab9f6e556a6749cde2d0e35969e7455"), looks := false }, kinds := [], alts := [], laidByText := true, laidKinds := [.data, .pinned], laidTests := true, laidLooks := .later }
def Utf8DecodeUptoCardSaid : Prop := Claim7.holds Tryd.pinned (.plain (OpenSpec.upto utf8DecodeSpec)) utf8DecodeUptoCard

/-- THE SECOND FORM's CARD OF 'calquelaw01.Utf8Encode'. -/
def utf8EncodeUptoCard : Claim7 := { stood := { row := utf8EncodeUptoRow, standIns := [], harness := (true, "b942e04dffd6856072775fabd83a30a5dab9f6e556a6749cde2d0e35969e7455"), looks := false }, kinds := [], alts := [], laidByText := true, laidKinds := [.data, .pinned], laidTests := true, laidLooks := .later }
def Utf8EncodeUptoCardSaid : Prop := Claim7.holds Tryd.pinned (.plain (OpenSpec.upto utf8EncodeSpec)) utf8EncodeUptoCard

/-- THE SECOND FORM's CARD OF 'calquelaw01.Utf8Inverse'. -/
def utf8InverseUptoCard : Claim7 := { stood := { row := utf8InverseUptoRow, standIns := [], harness := (true, "b942e04dffd6856072775fabd83a30a5dab9f6e556a6749cde2d0e35969e7455"), looks := false }, kinds := [], alts := [], laidByText := true, laidKinds := [.data, .pinned], laidTests := true, laidLooks := .later }
def Utf8InverseUptoCardSaid : Prop := Claim7.holds Tryd.pinned (.plain (OpenSpec.upto utf8InverseSpec)) utf8InverseUptoCard
end Rows
end Go.Proofs.YtflfdkjbpbjghaaDoor
