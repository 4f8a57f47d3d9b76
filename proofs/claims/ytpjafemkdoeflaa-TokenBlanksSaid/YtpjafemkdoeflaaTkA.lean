/-
  calquelaw25.awake returns true.
-/
import Derived.Test.YtpjafemkdoeflaaTkE
namespace Go.Proofs.Ytpjafemkdoeflaa
open Go.RowKit

def TrueP (w : World) (e : Ending) (w' : World) : Prop := e = .returned (.bool true) ∧ Below w.heap.size w w'

set_option maxRecDepth 100000 in
set_option maxHeartbeats 4000000 in
theorem awake_any (w : World) : Calls Try.prog 8 #[] w (TrueP w) := by
  have h1 := tokens_any [97, 92, 123, 32, 123, 110, 44, 32, 110, 117, 109, 98, 101, 114, 125] (by decide)
  unfold ToksP at h1
  have e1 : outL [97, 92, 123, 32, 123, 110, 44, 32, 110, 117, 109, 98, 101, 114, 125] = [(1, [97, 92, 123, 32], 0, 4), (2, [123], 4, 5), (9, [110], 5, 6), (8, [44], 6, 7), (9, [110, 117, 109, 98, 101, 114], 8, 14), (3, [125], 14, 15)] := by decide +kernel
  have e2 : atV [97, 92, 123, 32, 123, 110, 44, 32, 110, 117, 109, 98, 101, 114, 125] = 0 := by decide +kernel
  have e3 : errV [97, 92, 123, 32, 123, 110, 44, 32, 110, 117, 109, 98, 101, 114, 125] = 0 := by decide +kernel
  rw [e1, e2, e3] at h1
  have h2 := escape_any ⟨#[97, 123]⟩ (by decide)
  have e4 : escL (⟨#[97, 123]⟩ : ByteArray).data.toList = [97, 92, 123] := by decide +kernel
  rw [e4] at h2
  have h3 := name_any ⟨#[97, 66, 45, 49]⟩ (by decide)
  unfold BoolP at h3
  have e5 : nameB (⟨#[97, 66, 45, 49]⟩ : ByteArray).data.toList = true := by decide +kernel
  rw [e5] at h3
  have H1 := Lib.hid h1
  have H2 := Lib.hid h2
  have H3 := Lib.hid h3
  clear h1 h2 h3 e1 e2 e3 e4 e5
  go_enter Try.func8, Try.ntmps8
  go_wp2_with fail
  refine (H1.out _).mono ?_
  rintro e w1 ⟨v, rfl, hi1, hb1⟩
  obtain ⟨ao, ca, rfl, hc⟩ := hi1
  obtain ⟨b, o, rfl, hbB, hcl⟩ := hc (by decide)
  obtain ⟨_, c1, _, _⟩ := hcl 0 _ rfl
  obtain ⟨d0, d1, _, _⟩ := hcl 4 _ rfl
  dsimp only at c1 d0 d1
  have c1 : w1.cell? ⟨b, o + 1, none⟩ = some (.string (ba [97, 92, 123, 32])) := by simpa using c1
  have d0 : w1.cell? ⟨b, o + 16, none⟩ = some (.int .i64 9) := by simpa using d0
  have d1 : w1.cell? ⟨b, o + 17, none⟩ = some (.string (ba [110, 117, 109, 98, 101, 114])) := by simpa using d1
  have HB1 := Lib.hid hb1
  clear hc hcl hb1 hbB
  have s1 : (ba [97, 92, 123, 32]).toList = [97, 92, 123, 32] := by rw [ByteArray.toList_eq]; rfl
  have s2 : (ba [110, 117, 109, 98, 101, 114]).toList = [110, 117, 109, 98, 101, 114] := by rw [ByteArray.toList_eq]; rfl
  have s3 : (ba [97, 92, 123]).toList = [97, 92, 123] := by rw [ByteArray.toList_eq]; rfl
  go_wp2_with fail
  refine (H2.out _).mono ?_
  rintro e w2 ⟨rfl, hb2⟩
  have HB2 := Lib.hid (HB1.out.trans (hb2.mono HB1.out.size))
  clear hb2
  go_wp2_with fail
  refine (H3.out _).mono ?_
  rintro e w3 ⟨rfl, rfl⟩
  go_wp2
  go_ret
  exact ⟨rfl, HB2.out⟩
end Go.Proofs.Ytpjafemkdoeflaa
