/-
  The law BidiVisual: Visual returns the specified string or error.
-/
import Derived.Test.YtgefbagojghmeaaOr5
namespace Go.Proofs.Ytgefbagojghmeaa
open Go.RowKit

set_option maxRecDepth 100000 in
set_option maxHeartbeats 1000000 in
theorem law_BidiVisual (s : ByteArray) (rtl : Bool) (hs : s.size ≤ maxLen) (w : World) : Calls Try.prog 9 #[.string s, .bool rtl] w (TrueP w) := by
  unfold maxLen at hs
  by_cases hl : 200 < s.size
  · go_enter Try.func9, Try.ntmps9
    go_wp2_with fail
    refine (awake23_any _).mono ?_
    rintro e w1 ⟨rfl, hb1⟩
    have HB1 := Lib.hid hb1
    clear hb1
    go_wp2_with fail
    refine (awake23_any _).mono ?_
    rintro e w2 ⟨rfl, hb2⟩
    have HB2 := Lib.hid (HB1.out.trans (hb2.mono HB1.out.size))
    clear hb2
    go_wp2
    go_ret
    exact ⟨rfl, HB2.out⟩
  · have h1 := visual_any s rtl (by omega)
    have h2 := refvisual_any s rtl (by omega)
    unfold VisP at h1 h2
    obtain ⟨A, hA⟩ : ∃ A, (if 30 < mh 0 (ints (U8.els s.data.toList)) then (⟨#[]⟩ : ByteArray) else encS (visL (ints (U8.els s.data.toList)) rtl)) = A := ⟨_, rfl⟩
    obtain ⟨E, hE⟩ : ∃ E, LvErr (ints (U8.els s.data.toList)) = E := ⟨_, rfl⟩
    rw [hA, hE] at h1 h2
    have H1 := Lib.hid h1
    have H2 := Lib.hid h2
    clear h1 h2 hA hE
    go_enter Try.func9, Try.ntmps9
    go_wp2_with fail
    refine (awake23_any _).mono ?_
    rintro e w1 ⟨rfl, hb1⟩
    have HB1 := Lib.hid hb1
    clear hb1
    go_wp2_with fail
    refine (H1.out _).mono ?_
    rintro e w2 ⟨rfl, hb2⟩
    have HB2 := Lib.hid (HB1.out.trans (hb2.mono HB1.out.size))
    clear hb2
    go_wp2_with fail
    refine (H2.out _).mono ?_
    rintro e w3 ⟨rfl, hb3⟩
    have HB3 := Lib.hid (HB2.out.trans (hb3.mono HB2.out.size))
    clear hb3
    go_wp2
    go_ret
    exact ⟨by simp, HB3.out⟩
end Go.Proofs.Ytgefbagojghmeaa
