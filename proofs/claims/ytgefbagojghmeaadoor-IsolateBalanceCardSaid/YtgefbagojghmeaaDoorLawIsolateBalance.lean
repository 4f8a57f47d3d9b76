/-
  The law IsolateBalance: Balanced, Balance, Wrap and Strip return what their references return.
-/
import Derived.Test.YtgefbagojghmeaaDoorRb6
namespace Go.Proofs.YtgefbagojghmeaaDoor
open Go.RowKit

set_option maxRecDepth 100000 in
set_option maxHeartbeats 1000000 in
theorem law_IsolateBalance (s : ByteArray) (hs : s.size ≤ maxLen) (w : World) (hT : Tabs w) : Calls Tryd.prog 4 #[.string s] w (TrueP w) := by
  unfold maxLen at hs
  have HT := Lib.hid hT
  clear hT
  by_cases hl : 300 < s.size
  · go_enter Tryd.func4, Tryd.ntmps4
    go_wp2_with fail
    refine (awake24_any _).mono ?_
    rintro e w1 ⟨rfl, hb1⟩
    have HB1 := Lib.hid hb1
    clear hb1
    go_wp2_with fail
    refine (awake24_any _).mono ?_
    rintro e w2 ⟨rfl, hb2⟩
    have HB2 := Lib.hid (HB1.out.trans (hb2.mono HB1.out.size))
    clear hb2
    go_wp2
    go_ret
    exact ⟨rfl, HB2.out⟩
  · have h1 := fun W h => balanced_any s (by omega) W h
    have h2 := refbalanced_any s (by omega)
    have h3 := balance_any s (by omega)
    have h4 := refbalance_any s (by omega)
    have h5 := wrap_any s (by omega)
    have h6 := refwrap_any s (by omega)
    have h7 := strip_any s (by omega)
    have h8 := refstrip_any s (by omega)
    unfold BalancedP at h1 h2
    unfold BalanceP at h3 h4
    unfold WrapP at h5 h6
    unfold StripP at h7 h8
    obtain ⟨b, hb⟩ : ∃ b, balB s = b := ⟨_, rfl⟩
    obtain ⟨xs, hxs⟩ : ∃ xs, ints (U8.els s.data.toList) = xs := ⟨_, rfl⟩
    obtain ⟨t1, ht1⟩ : ∃ t, encS (bal xs) = t := ⟨_, rfl⟩
    obtain ⟨t2, ht2⟩ : ∃ t, encS (wrapL xs) = t := ⟨_, rfl⟩
    obtain ⟨t3, ht3⟩ : ∃ t, encS (stripL xs) = t := ⟨_, rfl⟩
    rw [hxs] at h3 h4 h5 h6 h7 h8
    rw [ht1] at h3 h4
    rw [ht2] at h5 h6
    rw [ht3] at h7 h8
    simp only [hb] at h1 h2
    have H1 := Lib.hid h1
    have H2 := Lib.hid h2
    have H3 := Lib.hid h3
    have H4 := Lib.hid h4
    have H5 := Lib.hid h5
    have H6 := Lib.hid h6
    have H7 := Lib.hid h7
    have H8 := Lib.hid h8
    clear h1 h2 h3 h4 h5 h6 h7 h8 hb hxs ht1 ht2 ht3
    go_enter Tryd.func4, Tryd.ntmps4
    go_wp2_with fail
    refine (awake24_any _).mono ?_
    rintro e w1 ⟨rfl, hb1⟩
    have HB1 := Lib.hid hb1
    clear hb1
    go_wp2_with fail
    refine (H1.out _ (HT.out.below HB1.out)).mono ?_
    rintro e w2 ⟨rfl, hb2⟩
    have HB2 := Lib.hid (HB1.out.trans (hb2.mono HB1.out.size))
    clear hb2
    go_wp2_with fail
    refine (H2.out _).mono ?_
    rintro e w3 ⟨rfl, hb3⟩
    have HB3 := Lib.hid (HB2.out.trans (hb3.mono HB2.out.size))
    clear hb3
    go_wp2_with fail
    refine (H3.out _).mono ?_
    rintro e w4 ⟨rfl, hb4⟩
    have HB4 := Lib.hid (HB3.out.trans (hb4.mono HB3.out.size))
    clear hb4
    go_wp2_with fail
    refine (H4.out _).mono ?_
    rintro e w5 ⟨rfl, hb5⟩
    have HB5 := Lib.hid (HB4.out.trans (hb5.mono HB4.out.size))
    clear hb5
    go_wp2_with fail
    refine (H5.out _).mono ?_
    rintro e w6 ⟨rfl, hb6⟩
    have HB6 := Lib.hid (HB5.out.trans (hb6.mono HB5.out.size))
    clear hb6
    go_wp2_with fail
    refine (H6.out _).mono ?_
    rintro e w7 ⟨rfl, hb7⟩
    have HB7 := Lib.hid (HB6.out.trans (hb7.mono HB6.out.size))
    clear hb7
    go_wp2_with fail
    refine (H7.out _).mono ?_
    rintro e w8 ⟨rfl, hb8⟩
    have HB8 := Lib.hid (HB7.out.trans (hb8.mono HB7.out.size))
    clear hb8
    go_wp2_with fail
    refine (H8.out _).mono ?_
    rintro e w9 ⟨rfl, hb9⟩
    have HB9 := Lib.hid (HB8.out.trans (hb9.mono HB8.out.size))
    clear hb9
    go_wp2
    go_ret
    exact ⟨by simp, HB9.out⟩
end Go.Proofs.YtgefbagojghmeaaDoor
