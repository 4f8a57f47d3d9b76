/-
  The law IsolateStable: the balanced form is balanced, stays, and has the same bare form; a balanced string stays.
-/
import Derived.Test.YtgefbagojghmeaaDoorRb6
import Derived.Test.YtgefbagojghmeaaDoorIsP
import Derived.Test.YtgefbagojghmeaaDoorCut
namespace Go.Proofs.YtgefbagojghmeaaDoor
open Go.RowKit

theorem balS_size (s : ByteArray) : (balS s).size ≤ 4 * s.size + 32 := by
  have h1 := encS_size (bal (ints (U8.els s.data.toList)))
  have h2 := bal_len (ints (U8.els s.data.toList))
  have h3 := U8.els_len s.data.toList
  rw [U8.size_len] at h3
  have h4 : (ints (U8.els s.data.toList)).length = (U8.els s.data.toList).length := by unfold ints; rw [List.length_map]
  unfold balS
  omega
set_option maxRecDepth 100000 in
set_option maxHeartbeats 1000000 in
theorem law_IsolateStable (s : ByteArray) (hs : s.size ≤ maxLen) (w : World) (hT : Tabs w) : Calls Tryd.prog 5 #[.string s] w (TrueP w) := by
  unfold maxLen at hs
  have HT := Lib.hid hT
  clear hT
  by_cases hl : 300 < s.size
  · go_enter Tryd.func5, Tryd.ntmps5
    go_wp2_with fail
    refine (awake24_any _).mono ?_
    rintro e w1 ⟨rfl, hb1⟩
    have HB1 := Lib.hid hb1
    clear hb1
    go_wp2_with fail
    refine (awake24_any _).mono ?_
    rintro e w2 ⟨rfl, hb2⟩
    have HB2 := Lib.hid (HB1.out.trans (hb2.mono HB1.out.size))
    clear hb2
    go_wp2
    go_ret
    exact ⟨rfl, HB2.out⟩
  · have hz := balS_size s
    have h1 := balance_any s (by omega)
    have h2 := fun W h => balanced_any (balS s) (by omega) W h
    have h3 := refbalanced_any (balS s) (by omega)
    have h4 := balance_any (balS s) (by omega)
    have h5 := strip_any (balS s) (by omega)
    have h6 := strip_any s (by omega)
    have h7 := fun W h => balanced_any s (by omega) W h
    unfold BalancedP at h2 h3 h7
    unfold BalanceP at h1 h4
    unfold StripP at h5 h6
    have hst := balS_self s
    have h2' : ∀ W, Tabs W → Calls Tryd.prog 9 #[.string (balS s)] W fun e w' => e = .returned (.bool true) ∧ Below W.heap.size W w' := fun W h => by have := h2 W h; rw [balS_ok] at this; exact this
    rw [balS_ok] at h3
    rw [els_balS] at h5 h4
    rw [bal_bal] at h4
    rw [strip_bal] at h5
    have e0 : encS (bal (ints (U8.els s.data.toList))) = balS s := rfl
    rw [e0] at h1 h4
    obtain ⟨t, ht⟩ : ∃ t, balS s = t := ⟨_, rfl⟩
    obtain ⟨u, hu⟩ : ∃ u, encS (stripL (ints (U8.els s.data.toList))) = u := ⟨_, rfl⟩
    obtain ⟨b, hb⟩ : ∃ b, balB s = b := ⟨_, rfl⟩
    simp only [ht] at h1 h2' h3 h4 h5 hst
    rw [hu] at h5 h6
    simp only [hb] at h7 hst
    have hve : (t.toList == s.toList) = b := by
      rw [same_bytes, Bool.eq_iff_iff, decide_eq_true_eq]
      exact hst
    have H1 := Lib.hid h1
    have H2 := Lib.hid h2'
    have H3 := Lib.hid h3
    have H4 := Lib.hid h4
    have H5 := Lib.hid h5
    have H6 := Lib.hid h6
    have H7 := Lib.hid h7
    have HVE := Lib.hid hve
    clear h1 h2 h2' h3 h4 h5 h6 h7 hst hve hb hu ht e0 hz
    go_enter Tryd.func5, Tryd.ntmps5
    go_wp2_with fail
    refine (awake24_any _).mono ?_
    rintro e w1 ⟨rfl, hb1⟩
    have HB1 := Lib.hid hb1
    clear hb1
    go_wp2_with fail
    refine (H1.out _).mono ?_
    rintro e w2 ⟨rfl, hb2⟩
    have HB2 := Lib.hid (HB1.out.trans (hb2.mono HB1.out.size))
    clear hb2
    go_wp2_with fail
    refine (H2.out _ (HT.out.below HB2.out)).mono ?_
    rintro e w3 ⟨rfl, hb3⟩
    have HB3 := Lib.hid (HB2.out.trans (hb3.mono HB2.out.size))
    clear hb3
    go_wp2_with fail
    refine (H3.out _).mono ?_
    rintro e w4 ⟨rfl, hb4⟩
    have HB4 := Lib.hid (HB3.out.trans (hb4.mono HB3.out.size))
    clear hb4
    go_wp2_with fail
    refine (H4.out _).mono ?_
    rintro e w5 ⟨rfl, hb5⟩
    have HB5 := Lib.hid (HB4.out.trans (hb5.mono HB4.out.size))
    clear hb5
    go_wp2_with fail
    refine (H5.out _).mono ?_
    rintro e w6 ⟨rfl, hb6⟩
    have HB6 := Lib.hid (HB5.out.trans (hb6.mono HB5.out.size))
    clear hb6
    go_wp2_with fail
    refine (H6.out _).mono ?_
    rintro e w7 ⟨rfl, hb7⟩
    have HB7 := Lib.hid (HB6.out.trans (hb7.mono HB6.out.size))
    clear hb7
    go_wp2_with fail
    refine (H7.out _ (HT.out.below HB7.out)).mono ?_
    rintro e w8 ⟨rfl, hb8⟩
    have HB8 := Lib.hid (HB7.out.trans (hb8.mono HB7.out.size))
    clear hb8
    go_wp2
    go_ret
    exact ⟨by simp [HVE.out], HB8.out⟩
end Go.Proofs.YtgefbagojghmeaaDoor
