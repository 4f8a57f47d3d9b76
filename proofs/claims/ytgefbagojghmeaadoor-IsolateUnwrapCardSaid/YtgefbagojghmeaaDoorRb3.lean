/-
  calqueref24.Balanced, Strip and Balance.
-/
import Derived.Test.YtgefbagojghmeaaDoorRb2
namespace Go.Proofs.YtgefbagojghmeaaDoor
open Go.RowKit

set_option maxRecDepth 100000 in
set_option maxHeartbeats 1000000 in
theorem refbalanced_any (s : ByteArray) (hs : s.size ≤ 10000) (w : World) : Calls Tryd.prog 12 #[.string s] w (BalancedP s w) := by
  have hv := refvalid_any s (by omega)
  have hm := matched_any s hs
  have hd := refdepth_any s hs
  unfold ValP at hv
  unfold MatchedP at hm
  unfold RDepthP at hd
  unfold BalancedP balB
  obtain ⟨xs, hxs⟩ : ∃ xs, ints (U8.els s.data.toList) = xs := ⟨_, rfl⟩
  rw [hxs] at hd hm
  rw [hxs]
  obtain ⟨bv, hbv⟩ : ∃ b, Lib.validD s.data.toList = b := ⟨_, rfl⟩
  obtain ⟨R, hR⟩ : ∃ R, cnt 0 xs = R := ⟨_, rfl⟩
  obtain ⟨D, hD⟩ : ∃ D, mh 0 xs = D := ⟨_, rfl⟩
  rw [hbv] at hv
  rw [hR] at hm
  rw [hD] at hd
  rw [hbv, hR, hD]
  have HV := Lib.hid hv
  have HM := Lib.hid hm
  have HD := Lib.hid hd
  clear hv hm hd hbv hR hD hxs
  go_enter Tryd.func12, Tryd.ntmps12
  go_wp2_with fail
  refine (HV.out _).mono ?_
  rintro e w1 ⟨rfl, hb1⟩
  have HB1 := Lib.hid hb1
  clear hb1
  cases bv
  · go_wp2
    go_ret
    exact ⟨ret_bool (by simp), HB1.out⟩
  · go_wp2_with fail
    refine (HM.out _).mono ?_
    rintro e w2 ⟨rfl, hb2⟩
    have HB2 := Lib.hid (HB1.out.trans (hb2.mono HB1.out.size))
    clear hb2
    cases R
    · go_wp2
      go_ret
      exact ⟨rfl, HB2.out⟩
    · go_wp2_with fail
      refine (HD.out _).mono ?_
      rintro e w3 ⟨rfl, hb3⟩
      have HB3 := Lib.hid (HB2.out.trans (hb3.mono HB2.out.size))
      clear hb3
      go_wp2
      go_ret
      refine ⟨ret_bool ?_, HB3.out⟩
      by_cases h8 : D ≤ 8 <;> simp [h8] <;> omega
end Go.Proofs.YtgefbagojghmeaaDoor
