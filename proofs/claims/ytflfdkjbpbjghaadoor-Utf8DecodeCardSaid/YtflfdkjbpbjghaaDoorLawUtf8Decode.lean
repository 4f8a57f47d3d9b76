/-
  The law Utf8Decode: Decode, Count and Valid return what their references return.
-/
import Derived.Test.YtflfdkjbpbjghaaDoorU8W16
import Derived.Test.YtflfdkjbpbjghaaDoorU8Cnt
import Derived.Test.YtflfdkjbpbjghaaDoorU8W9
namespace Go.Proofs.YtflfdkjbpbjghaaDoor
open Go.RowKit

set_option maxRecDepth 100000 in
set_option maxHeartbeats 1000000 in
theorem law_Utf8Decode (s : ByteArray) (hs : s.size ≤ maxLen) (w : World) (hT : Tabs w) : Calls Tryd.prog 4 #[.string s] w (TrueP w) := by
  unfold maxLen at hs
  have HT := Lib.hid hT
  clear hT
  by_cases hl : 300 < s.size
  · go_enter Tryd.func4, Tryd.ntmps4
    go_wp2_with fail
    refine (awake_any _).mono ?_
    rintro e w1 ⟨rfl, hb1⟩
    have HB1 := Lib.hid hb1
    clear hb1
    go_wp2_with fail
    refine (awake_any _).mono ?_
    rintro e w2 ⟨rfl, hb2⟩
    have HB2 := Lib.hid (HB1.out.trans (hb2.mono HB1.out.size))
    clear hb2
    go_wp2
    go_ret
    exact ⟨rfl, HB2.out⟩
  · have hle := U8.els_len s.data.toList
    rw [U8.size_len] at hle
    have hli : (ints (U8.els s.data.toList)).length = (U8.els s.data.toList).length := by unfold ints; rw [List.length_map]
    have hcnt := count_any s (by omega)
    have hd1 := refdecode_any s (by omega)
    have hd2 := decode_any s (by omega)
    have hv1 := fun W => valid_any s (by omega) W
    have hv2 := refvalid_any s (by omega)
    unfold CntP at hcnt
    unfold DecP at hd1 hd2
    unfold ValP at hv1 hv2
    obtain ⟨b, hb⟩ : ∃ b, Lib.validD s.data.toList = b := ⟨_, rfl⟩
    rw [hb] at hv2
    have hv1' : ∀ W, Tabs W → Calls Tryd.prog 11 #[.string s] W fun e w' => e = .returned (.bool b) ∧ Below W.heap.size W w' := fun W h => by have := hv1 W h; rw [hb] at this; exact this
    obtain ⟨xs, hxs⟩ : ∃ xs, ints (U8.els s.data.toList) = xs := ⟨_, rfl⟩
    rw [hxs] at hli hd1 hd2
    rw [← hli] at hcnt hle
    have HC := Lib.hid hcnt
    have HD1 := Lib.hid hd1
    have HD2 := Lib.hid hd2
    have HV1 := Lib.hid hv1'
    have HV2 := Lib.hid hv2
    clear hcnt hd1 hd2 hv1 hv1' hv2 hb hxs hli
    go_enter Tryd.func4, Tryd.ntmps4
    go_wp2_with fail
    refine (awake_any _).mono ?_
    rintro e w1 ⟨rfl, hb1⟩
    have HB1 := Lib.hid hb1
    clear hb1
    go_wp2_with fail
    refine (HD1.out _).mono ?_
    rintro e w2 ⟨v, rfl, ho2, hb2⟩
    have HI2 := Lib.hid (IsInts.of_own ho2)
    have HB2 := Lib.hid (HB1.out.trans (hb2.mono HB1.out.size))
    clear hb2 ho2
    go_wp2_with fail
    refine (HD2.out _).mono ?_
    rintro e w3 ⟨u, rfl, ho3, hb3⟩
    have HI3 := Lib.hid (IsInts.of_own ho3)
    have HI2' := Lib.hid (HI2.out.below hb3)
    have HB3 := Lib.hid (HB2.out.trans (hb3.mono HB2.out.size))
    clear hb3 ho3
    go_wp2_with fail
    refine (same_any u v xs xs _ _ _ HI3.out HI2'.out (by omega)).mono ?_
    rintro e w4 ⟨rfl, hb4⟩
    have HB4 := Lib.hid (HB3.out.trans (hb4.mono HB3.out.size))
    clear hb4
    rw [decide_eq_true rfl]
    obtain ⟨ao, ca, rfl, _⟩ := HI2.out
    go_wp2_with fail
    refine (HC.out _).mono ?_
    rintro e w5 ⟨rfl, hb5⟩
    have HB5 := Lib.hid (HB4.out.trans (hb5.mono HB4.out.size))
    clear hb5
    go_wp2_with fail
    refine (HV1.out _ (HT.out.below HB5.out)).mono ?_
    rintro e w6 ⟨rfl, hb6⟩
    have HB6 := Lib.hid (HB5.out.trans (hb6.mono HB5.out.size))
    clear hb6
    go_wp2_with fail
    refine (HV2.out _).mono ?_
    rintro e w7 ⟨rfl, hb7⟩
    have HB7 := Lib.hid (HB6.out.trans (hb7.mono HB6.out.size))
    clear hb7
    go_wp2
    go_ret
    exact ⟨by simp, HB7.out⟩
end Go.Proofs.YtflfdkjbpbjghaaDoor
