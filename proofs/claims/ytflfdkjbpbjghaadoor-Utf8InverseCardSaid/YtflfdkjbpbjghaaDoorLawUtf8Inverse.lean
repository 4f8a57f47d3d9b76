/-
  The law Utf8Inverse: the encoding of a string's elements is the string exactly if the string is valid.
-/
import Derived.Test.YtflfdkjbpbjghaaDoorU8W16
import Derived.Test.YtflfdkjbpbjghaaDoorU8W17
import Derived.Test.YtflfdkjbpbjghaaDoorU8W9
namespace Go.Proofs.YtflfdkjbpbjghaaDoor
open Go.RowKit

set_option maxRecDepth 100000 in
set_option maxHeartbeats 1000000 in
theorem law_Utf8Inverse (s : ByteArray) (hs : s.size ≤ maxLen) (w : World) (hT : Tabs w) : Calls Tryd.prog 6 #[.string s] w (TrueP w) := by
  unfold maxLen at hs
  have HT := Lib.hid hT
  clear hT
  by_cases hl : 300 < s.size
  · go_enter Tryd.func6, Tryd.ntmps6
    go_wp2_with fail
    refine (awake_any _).mono ?_
    rintro e w1 ⟨rfl, hb1⟩
    have HB1 := Lib.hid hb1
    clear hb1
    go_wp2_with fail
    refine (awake_any _).mono ?_
    rintro e w2 ⟨rfl, hb2⟩
    have HB2 := Lib.hid (HB1.out.trans (hb2.mono HB1.out.size))
    clear hb2
    go_wp2
    go_ret
    exact ⟨rfl, HB2.out⟩
  · have hle := U8.els_len s.data.toList
    rw [U8.size_len] at hle
    have hli : (ints (U8.els s.data.toList)).length ≤ 1000000 := by unfold ints; rw [List.length_map]; omega
    have hd := decode_any s (by omega)
    have hv := fun W => valid_any s (by omega) W
    have hve := valid_eq s
    unfold DecP at hd
    unfold ValP at hv
    obtain ⟨b, hb⟩ : ∃ b, Lib.validD s.data.toList = b := ⟨_, rfl⟩
    obtain ⟨xs, hxs⟩ : ∃ xs, ints (U8.els s.data.toList) = xs := ⟨_, rfl⟩
    have hv' : ∀ W, Tabs W → Calls Tryd.prog 11 #[.string s] W fun e w' => e = .returned (.bool b) ∧ Below W.heap.size W w' := fun W h => by have := hv W h; rw [hb] at this; exact this
    rw [hxs] at hd hli hve
    rw [hb] at hve
    have he := fun v w h => encode_any v xs hli w h
    unfold EncodeP at he
    obtain ⟨t, ht⟩ : ∃ t, encS xs = t := ⟨_, rfl⟩
    rw [ht] at hve
    have he' : ∀ v w, IsInts w w.heap.size v xs → Calls Tryd.prog 15 #[v] w fun e w' => e = .returned (.string t) ∧ Below w.heap.size w w' := fun v w h => by have := he v w h; rw [ht] at this; exact this
    have HD := Lib.hid hd
    have HV := Lib.hid hv'
    have HE := Lib.hid he'
    have HVE := Lib.hid hve
    clear hd hv hv' he he' hve hb hxs ht hli
    go_enter Tryd.func6, Tryd.ntmps6
    go_wp2_with fail
    refine (awake_any _).mono ?_
    rintro e w1 ⟨rfl, hb1⟩
    have HB1 := Lib.hid hb1
    clear hb1
    go_wp2_with fail
    refine (HD.out _).mono ?_
    rintro e w2 ⟨v, rfl, ho2, hb2⟩
    have HI2 := Lib.hid (IsInts.of_own ho2)
    have HB2 := Lib.hid (HB1.out.trans (hb2.mono HB1.out.size))
    clear hb2 ho2
    go_wp2_with fail
    refine (HE.out _ _ HI2.out).mono ?_
    rintro e w3 ⟨rfl, hb3⟩
    have HB3 := Lib.hid (HB2.out.trans (hb3.mono HB2.out.size))
    clear hb3
    go_wp2_with fail
    refine (HV.out _ (HT.out.below HB3.out)).mono ?_
    rintro e w4 ⟨rfl, hb4⟩
    have HB4 := Lib.hid (HB3.out.trans (hb4.mono HB3.out.size))
    clear hb4
    go_wp2
    go_ret
    exact ⟨by simp [HVE.out], HB4.out⟩
end Go.Proofs.YtflfdkjbpbjghaaDoor
