/-
  The law Utf8Joins: the elements of a valid string and any other one, one after the other, are those of both.
-/
import Derived.Test.YtflfdkjbpbjghaaDoorU8W16
import Derived.Test.YtflfdkjbpbjghaaDoorU8App
import Derived.Test.YtflfdkjbpbjghaaDoorU8W9
namespace Go.Proofs.YtflfdkjbpbjghaaDoor
open Go.RowKit

theorem one_ints (xs : List Int) : ∀ y ∈ xs.map (Value.int .i64), y.oneCell' = true := by
  intro y hy
  obtain ⟨x, _, rfl⟩ := List.mem_map.1 hy
  rfl
theorem data_app (a b : ByteArray) : (a ++ b).data.toList = a.data.toList ++ b.data.toList := by
  rw [ByteArray.data_append]; simp
theorem size_app (a b : ByteArray) : (a ++ b).size = a.size + b.size := by
  rw [← U8.size_len, data_app, List.length_append, U8.size_len, U8.size_len]
theorem ints_len (s : ByteArray) : (ints (U8.els s.data.toList)).length ≤ s.size := by
  have hle := U8.els_len s.data.toList
  rw [U8.size_len] at hle
  unfold ints
  rwa [List.length_map]

set_option maxRecDepth 100000 in
set_option maxHeartbeats 2000000 in
theorem law_Utf8Joins (s t : ByteArray) (hs : s.size ≤ maxLen) (ht : t.size ≤ maxLen) (w : World) (hT : Tabs w) : Calls Tryd.prog 3 #[.string s, .string t] w (TrueP w) := by
  unfold maxLen at hs ht
  have HT := Lib.hid hT
  clear hT
  by_cases hl : 300 < s.size
  · go_enter Tryd.func3, Tryd.ntmps3
    go_wp2_with fail
    refine (awake_any _).mono ?_
    rintro e w1 ⟨rfl, hb1⟩
    have HB1 := Lib.hid hb1
    clear hb1
    go_wp2_with fail
    refine (awake_any _).mono ?_
    rintro e w2 ⟨rfl, hb2⟩
    have HB2 := Lib.hid (HB1.out.trans (hb2.mono HB1.out.size))
    clear hb2
    go_wp2
    go_ret
    exact ⟨rfl, HB2.out⟩
  by_cases hl2 : 300 < t.size
  · go_enter Tryd.func3, Tryd.ntmps3
    go_wp2_with fail
    refine (awake_any _).mono ?_
    rintro e w1 ⟨rfl, hb1⟩
    have HB1 := Lib.hid hb1
    clear hb1
    go_wp2_with fail
    refine (awake_any _).mono ?_
    rintro e w2 ⟨rfl, hb2⟩
    have HB2 := Lib.hid (HB1.out.trans (hb2.mono HB1.out.size))
    clear hb2
    go_wp2
    go_ret
    exact ⟨rfl, HB2.out⟩
  have hv := refvalid_any s (by omega)
  unfold ValP at hv
  by_cases hval : Lib.validD s.data.toList = true
  · rw [hval] at hv
    obtain ⟨i0, hi, hz0, hz1, hz2⟩ := info_parts Tryd.infoInt
    have hap := U8.els_append _ s.data.toList t.data.toList (Nat.le_refl _) hval
    have ha : (s ++ t).size ≤ 600 := by rw [size_app]; omega
    have hd1 := decode_any (s ++ t) (by omega)
    have hd2 := decode_any s (by omega)
    have hd3 := decode_any t (by omega)
    have hv2 := fun W => valid_any (s ++ t) (by omega) W
    have hv3 := fun W => valid_any t (by omega) W
    have l1 := ints_len s
    have l2 := ints_len t
    unfold DecP at hd1 hd2 hd3
    unfold ValP at hv2 hv3
    rw [data_app, hap.2] at hv2
    rw [data_app, hap.1] at hd1
    have hia : ints (U8.els s.data.toList ++ U8.els t.data.toList) = ints (U8.els s.data.toList) ++ ints (U8.els t.data.toList) := by simp [ints]
    rw [hia] at hd1
    obtain ⟨b, hb⟩ : ∃ b, Lib.validD t.data.toList = b := ⟨_, rfl⟩
    rw [hb] at hv2 hv3
    obtain ⟨xs, hxs⟩ : ∃ xs, ints (U8.els s.data.toList) = xs := ⟨_, rfl⟩
    obtain ⟨ys, hys⟩ : ∃ ys, ints (U8.els t.data.toList) = ys := ⟨_, rfl⟩
    rw [hxs, hys] at hd1
    rw [hxs] at hd2 l1
    rw [hys] at hd3 l2
    have HV := Lib.hid hv
    have HD1 := Lib.hid hd1
    have HD2 := Lib.hid hd2
    have HD3 := Lib.hid hd3
    have HV2 := Lib.hid hv2
    have HV3 := Lib.hid hv3
    have hsz : (s ++ t).size = s.size + t.size := size_app s t
    clear hv hd1 hd2 hd3 hv2 hv3 hia hb hxs hys hap hval hsz
    go_enter Tryd.func3, Tryd.ntmps3
    go_wp2_with fail
    refine (awake_any _).mono ?_
    rintro e w1 ⟨rfl, hb1⟩
    have HB1 := Lib.hid hb1
    clear hb1
    go_wp2_with fail
    refine (HV.out _).mono ?_
    rintro e w2 ⟨rfl, hb2⟩
    have HB2 := Lib.hid (HB1.out.trans (hb2.mono HB1.out.size))
    clear hb2
    go_wp2_with fail
    refine (HD1.out _).mono ?_
    rintro e w3 ⟨v1, rfl, ho1, hb3⟩
    have HO1 := Lib.hid ho1
    have HB3 := Lib.hid (HB2.out.trans (hb3.mono HB2.out.size))
    clear hb3 ho1
    go_wp2_with fail
    refine (HD2.out _).mono ?_
    rintro e w4 ⟨v2, rfl, ho2, hb4⟩
    have hd0 := own_below (World.ownsRow_lit (base := w3.heap.size) (e := 3) (size := 1) w3 #[] 0 (Nat.le_refl _) (by decide) rfl) hb4
    have HO1' := Lib.hid (own_below (HO1.out.alloc _) hb4)
    have z3 := HB3.out.size
    have hb4' : Below w3.heap.size w3 w4 := ((Below.refl _ w3).alloc (Nat.le_refl _) _).trans (hb4.mono (by simp))
    have HB4 := Lib.hid (HB3.out.trans (hb4'.mono z3))
    have z4 := hb4'.size
    clear hb4 hb4'
    go_wp2_with (at_builtin; refine append_own2 rfl _ _ 25 rfl w3.heap.size 3 i0 (.int .i64 0) 1 8 Tryd.underlying25 hi hz0 hz1 hz2 rfl (by decide) _ _ _ rfl hd0 _ _ _ _ rfl ho2 (one_ints _) (by unfold maxLen; omega) (by omega) z4 ?_; intro v3 w5 hown5 hgrow5)
    have hg5 : w4.grownBy w5 (some w3.heap.size) := hgrow5
    have hne1 : v1.ownBlock ≠ some w3.heap.size := fun e => by have := (HO1.out.lt _ e).2; omega
    have HO5 := Lib.hid (HO1'.out.kept hg5 (.inr hne1))
    have hb5 := HB4.out.grown hg5 (by omega) (fun k e => by cases e; exact z3)
    have z5 := hg5.size
    rw [Nat.zero_add, List.nil_append] at hown5
    have HB5 := Lib.hid hb5
    have HN1 := Lib.hid hne1
    clear hgrow5 hg5 hb5 hd0 ho2 hne1
    go_wp2_with fail
    refine (HD3.out _).mono ?_
    rintro e w6 ⟨v4, rfl, ho4, hb6⟩
    have ho3 := own_below hown5 hb6
    have HO6 := Lib.hid (own_below HO5.out hb6)
    have HB6 := Lib.hid (HB5.out.trans (hb6.mono HB5.out.size))
    have z6 := hb6.size
    have HG := Lib.hid (own_ge ho3)
    clear hown5 hb6
    go_wp2_with (at_builtin; refine append_own2 rfl _ _ 25 rfl w3.heap.size 3 i0 (.int .i64 0) 1 8 Tryd.underlying25 hi hz0 hz1 hz2 rfl (by decide) _ _ _ rfl ho3 _ _ _ _ rfl ho4 (one_ints _) (by unfold maxLen; omega) (by omega) (by omega) ?_; intro v5 w7 hown7 hgrow7)
    have hg7 : w6.grownBy w7 v3.ownBlock := hgrow7
    have hne7 : v1.ownBlock ≠ v3.ownBlock ∨ v1.ownBlock = none := by
      cases hv : v1.ownBlock with
      | none => exact .inr rfl
      | some k =>
        refine .inl fun e => ?_
        have h1 := (HO1.out.lt _ hv).2
        have h2 := HG.out _ e.symm
        omega
    have ho7 : w7.ownsRow w2.heap.size 3 1 v1 _ _ := HO6.out.kept hg7 (hne7.elim .inr .inl)
    have hi1 := IsInts.of_own ho7
    have hown7' : w7.ownsRow w3.heap.size 3 1 v5 (xs ++ ys).length ((xs ++ ys).map (Value.int .i64)) := by simpa using hown7
    have hi5 := IsInts.of_own hown7'
    have HB7 := Lib.hid (HB6.out.grown hg7 (by omega) (fun k e => by have := HG.out k e; omega))
    have HI1 := Lib.hid hi1
    have HI5 := Lib.hid hi5
    have hlen : (xs ++ ys).length ≤ 600 := by rw [List.length_append]; omega
    clear hgrow7 hg7 hne7 ho7 hi1 hi5 hown7 hown7' ho3 ho4
    refine (same_any v1 v5 (xs ++ ys) (xs ++ ys) _ _ _ HI1.out HI5.out (by omega)).mono ?_
    rintro e w8 ⟨rfl, hb8⟩
    have HB8 := Lib.hid (HB7.out.trans (hb8.mono HB7.out.size))
    clear hb8
    rw [decide_eq_true rfl]
    go_wp2_with fail
    refine (HV2.out _ (HT.out.below HB8.out)).mono ?_
    rintro e w9 ⟨rfl, hb9⟩
    have HB9 := Lib.hid (HB8.out.trans (hb9.mono HB8.out.size))
    clear hb9
    go_wp2_with fail
    refine (HV3.out _ (HT.out.below HB9.out)).mono ?_
    rintro e w10 ⟨rfl, hb10⟩
    have HB10 := Lib.hid (HB9.out.trans (hb10.mono HB9.out.size))
    clear hb10
    go_wp2
    go_ret
    exact ⟨by simp, HB10.out⟩
  · have hval0 : Lib.validD s.data.toList = false := by simpa using hval
    rw [hval0] at hv
    have HV := Lib.hid hv
    clear hv hval hval0
    go_enter Tryd.func3, Tryd.ntmps3
    go_wp2_with fail
    refine (awake_any _).mono ?_
    rintro e w1 ⟨rfl, hb1⟩
    have HB1 := Lib.hid hb1
    clear hb1
    go_wp2_with fail
    refine (HV.out _).mono ?_
    rintro e w2 ⟨rfl, hb2⟩
    have HB2 := Lib.hid (HB1.out.trans (hb2.mono HB1.out.size))
    clear hb2
    go_wp2_with fail
    refine (awake_any _).mono ?_
    rintro e w3 ⟨rfl, hb3⟩
    have HB3 := Lib.hid (HB2.out.trans (hb3.mono HB2.out.size))
    clear hb3
    go_wp2
    go_ret
    exact ⟨rfl, HB3.out⟩
end Go.Proofs.YtflfdkjbpbjghaaDoor
