/-
  The laws BidiLevels and BidiDirection.
-/
import Derived.Test.YtgefbagojghmeaaBi13
import Derived.Test.YtgefbagojghmeaaU8W7
import Derived.Test.YtgefbagojghmeaaIs5
namespace Go.Proofs.Ytgefbagojghmeaa
open Go.RowKit

theorem IsInts.nil (w : World) (B : Nat) : IsInts w B (.slice none 0 0) [] := ⟨none, 0, rfl, fun h => by simp at h⟩
/-- What Levels answers, read as a list. -/
def LvOut (xs : List Int) (rtl : Bool) : List Int := if 30 < mh 0 xs then [] else lev xs (eOf rtl)
def LvErr (xs : List Int) : Int := if 30 < mh 0 xs then 6 else 0
theorem LevelsP.read {xs : List Int} {rtl : Bool} {w w' : World} {e : Ending} (h : LevelsP xs rtl w e w') : ∃ v, e = .returned (.tuple #[v, .int .i64 (LvErr xs)]) ∧ IsInts w' w'.heap.size v (LvOut xs rtl) ∧ Below w.heap.size w w' := by
  obtain ⟨h1, h2⟩ := h
  unfold LvErr LvOut
  rcases h1 with ⟨h3, rfl⟩ | ⟨h3, r, rfl, ho⟩
  · rw [if_pos h3, if_pos h3]
    exact ⟨_, rfl, IsInts.nil _ _, h2⟩
  · rw [if_neg (by omega), if_neg (by omega)]
    exact ⟨_, rfl, IsInts.of_own (by rw [lev_len]; exact ho), h2⟩
theorem levelsR_any (s : ByteArray) (rtl : Bool) (hs : s.size ≤ 400) (w : World) : Calls Try.prog 18 #[.string s, .bool rtl] w fun e w' => ∃ v, e = .returned (.tuple #[v, .int .i64 (LvErr (ints (U8.els s.data.toList)))]) ∧ IsInts w' w'.heap.size v (LvOut (ints (U8.els s.data.toList)) rtl) ∧ Below w.heap.size w w' :=
  (levels_any s rtl hs w).mono fun _ _ h => h.read
theorem reflevelsR_any (s : ByteArray) (rtl : Bool) (hs : s.size ≤ 400) (w : World) : Calls Try.prog 19 #[.string s, .bool rtl] w fun e w' => ∃ v, e = .returned (.tuple #[v, .int .i64 (LvErr (ints (U8.els s.data.toList)))]) ∧ IsInts w' w'.heap.size v (LvOut (ints (U8.els s.data.toList)) rtl) ∧ Below w.heap.size w w' :=
  (reflevels_any s rtl hs w).mono fun _ _ h => h.read

set_option maxRecDepth 100000 in
set_option maxHeartbeats 1000000 in
theorem awake23_any (w : World) : Calls Try.prog 17 #[] w (TrueP w) := by
  have h1 := levelsR_any ⟨#[97, 32, 215, 144, 32, 215, 145, 32, 49]⟩ false (by decide)
  have h2 := levelsR_any ⟨#[215, 144, 32, 49, 32, 97]⟩ true (by decide)
  have e1 : LvErr (ints (U8.els (⟨#[97, 32, 215, 144, 32, 215, 145, 32, 49]⟩ : ByteArray).data.toList)) = 0 := by decide +kernel
  have e2 : LvOut (ints (U8.els (⟨#[97, 32, 215, 144, 32, 215, 145, 32, 49]⟩ : ByteArray).data.toList)) false = [0, 0, 1, 1, 1, 1, 2] := by decide +kernel
  have e3 : LvErr (ints (U8.els (⟨#[215, 144, 32, 49, 32, 97]⟩ : ByteArray).data.toList)) = 0 := by decide +kernel
  have e4 : LvOut (ints (U8.els (⟨#[215, 144, 32, 49, 32, 97]⟩ : ByteArray).data.toList)) true = [1, 1, 2, 1, 2] := by decide +kernel
  rw [e1, e2] at h1
  rw [e3, e4] at h2
  have H1 := Lib.hid h1
  have H2 := Lib.hid h2
  clear h1 h2 e1 e2 e3 e4
  go_enter Try.func17, Try.ntmps17
  go_wp2_with fail
  refine (H1.out _).mono ?_
  rintro e w1 ⟨v, rfl, hi1, hb1⟩
  have HI1 := Lib.hid hi1
  have HB1 := Lib.hid hb1
  clear hi1 hb1
  go_wp2_with fail
  refine (H2.out _).mono ?_
  rintro e w2 ⟨u, rfl, hi2, hb2⟩
  have HI2 := Lib.hid hi2
  have HB2 := Lib.hid hb2
  clear hi2 hb2
  have h3 := same_any v (.slice (some ⟨w2.heap.size, 0, none⟩) 7 7) [0, 0, 1, 1, 1, 1, 2] [0, 0, 1, 1, 1, 1, 2] _ _ (w2.alloc (.cells #[.int .i64 0, .int .i64 0, .int .i64 1, .int .i64 1, .int .i64 1, .int .i64 1, .int .i64 2] 3)) ((HI1.out.below HB2.out).below ((Below.refl _ _).alloc HB2.out.size _)) (IsInts.new w2 3 [0, 0, 1, 1, 1, 1, 2]) (by decide)
  unfold SameP at h3
  have H3 := Lib.hid h3
  clear h3
  go_wp2_with fail
  refine H3.out.mono ?_
  rintro e w3 ⟨rfl, hb3⟩
  have hb23 : Below w2.heap.size w2 w3 := ((Below.refl _ _).alloc (Nat.le_refl _) _).trans (hb3.mono (by simp))
  have h4 := same_any u (.slice (some ⟨w3.heap.size, 0, none⟩) 5 5) [1, 1, 2, 1, 2] [1, 1, 2, 1, 2] _ _ (w3.alloc (.cells #[.int .i64 1, .int .i64 1, .int .i64 2, .int .i64 1, .int .i64 2] 3)) (HI2.out.below (hb23.alloc hb23.size _)) (IsInts.new _ 3 [1, 1, 2, 1, 2]) (by decide)
  unfold SameP at h4
  have H4 := Lib.hid h4
  have HB3 := Lib.hid hb23
  clear h4 hb3 hb23
  go_wp2_with fail
  refine H4.out.mono ?_
  rintro e w4 ⟨rfl, hb4⟩
  have HB4 := Lib.hid hb4
  clear hb4
  go_wp2
  go_ret
  refine ⟨rfl, ?_⟩
  exact HB1.out.trans ((HB2.out.mono HB1.out.size).trans ((HB3.out.mono (Nat.le_trans HB1.out.size HB2.out.size)).trans (((Below.refl _ _).alloc (Nat.le_trans HB1.out.size (Nat.le_trans HB2.out.size HB3.out.size)) _).trans (HB4.out.mono (by have := HB1.out.size; have := HB2.out.size; have := HB3.out.size; simp; omega)))))

set_option maxRecDepth 100000 in
set_option maxHeartbeats 1000000 in
theorem law_BidiLevels (s : ByteArray) (rtl : Bool) (hs : s.size ≤ maxLen) (w : World) : Calls Try.prog 4 #[.string s, .bool rtl] w (TrueP w) := by
  unfold maxLen at hs
  by_cases hl : 200 < s.size
  · go_enter Try.func4, Try.ntmps4
    go_wp2_with fail
    refine (awake23_any _).mono ?_
    rintro e w1 ⟨rfl, hb1⟩
    have HB1 := Lib.hid hb1
    clear hb1
    go_wp2_with fail
    refine (awake23_any _).mono ?_
    rintro e w2 ⟨rfl, hb2⟩
    have HB2 := Lib.hid (HB1.out.trans (hb2.mono HB1.out.size))
    clear hb2
    go_wp2
    go_ret
    exact ⟨rfl, HB2.out⟩
  · have h1 := levelsR_any s rtl (by omega)
    have h2 := reflevelsR_any s rtl (by omega)
    have hll : (LvOut (ints (U8.els s.data.toList)) rtl).length ≤ 4611686018427387904 := by
      have hle := U8.els_len s.data.toList
      rw [U8.size_len] at hle
      have hli : (ints (U8.els s.data.toList)).length ≤ 400 := by unfold ints; rw [List.length_map]; omega
      unfold LvOut
      split
      · simp
      · rw [lev_len]; omega
    obtain ⟨L, hL⟩ : ∃ L, LvOut (ints (U8.els s.data.toList)) rtl = L := ⟨_, rfl⟩
    obtain ⟨E, hE⟩ : ∃ E, LvErr (ints (U8.els s.data.toList)) = E := ⟨_, rfl⟩
    rw [hL, hE] at h1 h2
    rw [hL] at hll
    have H1 := Lib.hid h1
    have H2 := Lib.hid h2
    clear h1 h2 hL hE
    go_enter Try.func4, Try.ntmps4
    go_wp2_with fail
    refine (awake23_any _).mono ?_
    rintro e w1 ⟨rfl, hb1⟩
    have HB1 := Lib.hid hb1
    clear hb1
    go_wp2_with fail
    refine (H1.out _).mono ?_
    rintro e w2 ⟨v, rfl, hi2, hb2⟩
    have HI2 := Lib.hid hi2
    have HB2 := Lib.hid hb2
    clear hi2 hb2
    go_wp2_with fail
    refine (H2.out _).mono ?_
    rintro e w3 ⟨u, rfl, hi3, hb3⟩
    have h3 := same_any v u L L _ _ w3 (HI2.out.below hb3) hi3 hll
    unfold SameP at h3
    have HS := Lib.hid h3
    have HB3 := Lib.hid hb3
    clear h3 hi3 hb3
    go_wp2_with fail
    refine HS.out.mono ?_
    rintro e w4 ⟨rfl, hb4⟩
    have HB4 := Lib.hid hb4
    clear hb4
    go_wp2
    go_ret
    refine ⟨by simp, ?_⟩
    exact HB1.out.trans ((HB2.out.mono HB1.out.size).trans ((HB3.out.mono (Nat.le_trans HB1.out.size HB2.out.size)).trans (HB4.out.mono (Nat.le_trans HB1.out.size (Nat.le_trans HB2.out.size HB3.out.size)))))

set_option maxRecDepth 100000 in
set_option maxHeartbeats 1000000 in
theorem law_BidiDirection (s : ByteArray) (hs : s.size ≤ maxLen) (w : World) : Calls Try.prog 6 #[.string s] w (TrueP w) := by
  unfold maxLen at hs
  by_cases hl : 200 < s.size
  · go_enter Try.func6, Try.ntmps6
    go_wp2_with fail
    refine (awake23_any _).mono ?_
    rintro e w1 ⟨rfl, hb1⟩
    have HB1 := Lib.hid hb1
    clear hb1
    go_wp2_with fail
    refine (awake23_any _).mono ?_
    rintro e w2 ⟨rfl, hb2⟩
    have HB2 := Lib.hid (HB1.out.trans (hb2.mono HB1.out.size))
    clear hb2
    go_wp2
    go_ret
    exact ⟨rfl, HB2.out⟩
  · have h1 := direction_any s (by omega)
    have h2 := refdirection_any s (by omega)
    have h3 := depth_any s (by omega)
    have h4 := refdepth_any s (by omega)
    unfold DepthP at h3
    unfold RDepthP at h4
    rw [rdRun_mh] at h3
    obtain ⟨D, hD⟩ : ∃ D, dirV (ints (U8.els s.data.toList)) 0 (ints (U8.els s.data.toList)).length = D := ⟨_, rfl⟩
    obtain ⟨E, hE⟩ : ∃ E, mh 0 (ints (U8.els s.data.toList)) = E := ⟨_, rfl⟩
    rw [hD] at h1 h2
    rw [hE] at h3 h4
    have H1 := Lib.hid h1
    have H2 := Lib.hid h2
    have H3 := Lib.hid h3
    have H4 := Lib.hid h4
    clear h1 h2 h3 h4 hD hE
    go_enter Try.func6, Try.ntmps6
    go_wp2_with fail
    refine (awake23_any _).mono ?_
    rintro e w1 ⟨rfl, hb1⟩
    have HB1 := Lib.hid hb1
    clear hb1
    go_wp2_with fail
    refine (H1.out _).mono ?_
    rintro e w2 ⟨rfl, hb2⟩
    have HB2 := Lib.hid (HB1.out.trans (hb2.mono HB1.out.size))
    clear hb2
    go_wp2_with fail
    refine (H2.out _).mono ?_
    rintro e w3 ⟨rfl, hb3⟩
    have HB3 := Lib.hid (HB2.out.trans (hb3.mono HB2.out.size))
    clear hb3
    go_wp2_with fail
    refine (H3.out _).mono ?_
    rintro e w4 ⟨rfl, hb4⟩
    have HB4 := Lib.hid (HB3.out.trans (hb4.mono HB3.out.size))
    clear hb4
    go_wp2_with fail
    refine (H4.out _).mono ?_
    rintro e w5 ⟨rfl, hb5⟩
    have HB5 := Lib.hid (HB4.out.trans (hb5.mono HB4.out.size))
    clear hb5
    go_wp2
    go_ret
    exact ⟨by simp, HB5.out⟩
end Go.Proofs.Ytgefbagojghmeaa
