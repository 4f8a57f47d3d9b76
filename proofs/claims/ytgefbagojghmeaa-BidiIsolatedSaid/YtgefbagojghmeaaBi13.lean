/-
  bidi.Levels, bidi.Direction, and calqueref23.Levels.
-/
import Derived.Test.YtgefbagojghmeaaBi11
import Derived.Test.YtgefbagojghmeaaBi9
namespace Go.Proofs.Ytgefbagojghmeaa
open Go.RowKit

def eOf (rtl : Bool) : Int := if rtl then 1 else 0
def LevelsP (xs : List Int) (rtl : Bool) (w : World) (e : Ending) (w' : World) : Prop :=
  ((30 < mh 0 xs ∧ e = .returned (.tuple #[.slice none 0 0, .int .i64 6])) ∨ (mh 0 xs ≤ 30 ∧ ∃ r, e = .returned (.tuple #[r, .int .i64 0]) ∧ w'.ownsRow w.heap.size 3 1 r xs.length ((lev xs (eOf rtl)).map (Value.int .i64)))) ∧ Below w.heap.size w w'

set_option maxRecDepth 100000 in
set_option maxHeartbeats 1000000 in
theorem levelsE_any (s : ByteArray) (rtl : Bool) (hs : s.size ≤ 10000) (hli : (ints (U8.els s.data.toList)).length ≤ 400) (w : World) : Calls Try.prog 18 #[.string s, .bool rtl] w (LevelsP (ints (U8.els s.data.toList)) rtl w) := by
  have hr := read_any s (by omega)
  obtain ⟨xs, hxs⟩ : ∃ xs, ints (U8.els s.data.toList) = xs := ⟨_, rfl⟩
  rw [hxs] at hr hli
  rw [hxs]
  have HR := Lib.hid hr
  clear hr hxs
  unfold LevelsP
  have hmh := rdRun_mh xs.length xs
  obtain ⟨D, hD⟩ : ∃ D : Nat, mh 0 xs = D := ⟨_, rfl⟩
  rw [hD] at hmh
  rw [hD]
  clear hD
  have HMH := Lib.hid hmh
  clear hmh
  go_enter Try.func18, Try.ntmps18
  go_wp2_with fail
  refine (HR.out _).mono ?_
  rintro e w1 ⟨v, rfl, htx, hb1⟩
  have htl := fun W (h : Below w1.heap.size w1 W) => tlevels_any v xs w1.heap.size rtl W (by obtain ⟨lv, ev, q1, q2, q3⟩ := htx; exact ⟨lv, ev, q1, q2.below h, q3.below h⟩) h.size hli
  obtain ⟨lv, ev, rfl, ⟨ao, ca, rfl, hl⟩, ⟨aoe, cae, rfl, he⟩⟩ := htx
  rw [HMH.out] at htl
  rw [HMH.out]
  have htl2 := htl (w1.alloc (.cells #[.slice ao xs.length ca, .slice aoe (rdRun xs.length xs).1.length cae, .int .i64 D] 49)) ((Below.refl _ _).alloc (Nat.le_refl _) _)
  have HTL := Lib.hid htl2
  have HB1 := Lib.hid hb1
  clear htl htl2 hl he hb1
  by_cases h30 : 30 < D
  · go_wp2
    go_ret2
    exact ⟨.inl ⟨h30, rfl⟩, HB1.out.alloc HB1.out.size _⟩
  · go_wp2_with fail
    refine HTL.out.mono ?_
    rintro e w2 ⟨r, rfl, hown, hb2⟩
    have HO := Lib.hid hown
    have HB2 := Lib.hid hb2
    clear hown hb2
    go_wp2
    go_ret2
    refine ⟨.inr ⟨by omega, _, rfl, own_lower HO.out (by have := HB1.out.size; simp; omega)⟩, ?_⟩
    exact (HB1.out.alloc HB1.out.size _).trans (HB2.out.mono (by have := HB1.out.size; simp; omega))
theorem levels_any (s : ByteArray) (rtl : Bool) (hs : s.size ≤ 400) (w : World) : Calls Try.prog 18 #[.string s, .bool rtl] w (LevelsP (ints (U8.els s.data.toList)) rtl w) := by
  have hle := U8.els_len s.data.toList
  rw [U8.size_len] at hle
  exact levelsE_any s rtl (by omega) (by unfold ints; rw [List.length_map]; omega) w
set_option maxRecDepth 100000 in
set_option maxHeartbeats 1000000 in
theorem direction_any (s : ByteArray) (hs : s.size ≤ 400) (w : World) : Calls Try.prog 21 #[.string s] w fun e w' => e = .returned (.int .i64 (dirV (ints (U8.els s.data.toList)) 0 (ints (U8.els s.data.toList)).length)) ∧ Below w.heap.size w w' := by
  have hle := U8.els_len s.data.toList
  rw [U8.size_len] at hle
  have hli : (ints (U8.els s.data.toList)).length ≤ 400 := by unfold ints; rw [List.length_map]; omega
  have hr := read_any s (by omega)
  obtain ⟨xs, hxs⟩ : ∃ xs, ints (U8.els s.data.toList) = xs := ⟨_, rfl⟩
  rw [hxs] at hr hli
  rw [hxs]
  have HR := Lib.hid hr
  clear hr hxs hle
  go_enter Try.func21, Try.ntmps21
  go_wp2_with fail
  refine (HR.out _).mono ?_
  rintro e w1 ⟨v, rfl, htx, hb1⟩
  have hit := fun W (h : Below w1.heap.size w1 W) => bitems_any v xs w1.heap.size 0 xs.length W (by obtain ⟨lv, ev, q1, q2, q3⟩ := htx; exact ⟨lv, ev, q1, q2.below h, q3.below h⟩) h.size (by omega) (Nat.zero_le _) (Nat.le_refl _)
  obtain ⟨lv, ev, rfl, ⟨ao, ca, rfl, hl⟩, ⟨aoe, cae, rfl, he⟩⟩ := htx
  have hit2 := hit (w1.alloc (.cells #[.slice ao xs.length ca, .slice aoe (rdRun xs.length xs).1.length cae, .int .i64 (rdRun xs.length xs).2.2] 49)) ((Below.refl _ _).alloc (Nat.le_refl _) _)
  unfold ItemsP at hit2
  have hil := (items_ok (xs := xs) (b := xs.length) (Nat.le_refl _) (xs.length - 0) 0 (Nat.le_refl _)).1
  have HIT := Lib.hid hit2
  have HB1 := Lib.hid hb1
  clear hit hit2 hl he hb1
  go_wp2_with fail
  refine HIT.out.mono ?_
  rintro e w2 ⟨r, rfl, hown, hb2⟩
  have hd := bdirection_any _ _ _ w2 (IsItems.of_own hown) (Nat.le_refl _) (by omega)
  have HD := Lib.hid hd
  have HB2 := Lib.hid hb2
  clear hown hb2 hd
  go_wp2_with fail
  refine HD.out.mono ?_
  rintro e w3 ⟨rfl, hb3⟩
  have HB3 := Lib.hid hb3
  clear hb3
  go_wp2
  go_ret
  refine ⟨rfl, ?_⟩
  exact (HB1.out.alloc HB1.out.size _).trans ((HB2.out.mono (by have := HB1.out.size; simp; omega)).trans (HB3.out.mono (by have := HB1.out.size; have := HB2.out.size; simp at this; omega)))

set_option maxRecDepth 100000 in
set_option maxHeartbeats 1000000 in
theorem reflevels_any (s : ByteArray) (rtl : Bool) (hs : s.size ≤ 400) (w : World) : Calls Try.prog 19 #[.string s, .bool rtl] w (LevelsP (ints (U8.els s.data.toList)) rtl w) := by
  have hle := U8.els_len s.data.toList
  rw [U8.size_len] at hle
  have hli : (ints (U8.els s.data.toList)).length ≤ 400 := by unfold ints; rw [List.length_map]; omega
  have hd := refdecode_any s (by omega)
  unfold DecP at hd
  obtain ⟨xs, hxs⟩ : ∃ xs, ints (U8.els s.data.toList) = xs := ⟨_, rfl⟩
  rw [hxs] at hd hli
  rw [hxs]
  have HD := Lib.hid hd
  clear hd hxs hle
  unfold LevelsP
  obtain ⟨D, hD⟩ : ∃ D : Nat, mh 0 xs = D := ⟨_, rfl⟩
  rw [hD]
  have HDM := Lib.hid hD
  clear hD
  have hmk := run_make_row' (P := Try.prog) 24 3 (.int .i64 0) 8 Try.underlying24 Try.infoInt rfl .i64 .i64 xs.length (by omega) (by omega)
  go_enter Try.func19, Try.ntmps19
  go_wp2_with fail
  refine (HD.out _).mono ?_
  rintro e w1 ⟨v, rfl, ho, hb1⟩
  have hii := IsInts.of_own ho
  have hr := rdepth_any v xs _ w1 hii (by omega) xs.length 0 xs.length (by omega) (Nat.le_refl _) (Nat.zero_le _)
  unfold DepP at hr
  rw [seg_all] at hr
  have hfl := fun e (he : e ≤ 1) => fill_any v xs w1.heap.size w1.heap.size hli (Nat.le_refl _) xs.length 0 xs.length e (List.replicate xs.length 0) (w1.alloc (.cells (madeCells #[.int .i64 0] xs.length) 3)) (by omega) (Nat.zero_le _) (Nat.le_refl _) (shut_all xs) (by omega) (List.length_replicate ..) (hii.below ((Below.refl _ _).alloc (Nat.le_refl _) _)) (by rw [made_zero]; exact heap_alloc_new w1 _)
  unfold FillP at hfl
  obtain ⟨ao, ca, rfl, _⟩ := hii
  rw [HDM.out] at hr
  have h0 := hfl 0 (by omega)
  have h1 := hfl 1 (by omega)
  have HR := Lib.hid hr
  have HF0 := Lib.hid h0
  have HF1 := Lib.hid h1
  have HB1 := Lib.hid hb1
  have fin : ∀ (e : Int) (w5 : World), RowW w1.heap.size w5 (fillF xs (xs.length - 0 + 1) 0 xs.length e (List.replicate xs.length 0)) → w5.ownsRow w.heap.size 3 1 (.slice (some ⟨w1.heap.size, 0, none⟩) xs.length xs.length) xs.length ((lev xs e).map (Value.int .i64)) := by
    intro e w5 h
    have hl : (lev xs e).length = xs.length := lev_len xs e
    have hs1 := HB1.out.size
    refine ⟨by rw [List.length_map, hl, Nat.mul_one], .inr ⟨w1.heap.size, xs.length, _, rfl, hs1, h, Nat.le_refl _, by unfold maxLen; omega, by simp [fillF_len], ?_⟩⟩
    rw [Nat.mul_one]
    show ((lev xs e).map (Value.int .i64)).take xs.length = _
    rw [List.take_of_length_le (by rw [List.length_map, hl]; exact Nat.le_refl _)]
  have FIN := Lib.hid fin
  clear hr h0 h1 hfl ho hb1 fin
  by_cases h30 : 30 < D
  · go_wp2_with fail
    refine HR.out.mono ?_
    rintro e w2 ⟨rfl, rfl⟩
    go_wp2
    go_ret2
    exact ⟨.inl ⟨h30, rfl⟩, HB1.out⟩
  · cases rtl
    · go_wp2_with fail
      refine HR.out.mono ?_
      rintro e w2 ⟨rfl, rfl⟩
      go_wp2_with (go_at_call 40; refine HF0.out.mono ?_; rintro ex w5 ⟨rfl, hr5, hg5⟩)
      go_ret2
      refine ⟨.inr ⟨by omega, _, rfl, FIN.out 0 _ hr5⟩, ?_⟩
      exact (HB1.out.alloc HB1.out.size _).trans (grown_below hg5 HB1.out.size (by simp))
    · go_wp2_with fail
      refine HR.out.mono ?_
      rintro e w2 ⟨rfl, rfl⟩
      go_wp2_with (go_at_call 40; refine HF1.out.mono ?_; rintro ex w5 ⟨rfl, hr5, hg5⟩)
      go_ret2
      refine ⟨.inr ⟨by omega, _, rfl, FIN.out 1 _ hr5⟩, ?_⟩
      exact (HB1.out.alloc HB1.out.size _).trans (grown_below hg5 HB1.out.size (by simp))
end Go.Proofs.Ytgefbagojghmeaa
