/-
  bidi.Levels, bidi.Direction, and calqueref23.Levels.
-/
import Derived.Test.YtgefbagojghmeabBi11
import Derived.Test.YtgefbagojghmeabBi9
namespace Go.Proofs.Ytgefbagojghmeab
open Go.RowKit

def eOf (rtl : Bool) : Int := if rtl then 1 else 0
def LevelsP (xs : List Int) (rtl : Bool) (w : World) (e : Ending) (w' : World) : Prop :=
  ((30 < mh 0 xs ∧ e = .returned (.tuple #[.slice none 0 0, .int .i64 6])) ∨ (mh 0 xs ≤ 30 ∧ ∃ r, e = .returned (.tuple #[r, .int .i64 0]) ∧ w'.ownsRow w.heap.size 3 1 r xs.length ((lev xs (eOf rtl)).map (Value.int .i64)))) ∧ Below w.heap.size w w'

set_option maxRecDepth 100000 in
set_option maxHeartbeats 1000000 in
theorem levelsE_any (s : ByteArray) (rtl : Bool) (hs : s.size ≤ 10000) (hli : (ints (U8.els s.data.toList)).length ≤ 400) (w : World) : Calls Try.prog 12 #[.string s, .bool rtl] w (LevelsP (ints (U8.els s.data.toList)) rtl w) := by
  have hr := read_any s (by omega)
  obtain ⟨xs, hxs⟩ : ∃ xs, ints (U8.els s.data.toList) = xs := ⟨_, rfl⟩
  rw [hxs] at hr hli
  rw [hxs]
  have HR := Lib.hid hr
  clear hr hxs
  unfold LevelsP
  have hmh := rdRun_mh xs.length xs
  obtain ⟨D, hD⟩ : ∃ D : Nat, mh 0 xs = D := ⟨_, rfl⟩
  rw [hD] at hmh
  rw [hD]
  clear hD
  have HMH := Lib.hid hmh
  clear hmh
  go_enter Try.func12, Try.ntmps12
  go_wp2_with fail
  refine (HR.out _).mono ?_
  rintro e w1 ⟨v, rfl, htx, hb1⟩
  have htl := fun W (h : Below w1.heap.size w1 W) => tlevels_any v xs w1.heap.size rtl W (by obtain ⟨lv, ev, q1, q2, q3⟩ := htx; exact ⟨lv, ev, q1, q2.below h, q3.below h⟩) h.size hli
  obtain ⟨lv, ev, rfl, ⟨ao, ca, rfl, hl⟩, ⟨aoe, cae, rfl, he⟩⟩ := htx
  rw [HMH.out] at htl
  rw [HMH.out]
  have htl2 := htl (w1.alloc (.cells #[.slice ao xs.length ca, .slice aoe (rdRun xs.length xs).1.length cae, .int .i64 D] 55)) ((Below.refl _ _).alloc (Nat.le_refl _) _)
  have HTL := Lib.hid htl2
  have HB1 := Lib.hid hb1
  clear htl htl2 hl he hb1
  by_cases h30 : 30 < D
  · go_wp2
    go_ret2
    exact ⟨.inl ⟨h30, rfl⟩, HB1.out.alloc HB1.out.size _⟩
  · go_wp2_with fail
    refine HTL.out.mono ?_
    rintro e w2 ⟨r, rfl, hown, hb2⟩
    have HO := Lib.hid hown
    have HB2 := Lib.hid hb2
    clear hown hb2
    go_wp2
    go_ret2
    refine ⟨.inr ⟨by omega, _, rfl, own_lower HO.out (by have := HB1.out.size; simp; omega)⟩, ?_⟩
    exact (HB1.out.alloc HB1.out.size _).trans (HB2.out.mono (by have := HB1.out.size; simp; omega))
theorem levels_any (s : ByteArray) (rtl : Bool) (hs : s.size ≤ 400) (w : World) : Calls Try.prog 12 #[.string s, .bool rtl] w (LevelsP (ints (U8.els s.data.toList)) rtl w) := by
  have hle := U8.els_len s.data.toList
  rw [U8.size_len] at hle
  exact levelsE_any s rtl (by omega) (by unfold ints; rw [List.length_map]; omega) w
end Go.Proofs.Ytgefbagojghmeab
