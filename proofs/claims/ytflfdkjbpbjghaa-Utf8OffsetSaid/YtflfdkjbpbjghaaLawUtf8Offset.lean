/-
  The law Utf8Offset: what Offset and its reference answer is the same.
-/
import Derived.Test.YtflfdkjbpbjghaaU8W12
import Derived.Test.YtflfdkjbpbjghaaU8W9
namespace Go.Proofs.Ytflfdkjbpbjghaa
open Go.RowKit

theorem offV_form (o : Option U8.Pos) : ∃ a k : Int, offV o = .tuple #[.int .i64 a, .int .i64 k] := by
  cases o with
  | none => exact ⟨_, _, rfl⟩
  | some p => exact ⟨_, _, rfl⟩

set_option maxRecDepth 100000 in
set_option maxHeartbeats 1000000 in
theorem law_Utf8Offset (s : ByteArray) (line col : Int) (hs : s.size ≤ maxLen) (w : World) : Calls Try.prog 4 #[.string s, .int .i64 line, .int .i64 col] w (TrueP w) := by
  unfold maxLen at hs
  by_cases hl : 120 < s.size
  · go_enter Try.func4, Try.ntmps4
    go_wp2_with fail
    refine (awake_any _).mono ?_
    rintro e w1 ⟨rfl, hb1⟩
    have HB1 := Lib.hid hb1
    clear hb1
    go_wp2_with fail
    refine (awake_any _).mono ?_
    rintro e w2 ⟨rfl, hb2⟩
    have HB2 := Lib.hid (HB1.out.trans (hb2.mono HB1.out.size))
    clear hb2
    go_wp2
    go_ret
    exact ⟨rfl, HB2.out⟩
  · obtain ⟨a, k, hv⟩ := offV_form (U8.offS s.data.toList line col)
    have h1 : ∀ W : World, Calls Try.prog 10 #[.string s, .int .i64 line, .int .i64 col] W fun e w' => e = .returned (.tuple #[.int .i64 a, .int .i64 k]) ∧ Below W.heap.size W w' := by
      intro W
      refine (off_any s (by omega) line col W).mono ?_
      rintro e w' ⟨he, hb⟩
      exact ⟨by rw [he, hv], hb⟩
    have h2 : ∀ W : World, Calls Try.prog 11 #[.string s, .int .i64 line, .int .i64 col] W fun e w' => e = .returned (.tuple #[.int .i64 a, .int .i64 k]) ∧ Below W.heap.size W w' := by
      intro W
      refine (refoff_any s (by omega) line col W).mono ?_
      rintro e w' ⟨he, hb⟩
      exact ⟨by rw [he, hv], hb⟩
    have H1 := Lib.hid h1
    have H2 := Lib.hid h2
    clear h1 h2 hv
    go_enter Try.func4, Try.ntmps4
    go_wp2_with fail
    refine (awake_any _).mono ?_
    rintro e w1 ⟨rfl, hb1⟩
    have HB1 := Lib.hid hb1
    clear hb1
    go_wp2_with fail
    refine (H1.out _).mono ?_
    rintro e w2 ⟨rfl, hb2⟩
    have HB2 := Lib.hid (HB1.out.trans (hb2.mono HB1.out.size))
    clear hb2
    go_wp2_with fail
    refine (H2.out _).mono ?_
    rintro e w3 ⟨rfl, hb3⟩
    have HB3 := Lib.hid (HB2.out.trans (hb3.mono HB2.out.size))
    clear hb3
    go_wp2
    go_ret
    exact ⟨rfl, HB3.out⟩
end Go.Proofs.Ytflfdkjbpbjghaa
